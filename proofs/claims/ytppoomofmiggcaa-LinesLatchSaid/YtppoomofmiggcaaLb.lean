import Derived.Test.YtppoomofmiggcaaLa
namespace Go.Proofs.Ytppoomofmiggcaa
open Go Go.Wd
set_option linter.unusedVariables false
set_option linter.unusedSimpArgs false

def due (x : Ln) : Int := IntKind.wrap .u64 (x.last + x.gap)
def opened (x : Ln) (now : Int) : Bool := !x.fired || decide (x.gap ≤ IntKind.wrap .u64 (now - x.last))
def fire (x : Ln) (t : Int) : Ln := { x with fired := true, latched := false, last := t }
structure Hit where
  line : Int
  guest : Int
  to : Int
  t : Int
  deriving DecidableEq
def Hit.cells (x : Hit) : List Value := [.int .i64 x.line, .int .i64 x.guest, .int .i64 x.to, .int .u64 x.t]
theorem Hit.len (x : Hit) : x.cells.length = 4 := rfl
def hitOf (k : Int) (x : Ln) (t : Int) : Hit := ⟨k, x.guest, x.to, t⟩

theorem due_spec {h : Hp} {q : Nat} {L : List Ln} {now : Int} (w : LS h q L now) {k : Nat} {x : Ln} (hx : L[k]? = some x) :
    CallsH Try.prog 18 [.pointer (some ⟨q, k * 7, none⟩)] h fun v h' => v = .int .u64 (due x) ∧ h' = h := by
  apply lines_Line_due.calls
  unfold lines_Line_due.P
  refine ⟨_, w.get hx 3 (by omega), _, w.get hx 2 (by omega), rfl, rfl⟩

theorem open_spec {h : Hp} {q : Nat} {L : List Ln} {now : Int} (w : LS h q L now) {k : Nat} {x : Ln} (hx : L[k]? = some x) (t : Int) :
    CallsH Try.prog 20 [.pointer (some ⟨q, k * 7, none⟩), .int .u64 t] h fun v h' => v = .bool (opened x t) ∧ h' = h := by
  apply lines_Line_open.calls
  unfold lines_Line_open.P
  refine ⟨_, w.get hx 5 (by omega), fun c => ?_, fun c => ⟨_, w.get hx 3 (by omega), _, w.get hx 2 (by omega), ?_, rfl⟩⟩
  · exact ⟨by simp at c; simp [opened, c], rfl⟩
  · simp at c; simp [opened, c]

theorem fire_spec {h : Hp} {q : Nat} {L : List Ln} {now : Int} (w : LS h q L now) {k : Nat} {x : Ln} (hx : L[k]? = some x) (i t : Int) :
    CallsH Try.prog 19 [.pointer (some ⟨q, k * 7, none⟩), .int .i64 i, .int .u64 t] h fun v h' => v = .agg ⟨(hitOf i x t).cells⟩ ∧ LS h' q (L.set k (fire x t)) now ∧ Fr [q] h h' := by
  refine calls_k fun R hR => ?_
  apply lines_Line_fire.calls
  unfold lines_Line_fire.P
  have hlt := w.lt
  have hk := (List.getElem?_eq_some_iff.1 hx).1
  have hlen := w.len
  rintro h1 rfl
  have f1 : Fr [] h (new h (blk 33 [.int .i64 0, .int .i64 0, .int .i64 0, .int .u64 0])) := Fr.new _ _ _
  have k1 := new_at h (blk 33 [.int .i64 0, .int .i64 0, .int .i64 0, .int .u64 0])
  have w1 := w.fr f1 (by simp)
  generalize new h (blk 33 [.int .i64 0, .int .i64 0, .int .i64 0, .int .u64 0]) = h1 at *
  refine ⟨rfl, _, _, w1.hq, by rw [w1.length]; omega, ?_⟩
  rintro h2 rfl
  have w2 := w1.put (j := 5) (x := x) (y := { x with fired := true }) (vs := [.bool true]) hx (by simp) rfl
  have f2 : Fr [q] h1 (upd h1 q 55 (writeAt (encL Ln.cells L ++ [.int .u64 now]) (k * 7 + 5) [.bool true])) := Fr.upd (by simp) _ _ _
  generalize upd h1 q 55 (writeAt (encL Ln.cells L ++ [.int .u64 now]) (k * 7 + 5) [.bool true]) = h2 at *
  refine ⟨rfl, _, _, w2.hq, by rw [w2.length]; omega, ?_⟩
  rintro h3 rfl
  have hx2 : (L.set k { x with fired := true })[k]? = some { x with fired := true } := by simp [hk]
  have w3 := w2.put (j := 6) (y := { x with fired := true, latched := false }) (vs := [.bool false]) hx2 (by simp) rfl
  rw [List.set_set] at w3
  have f3 : Fr [q] h2 (upd h2 q 55 (writeAt (encL Ln.cells (L.set k { x with fired := true }) ++ [.int .u64 now]) (k * 7 + 6) [.bool false])) := Fr.upd (by simp) _ _ _
  generalize upd h2 q 55 (writeAt (encL Ln.cells (L.set k { x with fired := true }) ++ [.int .u64 now]) (k * 7 + 6) [.bool false]) = h3 at *
  refine ⟨rfl, _, _, w3.hq, by rw [w3.length]; omega, ?_⟩
  rintro h4 rfl
  have hx3 : (L.set k { x with fired := true, latched := false })[k]? = some { x with fired := true, latched := false } := by simp [hk]
  have w4 := w3.put (j := 3) (y := fire x t) (vs := [.int .u64 t]) hx3 (by simp) rfl
  rw [List.set_set] at w4
  have f4 : Fr [q] h3 (upd h3 q 55 (writeAt (encL Ln.cells (L.set k { x with fired := true, latched := false }) ++ [.int .u64 now]) (k * 7 + 3) [.int .u64 t])) := Fr.upd (by simp) _ _ _
  generalize upd h3 q 55 (writeAt (encL Ln.cells (L.set k { x with fired := true, latched := false }) ++ [.int .u64 now]) (k * 7 + 3) [.int .u64 t]) = h4 at *
  have hx4 : (L.set k (fire x t))[k]? = some (fire x t) := by simp [hk]
  have f14 := (f2.trans f3).trans f4
  have k4 := f14.at k1 (by simp; omega)
  have c0 : cellAt h4 q (k * 7) = some (.int .i64 x.guest) := w4.get hx4 0 (by omega)
  have c1 : cellAt h4 q (k * 7 + 1) = some (.int .i64 x.to) := w4.get hx4 1 (by omega)
  refine ⟨_, c0, _, c1, rfl, _, _, k4, by simp, ?_⟩
  rintro h5 rfl
  have f5 : Fr [sz h] h4 (upd h4 (sz h) 33 [.int .i64 i, .int .i64 x.guest, .int .i64 x.to, .int .u64 t]) := Fr.upd (by simp) _ _ _
  have k5 := upd_same k4 33 [.int .i64 i, .int .i64 x.guest, .int .i64 x.to, .int .u64 t]
  have w5 := w4.fr f5 (by simp; omega)
  simp only [writeAt, List.set_cons_zero, List.set_cons_succ]
  generalize upd h4 (sz h) 33 [.int .i64 i, .int .i64 x.guest, .int .i64 x.to, .int .u64 t] = h5 at *
  have fin := hR _ _ ⟨rfl, w5, ((f1.mono (by simp)).trans f14).later f5 (by simp)⟩
  exact ⟨_, by rw [cellAt_of k5]; rfl, _, by rw [cellAt_of k5]; rfl, _, by rw [cellAt_of k5]; rfl, _, by rw [cellAt_of k5]; rfl, fin⟩

/-! ## the one that is due first -/
def stepN (L : List Ln) (out : Int) (k : Nat) : Int :=
  match L[k]? with
  | some x => if x.latched then (if out < 0 then k else match L[out.toNat]? with | some y => if due x < due y then k else out | none => out) else out
  | none => out
def nextN (L : List Ln) (k : Nat) : Int := (List.range k).foldl (stepN L) (-1)
theorem nextN_succ (L : List Ln) (k : Nat) : nextN L (k + 1) = stepN L (nextN L k) k := by
  simp [nextN, List.range_succ]
/-- What is found so far: nothing, if none is latched, else one that is due no later than any. -/
theorem nextN_spec (L : List Ln) : ∀ k, k ≤ L.length → (nextN L k = -1 ∧ ∀ j x, j < k → L[j]? = some x → x.latched = false) ∨
    ∃ m : Nat, ∃ y, nextN L k = m ∧ m < k ∧ L[m]? = some y ∧ y.latched = true ∧ (∀ j x, j < k → L[j]? = some x → x.latched = true → due y ≤ due x) ∧ ∀ j x, j < m → L[j]? = some x → x.latched = true → due y < due x := by
  intro k
  induction k with
  | zero => intro _; exact .inl ⟨rfl, by omega⟩
  | succ k ih =>
    intro hk
    obtain ⟨x, hx⟩ : ∃ x, L[k]? = some x := ⟨_, List.getElem?_eq_getElem (by omega)⟩
    rw [nextN_succ]
    simp only [stepN, hx]
    rcases ih (by omega) with ⟨h1, h2⟩ | ⟨m, y, h1, h2, h3, h4, h5, h6⟩
    · rw [h1]
      cases hl : x.latched
      · left
        refine ⟨rfl, fun j z hj hz => ?_⟩
        rcases Nat.lt_or_ge j k with h | h
        · exact h2 j z h hz
        · have : j = k := by omega
          subst this; rw [hx] at hz; cases hz; exact hl
      · right
        refine ⟨k, x, by simp, by omega, hx, hl, fun j z hj hz hzl => ?_, fun j z hj hz hzl => ?_⟩
        · rcases Nat.lt_or_ge j k with h | h
          · rw [h2 j z h hz] at hzl; cases hzl
          · have : j = k := by omega
            subst this; rw [hx] at hz; cases hz; omega
        · rw [h2 j z hj hz] at hzl; cases hzl
    · rw [h1]
      right
      have hm : ¬ ((m : Int) < 0) := by omega
      cases hl : x.latched
      · refine ⟨m, y, by simp, by omega, h3, h4, fun j z hj hz hzl => ?_, h6⟩
        rcases Nat.lt_or_ge j k with h | h
        · exact h5 j z h hz hzl
        · have : j = k := by omega
          subst this; rw [hx] at hz; cases hz; rw [hl] at hzl; cases hzl
      · simp only [if_true, if_neg hm, Int.toNat_natCast, h3]
        by_cases hd : due x < due y
        · refine ⟨k, x, by rw [if_pos hd], by omega, hx, hl, fun j z hj hz hzl => ?_, fun j z hj hz hzl => ?_⟩
          · rcases Nat.lt_or_ge j k with h | h
            · have := h5 j z h hz hzl; omega
            · have : j = k := by omega
              subst this; rw [hx] at hz; cases hz; omega
          · have := h5 j z hj hz hzl; omega
        · refine ⟨m, y, by rw [if_neg hd], by omega, h3, h4, fun j z hj hz hzl => ?_, h6⟩
          rcases Nat.lt_or_ge j k with h | h
          · exact h5 j z h hz hzl
          · have : j = k := by omega
            subst this; rw [hx] at hz; cases hz; omega
def nextL (L : List Ln) : Int := nextN L 16

theorem next_spec {h : Hp} {q : Nat} {L : List Ln} {now : Int} (w : LS h q L now) :
    CallsH Try.prog 17 [.pointer (some ⟨q, 0, none⟩)] h fun v h' => v = .int .i64 (nextL L) ∧ h' = h := by
  apply lines_Lines_next.calls
  unfold lines_Lines_next.P
  refine ⟨fun out i h1 => ∃ k : Nat, i = k ∧ k ≤ 16 ∧ out = nextN L k ∧ h1 = h, fun _ i _ => 16 - i.toNat, ⟨0, rfl, by omega, rfl, rfl⟩, ?_⟩
  rintro out i h1 ⟨k, rfl, hk, rfl, rfl⟩
  have hw : IntKind.wrap .i64 ((k : Int) + 1) = ((k + 1 : Nat) : Int) := by rw [wrap_i64 (by omega) (by omega)]; omega
  rw [hw]
  by_cases hk16 : k < 16
  · obtain ⟨x, hx⟩ := w.ex hk16
    have hl := w.get hx 6 (by omega)
    have hsp := nextN_spec L k (by rw [w.len]; omega)
    have dec : (16 - ((k + 1 : Nat) : Int).toNat) < 16 - (k : Int).toNat := by omega
    have hs := nextN_succ L k
    simp only [stepN, hx] at hs
    refine ⟨fun _ => ⟨by omega, by omega, x.latched, by simpa [Ln.cells] using hl, fun c => ⟨fun n0 => ⟨⟨k + 1, rfl, by omega, ?_, rfl⟩, dec⟩, fun n0 => ?_⟩, fun c => ⟨⟨k + 1, rfl, by omega, ?_, rfl⟩, dec⟩⟩, fun c => absurd c (by simp; omega)⟩
    · have n0' := of_decide_eq_true n0
      rw [hs, c]; simp [n0']
    · have n0' := of_decide_eq_false n0
      rcases hsp with ⟨h1, _⟩ | ⟨m, y, h1', h2, h3, h4, _⟩
      · omega
      · rw [h1'] at n0' hs ⊢
        refine ⟨by omega, by omega, ?_⟩
        have hdx := due_spec w hx
        have hdy := due_spec w h3
        refine (show CallsH Try.prog 18 [.pointer (some ⟨q, 0 + (k : Int).toNat * 7, none⟩)] h1 _ by simpa using hdx).mono ?_
        rintro v h2' ⟨rfl, rfl⟩
        refine ⟨_, rfl, ?_⟩
        refine (show CallsH Try.prog 18 [.pointer (some ⟨q, 0 + (m : Int).toNat * 7, none⟩)] h2' _ by simpa using hdy).mono ?_
        rintro v h3' ⟨rfl, rfl⟩
        simp only [c, if_true, if_neg n0', Int.toNat_natCast, h3] at hs
        refine ⟨_, rfl, fun d => ⟨⟨k + 1, rfl, by omega, ?_, rfl⟩, dec⟩, fun d => ⟨⟨k + 1, rfl, by omega, ?_, rfl⟩, dec⟩⟩
        · rw [hs, if_pos (of_decide_eq_true d)]
        · rw [hs, if_neg (of_decide_eq_false d)]
    · rw [hs, c]; simp
  · have : k = 16 := by omega
    subst this
    exact ⟨fun c => absurd c (by simp), fun _ => ⟨rfl, rfl⟩⟩

/-! ## delivering what is due -/
inductive DueRel (now : Int) : List Ln → List Hit → List Ln → Prop where
  | none {L : List Ln} : nextL L < 0 → DueRel now L [] L
  | later {L : List Ln} {k : Nat} {x : Ln} : nextL L = k → L[k]? = some x → now < due x → DueRel now L [] L
  | one {L : List Ln} {k : Nat} {x : Ln} {H : List Hit} {L' : List Ln} : nextL L = k → L[k]? = some x → due x ≤ now → DueRel now (L.set k (fire x (due x))) H L' → DueRel now L (hitOf k x (due x) :: H) L'

def latches (L : List Ln) : Nat := L.countP (·.latched)

theorem nextL_spec {L : List Ln} (hl : L.length = 16) : (nextL L = -1 ∧ ∀ (j : Nat) (x : Ln), L[j]? = some x → x.latched = false) ∨
    ∃ m : Nat, ∃ y, nextL L = m ∧ m < 16 ∧ L[m]? = some y ∧ y.latched = true ∧ (∀ (j : Nat) (x : Ln), L[j]? = some x → x.latched = true → due y ≤ due x) ∧ ∀ (j : Nat) (x : Ln), j < m → L[j]? = some x → x.latched = true → due y < due x := by
  rcases nextN_spec L 16 (by omega) with ⟨h1, h2⟩ | ⟨m, y, h1, h2, h3, h4, h5, h6⟩
  · exact .inl ⟨h1, fun j x hx => h2 j x (by have := (List.getElem?_eq_some_iff.1 hx).1; omega) hx⟩
  · exact .inr ⟨m, y, h1, h2, h3, h4, fun j x hx => h5 j x (by have := (List.getElem?_eq_some_iff.1 hx).1; omega) hx, h6⟩

theorem latches_set {L : List Ln} {k : Nat} {x y : Ln} (hx : L[k]? = some x) (h1 : x.latched = true) (h2 : y.latched = false) : latches (L.set k y) + 1 = latches L := by
  unfold latches
  induction L generalizing k with
  | nil => simp at hx
  | cons z L ih =>
    cases k with
    | zero => simp at hx; subst hx; simp [h1, h2]
    | succ k =>
      have := ih (k := k) (by simpa using hx)
      simp only [List.set_cons_succ, List.countP_cons]
      omega

theorem DueRel.length {now : Int} {L : List Ln} {H : List Hit} {L' : List Ln} (r : DueRel now L H L') : L'.length = L.length := by
  induction r with
  | none _ => rfl
  | later _ _ _ => rfl
  | one _ _ _ _ ih => rw [ih]; simp

theorem due_loop {h : Hp} {q : Nat} {L : List Ln} {now : Int} (w : LS h q L now) (t : Int) :
    CallsH Try.prog 10 [.pointer (some ⟨q, 0, none⟩), .int .u64 t] h fun v h' => ∃ a c H L', v = .slice a H.length c ∧ rowAtK h' a (encL Hit.cells H) ∧ (∀ x ∈ foot a, sz h ≤ x ∧ x < sz h') ∧ DueRel (maxI now t) L H L' ∧ LS h' q L' (maxI now t) ∧ Fr [q] h h' := by
  refine calls_k fun R hR => ?_
  apply lines_Lines_Due.calls
  unfold lines_Lines_Due.P
  refine ⟨_, by simpa using w.now, rfl, _, _, w.hq, by rw [w.length]; omega, ?_⟩
  rintro h1 rfl
  have w1 := w.putNow (maxI now t)
  have f1 : Fr [q] h (upd h q 55 (writeAt (encL Ln.cells L ++ [.int .u64 now]) 112 [.int .u64 (maxI now t)])) := Fr.upd (by simp) _ _ _
  simp only [Nat.zero_add]
  generalize upd h q 55 (writeAt (encL Ln.cells L ++ [.int .u64 now]) 112 [.int .u64 (maxI now t)]) = h1 at *
  generalize hn : maxI now t = n at *
  have hlt := w.lt
  refine ⟨fun a l c h2 => ∃ H L1, l = H.length ∧ Own h2 33 4 a l c (encL Hit.cells H) ∧ (∀ x ∈ foot a, sz h ≤ x) ∧ LS h2 q L1 n ∧ Fr [q] h h2 ∧ H.length + latches L1 ≤ 16 ∧ ∀ H2 L2, DueRel n L1 H2 L2 → DueRel n L (H ++ H2) L2,
    fun _ l _ _ => 16 - l, ⟨[], L, rfl, Own.nil _ _ _, by simp [foot], w1, f1, ?_, fun _ _ r => by simpa using r⟩, ?_⟩
  · have : latches L ≤ L.length := List.countP_le_length
    rw [w.len] at this
    simpa using this
  rintro a l c h2 ⟨H, L1, rfl, o, ha, w2, f2, hcnt, hrel⟩
  refine (next_spec w2).mono ?_
  rintro v h3 ⟨rfl, rfl⟩
  refine ⟨_, rfl, ?_⟩
  have fin : ∀ L2, DueRel n L1 [] L2 → L2 = L1 → R (.slice a H.length c) h3 := by
    rintro L2 r rfl
    refine hR _ _ ⟨a, c, H, L2, rfl, o.row, fun x hx => ⟨ha x hx, o.foot_lt x hx⟩, ?_, w2, f2⟩
    simpa using hrel [] L2 r
  rcases nextL_spec w2.len with ⟨hm, _⟩ | ⟨m, y, hm, hm16, hy, hyl, _⟩
  · refine ⟨fun _ => False, ⟨fun _ => fin L1 (.none (by omega)) rfl, fun c => absurd c (by rw [hm]; simp)⟩, fun _ hf => hf.elim⟩
  · rw [hm]
    have hd := due_spec w2 hy
    refine ⟨fun h5 => h5 = h3 ∧ due y ≤ n, ⟨fun c => absurd c (by simp), fun _ => ⟨by omega, by omega, _, w2.now, ?_⟩⟩, ?_⟩
    · refine (show CallsH Try.prog 18 [.pointer (some ⟨q, (m : Int).toNat * 7, none⟩)] h3 _ by simpa using hd).mono ?_
      rintro v h4 ⟨rfl, rfl⟩
      exact ⟨_, rfl, w2.now, fun c => fin L1 (.later hm hy (by simpa using c)) rfl, fun c => ⟨rfl, by simpa using c⟩⟩
    · rintro h5 ⟨rfl, hdn⟩
      refine ⟨by omega, by omega, by omega, by omega, ?_⟩
      refine (show CallsH Try.prog 18 [.pointer (some ⟨q, (m : Int).toNat * 7, none⟩)] h5 _ by simpa using hd).mono ?_
      rintro v h6 ⟨rfl, rfl⟩
      refine ⟨_, rfl, ?_⟩
      refine (show CallsH Try.prog 19 [.pointer (some ⟨q, (m : Int).toNat * 7, none⟩), .int .i64 m, .int .u64 (due y)] h6 _ by simpa using fire_spec w2 hy m (due y)).mono ?_
      rintro v h7 ⟨rfl, w7, f7⟩
      refine ⟨_, _, _, _, rfl, ?_⟩
      rintro h8 h8e
      have hne : ∀ x ∈ foot a, x ∉ [q] := fun x hx => by have := ha x hx; simp; omega
      have f27 := f2.trans f7
      have hl16 : latches (L1.set m (fire y (due y))) + 1 = latches L1 := latches_set hy hyl rfl
      refine append_new (h0 := h) (F := [q]) (o.fr f7 hne) rfl f27 (fun x hx => .inr (ha x hx)) rfl rfl h8e (by omega) (by omega) ?_
      intro a' c' h9 o9 f9 g9 l9 t9
      have hge : ∀ x ∈ foot a', sz h ≤ x := by
        intro x hx
        rcases t9 with rfl | t9
        · exact ha x hx
        · have := t9 x hx; have := f27.size; omega
      refine ⟨⟨H ++ [hitOf m y (due y)], L1.set m (fire y (due y)), by simp, ?_, hge, w7.fr l9 (fun hq => by have := ha q hq; omega), f9, by simp; omega, fun H2 L2 r => ?_⟩, by show 16 - (H.length + 1) < 16 - H.length; omega⟩
      · rw [encL_append]; simpa [encL, hitOf, Hit.cells] using o9
      · have := hrel (hitOf m y (due y) :: H2) L2 (.one hm hy hdn r)
        simpa using this
end Go.Proofs.Ytppoomofmiggcaa
