import Derived.Test.YtmldiibfmhkgjaaGc
namespace Go.Proofs.Ytmldiibfmhkgjaa
open Go Go.Wd
set_option linter.unusedVariables false
set_option linter.unusedSimpArgs false
set_option linter.unnecessarySimpa false

/-! ## the document's space -/
structure Rp where
  f : Int
  t : Bool
  w : Bool
  x : Bool
def Rp.cells (r : Rp) : List Value := [.int .i64 r.f, .bool r.t, .bool r.w, .bool r.x]
theorem Rp.len (r : Rp) : r.cells.length = 4 := rfl
def rpO : Option Pg → Rp
  | none => ⟨0, false, false, false⟩
  | some q => ⟨(q.f : Int), true, q.w, q.x⟩
theorem rpO_t (o : Option Pg) : (rpO o).t = o.isSome := by cases o <;> rfl
theorem rpO_inj {a b : Option Pg} (h : rpO a = rpO b) : a = b := by
  cases a with
  | none => cases b with
    | none => rfl
    | some q => exact absurd (congrArg Rp.t h) (by simp [rpO])
  | some p => cases b with
    | none => exact absurd (congrArg Rp.t h) (by simp [rpO])
    | some q =>
      obtain ⟨f, w, x⟩ := p
      obtain ⟨f', w', x'⟩ := q
      simp only [rpO, Rp.mk.injEq] at h
      simp only [Option.some.injEq, Pg.mk.injEq]
      exact ⟨by omega, h.2.2.1, h.2.2.2⟩
def knd : Fst → Int
  | .no => 0
  | .bl _ _ _ => 1
  | .tb _ => 2
structure Rel (A : Ab) (PL : List Rp) (FL : List Int) : Prop where
  lp : PL.length = 4096
  lf : FL.length = 64
  pg : ∀ p, p < 4096 → PL[p]? = some (rpO (lkT A p))
  fi : ∀ i, i < 64 → FL[i]? = some (knd (A i))
theorem Rel.put {A : Ab} {PL PL' : List Rp} {FL : List Int} (r : Rel A PL FL) {i : Nat} (hi : i < 64) (a : Fst) (hl : PL'.length = 4096)
    (h : ∀ p, p < 4096 → PL'[p]? = some (rpO (if p / 64 = i then tabOf a (p % 64) else lkT A p))) : Rel (fset A i a) PL' (FL.set i (knd a)) := by
  refine ⟨hl, by rw [List.length_set]; exact r.lf, fun p hp => ?_, fun j hj => ?_⟩
  · rw [h p hp]
    unfold lkT
    by_cases e : p / 64 = i
    · rw [if_pos e, e, fset_same]
    · rw [if_neg e, fset_ne e]
  · rw [List.getElem?_set]
    by_cases e : i = j
    · rw [if_pos e, if_pos (by rw [r.lf]; exact hi), e, fset_same]
    · rw [if_neg e, fset_ne (fun h => e h.symm)]; exact r.fi j hj
/-- In memory. -/
structure RL (h : Hp) (q pb fb n : Nat) (PL : List Rp) (FL : List Int) (fr : Nat) : Prop where
  hq : bk h q = some (blk 104 [.slice (some ⟨pb, 0, none⟩) 4096 4096, .slice (some ⟨fb, 0, none⟩) 64 64, .int .i64 (n : Int), .int .i64 (fr : Int)])
  hp : Arr Rp.cells 106 h pb PL []
  hf : Arr iN 3 h fb FL []
section
variable {h h' : Hp} {q pb fb n nf : Nat} {PL : List Rp} {FL : List Int}
theorem RL.t1 (w : RL h q pb fb n PL FL nf) : ty h q = some 104 := ty_of w.hq
theorem RL.t2 (w : RL h q pb fb n PL FL nf) : ty h pb = some 106 := ty_of w.hp.hq
theorem RL.t3 (w : RL h q pb fb n PL FL nf) : ty h fb = some 3 := ty_of w.hf.hq
theorem RL.fr (w : RL h q pb fb n PL FL nf) {F : List Nat} (k : Fr F h h') (hF : q ∉ F ∧ pb ∉ F ∧ fb ∉ F) : RL h' q pb fb n PL FL nf := ⟨k.at w.hq hF.1, w.hp.fr k hF.2.1, w.hf.fr k hF.2.2⟩
theorem RL.fr0 (w : RL h q pb fb n PL FL nf) (k : Fr [] h h') : RL h' q pb fb n PL FL nf := w.fr k (by simp)
theorem RL.cp (w : RL h q pb fb n PL FL nf) : cellAt h q 0 = some (.slice (some ⟨pb, 0, none⟩) 4096 4096) := (cellAt_of w.hq 0).trans rfl
theorem RL.cf (w : RL h q pb fb n PL FL nf) : cellAt h q (0 + 1) = some (.slice (some ⟨fb, 0, none⟩) 64 64) := (cellAt_of w.hq 1).trans rfl
theorem RL.cn (w : RL h q pb fb n PL FL nf) : cellAt h q (0 + 2) = some (.int .i64 (n : Int)) := (cellAt_of w.hq 2).trans rfl
theorem RL.cfree (w : RL h q pb fb n PL FL nf) : cellAt h q (0 + 3) = some (.int .i64 (nf : Int)) := (cellAt_of w.hq 3).trans rfl
theorem RL.page (w : RL h q pb fb n PL FL nf) {k : Nat} {r : Rp} (hx : PL[k]? = some r) (j : Nat) (hj : j < 4) : cellAt h pb (0 + ((k : Nat) : Int).toNat * 4 + j) = r.cells[j]? := by
  rw [Int.toNat_natCast, Nat.zero_add]; exact w.hp.get Rp.len hx j hj
theorem RL.first (w : RL h q pb fb n PL FL nf) {k : Nat} {x : Int} (hx : FL[k]? = some x) : cellAt h fb (0 + ((k : Nat) : Int).toNat * 1) = some (.int .i64 x) := by
  rw [Int.toNat_natCast, Nat.zero_add]; exact w.hf.get iN_len hx 0 (by decide)
/-- A page is written. -/
theorem RL.setP (w : RL h q pb fb n PL FL nf) {k : Nat} (hk : k < PL.length) (r : Rp) {K : Hp → Prop} (hK : ∀ h', RL h' q pb fb n (PL.set k r) FL nf → Fr [pb] h h' → K h') :
    truly true ∧ ∃ T : TypeId, ∃ l : List Value, bk h pb = some (blk T l) ∧ (0 + ((k : Nat) : Int).toNat * 4) + 4 ≤ l.length ∧ ∀ h', h' = upd h pb T (writeAt l (0 + ((k : Nat) : Int).toNat * 4) [.int .i64 r.f, .bool r.t, .bool r.w, .bool r.x]) → K h' := by
  rw [Int.toNat_natCast, Nat.zero_add]
  refine ⟨truly_rfl, _, _, w.hp.hq, w.hp.room Rp.len hk (j := 0) (n := 4) (Nat.le_refl 4), ?_⟩
  intro h' e
  obtain ⟨x, hx⟩ : ∃ x, PL[k]? = some x := ⟨_, List.getElem?_eq_getElem hk⟩
  have ha := w.hp.put Rp.len (k := k) (j := 0) (x := x) (y := r) (vs := r.cells) hx (Nat.le_refl 4) rfl
  have f : Fr [pb] h h' := by rw [e]; exact Fr.upd (by simp) _ _ _
  have h1 : q ∉ [pb] := by simp only [List.mem_singleton]; exact ty_ne w.t1 w.t2 (by decide)
  have h3 : fb ∉ [pb] := by simp only [List.mem_singleton]; exact ty_ne w.t3 w.t2 (by decide)
  refine hK h' ⟨f.at w.hq h1, ?_, w.hf.fr f h3⟩ f
  rw [e]; exact ha
/-- A first index is written. -/
theorem RL.setF (w : RL h q pb fb n PL FL nf) {k : Nat} (hk : k < FL.length) (x : Int) {K : Hp → Prop} (hK : ∀ h', RL h' q pb fb n PL (FL.set k x) nf → Fr [fb] h h' → K h') :
    truly true ∧ ∃ T : TypeId, ∃ l : List Value, bk h fb = some (blk T l) ∧ (0 + ((k : Nat) : Int).toNat * 1) + 1 ≤ l.length ∧ ∀ h', h' = upd h fb T (writeAt l (0 + ((k : Nat) : Int).toNat * 1) [.int .i64 x]) → K h' := by
  rw [Int.toNat_natCast, Nat.zero_add]
  refine ⟨truly_rfl, _, _, w.hf.hq, w.hf.room iN_len hk (j := 0) (n := 1) (Nat.le_refl 1), ?_⟩
  intro h' e
  obtain ⟨z, hz⟩ : ∃ z, FL[k]? = some z := ⟨_, List.getElem?_eq_getElem hk⟩
  have ha := w.hf.put iN_len (k := k) (j := 0) (x := z) (y := x) (vs := [.int .i64 x]) hz (Nat.le_refl 1) rfl
  have f : Fr [fb] h h' := by rw [e]; exact Fr.upd (by simp) _ _ _
  have h1 : q ∉ [fb] := by simp only [List.mem_singleton]; exact ty_ne w.t1 w.t3 (by decide)
  have h3 : pb ∉ [fb] := by simp only [List.mem_singleton]; exact ty_ne w.t2 w.t3 (by decide)
  refine hK h' ⟨f.at w.hq h1, w.hp.fr f h3, ?_⟩ f
  rw [e]; exact ha
/-- How many are free is written. -/
theorem RL.setN (w : RL h q pb fb n PL FL nf) (fr' : Nat) {x : Int} (hx : x = (fr' : Int)) {K : Hp → Prop} (hK : ∀ h', RL h' q pb fb n PL FL fr' → Fr [q] h h' → K h') :
    truly true ∧ ∃ T : TypeId, ∃ l : List Value, bk h q = some (blk T l) ∧ (0 + 3) + 1 ≤ l.length ∧ ∀ h', h' = upd h q T (writeAt l (0 + 3) [.int .i64 x]) → K h' := by
  refine ⟨truly_rfl, _, _, w.hq, Nat.le_refl 4, ?_⟩
  intro h' e
  have f : Fr [q] h h' := by rw [e]; exact Fr.upd (by simp) _ _ _
  have h1 : pb ∉ [q] := by simp only [List.mem_singleton]; exact ty_ne w.t2 w.t1 (by decide)
  have h3 : fb ∉ [q] := by simp only [List.mem_singleton]; exact ty_ne w.t3 w.t1 (by decide)
  refine hK h' ⟨?_, w.hp.fr f h1, w.hf.fr f h3⟩ f
  rw [e, hx]; exact upd_same w.hq _ _
theorem not_t {b : Bool} (h : (!b) = true) : b = false := by simpa using h
theorem not_f {b : Bool} (h : (!b) = false) : b = true := by simpa using h
theorem span_spec {h : Hp} (p m : Int) : CallsH Try.prog 103 [.int .i64 p, .int .i64 m] h fun v h' => v = .bool (decide (0 ≤ p) && decide (p < m)) ∧ h' = h := by
  apply warderref11_span.calls
  unfold warderref11_span.P
  refine ⟨fun c => ⟨?_, rfl⟩, fun c => ⟨?_, rfl⟩⟩
  · have c : 0 ≤ p := by simpa using c
    simp [c]
  · have c : ¬ 0 ≤ p := by simpa using c
    simp [c]
theorem beq_true {a b : Int} (h : (a == b) = true) : a = b := eq_of_beq h
theorem bne_true {a b : Int} (h : (a != b) = true) : a ≠ b := by intro e; rw [e] at h; simp at h
theorem bne_false {a b : Int} (h : (a != b) = false) : a = b := by simpa using h
theorem Rtable_spec (w : RL h q pb fb n PL FL nf) (hl : FL.length = 64) {i : Nat} (hi : i < 64) {x : Int} (hx : FL[i]? = some x) (hfr : nf ≤ 2000) :
    CallsH Try.prog 104 [.pointer (some ⟨q, 0, none⟩), .int .i64 (i : Int)] h fun v h' =>
      (x = 2 ∧ v = .bool true ∧ h' = h) ∨ (x ≠ 2 ∧ nf = 0 ∧ v = .bool false ∧ h' = h) ∨ (x ≠ 2 ∧ 0 < nf ∧ v = .bool true ∧ RL h' q pb fb n PL (FL.set i 2) (nf - 1) ∧ Fr [q, fb] h h') := by
  apply warderref11_Space_table.calls
  unfold warderref11_Space_table.P
  refine ⟨_, _, _, w.cf, by omega, by omega, _, _, rfl, _, w.first hx, fun c => .inl ⟨beq_true c, rfl, rfl⟩, fun c => ?_⟩
  have hx2 : x ≠ 2 := by intro e; rw [e] at c; simp at c
  refine ⟨_, w.cfree, fun c1 => .inr (.inl ⟨hx2, by simp only [decide_eq_true_eq] at c1; omega, rfl, rfl⟩), fun c1 => ?_⟩
  have hpos : 0 < nf := by simp only [decide_eq_false_iff_not] at c1; omega
  refine ⟨_, w.cfree, ?_⟩
  refine w.setN (nf - 1) (by rw [wrap_i64 (by omega) (by omega)]; omega) ?_
  intro h1 w1 f1
  refine ⟨_, _, _, w1.cf, by omega, by omega, _, _, rfl, ?_⟩
  refine w1.setF (by rw [hl]; exact hi) 2 ?_
  intro h2 w2 f2
  exact .inr (.inr ⟨hx2, hpos, rfl, w2, (f1.mono (by simp)).trans (f2.mono (by simp))⟩)
end
/-- The document's space, as it is to be. -/
structure DS (h : Hp) (q pb fb n : Nat) (A : Ab) (K : Nat) : Prop where
  ex : ∃ PL FL, RL h q pb fb n PL FL (K - nT A) ∧ Rel A PL FL
  le : nT A ≤ K
  hi : K ≤ 1000
  n1 : n ≤ 1000
section
variable {h h' : Hp} {q pb fb n K : Nat} {A : Ab}
theorem DS.fr (w : DS h q pb fb n A K) {F : List Nat} (k : Fr F h h') (hF : q ∉ F ∧ pb ∉ F ∧ fb ∉ F) : DS h' q pb fb n A K := by
  obtain ⟨⟨PL, FL, a, b⟩, c, d, e⟩ := w
  exact ⟨⟨PL, FL, a.fr k hF, b⟩, c, d, e⟩
theorem DS.fr0 (w : DS h q pb fb n A K) (k : Fr [] h h') : DS h' q pb fb n A K := w.fr k (by simp)
theorem knd_T (a : Fst) : knd a = 2 ↔ a.isT = true := by cases a <;> simp [knd, Fst.isT]
theorem knd_no (a : Fst) : knd a = 0 ↔ a = .no := by cases a <;> simp [knd]
def RF (q pb fb : Nat) : List Nat := [q, pb, fb]
theorem set_same_at {α : Type} : ∀ {L : List α} {k : Nat} {x : α}, L[k]? = some x → L.set k x = L
  | [], _, _, h => by simp at h
  | y :: L, 0, x, h => by simp at h; simp [h]
  | y :: L, k + 1, x, h => by simp at h; simp [set_same_at h]
theorem Rel.page_at {PL : List Rp} {FL : List Int} (r : Rel A PL FL) {i k : Nat} (hi : i < 64) (hk : k < 64) (o : Option Pg) : ∀ p, p < 4096 → (PL.set (64 * i + k) (rpO o))[p]? = some (rpO (if p / 64 = i then fset (tabOf (A i)) k o (p % 64) else lkT A p)) := by
  intro p hp
  rw [List.getElem?_set]
  by_cases e : 64 * i + k = p
  · rw [if_pos e, if_pos (by rw [r.lp]; omega), if_pos (by omega), show p % 64 = k by omega, fset_same]
  · rw [if_neg e, r.pg p hp]
    by_cases e2 : p / 64 = i
    · rw [if_pos e2, fset_ne (by omega)]
      unfold lkT
      rw [e2]
    · rw [if_neg e2]
theorem RMap_spec (w : DS h q pb fb n A K) (p f : Int) (pw px : Bool) :
    CallsH Try.prog 63 [.pointer (some ⟨q, 0, none⟩), .int .i64 p, .int .i64 f, .bool pw, .bool px] h fun v h' => v = .int .i64 (opMap A n (decide (nT A < K)) p f pw px).1 ∧ DS h' q pb fb n (opMap A n (decide (nT A < K)) p f pw px).2 K ∧ Fr (RF q pb fb) h h' := by
  refine calls_k fun R hR => ?_
  apply warderref11_Space_Map.calls
  unfold warderref11_Space_Map.P
  obtain ⟨⟨PL, FL, rl, rel⟩, hle, hK, hn1⟩ := w
  have w : DS h q pb fb n A K := ⟨⟨PL, FL, rl, rel⟩, hle, hK, hn1⟩
  have bad : ∀ e : Int, opMap A n (decide (nT A < K)) p f pw px = (e, A) → R (.int .i64 e) h := fun e he => hR _ _ ⟨by rw [he], by rw [he]; exact w, Fr.refl _ _⟩
  refine ⟨fun h' => h' = h ∧ isIn 4096 p = true ∧ isIn n f = true, ?_, ?_⟩
  · refine (span_spec _ _).mono ?_
    rintro v h1 ⟨rfl, hh⟩
    rw [hh]; clear hh h1
    refine ⟨_, rfl, fun c => bad 11 ?_, fun c => ⟨_, rl.cn, ?_⟩⟩
    · have c : isIn 4096 p = false := not_t c
      unfold opMap; rw [c]; rfl
    have c1 : isIn 4096 p = true := not_f c
    refine (span_spec _ _).mono ?_
    rintro v h1 ⟨rfl, hh⟩
    rw [hh]; clear hh h1
    refine ⟨_, rfl, fun c => bad 11 ?_, fun c => ⟨rfl, c1, not_f c⟩⟩
    have c : isIn n f = false := not_t c
    unfold opMap; rw [c1, c]; rfl
  rintro h3 ⟨hh, okp, okf⟩
  rw [hh]; clear hh h3
  obtain ⟨k, rfl, hk⟩ := in_page okp
  obtain ⟨fn, rfl, hfn⟩ := isIn_nat okf
  obtain ⟨hi, hj⟩ := p_idx hk
  have hpg := rel.pg k hk
  refine ⟨_, _, _, rl.cp, by omega, by omega, _, _, rfl, _, (rl.page hpg 1 (by decide)).trans rfl, fun c => bad 13 ?_, fun c => ⟨by decide, ?_⟩⟩
  · rw [rpO_t, lkT_is] at c
    unfold opMap
    rw [okp, okf, lookA_nat hk, show (lookN A k).isSome = true from c]; rfl
  rw [rpO_t, lkT_is] at c
  have hlk : (lookN A k).isSome = false := c
  have hop : opMap A n (decide (nT A < K)) (k : Int) (fn : Int) pw px = if (A (k / 64)).isT || decide (nT A < K) then (0, fset A (k / 64) (.tb (fset (tabOf (A (k / 64))) (k % 64) (some ⟨fn, pw, px⟩)))) else (15, A) := by
    unfold opMap
    rw [okp, okf, lookA_nat hk, hlk, Int.toNat_natCast, Int.toNat_natCast]; rfl
  rw [tdiv64 hk]
  have hnt := nT_fset A hi (.tb (fset (tabOf (A (k / 64))) (k % 64) (some ⟨fn, pw, px⟩)))
  rw [show (Fst.tb (fset (tabOf (A (k / 64))) (k % 64) (some ⟨fn, pw, px⟩))).isT = true from rfl] at hnt
  have fin : ∀ {h4 : Hp} {FL' : List Int} {fr : Nat}, ((A (k / 64)).isT || decide (nT A < K)) = true → RL h4 q pb fb n PL FL' fr → FL' = FL.set (k / 64) 2 → fr = K - nT (fset A (k / 64) (.tb (fset (tabOf (A (k / 64))) (k % 64) (some ⟨fn, pw, px⟩)))) → nT (fset A (k / 64) (.tb (fset (tabOf (A (k / 64))) (k % 64) (some ⟨fn, pw, px⟩)))) ≤ K → Fr (RF q pb fb) h h4 →
      (∃ Pagesa15 : Option Addr, ∃ Pagesl16 : Nat, ∃ Pagesc17 : Nat, cellAt h4 q 0 = some (.slice Pagesa15 Pagesl16 Pagesc17) ∧ (0 : Int) ≤ (k : Int) ∧
        (k : Int) < ((Pagesl16 : Nat) : Int) ∧ ∃ b18 : Nat, ∃ o19 : Nat, (Pagesa15 : Option Addr) = some ⟨b18, o19, none⟩ ∧ truly true ∧ ∃ T20 : TypeId, ∃ l21 : List Value, bk h4 b18 = some (blk T20 l21) ∧ (o19 + (k : Int).toNat * 4) + 4 ≤ l21.length ∧
        ∀ h5 : Hp, h5 = upd h4 b18 T20 (writeAt l21 (o19 + (k : Int).toNat * 4) [.int .i64 (fn : Int), .bool true, .bool pw, .bool px]) → R (.int .i64 0) h5) := by
    intro h4 FL' fr hgo r4 hFL hfr hle4 f4
    refine ⟨_, _, _, r4.cp, by omega, by omega, _, _, rfl, ?_⟩
    refine r4.setP (by rw [rel.lp]; exact hk) (rpO (some ⟨fn, pw, px⟩)) ?_
    intro h5 r5 f5
    refine hR _ _ ⟨by rw [hop, if_pos hgo], ?_, f4.trans (f5.mono (by simp [RF]))⟩
    rw [hop, if_pos hgo]
    rw [hfr] at r5
    refine ⟨⟨PL.set k (rpO (some ⟨fn, pw, px⟩)), FL', r5, ?_⟩, hle4, hK, hn1⟩
    · rw [hFL]
      have := rel.put hi (.tb (fset (tabOf (A (k / 64))) (k % 64) (some ⟨fn, pw, px⟩))) (PL' := PL.set k (rpO (some ⟨fn, pw, px⟩))) (by rw [List.length_set]; exact rel.lp) (fun p hp => by
        have := rel.page_at hi hj (some ⟨fn, pw, px⟩) p hp
        rw [show 64 * (k / 64) + k % 64 = k by omega] at this
        exact this)
      exact this
  refine (Rtable_spec rl rel.lf hi (rel.fi _ hi) (by omega)).mono ?_
  rintro v h4 (⟨hx, rfl, hh⟩ | ⟨hx, h0, rfl, hh⟩ | ⟨hx, hpos, rfl, r4, f4⟩)
  · rw [hh]; clear hh h4
    have hT := (knd_T _).1 hx
    rw [hT] at hnt
    simp at hnt
    refine ⟨_, rfl, fun c => (by cases c), fun _ => fin (by rw [hT]; rfl) rl ?_ (by rw [hnt]) (by rw [hnt]; exact hle) (Fr.refl _ _)⟩
    have := rel.fi _ hi
    rw [hx] at this
    exact (set_same_at this).symm
  · rw [hh]; clear hh h4
    have hT : (A (k / 64)).isT = false := Bool.eq_false_iff.2 (fun e => hx ((knd_T _).2 e))
    refine ⟨_, rfl, fun _ => bad 15 ?_, fun c => (by cases c)⟩
    rw [hop, hT, decide_eq_false (by omega)]; rfl
  · have hT : (A (k / 64)).isT = false := Bool.eq_false_iff.2 (fun e => hx ((knd_T _).2 e))
    rw [hT] at hnt
    simp at hnt
    exact ⟨_, rfl, fun c => (by cases c), fun _ => fin (by rw [hT, decide_eq_true (by omega)]; rfl) r4 rfl (by omega) (by omega) (f4.mono (by simp [RF]))⟩
end
end Go.Proofs.Ytmldiibfmhkgjaa
