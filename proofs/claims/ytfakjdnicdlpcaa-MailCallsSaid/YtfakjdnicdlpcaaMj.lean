import Derived.Test.YtfakjdnicdlpcaaMi
namespace Go.Proofs.Ytfakjdnicdlpcaa
open Go Go.Wd
set_option linter.unusedVariables false
set_option linter.unusedSimpArgs false
set_option linter.unnecessarySimpa false

theorem one_lts : ∀ l : List Lt, oneCells (encL Lt.cells l) = true
  | [] => rfl
  | x :: l => one_lts l
theorem tail_row {h : Hp} {a : Option Addr} {n c : Nat} {x : Lt} {L : List Lt} (o : Own h 46 2 a n c (encL Lt.cells (x :: L))) : rowAtK h (sliceBase a 1 c 2) (encL Lt.cells L) := by
  have hl := o.1
  rw [encL_length Lt.len, List.length_cons] at hl
  rcases o.2 with ⟨_, rfl, _⟩ | ⟨b, rest, rfl, hb, hlen, hle⟩
  · omega
  · unfold sliceBase
    rw [List.length_append, encL_length Lt.len, List.length_cons] at hlen
    by_cases e : c = 1
    · have : L = [] := by
        cases L with
        | nil => rfl
        | cons y L => rw [List.length_cons] at hlen; omega
      subst this
      exact .inl rfl
    · rw [if_neg e]
      refine .inr ⟨b, 2, rfl, readAt_of hb 2 _ ?_⟩
      show ((encL Lt.cells L ++ rest).take (encL Lt.cells L).length) = _
      simp
theorem ret_46 {h' : Hp} {b : Nat} {e : Int} {l0 : List Value} (hb : bk h' b = some (blk 46 l0)) (hl : l0.length = 2) (x : Lt) {R : Value → Hp → Prop}
    (hR : ∀ h3, h3 = upd h' b 46 x.cells → R (.tuple #[x.val, .int .i64 e]) h3) :
    truly true ∧ ∃ T3 : TypeId, ∃ l4 : List Value, bk h' b = some (blk T3 l4) ∧ 0 + 2 ≤ l4.length ∧ ∀ h3 : Hp, h3 = upd h' b T3 (writeAt l4 0 [.int .i64 x.fr, .int .u32 x.v]) → ∃ res5 : Int, cellAt h3 b (0 + 0) = some (.int .i64 res5) ∧ ∃ res6 : Int, cellAt h3 b (0 + 1) = some (.int .u32 res6) ∧
      R (.tuple #[.agg #[.int .i64 res5, .int .u32 res6], .int .i64 e]) h3 := by
  obtain ⟨u, v, rfl⟩ : ∃ u v, l0 = [u, v] := by
    match l0, hl with
    | [u, v], _ => exact ⟨u, v, rfl⟩
  refine ⟨truly_rfl, _, _, hb, by simp, ?_⟩
  intro h3 e3
  have e3 : h3 = upd h' b 46 x.cells := e3
  have h4 : bk h3 b = some (blk 46 x.cells) := by rw [e3]; exact upd_same hb _ _
  exact ⟨x.fr, (cellAt_of h4 0).trans rfl, x.v, (cellAt_of h4 1).trans rfl, hR _ e3⟩
section
variable {h0 h : Hp} {q b : Nat} {D : List Bx} {B : List (Option (List Lt))}
set_option maxHeartbeats 4000000 in
theorem rReceive_spec (w : RB h0 h q b D B) (gh : sz h0 ≤ sz h) (n : Int) (h8 : ∀ L, bxB B n = some L → L.length ≤ 8) : CallsH Try.prog 16 [.pointer (some ⟨q, 0, none⟩), .int .i64 n] h fun x h' => x = .tuple #[(rcX B n).val, .int .i64 (rcE B n)] ∧ (∃ D', RB h0 h' q b D' (rcB B n)) ∧ FrR h0 h h' := by
  refine calls_k fun R hR => ?_
  apply warderref22_Mail_Receive.calls
  unfold warderref22_Mail_Receive.P
  unfold rcX rcE rcB at hR
  intro h1 e1
  have b1 : bk h1 (sz h) = some (blk 46 [.int .i64 0, .int .u32 0]) := by rw [e1]; exact new_at _ _
  have f1 : Fr [] h h1 := by rw [e1]; exact Fr.new _ _ _
  have s1 : sz h1 = sz h + 1 := by rw [e1]; exact sz_new _ _
  clear e1
  have out : ∀ h3, h3 = upd h1 (sz h) 46 (Lt.cells ⟨0, 0⟩) → Fr [] h h3 := fun h3 e => by rw [e]; exact f1.later (Fr.upd (F := [sz h]) (by simp) _ _ _) (by simp)
  refine (rGuest_spec n).mono ?_
  rintro _ h2 ⟨rfl, hh⟩
  rw [hh]; clear hh h2
  refine ⟨_, rfl, fun c => ?_, fun c => ?_⟩
  · have c : ¬ isG n := by simpa using c
    have e : bxB B n = none := if_neg c
    rw [if_neg c, e] at hR
    exact ret_46 b1 rfl ⟨0, 0⟩ fun h3 e3 => hR _ _ ⟨rfl, ⟨D, w.fr0 (out h3 e3)⟩, FrR.of (out h3 e3)⟩
  have c : isG n := by simpa using c
  rw [if_pos c] at hR
  obtain ⟨k, d, x, hk, rfl, hd, hx, hbx, e1, e2, e3⟩ := rb_cases w c
  rw [hbx] at hR
  obtain ⟨k1, k2⟩ := w.cell hd
  have row1 := f1.cell w.row (by simp)
  have k11 := f1.cell k1 (by simp)
  have k21 := f1.cell k2 (by simp)
  refine ⟨_, _, _, row1, by omega, by omega, _, _, rfl, d.op, k11, fun c => ?_, fun c => ⟨_, _, _, row1, by omega, by omega, _, _, rfl, d.a, d.l, d.c, k21, fun c5 => ?_, fun c5 => ?_⟩⟩
  · cases x with
    | none => exact ret_46 b1 rfl ⟨0, 0⟩ fun h3 e3 => hR _ _ ⟨rfl, ⟨D, w.fr0 (out h3 e3)⟩, FrR.of (out h3 e3)⟩
    | some L => rw [e1] at c; cases c
  all_goals
    cases x with
    | none => rw [e1] at c; cases c
    | some L => ?_
  · have c5 : d.l = 0 := by simpa using c5
    cases L with
    | nil => exact ret_46 b1 rfl ⟨0, 0⟩ fun h3 e3 => hR _ _ ⟨rfl, ⟨D, w.fr0 (out h3 e3)⟩, FrR.of (out h3 e3)⟩
    | cons y L => rw [c5] at e2; cases e2
  · have c5 : d.l ≠ 0 := by simpa using c5
    clear out
    cases L with
    | nil => exact absurd e2 c5
    | cons y L =>
      have e2 : d.l = L.length + 1 := e2
      have hL8 := h8 _ hbx
      rw [List.length_cons] at hL8
      clear h8
      have o1 : Own h1 46 2 d.a d.l d.c (encL Lt.cells (y :: L)) := e3.fr f1 (by simp)
      have hcl := o1.le
      obtain ⟨b3, o3, eb3, ec3⟩ := encL_one Lt.len o1.row (i := 0) (x := y) rfl (by decide)
      refine ⟨_, _, _, row1, by omega, by omega, _, _, rfl, d.a, d.l, d.c, k21, by omega, by omega, b3, o3, eb3, y.fr, ec3 0 (by decide), y.v, ec3 1 (by decide), ?_⟩
      intro h6 e6
      have b6 : bk h6 (sz h1) = some (blk 46 [.int .i64 0, .int .u32 0]) := by rw [e6]; exact new_at _ _
      have f6 : Fr [] h1 h6 := by rw [e6]; exact Fr.new _ _ _
      clear e6
      refine ⟨truly_rfl, _, _, b6, by simp, ?_⟩
      intro h7 e7
      have e7 : h7 = upd h6 (sz h1) 46 y.cells := e7
      have b7 : bk h7 (sz h1) = some (blk 46 y.cells) := by rw [e7]; exact upd_same b6 _ _
      have f17 : Fr [] h1 h7 := by rw [e7]; exact f6.later (Fr.upd (F := [sz h1]) (by simp) _ _ _) (by simp)
      clear e7 f6 b6 b3 o3 eb3 ec3 row1 k11 k21
      have f7 := f1.trans f17
      have bl7 := f17.at b1 (by simp)
      have s7 : sz h1 < sz h7 := lt_of_bk b7
      have row7 := f7.cell w.row (by simp)
      have k27 := f7.cell k2 (by simp)
      refine ⟨_, _, _, row7, _, _, _, row7, by omega, by omega, _, _, rfl, d.a, d.l, d.c, k27, fun hn => hn, by omega, by omega, by omega, by omega, ?_⟩
      intro h8 e8
      have f8 : Fr [] h7 h8 := by rw [e8]; exact Fr.new _ _ _
      have o8 : Own h8 46 2 (some ⟨sz h7, 0, none⟩) 0 0 [] := ⟨rfl, .inr ⟨_, [], rfl, by rw [e8]; exact new_at _ _, rfl, Nat.le_refl _⟩⟩
      have s8 : sz h8 = sz h7 + 1 := by rw [e8]; exact sz_new _ _
      clear e8
      have row8 := f8.cell row7 (by simp)
      have k28 := f8.cell k27 (by simp)
      have tr : rowAtK h8 (sliceBase d.a 1 d.c 2) (encL Lt.cells L) := tail_row ((o1.fr f17 (by simp)).fr f8 (by simp))
      refine ⟨row8, row8, k28, ?_⟩
      simp only [Int.toNat_natCast]
      have hm : d.l - (1 : Int).toNat = L.length := by rw [e2]; rfl
      rw [hm]
      refine append_own (news := encL Lt.cells L) o8 rfl (encL_length Lt.len L) (one_lts L) tr (by omega) (by omega) ?_
      intro a' c' h9 o9 f9 hor
      have ga' : ∀ z ∈ foot a', sz h7 ≤ z := by
        intro z hz
        rcases hor with rfl | ⟨rfl, _⟩
        · simp [foot] at hz; omega
        · simp [foot] at hz; omega
      have f79 : Fr [] h7 h9 := f8.later f9 (by simp [foot])
      have f09 := f7.trans f79
      have b9 : bk h9 b = some (blk 35 (encL Bx.cells D)) := f09.at w.hb (by simp)
      have k4 := encL_length Bx.len D
      rw [w.ld] at k4
      refine ⟨f09.cell w.row (by simp), by omega, by omega, _, _, rfl, truly_rfl, _, _, b9, by omega, ?_⟩
      intro h10 e10
      rw [show ((k : Int) + 2).toNat = k + 2 by omega, Nat.zero_add, writeAt_one, setD1 D (k + 2) d hd] at e10
      have lb := lt_of_bk w.hb
      have f10 : Fr [b] h9 h10 := by rw [e10]; exact Fr.upd (by simp) _ _ _
      have b10 : bk h10 b = some (blk 35 (encL Bx.cells (D.set (k + 2) ⟨d.op, a', 0 + L.length, c'⟩))) := by rw [e10]; exact upd_same b9 _ _
      have l10 : bk h10 (sz h1) = some (blk 46 y.cells) := f10.at (f79.at b7 (by simp)) (by simp; omega)
      have r10 : bk h10 (sz h) = some (blk 46 [.int .i64 0, .int .u32 0]) := f10.at (f79.at bl7 (by simp)) (by simp; omega)
      have o10 : Own h10 46 2 a' (0 + L.length) c' (encL Lt.cells L) := o9.fr f10 fun z hz hm => by
        have := ga' z hz
        simp at hm
        omega
      clear e10
      refine ⟨y.fr, (cellAt_of l10 0).trans rfl, y.v, (cellAt_of l10 1).trans rfl, ?_⟩
      refine ret_46 r10 rfl y fun h11 e11 => ?_
      have f11 : Fr [sz h] h10 h11 := by rw [e11]; exact Fr.upd (by simp) _ _ _
      have f011 : Fr [b] h h11 := ((f09.mono (by simp)).trans f10).later f11 (by simp)
      have o11 : Own h11 46 2 a' (0 + L.length) c' (encL Lt.cells L) := o10.fr f11 fun z hz hm => by
        have := ga' z hz
        simp at hm
        omega
      have l11 : 0 + L.length = L.length := by omega
      have key := w.put (x' := some L) (F := [b]) (d' := ⟨d.op, a', 0 + L.length, c'⟩) (h' := h11) hd f011 (fun z hz => .inl (by simpa using hz))
        (f11.at b10 (by simp; omega)) e1 l11 o11 (fun z hz => .inr (by have := ga' z hz; omega)) gh
      simp only [setB_k] at hR
      exact hR _ _ ⟨rfl, ⟨_, key.1⟩, key.2⟩
end
end Go.Proofs.Ytfakjdnicdlpcaa
