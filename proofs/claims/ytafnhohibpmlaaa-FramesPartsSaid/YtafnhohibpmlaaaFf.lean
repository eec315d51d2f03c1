import Derived.Test.YtafnhohibpmlaaaFe
namespace Go.Proofs.Ytafnhohibpmlaaa
open Go Go.Wd
set_option linter.unusedVariables false
set_option linter.unusedSimpArgs false

theorem takeI_cases (n : Nat) (L : List Int) : takeI n L = -1 ∨ ∃ i : Nat, takeI n L = i ∧ takeP n L i = true ∧ ∀ j, j < i → takeP n L j = false := by
  rcases idx_cases (takeP n L) (List.range L.length) with ⟨h, _⟩ | ⟨j, x, h1, h2, h3, h4⟩
  · exact .inl h
  · refine .inr ⟨j, h1, ?_, fun i hi => ?_⟩
    · have hj : j < L.length := by have := (List.getElem?_eq_some_iff.1 h2).1; simpa using this
      rw [range_at hj] at h2; cases h2; exact h3
    · have hj : j < L.length := by have := (List.getElem?_eq_some_iff.1 h2).1; simpa using this
      exact h4 i i hi (range_at (by omega))
theorem takeL_len (n : Nat) (L : List Int) (o : Int) : (takeL n L o).length = L.length := by
  unfold takeL
  split
  · rcases takeI_cases n L with h | ⟨i, h, hp, _⟩
    · rename_i he
      unfold takeE at he
      rw [h] at he
      split at he <;> simp at he
    · rw [h, ← Int.natCast_mul, Int.toNat_natCast]
      refine setRun_len ?_ o
      simp only [takeP, Bool.and_eq_true, decide_eq_true_eq] at hp
      exact hp.1
  · rfl
theorem moveL_len (L : List Int) (f o t : Int) : (moveL L f o t).length = L.length := by
  unfold moveL; split <;> simp
theorem stepL_len (L : List Int) (c : C) : (stepL L c).length = L.length := by
  unfold stepL
  split
  · exact takeL_len _ _ _
  split
  · exact takeL_len _ _ _
  split
  · exact moveL_len _ _ _ _
  split
  · unfold giveL freeO; split <;> simp
  split
  · unfold MoveL; split
    · exact moveL_len _ _ _ _
    · rfl
  · rfl

set_option maxHeartbeats 2000000 in
theorem calls_law {h : Hp} {a : Option Addr} {c : Nat} {l : List C} (n : Int) (g1 : rowAtK h a (encL C.cells l)) (owner frame : Int) :
    CallsH Try.prog 3 [.int .i64 n, .slice a l.length c, .int .i64 owner, .int .i64 frame] h fun v h' => v = .bool true ∧ Fr [] h h' := by
  refine calls_k fun R hR => ?_
  apply warderlaw10_FramesCalls.calls
  unfold warderlaw10_FramesCalls.P
  refine (alive_spec h).mono ?_
  rintro v h1 ⟨rfl, f1⟩
  have yes := fun h' (f : Fr [] h h') => hR (.bool true) h' ⟨rfl, f⟩
  refine ⟨_, rfl, by simp, fun _ => ?_⟩
  refine ⟨fun h2 => h2 = h1 ∧ l.length ≤ 60 ∧ (n ≤ 300 ∨ 1024 < n), ⟨fun _ => yes _ f1, fun d1 => ⟨fun d2 => ⟨fun _ => yes _ f1, fun d3 => ?_⟩, fun d2 => ?_⟩⟩, ?_⟩
  · simp only [decide_eq_false_iff_not] at d1 d3; exact ⟨rfl, by omega, .inr (by omega)⟩
  · simp only [decide_eq_false_iff_not] at d1 d2; exact ⟨rfl, by omega, .inl (by omega)⟩
  rintro h2 ⟨rfl, hl60, hn⟩
  by_cases hgood : ¬ (1 ≤ n ∧ n ≤ 300)
  · refine (new_bad (n := n) (by omega)).mono ?_
    rintro v h3 ⟨rfl, rfl⟩
    refine ⟨_, _, rfl, fun _ => False, ⟨fun _ => ⟨fun _ => yes _ f1, fun c => absurd c (by simp)⟩, fun d1 => ⟨fun _ => ⟨fun _ => yes _ f1, fun c => absurd c (by simp)⟩, fun d2 => ?_⟩⟩, fun _ h => h.elim⟩
    simp only [decide_eq_false_iff_not] at d1 d2; omega
  obtain ⟨m, rfl⟩ : ∃ m : Nat, n = m := ⟨n.toNat, by omega⟩
  refine (new_spec (n := m) (by omega) (by omega)).mono ?_
  rintro v h3 ⟨rfl, w3, f3, s3⟩
  refine ⟨_, _, rfl, fun h4 => h4 = h3, ⟨fun d => ?_, fun d1 => ⟨fun d => ?_, fun _ => rfl⟩⟩, ?_⟩
  · simp only [decide_eq_true_eq] at d; omega
  · simp only [decide_eq_true_eq] at d; omega
  rintro h4 rfl
  refine ⟨fun h5 => h5 = h4, ⟨fun hc => absurd hc (by simp), fun _ => ⟨fun hc => absurd hc (by simp [notIf]), fun _ => rfl⟩⟩, ?_⟩
  rintro h5 rfl
  refine (rnew_spec (n := m) (by omega)).mono ?_
  rintro v h6 ⟨rfl, r6, f6, s6⟩
  refine ⟨_, rfl, ?_⟩
  have w6 := w3.fr f6 (by simp) (by simp)
  have z1 := f1.size
  have e1 : sz h2 + 1 ≠ sz h5 + 1 := by omega
  have e2 : sz h2 + 1 ≠ sz h5 := by omega
  have e3 : sz h2 ≠ sz h5 + 1 := by omega
  have e4 : sz h2 ≠ sz h5 := by omega
  have fr6 := (f1.trans f3).trans f6
  have gq : sz h ≤ sz h2 + 1 := by omega
  have gr : sz h ≤ sz h5 := by omega
  clear s3 s6
  generalize sz h5 + 1 = q2 at *
  generalize sz h5 = rb at *
  generalize sz h2 + 1 = q at *
  generalize sz h2 = ob at *
  refine ⟨fun i h7 => ∃ (k : Nat) (L : List Int), i = k ∧ k ≤ l.length ∧ L.length = m ∧ TS h7 q ob L ∧ RS h7 q2 rb L ∧ Fr [] h h7, fun i _ => l.length - i.toNat, ⟨0, _, rfl, by omega, by simp, w6, r6, fr6⟩, ?_⟩
  rintro i h7 ⟨k, L, rfl, hk, hL, w7, r7, f7⟩
  by_cases hkl : k < l.length
  · refine ⟨fun _ => ?_, fun hf => absurd hf (by simp; omega)⟩
    obtain ⟨c, hc⟩ : ∃ c, l[k]? = some c := ⟨_, List.getElem?_eq_getElem hkl⟩
    obtain ⟨b1, o1, rfl, e1'⟩ := encL_one (f := C.cells) (m := 4) C.len (g1.fr f7 (by simp)) hc (by omega)
    refine ⟨by omega, by omega, _, _, rfl, ?_⟩
    refine C.rd c (by simpa using e1') ?_
    refine (do_spec w7 r7 e1 e2 e3 e4 c).mono ?_
    rintro v h8 ⟨rfl, w8, r8, f8⟩
    refine ⟨_, rfl, fun hc => absurd hc (by simp), fun _ => ?_⟩
    have hL8 : (stepL L c).length = m := by rw [stepL_len, hL]
    have f8' := f7.later f8 (by simp; omega)
    clear w7 r7 f8
    generalize stepL L c = M at *
    refine (rList_spec r8 (by omega) owner).mono ?_
    rintro v h9 ⟨a9, c9, rfl, ra9, fa9, f9⟩
    refine ⟨_, _, _, rfl, ?_⟩
    have r9 := r8.fr f9 (by simp) (by simp)
    have w9 := w8.fr f9 (by simp) (by simp)
    refine ⟨fun want h11 => want = ownerOf M frame ∧ h11 = h9, ?_, ?_⟩
    · refine ⟨fun x h10 => x = isThere M frame ∧ h10 = h9, ⟨fun d => ⟨by simp at d; simp [isThere, d, hL8], rfl⟩, fun d => ⟨by simp at d; simp [isThere]; omega, rfl⟩⟩, ?_⟩
      rintro x h10 ⟨rfl, rfl⟩
      refine ⟨fun ht => ⟨_, _, rfl, _, _, _, r9.row, ?_⟩, fun ht => ⟨by simp [ownerOf, ht], rfl⟩⟩
      obtain ⟨f, rfl, hf⟩ := isThere_nat ht
      obtain ⟨x, hx⟩ : ∃ x, M[f]? = some x := ⟨_, List.getElem?_eq_getElem hf⟩
      exact ⟨by omega, by omega, _, _, rfl, _, r9.cell hx, (ownerOf_nat hx).symm, rfl⟩
    rintro want h11 ⟨rfl, rfl⟩
    refine (List_spec w9 owner).mono ?_
    rintro v h12 ⟨a12, c12, rfl, ra12, _, f12⟩
    refine ⟨_, _, _, rfl, ?_⟩
    have hpl : (posOf owner M).length ≤ 1024 := by rw [posOf_length]; exact Nat.le_trans List.count_le_length (by omega)
    refine (Same_spec (c := c12) (d := c9) ra12 (ra9.fr f12 (by simp)) (by omega)).mono ?_
    rintro v h13 ⟨rfl, rfl⟩
    refine ⟨_, rfl, fun hc => absurd hc (by simp), fun _ => ?_⟩
    have w12 := w9.fr f12 (by simp) (by simp)
    refine (Count_spec w12 owner).mono ?_
    rintro v h14 ⟨rfl, rfl⟩
    refine ⟨_, rfl, fun hc => absurd hc (by rw [posOf_length]; simp), fun _ => ?_⟩
    refine (Owner_spec w12 frame).mono ?_
    rintro v h15 ⟨rfl, rfl⟩
    refine ⟨_, rfl, fun hc => absurd hc (by simp), fun _ => ?_⟩
    rw [wrapN hkl (by omega)]
    exact ⟨⟨k + 1, M, rfl, by omega, hL8, w12, r9.fr f12 (by simp) (by simp), (f8'.trans f9).trans f12⟩, dec hkl⟩
  · exact ⟨fun hf => absurd hf (by simp; omega), fun _ => yes _ f7⟩

/-! ## the sum of the counts -/
def sumC (L : List Int) : Nat → Nat
  | 0 => 0
  | k + 1 => sumC L k + L.count (k : Int)
theorem sumC_cons (x : Int) (L : List Int) : ∀ k : Nat, sumC (x :: L) k = sumC L k + (if 0 ≤ x ∧ x < k then 1 else 0)
  | 0 => by rw [if_neg (by omega)]; rfl
  | k + 1 => by
    simp only [sumC, sumC_cons x L k]
    by_cases h : x = (k : Int)
    · subst h
      rw [List.count_cons_self, if_neg (by omega), if_pos (by omega)]; omega
    · rw [List.count_cons_of_ne h]
      by_cases h2 : 0 ≤ x ∧ x < k
      · rw [if_pos h2, if_pos (by omega)]; omega
      · rw [if_neg h2, if_neg (by omega)]; omega
theorem sumC_all : ∀ {L : List Int}, (∀ x ∈ L, 0 ≤ x ∧ x ≤ 9) → sumC L 10 = L.length
  | [], _ => rfl
  | x :: L, h => by
    have hx := h x (by simp)
    rw [sumC_cons, sumC_all (fun y hy => h y (by simp [hy])), if_pos (by omega), List.length_cons]
theorem sumC_le (L : List Int) : ∀ k, sumC L k ≤ k * L.length
  | 0 => by simp [sumC]
  | k + 1 => by
    have := sumC_le L k
    have := List.count_le_length (a := (k : Int)) (l := L)
    simp only [sumC, Nat.succ_mul]; omega

def partL (L : List Int) (c : C) : List Int := if c.what = 3 then L else stepL L c
def partE (L : List Int) (c : C) : Int := if c.what = 0 then takeE 1 L c.owner else if c.what = 1 then takeE 64 L c.owner else if c.what = 2 then moveE L c.frame c.owner else if c.what = 4 then MoveE L c.frame c.owner c.to else 0
theorem part_same {L : List Int} {c : C} (h : partE L c ≠ 0) : partL L c = L := by
  unfold partE at h
  unfold partL stepL
  split at h
  · rename_i e; simp [e, takeL, h]
  split at h
  · rename_i e; simp [e, takeL, h]
  split at h
  · rename_i e; simp [e, moveL, h]
  split at h
  · rename_i e
    simp only [e, MoveE] at h ⊢
    split at h
    · rename_i hs; simp [MoveL, hs, moveL, h]
    · rename_i hs; simp [MoveL, hs]
  · exact absurd rfl h
theorem partL_len (L : List Int) (c : C) : (partL L c).length = L.length := by
  unfold partL; split
  · rfl
  · exact stepL_len L c

set_option maxHeartbeats 2000000 in
theorem parts_law {h : Hp} {a : Option Addr} {c : Nat} {l : List C} (n : Int) (g1 : rowAtK h a (encL C.cells l)) :
    CallsH Try.prog 4 [.int .i64 n, .slice a l.length c] h fun v h' => v = .bool true ∧ Fr [] h h' := by
  refine calls_k fun R hR => ?_
  apply warderlaw10_FramesParts.calls
  unfold warderlaw10_FramesParts.P
  refine (alive_spec h).mono ?_
  rintro v h1 ⟨rfl, f1⟩
  have yes := fun h' (f : Fr [] h h') => hR (.bool true) h' ⟨rfl, f⟩
  refine ⟨_, rfl, by simp, fun _ => ?_⟩
  refine ⟨fun h2 => h2 = h1 ∧ l.length ≤ 60 ∧ 1 ≤ n ∧ n ≤ 300, ⟨fun _ => yes _ f1, fun d1 => ⟨fun _ => yes _ f1, fun d2 => ⟨fun _ => yes _ f1, fun d3 => ?_⟩⟩⟩, ?_⟩
  · simp only [decide_eq_false_iff_not] at d1 d2 d3; exact ⟨rfl, by omega, by omega, by omega⟩
  rintro h2 ⟨rfl, hl60, hn1, hn2⟩
  obtain ⟨m, rfl⟩ : ∃ m : Nat, n = m := ⟨n.toNat, by omega⟩
  refine (new_spec (n := m) (by omega) (by omega)).mono ?_
  rintro v h3 ⟨rfl, w3, f3, s3⟩
  refine ⟨_, _, rfl, fun h5 => h5 = h3, ⟨fun hc => absurd hc (by simp), fun _ => ⟨fun hc => absurd hc (by simp [notIf]), fun _ => rfl⟩⟩, ?_⟩
  rintro h4 rfl
  have z1 := f1.size
  have fr4 := f1.trans f3
  have gq : sz h ≤ sz h2 + 1 := by omega
  clear s3
  generalize sz h2 + 1 = q at *
  generalize sz h2 = ob at *
  refine ⟨fun i h7 => ∃ (k : Nat) (L : List Int), i = k ∧ k ≤ l.length ∧ L.length = m ∧ TS h7 q ob L ∧ Fr [] h h7, fun i _ => l.length - i.toNat, ⟨0, _, rfl, by omega, by simp, w3, fr4⟩, ?_⟩
  rintro i h5 ⟨k, L, rfl, hk, hL, w5, f5⟩
  by_cases hkl : k < l.length
  · refine ⟨fun _ => ?_, fun hf => absurd hf (by simp; omega)⟩
    obtain ⟨c, hc⟩ : ∃ c, l[k]? = some c := ⟨_, List.getElem?_eq_getElem hkl⟩
    obtain ⟨b1, o1, rfl, e1'⟩ := encL_one (f := C.cells) (m := 4) C.len (g1.fr f5 (by simp)) hc (by omega)
    refine ⟨by omega, by omega, _, _, rfl, ?_⟩
    refine C.rd c (by simpa using e1') ?_
    refine put_local rfl (by simp) ?_
    intro h7 k7 f7 s7
    have w7 := w5.fr f7 (by simp) (by simp)
    have lq := w5.lt
    have lo := w5.lto
    have z5 := f5.size
    generalize hb : sz h5 = b at *
    have f7' := f5.trans f7
    subst hL
    refine (owners_spec w7).mono ?_
    rintro v h8 ⟨a8, c8, rfl, ra8, fa8, f8⟩
    refine ⟨_, _, _, rfl, ?_⟩
    have w8 := w7.fr f8 (by simp) (by simp)
    have k8 := f8.at k7 (by simp)
    have fr8 := f7'.trans f8
    have c0 := (cellAt_of k8 0).trans rfl
    have c1 := (cellAt_of k8 1).trans rfl
    have c2 := (cellAt_of k8 2).trans rfl
    have c3 := (cellAt_of k8 3).trans rfl
    refine ⟨fun f h13 => f = partE L c ∧ TS h13 q ob (partL L c) ∧ Fr [q, ob] h8 h13, ?_, ?_⟩
    · refine ⟨_, c0, fun d => ⟨_, c1, ?_⟩, fun m0 => ⟨fun d => ⟨_, c1, ?_⟩, fun m1 => ⟨fun d => ⟨_, c1, _, c3, ?_⟩, fun m2 => ⟨fun d => ⟨_, c3, _, c1, _, c2, ?_⟩, fun m4 => ?_⟩⟩⟩⟩
      · simp only [beq_iff_eq] at d
        refine (Take_spec w8 _).mono ?_
        rintro v h9 ⟨rfl, w9, f9⟩
        exact ⟨_, _, rfl, by simp [partE, d], by simpa [partL, stepL, d] using w9, f9⟩
      · simp only [beq_iff_eq] at d
        refine (TakeRun_spec w8 _).mono ?_
        rintro v h9 ⟨rfl, w9, f9⟩
        exact ⟨_, _, rfl, by simp [partE, d], by simpa [partL, stepL, d] using w9, f9⟩
      · simp only [beq_iff_eq] at d
        refine (Give_spec w8 _ _).mono ?_
        rintro v h9 ⟨rfl, w9, f9⟩
        exact ⟨_, rfl, by simp [partE, d], by simpa [partL, stepL, d] using w9, f9⟩
      · simp only [beq_iff_eq] at d
        refine (Move_spec w8 _ _ _).mono ?_
        rintro v h9 ⟨rfl, w9, f9⟩
        exact ⟨_, rfl, by simp [partE, d], by simpa [partL, stepL, d] using w9, f9⟩
      · simp only [beq_eq_false_iff_ne] at m0 m1 m2 m4
        have e : partL L c = L := by
          unfold partL; split
          · rfl
          · rename_i m3; simp [stepL, m0, m1, m2, m3, m4]
        exact ⟨by simp [partE, m0, m1, m2, m4], by rw [e]; exact w8, Fr.refl _ _⟩
    rintro f h13 ⟨rfl, w13, f13⟩
    have hsame := @part_same L c
    have hlen := partL_len L c
    generalize partL L c = M at *
    generalize partE L c = E at *
    have fr13 := fr8.later f13 (by simp; omega)
    have ow := owners_spec w13
    rw [hlen] at ow
    refine ow.mono ?_
    rintro v h14 ⟨a14, c14, rfl, ra14, fa14, f14⟩
    refine ⟨_, _, _, rfl, ?_⟩
    have w14 := w13.fr f14 (by simp) (by simp)
    have fr14 := fr13.trans f14
    refine ⟨fun h16 => h16 = h14, ⟨fun he => ?_, fun _ => rfl⟩, ?_⟩
    · have hM := hsame (by simpa using he)
      subst hM
      refine (Same_spec (c := c8) (d := c14) ((ra8.fr f13 (fun y hy => by have := (fa8 y hy).1; have := f7.size; simp; omega)).fr f14 (by simp)) ra14 (by have := w8.len; omega)).mono ?_
      rintro v h15 ⟨rfl, rfl⟩
      exact ⟨_, rfl, fun hc => absurd hc (by simp), fun _ => rfl⟩
    rintro h16 rfl
    have hM10 := sumC_all w14.ok
    refine ⟨fun s i h17 => ∃ j : Nat, i = j ∧ j ≤ 10 ∧ s = (sumC M j : Nat) ∧ h17 = h16, fun _ i _ => 10 - i.toNat, ⟨0, rfl, by omega, rfl, rfl⟩, ?_⟩
    rintro s i h17 ⟨j, rfl, hj, rfl, rfl⟩
    by_cases hj10 : j < 10
    · refine ⟨fun _ => ?_, fun hf => absurd hf (by simp; omega)⟩
      refine (Count_spec w14 j).mono ?_
      rintro v h18 ⟨rfl, rfl⟩
      have hs := sumC_le M (j + 1)
      have hml := w14.len
      have h10 : (j + 1) * M.length ≤ 10 * 1024 := Nat.mul_le_mul (by omega) hml
      simp only [sumC] at hs
      have e : IntKind.wrap .i64 ((sumC M j : Nat) + (M.count (j : Int) : Nat) : Int) = (sumC M (j + 1) : Nat) := by rw [wrap_i64 (by omega) (by omega)]; simp [sumC]
      rw [wrapN hj10 (by omega)]
      refine ⟨_, rfl, ?_⟩
      rw [e]
      exact ⟨⟨j + 1, rfl, by omega, rfl, rfl⟩, dec hj10⟩
    · have : j = 10 := by omega
      subst this
      refine ⟨fun hf => absurd hf (by simp), fun _ => ⟨fun hf => absurd hf (by rw [hM10, hlen]; simp), fun _ => ?_⟩⟩
      rw [wrapN hkl (by omega)]
      exact ⟨⟨k + 1, M, rfl, by omega, hlen, w14, fr14⟩, dec hkl⟩
  · exact ⟨fun hf => absurd hf (by simp; omega), fun _ => yes _ f5⟩
end Go.Proofs.Ytafnhohibpmlaaa
