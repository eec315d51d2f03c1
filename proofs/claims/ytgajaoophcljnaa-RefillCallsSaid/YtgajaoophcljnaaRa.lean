import Derived.Test.YtgajaoophcljnaaP
import Derived.Test.YtgajaoophcljnaaWdHeap
namespace Go.Proofs.Ytgajaoophcljnaa
open Go Go.Wd
set_option linter.unusedVariables false
set_option linter.unusedSimpArgs false

/-- The cells of a row of refills. -/
def encR : List (Int × Int) → List Value
  | [] => []
  | p :: r => .int .u64 p.1 :: .int .u64 p.2 :: encR r

theorem encR_length : ∀ l, (encR l).length = l.length * 2
  | [] => rfl
  | p :: r => by simp [encR, encR_length r]; omega

theorem encR_fst : ∀ (l : List (Int × Int)) (i : Nat) (p : Int × Int), l[i]? = some p → (encR l)[i * 2]? = some (.int .u64 p.1)
  | q :: r, 0, p, h => by simp at h; subst h; rfl
  | q :: r, i + 1, p, h => by
    rw [show (i + 1) * 2 = i * 2 + 2 by omega]
    simpa [encR] using encR_fst r i p (by simpa using h)

theorem encR_snd : ∀ (l : List (Int × Int)) (i : Nat) (p : Int × Int), l[i]? = some p → (encR l)[i * 2 + 1]? = some (.int .u64 p.2)
  | q :: r, 0, p, h => by simp at h; subst h; rfl
  | q :: r, i + 1, p, h => by
    rw [show (i + 1) * 2 + 1 = (i * 2 + 1) + 2 by omega]
    simpa [encR] using encR_snd r i p (by simpa using h)

theorem encR_set : ∀ (l : List (Int × Int)) (i : Nat) (p : Int × Int), i < l.length → ((encR l).set (i * 2) (.int .u64 p.1)).set (i * 2 + 1) (.int .u64 p.2) = encR (l.set i p)
  | q :: r, 0, p, h => by simp [encR]
  | q :: r, i + 1, p, h => by
    rw [show (i + 1) * 2 = i * 2 + 2 by omega]
    simp only [encR, List.set_cons_succ, List.cons.injEq, true_and]
    exact encR_set r i p (by simpa using h)

/-- A row at rest: the ring, where it begins, how many, the sum. -/
structure RowRaw (h : Hp) (q r : Nat) (ring : List (Int × Int)) (first count : Nat) (total : Int) : Prop where
  hq : bk h q = some (blk 51 [.slice (some ⟨r, 0, none⟩) ring.length ring.length, .int .i64 first, .int .i64 count, .int .u64 total])
  hr : bk h r = some (blk 36 (encR ring))
  n1 : 1 ≤ ring.length
  n2 : ring.length ≤ 16
  hf : first < ring.length
  hc : count ≤ ring.length

theorem RowRaw.ne {h : Hp} {q r : Nat} {ring : List (Int × Int)} {first count : Nat} {total : Int} (w : RowRaw h q r ring first count total) : q ≠ r := by
  rintro rfl
  have := w.hq.symm.trans w.hr
  simp [blk] at this

theorem mod_sum (a b n : Nat) : ((a : Int) + (b : Int)) % (n : Int) = (((a + b) % n : Nat) : Int) := by
  rw [Int.natCast_emod, Int.natCast_add]

theorem at_spec {h : Hp} {q r : Nat} {ring : List (Int × Int)} {first count : Nat} {total : Int} (w : RowRaw h q r ring first count total) (k : Nat) (hk : k ≤ 16) :
    CallsH Try.prog 20 [.pointer (some ⟨q, 0, none⟩), .int .i64 (k : Int)] h fun v h' => v = .pointer (some ⟨r, (first + k) % ring.length * 2, none⟩) ∧ h' = h := by
  apply refill_Row_at.calls
  unfold refill_Row_at.P
  have h1 := w.hf
  have h2 := w.n2
  have h3 := w.n1
  have hw : IntKind.wrap .i64 ((first : Int) + (k : Int)) = (first : Int) + (k : Int) := wrap_i64 (by omega) (by omega)
  have hm : Int.tmod ((first : Int) + (k : Int)) (ring.length : Int) = (((first + k) % ring.length : Nat) : Int) := by
    rw [tmod_nat (by omega), mod_sum]
  have hlt : (first + k) % ring.length < ring.length := Nat.mod_lt _ w.n1
  simp only [cellAt_of w.hq, Nat.zero_add, List.getElem?_cons_zero, List.getElem?_cons_succ, Option.some.injEq, Value.slice.injEq, Value.int.injEq, true_and, exists_and_left, exists_eq_left', and_assoc, hw, hm, Addr.mk.injEq, and_true]
  refine ⟨by omega, by omega, by omega, ?_⟩
  simp
  rw [mod_sum]; rfl

theorem last_none {h : Hp} {q r : Nat} {ring : List (Int × Int)} {first : Nat} {total : Int} (w : RowRaw h q r ring first 0 total) :
    CallsH Try.prog 19 [.pointer (some ⟨q, 0, none⟩)] h fun v h' => v = .pointer none ∧ h' = h := by
  apply refill_Row_last.calls
  unfold refill_Row_last.P
  simp [cellAt_of w.hq]

theorem last_some {h : Hp} {q r : Nat} {ring : List (Int × Int)} {first count : Nat} {total : Int} (w : RowRaw h q r ring first count total) (hc : 0 < count) :
    CallsH Try.prog 19 [.pointer (some ⟨q, 0, none⟩)] h fun v h' => v = .pointer (some ⟨r, (first + (count - 1)) % ring.length * 2, none⟩) ∧ h' = h := by
  apply refill_Row_last.calls
  unfold refill_Row_last.P
  have hw : IntKind.wrap .i64 ((count : Int) - 1) = ((count - 1 : Nat) : Int) := by
    have := w.hc; have := w.n2
    rw [wrap_i64 (by omega) (by omega)]; omega
  have h1 := w.hc
  have h2 := w.n2
  simp [cellAt_of w.hq, hw]
  refine ⟨by omega, fun _ => ?_⟩
  refine (at_spec w (count - 1) (by omega)).mono ?_
  rintro v h' ⟨rfl, rfl⟩
  simp

def LC : Int := 4611686018427387904

def sumA : List (Int × Int) → Int
  | [] => 0
  | p :: r => p.2 + sumA r

/-- What is kept of a row: the refills in their order. -/
structure RowRep (h : Hp) (q r n : Nat) (L : List (Int × Int)) (total : Int) (ring : List (Int × Int)) (first : Nat) : Prop where
  raw : RowRaw h q r ring first L.length total
  n : ring.length = n
  at_ : ∀ k, k < L.length → ring[(first + k) % ring.length]? = L[k]?

theorem ring_get {h : Hp} {q r n : Nat} {L : List (Int × Int)} {total : Int} {ring : List (Int × Int)} {first : Nat} (w : RowRep h q r n L total ring first) {k : Nat} {p : Int × Int} (hp : L[k]? = some p) :
    cellAt h r ((first + k) % ring.length * 2) = some (.int .u64 p.1) ∧ cellAt h r ((first + k) % ring.length * 2 + 1) = some (.int .u64 p.2) := by
  have hk := (List.getElem?_eq_some_iff.1 hp).1
  have := w.at_ k hk
  rw [hp] at this
  rw [cellAt_of w.raw.hr, cellAt_of w.raw.hr]
  exact ⟨encR_fst _ _ _ this, encR_snd _ _ _ this⟩

/-- Push of nothing that is in order. -/
theorem push_bad {h : Hp} {q r n : Nat} {L : List (Int × Int)} {total : Int} {ring : List (Int × Int)} {first : Nat} (w : RowRep h q r n L total ring first) (at_ am : Int)
    (hbad : am = 0 ∨ am > LC ∨ at_ > LC ∨ ∃ p, L.getLast? = some p ∧ at_ < p.1) :
    CallsH Try.prog 9 [.pointer (some ⟨q, 0, none⟩), .int .u64 at_, .int .u64 am] h fun v h' => v = .int .i64 11 ∧ h' = h := by
  apply refill_Row_Push.calls
  unfold refill_Row_Push.P
  rcases nil_or_snoc L with rfl | ⟨L', p, rfl⟩
  · refine (last_none w.raw).mono ?_
    rintro v h' ⟨rfl, rfl⟩
    by_cases c1 : am = 0
    · simp [c1]
    by_cases c2 : am > LC
    · simp [LC] at c2; simp [c1, c2]
    by_cases c3 : at_ > LC
    · simp [LC] at c2 c3; simp [c1, c2, c3]
    · simp at hbad; exfalso; rcases hbad with h | h | h <;> contradiction
  · refine (last_some w.raw (by simp)).mono ?_
    rintro v h' ⟨rfl, rfl⟩
    have hg := ring_get w (k := L'.length) (p := p) (by simp)
    by_cases c1 : am = 0
    · simp [c1]
    by_cases c2 : am > LC
    · simp [LC] at c2; simp [c1, c2]
    by_cases c3 : at_ > LC
    · simp [LC] at c2 c3; simp [c1, c2, c3]
    · have c4 : at_ < p.1 := by
        simp [c1, c2, c3] at hbad; exact hbad
      simp [LC] at c2 c3
      have n2 : ¬ (4611686018427387904 < am) := by omega
      have n3 : ¬ (4611686018427387904 < at_) := by omega
      have n4 : ¬ (p.1 ≤ at_) := by omega
      simp [and_assoc, c1, n2, n3, notIf, hg.1, c4, n4]

theorem push_many {h : Hp} {q r n : Nat} {L : List (Int × Int)} {total : Int} {ring : List (Int × Int)} {first : Nat} (w : RowRep h q r n L total ring first) (at_ am : Int)
    (c1 : 0 < am) (c2 : am ≤ LC) (c3 : at_ ≤ LC) (c4 : ∀ p, L.getLast? = some p → p.1 ≤ at_) (t0 : 0 ≤ total) (t1 : total ≤ LC) (hm : LC - total < am) :
    CallsH Try.prog 9 [.pointer (some ⟨q, 0, none⟩), .int .u64 at_, .int .u64 am] h fun v h' => v = .int .i64 14 ∧ h' = h := by
  apply refill_Row_Push.calls
  unfold refill_Row_Push.P
  simp only [LC] at *
  have hw : IntKind.wrap .u64 (4611686018427387904 - total) = 4611686018427387904 - total := wrap_u64 (by omega) (by omega)
  have n1 : ¬ am = 0 := by omega
  have n2 : ¬ (4611686018427387904 < am) := by omega
  have n3 : ¬ (4611686018427387904 < at_) := by omega
  have n5 : ¬ (am ≤ 4611686018427387904 - total) := by omega
  rcases nil_or_snoc L with rfl | ⟨L', p, rfl⟩
  · refine (last_none w.raw).mono ?_
    rintro v h' ⟨rfl, rfl⟩
    simp [and_assoc, n1, n2, n3, notIf, cellAt_of w.raw.hq, hw, n5, hm]
  · refine (last_some w.raw (by simp)).mono ?_
    rintro v h' ⟨rfl, rfl⟩
    have hg := ring_get w (k := L'.length) (p := p) (by simp)
    have n4 : ¬ (at_ < p.1) := by have := c4 p (by simp); omega
    have n4' : p.1 ≤ at_ := by omega
    simp [and_assoc, n1, n2, n3, notIf, hg.1, n4, n4', cellAt_of w.raw.hq, hw, n5, hm]

theorem push_first {h : Hp} {q r n : Nat} {total : Int} {ring : List (Int × Int)} {first : Nat} (w : RowRep h q r n [] total ring first) (at_ am : Int)
    (c1 : 0 < am) (c2 : am ≤ LC) (c3 : at_ ≤ LC) (t0 : 0 ≤ total) (t1 : total ≤ LC) (hm : am ≤ LC - total) :
    CallsH Try.prog 9 [.pointer (some ⟨q, 0, none⟩), .int .u64 at_, .int .u64 am] h fun v h' => v = .int .i64 0 ∧ RowRep h' q r n [(at_, am)] (total + am) (ring.set first (at_, am)) first ∧ Fr [q, r] h h' ∧ sz h' = sz h := by
  apply refill_Row_Push.calls
  unfold refill_Row_Push.P
  simp only [LC] at *
  have hw : IntKind.wrap .u64 (4611686018427387904 - total) = 4611686018427387904 - total := wrap_u64 (by omega) (by omega)
  have hw2 : IntKind.wrap .u64 (total + am) = total + am := wrap_u64 (by omega) (by omega)
  have hw3 : IntKind.wrap .i64 1 = 1 := wrap_i64 (by omega) (by omega)
  have n1 : ¬ am = 0 := by omega
  have n2 : ¬ (4611686018427387904 < am) := by omega
  have n3 : ¬ (4611686018427387904 < at_) := by omega
  have n5 : ¬ (4611686018427387904 - total < am) := by omega
  have hq := w.raw.hq
  have hr := w.raw.hr
  have hne := w.raw.ne
  have lq := lt_of_bk hq
  have lr := lt_of_bk hr
  have k1 := w.raw.n1
  have k2 := w.raw.n2
  have k3 := w.raw.hf
  refine (last_none w.raw).mono ?_
  rintro v h' ⟨rfl, rfl⟩
  simp [and_assoc, n1, n2, n3, notIf, cellAt_of hq, hw, n5, hm, hq, hw2, hw3, writeAt, cellAt_upd, bk_upd, sz_upd, lq, upd_upd]
  generalize hh : upd h' q 51 _ = h1
  have hq1 := bk_of_upd hh lq
  have hr1 : bk h1 r = some (blk 36 (encR ring)) := by rw [← hh, bk_upd lq, if_neg hne.symm]; exact hr
  have f1 : Fr [q] h' h1 := by rw [← hh]; exact Fr.upd (by simp) _ _ _
  have s1 : sz h1 = sz h' := by rw [← hh, sz_upd]
  have w1 : RowRaw h1 q r ring first 1 (total + am) := ⟨hq1, hr1, k1, k2, k3, k1⟩
  clear hh
  refine (last_some w1 (by simp)).mono ?_
  rintro v h8 ⟨rfl, rfl⟩
  have lr1 := lt_of_bk hr1
  have hmod : first % ring.length = first := Nat.mod_eq_of_lt k3
  simp [and_assoc, hr1, hmod, encR_length, s1]
  refine ⟨by omega, ?_, ?_⟩
  · rw [encR_set ring first (at_, am) k3]
    refine ⟨⟨?_, ?_, by simpa using k1, by simpa using k2, by simpa using k3, by simpa using k1⟩, by simpa using w.n, ?_⟩
    · rw [bk_upd lr1, if_neg hne]; simpa using hq1
    · rw [bk_upd lr1, if_pos rfl]
    · intro k hk
      simp at hk; subst hk
      simp [hmod, k3]
  · exact (f1.mono (by simp)).trans (Fr.upd (by simp) _ _ _)

/-- The last one is made later, and more. -/
theorem push_merge {h : Hp} {q r n : Nat} {L : List (Int × Int)} {p : Int × Int} {total : Int} {ring : List (Int × Int)} {first : Nat} (w : RowRep h q r n (L ++ [p]) total ring first) (at_ am : Int)
    (c1 : 0 < am) (c2 : am ≤ LC) (c3 : at_ ≤ LC) (c4 : p.1 ≤ at_) (t0 : 0 ≤ total) (t1 : total ≤ LC) (hm : am ≤ LC - total) (p0 : 0 ≤ p.2) (p1 : p.2 ≤ total) (hw : L.length + 1 = n ∨ p.1 = at_) :
    CallsH Try.prog 9 [.pointer (some ⟨q, 0, none⟩), .int .u64 at_, .int .u64 am] h fun v h' => v = .int .i64 0 ∧
      RowRep h' q r n (L ++ [(at_, p.2 + am)]) (total + am) (ring.set ((first + L.length) % ring.length) (at_, p.2 + am)) first ∧ Fr [q, r] h h' ∧ sz h' = sz h := by
  apply refill_Row_Push.calls
  unfold refill_Row_Push.P
  simp only [LC] at *
  have hw1 : IntKind.wrap .u64 (4611686018427387904 - total) = 4611686018427387904 - total := wrap_u64 (by omega) (by omega)
  have hw2 : IntKind.wrap .u64 (total + am) = total + am := wrap_u64 (by omega) (by omega)
  have hw3 : IntKind.wrap .u64 (p.2 + am) = p.2 + am := wrap_u64 (by omega) (by omega)
  have n1 : ¬ am = 0 := by omega
  have n2 : ¬ (4611686018427387904 < am) := by omega
  have n3 : ¬ (4611686018427387904 < at_) := by omega
  have n4 : ¬ (at_ < p.1) := by omega
  have n5 : ¬ (4611686018427387904 - total < am) := by omega
  have hq := w.raw.hq
  have hr := w.raw.hr
  have hne := w.raw.ne
  have lq := lt_of_bk hq
  have lr := lt_of_bk hr
  have k1 := w.raw.n1
  have k2 := w.raw.n2
  have k3 := w.raw.hf
  have hg := ring_get w (k := L.length) (p := p) (by simp)
  have hn := w.n
  have hlt : (first + L.length) % ring.length < ring.length := Nat.mod_lt _ k1
  have hend : ∀ h2 : Hp, h2 = upd h q 51 [.slice (some ⟨r, 0, none⟩) ring.length ring.length, .int .i64 first, .int .i64 ((L.length : Int) + 1), .int .u64 (total + am)] →
      RowRep (upd h2 r 36 (encR (ring.set ((first + L.length) % ring.length) (at_, p.2 + am)))) q r n (L ++ [(at_, p.2 + am)]) (total + am) (ring.set ((first + L.length) % ring.length) (at_, p.2 + am)) first ∧
      Fr [q, r] h (upd h2 r 36 (encR (ring.set ((first + L.length) % ring.length) (at_, p.2 + am)))) := by
    rintro h2 rfl
    refine ⟨⟨⟨?_, ?_, by simpa using k1, by simpa using k2, by simpa using k3, by have := w.raw.hc; simpa using this⟩, by simpa using hn, ?_⟩, ?_⟩
    · rw [bk_upd (by rw [sz_upd]; exact lr), if_neg hne, bk_upd lq, if_pos rfl]; simp
    · rw [bk_upd (by rw [sz_upd]; exact lr), if_pos rfl]
    · intro k hk
      simp at hk
      rw [List.length_set, List.getElem?_set]
      by_cases hkl : k = L.length
      · subst hkl; simp [hlt]
      · have hk' : k < L.length := by omega
        have hc := w.raw.hc
        simp at hc
        have hdiff : (first + L.length) % ring.length ≠ (first + k) % ring.length := by
          intro e
          have e1 := Nat.div_add_mod (first + L.length) ring.length
          have e2 := Nat.div_add_mod (first + k) ring.length
          rw [e] at e1
          have : ring.length * ((first + L.length) / ring.length) - ring.length * ((first + k) / ring.length) = L.length - k := by omega
          rw [← Nat.mul_sub] at this
          rcases Nat.eq_zero_or_pos ((first + L.length) / ring.length - (first + k) / ring.length) with z | z
          · rw [z] at this; omega
          · have := Nat.le_mul_of_pos_right ring.length z
            omega
        rw [if_neg hdiff, w.at_ k (by simp; omega), List.getElem?_append_left hk', List.getElem?_append_left hk']
    · exact ((Fr.upd (by simp) _ _ _ : Fr [q] h _).mono (by simp)).trans (Fr.upd (by simp) _ _ _)
  refine (last_some w.raw (by simp)).mono ?_
  rintro v h' ⟨rfl, rfl⟩
  have hfin := hend _ rfl
  rw [← encR_set ring _ (at_, p.2 + am) hlt] at hfin
  simp only at hfin
  have le1 : (first + L.length) % ring.length * 2 + 1 + 1 ≤ ring.length * 2 := by omega
  have le2 : (first + L.length) % ring.length * 2 + 1 ≤ ring.length * 2 := by omega
  by_cases e : (L.length : Int) + 1 = (ring.length : Int)
  · simp [and_assoc, n1, n2, n3, notIf, cellAt_of hq, hw1, n5, hm, hq, hw2, hw3, writeAt, cellAt_upd, bk_upd, sz_upd, lq, lr, hr, upd_upd, hg.1, hg.2, hne, hne.symm, c4, n4, e, encR_length, le1, le2]
    simpa [e] using hfin
  · have e2 : p.1 = at_ := by
      rcases hw with h | h
      · exfalso; apply e; rw [← hn] at h; omega
      · exact h
    have n6 : ¬ (at_ < at_) := by omega
    simp [and_assoc, n1, n2, n3, notIf, cellAt_of hq, hw1, n5, hm, hq, hw2, hw3, writeAt, cellAt_upd, bk_upd, sz_upd, lq, lr, hr, upd_upd, hg.1, hg.2, hne, hne.symm, e, e2, encR_length, le1, le2]
    simpa using hfin

theorem mod_ne {n a b f : Nat} (h : a < b) (hb : b < n) : (f + a) % n ≠ (f + b) % n := by
  intro e
  have e1 := Nat.div_add_mod (f + b) n
  have e2 := Nat.div_add_mod (f + a) n
  rw [← e] at e1
  have h3 : n * ((f + b) / n) - n * ((f + a) / n) = b - a := by omega
  rw [← Nat.mul_sub] at h3
  rcases Nat.eq_zero_or_pos ((f + b) / n - (f + a) / n) with z | z
  · rw [z] at h3; omega
  · have := Nat.le_mul_of_pos_right n z
    omega

/-- One more. -/
theorem push_more {h : Hp} {q r n : Nat} {L : List (Int × Int)} {p : Int × Int} {total : Int} {ring : List (Int × Int)} {first : Nat} (w : RowRep h q r n (L ++ [p]) total ring first) (at_ am : Int)
    (c1 : 0 < am) (c2 : am ≤ LC) (c3 : at_ ≤ LC) (c4 : p.1 < at_) (t0 : 0 ≤ total) (t1 : total ≤ LC) (hm : am ≤ LC - total) (hw : L.length + 1 < n) :
    CallsH Try.prog 9 [.pointer (some ⟨q, 0, none⟩), .int .u64 at_, .int .u64 am] h fun v h' => v = .int .i64 0 ∧
      RowRep h' q r n (L ++ [p] ++ [(at_, am)]) (total + am) (ring.set ((first + (L.length + 1)) % ring.length) (at_, am)) first ∧ Fr [q, r] h h' ∧ sz h' = sz h := by
  apply refill_Row_Push.calls
  unfold refill_Row_Push.P
  simp only [LC] at *
  have hw1 : IntKind.wrap .u64 (4611686018427387904 - total) = 4611686018427387904 - total := wrap_u64 (by omega) (by omega)
  have hw2 : IntKind.wrap .u64 (total + am) = total + am := wrap_u64 (by omega) (by omega)
  have n1 : ¬ am = 0 := by omega
  have n2 : ¬ (4611686018427387904 < am) := by omega
  have n3 : ¬ (4611686018427387904 < at_) := by omega
  have n4 : ¬ (at_ < p.1) := by omega
  have n4' : p.1 ≤ at_ := by omega
  have n5 : ¬ (4611686018427387904 - total < am) := by omega
  have n6 : ¬ (p.1 = at_) := by omega
  have hq := w.raw.hq
  have hr := w.raw.hr
  have hne := w.raw.ne
  have lq := lt_of_bk hq
  have lr := lt_of_bk hr
  have k1 := w.raw.n1
  have k2 := w.raw.n2
  have k3 := w.raw.hf
  have hg := ring_get w (k := L.length) (p := p) (by simp)
  have hn := w.n
  have hlt : (first + (L.length + 1)) % ring.length < ring.length := Nat.mod_lt _ k1
  have e : ¬ ((L.length : Int) + 1 = (ring.length : Int)) := by omega
  have hw3 : IntKind.wrap .i64 ((L.length : Int) + 1 + 1) = (L.length : Int) + 1 + 1 := wrap_i64 (by omega) (by omega)
  refine (last_some w.raw (by simp)).mono ?_
  rintro v h' ⟨rfl, rfl⟩
  simp [and_assoc, n1, n2, n3, notIf, cellAt_of hq, hw1, n5, hm, hq, hw2, hw3, writeAt, cellAt_upd, bk_upd, sz_upd, lq, lr, hr, upd_upd, hg.1, hg.2, hne, hne.symm, n4, n4', e, n6]
  generalize hh : upd h' q 51 _ = h1
  have hq1 := bk_of_upd hh lq
  have hr1 : bk h1 r = some (blk 36 (encR ring)) := by rw [← hh, bk_upd lq, if_neg hne.symm]; exact hr
  have f1 : Fr [q] h' h1 := by rw [← hh]; exact Fr.upd (by simp) _ _ _
  have s1 : sz h1 = sz h' := by rw [← hh, sz_upd]
  have w1 : RowRaw h1 q r ring first (L.length + 1 + 1) (total + am) := ⟨by simpa using hq1, hr1, k1, k2, k3, by omega⟩
  clear hh
  refine (last_some w1 (by simp)).mono ?_
  rintro v h8 ⟨rfl, rfl⟩
  have lr1 := lt_of_bk hr1
  simp [and_assoc, hr1, encR_length, s1]
  refine ⟨by omega, ?_, ?_⟩
  · rw [encR_set ring _ (at_, am) hlt]
    refine ⟨⟨?_, ?_, by simpa using k1, by simpa using k2, by simpa using k3, by simp; omega⟩, by simpa using w.n, ?_⟩
    · rw [bk_upd lr1, if_neg hne]; simp [show (L.length : Int) + 2 = (L.length : Int) + 1 + 1 by omega]; simpa using hq1
    · rw [bk_upd lr1, if_pos rfl]
    · intro k hk
      simp at hk
      rw [List.length_set, List.getElem?_set]
      by_cases hkl : k = L.length + 1
      · subst hkl; simp [hlt]
      · rw [if_neg (fun e => mod_ne (n := ring.length) (f := first) (a := k) (b := L.length + 1) (by omega) (by omega) e.symm), w.at_ k (by simp; omega)]
        rw [show L ++ [p, (at_, am)] = (L ++ [p]) ++ [(at_, am)] by simp, List.getElem?_append_left (l₁ := L ++ [p]) (by simp; omega)]
  · exact (f1.mono (by simp)).trans (Fr.upd (by simp) _ _ _)
end Go.Proofs.Ytgajaoophcljnaa
