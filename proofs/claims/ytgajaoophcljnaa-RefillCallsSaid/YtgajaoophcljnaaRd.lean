import Derived.Test.YtgajaoophcljnaaRc
namespace Go.Proofs.Ytgajaoophcljnaa
open Go Go.Wd
set_option linter.unusedVariables false
set_option linter.unusedSimpArgs false

/-! ## the plain row -/
structure Good (L : List (Int × Int)) : Prop where
  each : ∀ p ∈ L, 0 ≤ p.1 ∧ p.1 ≤ LC ∧ 0 < p.2
  sorted : L.Pairwise fun p q => p.1 ≤ q.1
  sum : sumA L ≤ LC

def lateB (L : List (Int × Int)) (t : Int) : Bool := match L.getLast? with | some p => decide (t < p.1) | none => false
def pushE (L : List (Int × Int)) (t m : Int) : Int := if m = 0 ∨ m > LC ∨ t > LC ∨ lateB L t = true then 11 else if LC - sumA L < m then 14 else 0
def pushed (n : Nat) (L : List (Int × Int)) (t m : Int) : List (Int × Int) :=
  match L.getLast? with
  | none => [(t, m)]
  | some p => if L.length = n ∨ p.1 = t then L.dropLast ++ [(t, p.2 + m)] else L ++ [(t, m)]
def pushL (n : Nat) (L : List (Int × Int)) (t m : Int) : List (Int × Int) := if pushE L t m = 0 then pushed n L t m else L

theorem pushE_zero {L : List (Int × Int)} {t m : Int} (h0 : 0 ≤ m) (h : pushE L t m = 0) : 0 < m ∧ m ≤ LC ∧ t ≤ LC ∧ (∀ p, L.getLast? = some p → p.1 ≤ t) ∧ m ≤ LC - sumA L := by
  unfold pushE at h
  split at h
  · cases h
  · rename_i h1
    split at h
    · cases h
    · rename_i h2
      simp only [not_or] at h1
      obtain ⟨a, b, c, d⟩ := h1
      refine ⟨by omega, by omega, by omega, fun p hp => ?_, by omega⟩
      simp only [lateB, hp, decide_eq_true_eq] at d
      omega

theorem pushed_snoc (n : Nat) (L : List (Int × Int)) (p : Int × Int) (t m : Int) :
    pushed n (L ++ [p]) t m = if L.length + 1 = n ∨ p.1 = t then L ++ [(t, p.2 + m)] else L ++ [p] ++ [(t, m)] := by
  simp [pushed]

theorem sumA_pushed (n : Nat) (L : List (Int × Int)) (t m : Int) : sumA (pushed n L t m) = sumA L + m := by
  rcases nil_or_snoc L with rfl | ⟨L, p, rfl⟩
  · simp [pushed, sumA]
  · rw [pushed_snoc]
    split <;> simp [sumA_append, sumA] <;> omega

theorem good_pushed {n : Nat} {L : List (Int × Int)} {t m : Int} (g : Good L) (h0 : 0 ≤ t) (hm : 0 ≤ m) (h : pushE L t m = 0) : Good (pushed n L t m) := by
  obtain ⟨h1, h2, h3, h4, h5⟩ := pushE_zero hm h
  refine ⟨?_, ?_, by rw [sumA_pushed]; omega⟩
  · rcases nil_or_snoc L with rfl | ⟨L, p, rfl⟩
    · simp [pushed]; exact ⟨h0, h3, h1⟩
    · rw [pushed_snoc]
      have gp := g.each p (by simp)
      split
      · intro q hq
        rcases List.mem_append.1 hq with hq | hq
        · exact g.each q (by simp [hq])
        · simp at hq; subst hq; exact ⟨h0, h3, by simp; omega⟩
      · intro q hq
        rcases List.mem_append.1 hq with hq | hq
        · exact g.each q hq
        · simp at hq; subst hq; exact ⟨h0, h3, h1⟩
  · rcases nil_or_snoc L with rfl | ⟨L, p, rfl⟩
    · simp [pushed]
    · rw [pushed_snoc]
      have hp := h4 p (by simp)
      have gs := List.pairwise_append.1 g.sorted
      split
      · refine List.pairwise_append.2 ⟨gs.1, by simp, fun x hx y hy => ?_⟩
        simp at hy; subst hy
        have := gs.2.2 x hx p (by simp)
        simp; omega
      · refine List.pairwise_append.2 ⟨g.sorted, by simp, fun x hx y hy => ?_⟩
        simp at hy; subst hy
        rcases List.mem_append.1 hx with hx | hx
        · have := gs.2.2 x hx p (by simp)
          simp; omega
        · simp at hx; subst hx; exact hp

theorem good_pushL {n : Nat} {L : List (Int × Int)} {t m : Int} (g : Good L) (h0 : 0 ≤ t) (hm : 0 ≤ m) : Good (pushL n L t m) := by
  unfold pushL
  split
  · rename_i h; exact good_pushed g h0 hm h
  · exact g

theorem length_pushed {n : Nat} {L : List (Int × Int)} {t m : Int} (hn : 1 ≤ n) (h : L.length ≤ n) : (pushed n L t m).length ≤ n := by
  rcases nil_or_snoc L with rfl | ⟨L, p, rfl⟩
  · simp [pushed]; omega
  · rw [pushed_snoc]
    simp at h
    split
    · simp; omega
    · rename_i h2; simp; omega

theorem Good.nonneg {L : List (Int × Int)} (g : Good L) : 0 ≤ sumA L := sumA_nonneg L fun p hp => by have := g.each p hp; omega
theorem Good.nil : Good [] := ⟨by simp, by simp, by simp [sumA, LC]⟩

/-- A row in memory and in the plain. -/
structure RowS (h : Hp) (q r n : Nat) (L : List (Int × Int)) : Prop where
  row : Row h q r n L (sumA L)
  good : Good L

theorem RowS.fr {h h' : Hp} {q r n : Nat} {L : List (Int × Int)} (w : RowS h q r n L) {F : List Nat} (f : Fr F h h') (h1 : q ∉ F) (h2 : r ∉ F) : RowS h' q r n L := ⟨w.row.fr f h1 h2, w.good⟩

theorem rpush {h : Hp} {q r n : Nat} {L : List (Int × Int)} (w : RowS h q r n L) {t m : Int} (h0 : 0 ≤ t) (hm : 0 ≤ m) :
    CallsH Try.prog 9 [.pointer (some ⟨q, 0, none⟩), .int .u64 t, .int .u64 m] h fun v h' => v = .int .i64 (pushE L t m) ∧ RowS h' q r n (pushL n L t m) ∧ Fr [q, r] h h' ∧ sz h' = sz h := by
  have hn := w.row.lt
  obtain ⟨ring, first, w1⟩ := w.row
  have hnn := w.good.nonneg
  have hsum := w.good.sum
  by_cases hb : m = 0 ∨ m > LC ∨ t > LC ∨ lateB L t = true
  · have he : pushE L t m = 11 := by simp only [pushE]; rw [if_pos hb]
    refine (push_bad w1 t m ?_).mono ?_
    · rcases hb with h | h | h | h
      · exact .inl h
      · exact .inr (.inl h)
      · exact .inr (.inr (.inl h))
      · refine .inr (.inr (.inr ?_))
        unfold lateB at h
        split at h
        · rename_i p hp; exact ⟨p, hp, by simpa using h⟩
        · cases h
    · rintro v h' ⟨rfl, rfl⟩
      have : pushL n L t m = L := by simp [pushL, he]
      rw [he, this]
      exact ⟨rfl, w, Fr.refl _ _, rfl⟩
  · have hb' := hb
    simp only [not_or] at hb
    obtain ⟨b1, b2, b3, b4⟩ := hb
    have hlast : ∀ p, L.getLast? = some p → p.1 ≤ t := by
      intro p hp
      simp only [lateB, hp, decide_eq_true_eq] at b4
      omega
    by_cases hs : LC - sumA L < m
    · have he : pushE L t m = 14 := by simp only [pushE]; rw [if_neg hb', if_pos hs]
      refine (push_many w1 t m (by omega) (by omega) (by omega) hlast hnn hsum hs).mono ?_
      rintro v h' ⟨rfl, rfl⟩
      have : pushL n L t m = L := by simp [pushL, he]
      rw [he, this]
      exact ⟨rfl, w, Fr.refl _ _, rfl⟩
    · have he : pushE L t m = 0 := by simp only [pushE]; rw [if_neg hb', if_neg hs]
      have hL : pushL n L t m = pushed n L t m := by simp [pushL, he]
      have hg := good_pushed (n := n) w.good h0 hm he
      have hsm := sumA_pushed n L t m
      rw [he, hL]
      rcases nil_or_snoc L with rfl | ⟨L', p, rfl⟩
      · refine (push_first w1 t m (by omega) (by omega) (by omega) hnn hsum (by omega)).mono ?_
        rintro v h' ⟨rfl, w2, f, s⟩
        exact ⟨rfl, ⟨⟨_, _, by rw [hsm]; exact w2⟩, hg⟩, f, s⟩
      · rw [pushed_snoc] at hg hsm ⊢
        have gp := w.good.each p (by simp)
        by_cases hc : L'.length + 1 = n ∨ p.1 = t
        · rw [if_pos hc] at hg hsm ⊢
          have hpl : p.2 ≤ sumA (L' ++ [p]) := by
            rw [sumA_append]
            have := sumA_nonneg L' fun q hq => by have := w.good.each q (by simp [hq]); omega
            simp [sumA]; omega
          refine (push_merge w1 t m (by omega) (by omega) (by omega) (hlast p (by simp)) hnn hsum (by omega) (by omega) hpl hc).mono ?_
          rintro v h' ⟨rfl, w2, f, s⟩
          exact ⟨rfl, ⟨⟨_, _, by rw [hsm]; exact w2⟩, hg⟩, f, s⟩
        · rw [if_neg hc] at hg hsm ⊢
          simp only [not_or] at hc
          have hpt := hlast p (by simp)
          have hln := hn.2.2.2.2.2
          simp at hln
          refine (push_more w1 t m (by omega) (by omega) (by omega) (by omega) hnn hsum (by omega) (by omega)).mono ?_
          rintro v h' ⟨rfl, w2, f, s⟩
          exact ⟨rfl, ⟨⟨_, _, by rw [hsm]; exact w2⟩, hg⟩, f, s⟩

def dueA (t : Int) (L : List (Int × Int)) : Int := sumA (sumU t L)

theorem split_due (t : Int) (L : List (Int × Int)) : sumU t L ++ restU t L = L := by
  unfold sumU restU; exact List.takeWhile_append_dropWhile

theorem sum_rest (t : Int) (L : List (Int × Int)) : sumA (restU t L) = sumA L - dueA t L := by
  have := sumA_append (sumU t L) (restU t L)
  rw [split_due] at this
  unfold dueA; omega

theorem good_rest {t : Int} {L : List (Int × Int)} (g : Good L) : Good (restU t L) ∧ 0 ≤ dueA t L := by
  have hs := split_due t L
  have h1 : ∀ p ∈ restU t L, p ∈ L := fun p hp => by rw [← hs]; simp [hp]
  have h2 : ∀ p ∈ sumU t L, p ∈ L := fun p hp => by rw [← hs]; simp [hp]
  have hd : 0 ≤ dueA t L := sumA_nonneg _ fun p hp => by have := g.each p (h2 p hp); omega
  have hp : (sumU t L ++ restU t L).Pairwise fun p q => p.1 ≤ q.1 := by rw [hs]; exact g.sorted
  refine ⟨⟨fun p hp => g.each p (h1 p hp), (List.pairwise_append.1 hp).2.1, ?_⟩, hd⟩
  rw [sum_rest]; have := g.sum; omega

theorem rtake {h : Hp} {q r n : Nat} {L : List (Int × Int)} (w : RowS h q r n L) (t : Int) :
    CallsH Try.prog 11 [.pointer (some ⟨q, 0, none⟩), .int .u64 t] h fun v h' => v = .int .u64 (dueA t L) ∧ RowS h' q r n (restU t L) ∧ Fr [q, r] h h' ∧ sz h' = sz h := by
  refine (take_spec w.row t (fun p hp => by have := w.good.each p hp; omega) w.good.sum rfl).mono ?_
  rintro v h' ⟨rfl, w2, f, s⟩
  refine ⟨rfl, ⟨?_, (good_rest w.good).1⟩, f, s⟩
  rw [sum_rest]; exact w2

theorem rnew {h : Hp} (n : Nat) (h1 : 1 ≤ n) (h2 : n ≤ 16) :
    CallsH Try.prog 8 [.int .i64 (n : Int)] h fun v h' => v = .tuple #[.pointer (some ⟨sz h + 1, 0, none⟩), .int .i64 0] ∧ RowS h' (sz h + 1) (sz h) n [] ∧ Fr [] h h' ∧ sz h' = sz h + 2 := by
  refine (new_good n h1 h2).mono ?_
  rintro v h' ⟨rfl, w, f, s⟩
  exact ⟨rfl, ⟨w, Good.nil⟩, f, s⟩

theorem rclear {h : Hp} {q r n : Nat} {L : List (Int × Int)} (w : RowS h q r n L) :
    CallsH Try.prog 15 [.pointer (some ⟨q, 0, none⟩)] h fun v h' => v = .tuple #[] ∧ RowS h' q r n [] ∧ Fr [q, r] h h' ∧ sz h' = sz h := by
  refine (clear_spec w.row).mono ?_
  rintro v h' ⟨rfl, w2, f, s⟩
  exact ⟨rfl, ⟨w2, Good.nil⟩, f, s⟩

/-- The row works at all. -/
theorem alive_spec (h : Hp) : CallsH Try.prog 7 [] h fun v h' => v = .bool true ∧ Fr [] h h' := by
  apply warderlaw16_alive.calls
  unfold warderlaw16_alive.P
  refine (rnew 1 (by omega) (by omega)).mono ?_
  rintro v h1 ⟨rfl, w1, f1, s1⟩
  simp [notIf, and_assoc]
  have e1 : pushE [] 5 2 = 0 := by decide
  have l1 : pushL 1 [] 5 2 = [(5, 2)] := by decide
  have e2 : pushE [(5, 2)] 9 3 = 0 := by decide
  have l2 : pushL 1 [(5, 2)] 9 3 = [(9, 5)] := by decide
  have e3 : pushE [(9, 5)] 8 1 = 11 := by decide
  have l3 : pushL 1 [(9, 5)] 8 1 = [(9, 5)] := by decide
  have d1 : dueA 8 [(9, 5)] = 0 := by decide
  have r1 : restU 8 [(9, 5)] = [(9, 5)] := by decide
  have d2 : dueA 9 [(9, 5)] = 5 := by decide
  have r2 : restU 9 [(9, 5)] = [] := by decide
  refine (rpush w1 (t := 5) (m := 2) (by omega) (by omega)).mono ?_
  rintro v h2 ⟨rfl, w2, f2, s2⟩
  rw [l1] at w2
  rw [e1]
  refine ⟨_, rfl, ?_⟩
  refine (rpush w2 (t := 9) (m := 3) (by omega) (by omega)).mono ?_
  rintro v h3 ⟨rfl, w3, f3, s3⟩
  rw [l2] at w3
  rw [e2]
  refine ⟨_, rfl, ?_⟩
  refine (rpush w3 (t := 8) (m := 1) (by omega) (by omega)).mono ?_
  rintro v h4 ⟨rfl, w4, f4, s4⟩
  rw [l3] at w4
  rw [e3]
  refine ⟨_, rfl, ?_⟩
  refine (list_spec w4.row).mono ?_
  rintro v h5 ⟨a, rfl, fr5, f5⟩
  refine ⟨a, _, ⟨_, rfl⟩, ?_⟩
  have w5 := w4.fr f5 (by simp) (by simp)
  refine (rtake w5 8).mono ?_
  rintro v h6 ⟨rfl, w6, f6, s6⟩
  rw [r1] at w6
  rw [d1]
  refine ⟨_, rfl, ?_⟩
  refine (rtake w6 9).mono ?_
  rintro v h7 ⟨rfl, w7, f7, s7⟩
  rw [r2] at w7
  rw [d2]
  refine ⟨_, rfl, ?_⟩
  have hlt4 := w4.row.lt
  obtain ⟨b, o, rfl, hr⟩ : ∃ b o, a = some ⟨b, o, none⟩ ∧ readAt h5 b o (encR [(9, 5)]) := by
    rcases fr5.row with h | h
    · simp [encR] at h
    · exact h
  have hge := fr5.ge b (by simp [foot])
  have c0 := (f6.trans f7).cell (hr 0 (by simp [encR])) (by simp; omega)
  have c1 := (f6.trans f7).cell (hr 1 (by simp [encR])) (by simp; omega)
  simp only [Nat.add_zero] at c0
  simp [and_assoc, c0, c1]
  refine (total_spec w7.row).mono ?_
  rintro v h8 ⟨rfl, rfl⟩
  refine ⟨_, rfl, rfl, ?_⟩
  refine (((((f1.later f2 ?_).later f3 ?_).later f4 ?_).later f5 ?_).later f6 ?_).later f7 ?_
  all_goals simp
end Go.Proofs.Ytgajaoophcljnaa
