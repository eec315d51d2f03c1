import Derived.Test.YtgajaoophcljnaaRf
namespace Go.Proofs.Ytgajaoophcljnaa
open Go Go.Wd
set_option linter.unusedVariables false
set_option linter.unusedSimpArgs false

/-! ## what has come back by a time -/
def D (s : Int) : List (Int × Int) → Int
  | [] => 0
  | p :: r => (if p.1 ≤ s then p.2 else 0) + D s r

theorem D_append (s : Int) : ∀ a b, D s (a ++ b) = D s a + D s b
  | [], b => by simp [D]
  | p :: a, b => by simp only [List.cons_append, D, D_append s a b]; omega

theorem D_nonneg (s : Int) : ∀ l : List (Int × Int), (∀ p ∈ l, 0 ≤ p.2) → 0 ≤ D s l
  | [], _ => by simp [D]
  | p :: l, h => by
    have h1 := h p List.mem_cons_self
    have h2 := D_nonneg s l fun q hq => h q (List.mem_cons_of_mem _ hq)
    simp only [D]; split <;> omega

theorem D_all (s : Int) : ∀ l : List (Int × Int), (∀ p ∈ l, p.1 ≤ s) → D s l = sumA l
  | [], _ => rfl
  | p :: l, h => by
    have h1 := h p List.mem_cons_self
    have h2 := D_all s l fun q hq => h q (List.mem_cons_of_mem _ hq)
    simp only [D, sumA, h1, if_true, h2]

theorem D_none (s : Int) : ∀ l : List (Int × Int), (∀ p ∈ l, s < p.1) → D s l = 0
  | [], _ => rfl
  | p :: l, h => by
    have h1 := h p List.mem_cons_self
    have h2 := D_none s l fun q hq => h q (List.mem_cons_of_mem _ hq)
    have h3 : ¬ p.1 ≤ s := by omega
    simp only [D, h3, if_false, h2]; rfl

theorem D_le_sum (s : Int) : ∀ l : List (Int × Int), (∀ p ∈ l, 0 ≤ p.2) → D s l ≤ sumA l
  | [], _ => by simp [D, sumA]
  | p :: l, h => by
    have h1 := h p List.mem_cons_self
    have h2 := D_le_sum s l fun q hq => h q (List.mem_cons_of_mem _ hq)
    simp only [D, sumA]; split <;> omega

theorem pos_of (L : List (Int × Int)) (g : Good L) : ∀ p ∈ L, 0 ≤ p.2 := fun p hp => by have := g.each p hp; omega

/-- A push adds at its time at most. -/
theorem D_pushed {n : Nat} {L : List (Int × Int)} {t m : Int} (g : Good L) (hm : 0 ≤ m) (h : pushE L t m = 0) (s : Int) : D s (pushed n L t m) ≤ D s L + (if t ≤ s then m else 0) := by
  obtain ⟨h1, h2, h3, h4, h5⟩ := pushE_zero hm h
  rcases nil_or_snoc L with rfl | ⟨L, p, rfl⟩
  · simp [pushed, D]
  · have hp := h4 p (by simp)
    have gp := (g.each p (by simp)).2.2
    rw [pushed_snoc]
    split
    · simp only [D_append, D]
      split <;> split <;> omega
    · simp only [D_append, D]
      omega

theorem D_pushed_eq {n : Nat} {L : List (Int × Int)} {t m : Int} (hn : L.length < n) (s : Int) : D s (pushed n L t m) = D s L + (if t ≤ s then m else 0) := by
  rcases nil_or_snoc L with rfl | ⟨L, p, rfl⟩
  · simp [pushed, D]
  · rw [pushed_snoc]
    simp at hn
    split
    · rename_i h
      have : p.1 = t := by rcases h with h | h; · omega
                           · exact h
      simp only [D_append, D, this]
      split <;> omega
    · simp only [D_append, D]
      omega

theorem last_pushed (n : Nat) (L : List (Int × Int)) (t m : Int) : ∃ u, (pushed n L t m).getLast? = some (t, u) := by
  rcases nil_or_snoc L with rfl | ⟨L, p, rfl⟩
  · exact ⟨m, rfl⟩
  · rw [pushed_snoc]; split <;> simp

theorem pushE_congr {L M : List (Int × Int)} (hs : sumA L = sumA M) (hl : L.getLast?.map (·.1) = M.getLast?.map (·.1)) (t m : Int) : pushE L t m = pushE M t m := by
  have : lateB L t = lateB M t := by
    unfold lateB
    cases h1 : L.getLast? <;> cases h2 : M.getLast? <;> simp [h1, h2] at hl ⊢
    rw [hl]
  simp only [pushE, this, hs]

/-! ### sorted rows: what is due, what stays -/
theorem restU_spec {s : Int} : ∀ {L : List (Int × Int)}, L.Pairwise (fun p q => p.1 ≤ q.1) → (∀ p ∈ sumU s L, p.1 ≤ s) ∧ (∀ p ∈ restU s L, s < p.1)
  | [], _ => by simp [sumU, restU]
  | p :: L, h => by
    have ⟨h1, h2⟩ := List.pairwise_cons.1 h
    have ih := restU_spec (s := s) h2
    by_cases hp : p.1 ≤ s
    · simp only [sumU, restU, hp, decide_true, List.takeWhile_cons_of_pos, List.dropWhile_cons_of_pos] at ih ⊢
      refine ⟨fun q hq => ?_, ih.2⟩
      rcases List.mem_cons.1 hq with rfl | hq
      · exact hp
      · exact ih.1 q hq
    · have e1 : sumU s (p :: L) = [] := by simp [sumU, hp]
      have e2 : restU s (p :: L) = p :: L := by simp [restU, hp]
      rw [e1, e2]
      refine ⟨by simp, fun q hq => ?_⟩
      rcases List.mem_cons.1 hq with rfl | hq
      · omega
      · have := h1 q hq; omega

theorem due_eq {s : Int} {L : List (Int × Int)} (h : L.Pairwise fun p q => p.1 ≤ q.1) : dueA s L = D s L := by
  have hs := restU_spec (s := s) h
  have e := split_due s L
  have : D s L = D s (sumU s L) + D s (restU s L) := by rw [← D_append, e]
  rw [this, D_all s _ hs.1, D_none s _ hs.2]; simp [dueA]

theorem rest_unique {s : Int} {A B : List (Int × Int)} (hA : ∀ p ∈ A, p.1 ≤ s) (hB : ∀ p ∈ B, s < p.1) : sumU s (A ++ B) = A ∧ restU s (A ++ B) = B := by
  refine while_split hA fun p hp => hB p ?_
  cases B with
  | nil => cases hp
  | cons b B => simp at hp; subst hp; simp

theorem rest_rest {s t : Int} {L : List (Int × Int)} (h : L.Pairwise fun p q => p.1 ≤ q.1) (hst : s ≤ t) : restU t (restU s L) = restU t L ∧ dueA t (restU s L) = D t L - D s L := by
  have hs := restU_spec (s := s) h
  have e := split_due s L
  have hp : (sumU s L ++ restU s L).Pairwise fun p q => p.1 ≤ q.1 := by rw [e]; exact h
  have hr := (List.pairwise_append.1 hp).2.1
  have hr2 := restU_spec (s := t) hr
  have e2 := split_due t (restU s L)
  have e3 : L = (sumU s L ++ sumU t (restU s L)) ++ restU t (restU s L) := by rw [List.append_assoc, e2, e]
  have hu := rest_unique (s := t) (A := sumU s L ++ sumU t (restU s L)) (B := restU t (restU s L)) (fun p hp => by
    rcases List.mem_append.1 hp with hp | hp
    · have := hs.1 p hp; omega
    · exact hr2.1 p hp) hr2.2
  rw [← e3] at hu
  refine ⟨hu.2.symm, ?_⟩
  rw [due_eq hr]
  have h1 : D t L = D t (sumU s L) + D t (restU s L) := by rw [← D_append, e]
  have h2 : D s L = D s (sumU s L) + D s (restU s L) := by rw [← D_append, e]
  rw [h1, h2, D_all t (sumU s L) (fun q hq => by have := hs.1 q hq; omega), D_all s _ hs.1, D_none s _ hs.2]
  omega

theorem rest_low {s : Int} {L : List (Int × Int)} (h : ∀ p ∈ L, s < p.1) : restU s L = L := (rest_unique (s := s) (A := []) (B := L) (by simp) h).2
theorem rest_high {s : Int} {L : List (Int × Int)} (h : ∀ p ∈ L, p.1 ≤ s) : restU s L = [] ∧ sumU s L = L := by
  have := rest_unique (s := s) (A := L) (B := []) h (by simp)
  simp at this
  exact ⟨this.2, this.1⟩

/-! ### two rows that were told the same -/
structure Twin (L M : List (Int × Int)) : Prop where
  sum : sumA L = sumA M
  last : L.getLast?.map (·.1) = M.getLast?.map (·.1)
  le : ∀ s, D s L ≤ D s M

theorem Twin.nil : Twin [] [] := ⟨rfl, rfl, fun _ => Int.le_refl _⟩

theorem Twin.push {n m' : Nat} {L M : List (Int × Int)} {t m : Int} (w : Twin L M) (g : Good L) (hm : 0 ≤ m) (hM : M.length < m') :
    pushE L t m = pushE M t m ∧ Twin (pushL n L t m) (pushL m' M t m) := by
  have he := pushE_congr w.sum w.last t m
  refine ⟨he, ?_⟩
  unfold pushL
  rw [← he]
  split
  · rename_i h
    refine ⟨by rw [sumA_pushed, sumA_pushed, w.sum], ?_, fun s => ?_⟩
    · obtain ⟨u, hu⟩ := last_pushed n L t m
      obtain ⟨v, hv⟩ := last_pushed m' M t m
      rw [hu, hv]; rfl
    · have h1 := D_pushed (n := n) g hm h s
      have h2 := D_pushed_eq (n := m') (L := M) (t := t) (m := m) hM s
      have h3 := w.le s
      omega
  · exact w

theorem length_pushL {n : Nat} {L : List (Int × Int)} {t m : Int} : (pushL n L t m).length ≤ L.length + 1 := by
  unfold pushL
  split
  · rcases nil_or_snoc L with rfl | ⟨L, p, rfl⟩
    · simp [pushed]
    · rw [pushed_snoc]; split <;> simp
  · omega

theorem last_le {L : List (Int × Int)} (h : L.Pairwise fun p q => p.1 ≤ q.1) {s : Int} (hl : L.getLast?.map (·.1) = some s) : ∀ p ∈ L, p.1 ≤ s := by
  rcases nil_or_snoc L with rfl | ⟨L, q, rfl⟩
  · simp at hl
  · simp at hl
    subst hl
    intro p hp
    rcases List.mem_append.1 hp with hp | hp
    · exact (List.pairwise_append.1 h).2.2 p hp q (by simp)
    · simp at hp; subst hp; exact Int.le_refl _
end Go.Proofs.Ytgajaoophcljnaa
