import Derived.Test.YtppoomofmiggcaaLd
namespace Go.Proofs.Ytppoomofmiggcaa
open Go Go.Wd
set_option linter.unusedVariables false
set_option linter.unusedSimpArgs false

/-! ## one line alone -/
def single (k : Nat) (x : Ln) : List Ln := (List.replicate 16 noLn).set k x
theorem single_len (k : Nat) (x : Ln) : (single k x).length = 16 := by simp [single]
theorem single_at {k : Nat} (hk : k < 16) (x : Ln) : (single k x)[k]? = some x := by simp [single, hk]
theorem single_ne {k j : Nat} {x y : Ln} (h : (single k x)[j]? = some y) (hj : j ≠ k) : y = noLn := by
  simp only [single, List.getElem?_set, if_neg hj.symm, List.getElem?_replicate] at h
  split at h
  · cases h; rfl
  · cases h
theorem single_set (k : Nat) (x y : Ln) : (single k x).set k y = single k y := by simp [single]
theorem single_next {k : Nat} (hk : k < 16) (x : Ln) : nextL (single k x) = if x.latched then (k : Int) else -1 := by
  rcases nextL_spec (single_len k x) with ⟨h1, h2⟩ | ⟨m, y, h1, h2, h3, h4, _⟩
  · rw [h1, h2 k x (single_at hk x)]; rfl
  · have hmk : m = k := by
      rcases Nat.lt_trichotomy m k with h | h | h
      · rw [single_ne h3 (by omega)] at h4; cases h4
      · exact h
      · rw [single_ne h3 (by omega)] at h4; cases h4
    subst hmk
    rw [single_at hk x] at h3
    cases h3
    rw [h1, h4]; rfl
theorem single_get {k : Nat} (hk : k < 16) (x : Ln) : getL (single k x) k = x := getL_nat hk (single_at hk x)
theorem single_there {k : Nat} (hk : k < 16) : isThere (k : Int) = true := by simp [isThere]; omega

theorem single_due {k : Nat} (hk : k < 16) (x : Ln) (n : Int) : dueF 16 (single k x) n = if x.latched && decide (due x ≤ n) then ([hitOf k x (due x)], single k (fire x (due x))) else ([], single k x) := by
  have hn := single_next hk x
  have hn2 := single_next hk (fire x (due x))
  simp only [fire, Bool.false_eq_true, if_false] at hn2
  have ha := single_at hk x
  have hk0 : ¬ ((k : Int) < 0) := by omega
  have hneg : ((-1 : Int) < 0) := by omega
  cases hl : x.latched
  · simp only [hl, Bool.false_eq_true, if_false] at hn
    simp only [dueF, hn, hneg, if_true, Bool.false_and, Bool.false_eq_true, if_false]
  · simp only [hl, if_true] at hn
    by_cases hd : due x ≤ n
    · have hd' : ¬ (n < due x) := by omega
      have e : dueF 15 (single k (fire x (due x))) n = ([], single k (fire x (due x))) := by
        simp only [dueF, fire, hn2, hneg, if_true]
      simp only [dueF, hn, hk0, if_false, Int.toNat_natCast, ha, hd', single_set, Bool.true_and, hd, decide_true, if_true]
      simp only [dueF] at e
      rw [e]
    · have hd' : n < due x := by omega
      simp only [dueF, hn, hk0, if_false, Int.toNat_natCast, ha, hd', if_true, Bool.true_and, hd, decide_false, Bool.false_eq_true]

theorem single_arriveO {k : Nat} (hk : k < 16) {x : Ln} (hr : x.routed = true) (n : Int) : arriveO (single k x) k n = if x.latched then ⟨3, noHit⟩ else if opened x n then ⟨1, hitOf k x n⟩ else ⟨2, noHit⟩ := by
  simp only [arriveO, single_there hk, single_get hk, hr, Bool.and_self, if_true]
theorem single_arriveL {k : Nat} (hk : k < 16) {x : Ln} (hr : x.routed = true) (n : Int) : arriveL (single k x) k n = single k (if x.latched then x else if opened x n then fire x n else { x with latched := true }) := by
  simp only [arriveL, single_there hk, single_get hk, hr, Bool.and_self, if_true, Int.toNat_natCast, single_set]
  split
  · rfl
  · split <;> rfl

theorem single_route {k : Nat} (hk : k < 16) {g t gap : Int} (h1 : 2 ≤ g) (h2 : g ≤ 9) (h3 : 0 ≤ t) (h4 : t < 16) (h5 : gap ≤ 1099511627776) :
    routeE (List.replicate 16 noLn) k g t gap = 0 ∧ routeL (List.replicate 16 noLn) k g t gap = single k ⟨g, t, gap, 0, true, false, false⟩ := by
  have he : routeE (List.replicate 16 noLn) k g t gap = 0 := by
    simp only [routeE]
    rw [if_neg (by omega), Int.toNat_natCast, List.getElem?_replicate, if_pos hk]; rfl
  refine ⟨he, ?_⟩
  simp only [routeL, he, if_true, Int.toNat_natCast, single]

/-! ## times that lie apart -/
def Gapped (gap : Int) (l : List Int) : Prop := ∀ (j : Nat) (a b : Int), l[j]? = some a → l[j + 1]? = some b → a + gap ≤ b
theorem Gapped.nil (gap : Int) : Gapped gap [] := by intro j a b h; simp at h
theorem Gapped.snoc {gap : Int} {l : List Int} {b : Int} (g : Gapped gap l) (h : ∀ a, l.getLast? = some a → a + gap ≤ b) : Gapped gap (l ++ [b]) := by
  intro j a c h1 h2
  rcases Nat.lt_trichotomy (j + 1) l.length with hj | hj | hj
  · rw [List.getElem?_append_left (by omega)] at h1 h2
    exact g j a c h1 h2
  · rw [List.getElem?_append_left (by omega)] at h1
    rw [List.getElem?_append_right (by omega)] at h2
    rw [show j + 1 - l.length = 0 by omega] at h2
    simp at h2; subst h2
    apply h
    rw [List.getLast?_eq_getElem?, show l.length - 1 = j by omega]
    exact h1
  · rw [List.getElem?_append_right (by omega)] at h2
    obtain ⟨d, hd⟩ : ∃ d, j + 1 - l.length = d + 1 := ⟨j - l.length, by omega⟩
    rw [hd] at h2; simp at h2
theorem Gapped.far {gap : Int} {l : List Int} (g : Gapped gap l) (h0 : 0 ≤ gap) : ∀ (d i : Nat) (a b : Int), l[i]? = some a → l[i + d]? = some b → a + d * gap ≤ b
  | 0, i, a, b, ha, hb => by rw [Nat.add_zero, ha] at hb; cases hb; simp
  | d + 1, i, a, b, ha, hb => by
    have hlt := (List.getElem?_eq_some_iff.1 hb).1
    obtain ⟨c, hc⟩ : ∃ c, l[i + d]? = some c := ⟨_, List.getElem?_eq_getElem (by omega)⟩
    have h1 := g.far h0 d i a c ha hc
    have h2 := g (i + d) c b hc (by rw [← hb]; congr 1)
    have : ((d + 1 : Nat) : Int) * gap = d * gap + gap := by rw [Int.natCast_add, Int.add_mul]; simp
    omega

def encU (n : Int) : List Value := [.int .u64 n]
def encB (b : Bool) : List Value := [.bool b]
def U64 (n : Int) : Prop := 0 ≤ n ∧ n < 18446744073709551616
end Go.Proofs.Ytppoomofmiggcaa
