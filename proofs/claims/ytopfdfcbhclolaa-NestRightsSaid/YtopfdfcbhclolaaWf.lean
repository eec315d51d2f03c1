import Derived.Test.YtopfdfcbhclolaaNg
namespace Go.Proofs.Ytopfdfcbhclolaa
open Go Go.Wd
set_option linter.unusedVariables false
set_option linter.unusedSimpArgs false

theorem putK_at {B : List Nat} {p w : Nat} : ∀ (k : Nat), p + k ≤ B.length → ∀ i, (putK B p w k)[i]? = if p ≤ i ∧ i < p + k then some (wb w (i - p)) else B[i]?
  | 0, h, i => by rw [if_neg (by omega)]; rfl
  | k + 1, h, i => by
    simp only [putK]
    rw [List.getElem?_set, putK_len, putK_at k (by omega) i]
    by_cases e : p + k = i
    · subst e
      rw [if_pos rfl, if_pos (by omega), if_pos (by omega)]
      congr 2; omega
    · rw [if_neg e]
      by_cases e2 : p ≤ i ∧ i < p + k
      · rw [if_pos e2, if_pos (by omega)]
      · rw [if_neg e2, if_neg (by omega)]
theorem leN_put {B : List Nat} {p w : Nat} (h : p + 4 ≤ B.length) : ∀ k, k ≤ 4 → leN (putK B p w 4) p k = w % 2 ^ (8 * k)
  | 0, _ => by simp [leN, Nat.mod_one]
  | k + 1, hk => by
    have h1 := leN_put (w := w) h k (by omega)
    have h2 : (putK B p w 4).getD (p + k) 0 = wb w k := getD_at (by rw [putK_at 4 h, if_pos (by omega)]; congr 2; omega)
    simp only [leN]
    rw [h1, h2, show 2 ^ (8 * (k + 1)) = 2 ^ (8 * k) * 256 by rw [show 8 * (k + 1) = 8 * k + 8 by omega, Nat.pow_add], Nat.mod_mul]
    unfold wb
    rw [Nat.mul_comm (w / 2 ^ (8 * k) % 256)]
theorem leN_put4 {B : List Nat} {p w : Nat} (h : p + 4 ≤ B.length) (hw : w < 4294967296) : leN (putK B p w 4) p 4 = w := by
  rw [leN_put h 4 (Nat.le_refl _)]
  exact Nat.mod_eq_of_lt hw
theorem leN_off {B : List Nat} {p w q : Nat} (h : p + 4 ≤ B.length) (hq : q + 4 ≤ p ∨ p + 4 ≤ q) : ∀ k, k ≤ 4 → leN (putK B p w 4) q k = leN B q k
  | 0, _ => rfl
  | k + 1, hk => by
    simp only [leN]
    rw [leN_off h hq k (by omega), List.getD_eq_getElem?_getD, List.getD_eq_getElem?_getD, putK_at 4 h, if_neg (by omega)]
theorem leN_zero (m q : Nat) : ∀ k, leN (List.replicate m 0) q k = 0
  | 0 => rfl
  | k + 1 => by
    simp only [leN]
    rw [leN_zero m q k, List.getD_eq_getElem?_getD, List.getElem?_replicate]
    split <;> simp
/-- A word that is put, in a frame's words. -/
theorem ent_put {n : Nat} {B : List Nat} (hl : B.length = n * 256) {a x : Nat} (hx : x < 4294967296) {t i : Nat} (ht : t < n) (hi : i < 64) :
    entAt (putW n B a x) t i = if a = t * 256 + 4 * i then dec x else entAt B t i := by
  unfold putW entAt
  by_cases hw : wordOk n a = true
  · rw [if_pos hw]
    simp only [wordOk, Bool.and_eq_true, decide_eq_true_eq] at hw
    by_cases e : a = t * 256 + 4 * i
    · rw [if_pos e, ← e, leN_put4 (by omega) hx]
    · rw [if_neg e, leN_off (by omega) (by omega) 4 (Nat.le_refl _)]
  · rw [if_neg hw, if_neg]
    intro e
    apply hw
    simp only [wordOk, Bool.and_eq_true, decide_eq_true_eq]
    omega
theorem ent_zero (m t i : Nat) : entAt (List.replicate m 0) t i = noEnt := by
  unfold entAt
  rw [leN_zero]
  rfl

end Go.Proofs.Ytopfdfcbhclolaa
