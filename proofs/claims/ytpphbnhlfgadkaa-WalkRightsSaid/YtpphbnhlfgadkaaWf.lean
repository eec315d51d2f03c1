import Derived.Test.YtpphbnhlfgadkaaWe
namespace Go.Proofs.Ytpphbnhlfgadkaa
open Go Go.Wd
set_option linter.unusedVariables false
set_option linter.unusedSimpArgs false

theorem putK_at {B : List Nat} {p w : Nat} : ∀ (k : Nat), p + k ≤ B.length → ∀ i, (putK B p w k)[i]? = if p ≤ i ∧ i < p + k then some (wb w (i - p)) else B[i]?
  | 0, h, i => by rw [if_neg (by omega)]; rfl
  | k + 1, h, i => by
    simp only [putK]
    rw [List.getElem?_set, putK_len, putK_at k (by omega) i]
    by_cases e : p + k = i
    · subst e
      rw [if_pos rfl, if_pos (by omega), if_pos (by omega)]
      congr 2; omega
    · rw [if_neg e]
      by_cases e2 : p ≤ i ∧ i < p + k
      · rw [if_pos e2, if_pos (by omega)]
      · rw [if_neg e2, if_neg (by omega)]
theorem leN_put {B : List Nat} {p w : Nat} (h : p + 4 ≤ B.length) : ∀ k, k ≤ 4 → leN (putK B p w 4) p k = w % 2 ^ (8 * k)
  | 0, _ => by simp [leN, Nat.mod_one]
  | k + 1, hk => by
    have h1 := leN_put (w := w) h k (by omega)
    have h2 : (putK B p w 4).getD (p + k) 0 = wb w k := getD_at (by rw [putK_at 4 h, if_pos (by omega)]; congr 2; omega)
    simp only [leN]
    rw [h1, h2, show 2 ^ (8 * (k + 1)) = 2 ^ (8 * k) * 256 by rw [show 8 * (k + 1) = 8 * k + 8 by omega, Nat.pow_add], Nat.mod_mul]
    unfold wb
    rw [Nat.mul_comm (w / 2 ^ (8 * k) % 256)]
theorem leN_put4 {B : List Nat} {p w : Nat} (h : p + 4 ≤ B.length) (hw : w < 4294967296) : leN (putK B p w 4) p 4 = w := by
  rw [leN_put h 4 (Nat.le_refl _)]
  exact Nat.mod_eq_of_lt hw
theorem leN_off {B : List Nat} {p w q : Nat} (h : p + 4 ≤ B.length) (hq : q + 4 ≤ p ∨ p + 4 ≤ q) : ∀ k, k ≤ 4 → leN (putK B p w 4) q k = leN B q k
  | 0, _ => rfl
  | k + 1, hk => by
    simp only [leN]
    rw [leN_off h hq k (by omega), List.getD_eq_getElem?_getD, List.getD_eq_getElem?_getD, putK_at 4 h, if_neg (by omega)]
theorem leN_zero (m q : Nat) : ∀ k, leN (List.replicate m 0) q k = 0
  | 0 => rfl
  | k + 1 => by
    simp only [leN]
    rw [leN_zero m q k, List.getD_eq_getElem?_getD, List.getElem?_replicate]
    split <;> simp
/-- A word that is put, in a frame's words. -/
theorem ent_put {n : Nat} {B : List Nat} (hl : B.length = n * 256) {a x : Nat} (hx : x < 4294967296) {t i : Nat} (ht : t < n) (hi : i < 64) :
    entAt (putW n B a x) t i = if a = t * 256 + 4 * i then dec x else entAt B t i := by
  unfold putW entAt
  by_cases hw : wordOk n a = true
  · rw [if_pos hw]
    simp only [wordOk, Bool.and_eq_true, decide_eq_true_eq] at hw
    by_cases e : a = t * 256 + 4 * i
    · rw [if_pos e, ← e, leN_put4 (by omega) hx]
    · rw [if_neg e, leN_off (by omega) (by omega) 4 (Nat.le_refl _)]
  · rw [if_neg hw, if_neg]
    intro e
    apply hw
    simp only [wordOk, Bool.and_eq_true, decide_eq_true_eq]
    omega
theorem ent_zero (m t i : Nat) : entAt (List.replicate m 0) t i = noEnt := by
  unfold entAt
  rw [leN_zero]
  rfl

/-! ## what is seen first -/
def aliveB : List Nat := putsB 80 [⟨0, 257⟩, ⟨4, 4111⟩, ⟨264, 775⟩]
def AliveE (B : List Nat) : Prop := ∀ t i : Nat, t < 80 → i < 64 → entAt B t i = if t = 1 ∧ i = 2 then ⟨true, true, true, false, 3⟩ else if t = 0 ∧ i = 1 then ⟨true, true, true, true, 16⟩ else if t = 0 ∧ i = 0 then ⟨true, false, false, false, 1⟩ else noEnt
theorem alive_ent : AliveE aliveB := by
  intro t i ht hi
  unfold aliveB putsB
  simp only [List.foldl]
  rw [ent_put (by rw [putW_len, putW_len, List.length_replicate]) (by decide) ht hi, ent_put (by rw [putW_len, List.length_replicate]) (by decide) ht hi, ent_put (by rw [List.length_replicate]) (by decide) ht hi, ent_zero]
  have d1 : dec 257 = ⟨true, false, false, false, 1⟩ := by decide
  have d2 : dec 4111 = ⟨true, true, true, true, 16⟩ := by decide
  have d3 : dec 775 = ⟨true, true, true, false, 3⟩ := by decide
  rw [d1, d2, d3]
  have c1 : (264 = t * 256 + 4 * i) = (t = 1 ∧ i = 2) := by apply propext; omega
  have c2 : (4 = t * 256 + 4 * i) = (t = 0 ∧ i = 1) := by apply propext; omega
  have c3 : (0 = t * 256 + 4 * i) = (t = 0 ∧ i = 0) := by apply propext; omega
  simp only [c1, c2, c3]
theorem alive_found {B : List Nat} (hE : AliveE B) (a : Nat) (ha : a < 1048576) : foundOf 80 B 0 a = if a / 16384 % 64 = 0 then (if a / 256 % 64 = 2 then ⟨⟨true, true, true, false, 3⟩, 2, 0⟩ else ⟨noEnt, 2, 3⟩)
    else if a / 16384 % 64 = 1 then ⟨⟨true, true, true, true, 16 + ((a / 256 % 64 : Nat) : Int)⟩, 1, 0⟩ else ⟨noEnt, 1, 2⟩ := by
  have h1 : entAt B ((0 : Int).toNat) (a / 16384 % 64) = if a / 16384 % 64 = 1 then ⟨true, true, true, true, 16⟩ else if a / 16384 % 64 = 0 then ⟨true, false, false, false, 1⟩ else noEnt := by
    rw [hE _ _ (by decide) (by omega)]
    simp
  have h2 : entAt B ((1 : Int).toNat) (a / 256 % 64) = if a / 256 % 64 = 2 then ⟨true, true, true, false, 3⟩ else noEnt := by
    rw [hE _ _ (by decide) (by omega)]
    simp
  unfold foundOf
  rw [if_neg (by omega), if_neg (by decide), h1]
  generalize a / 16384 % 64 = i at *
  generalize a / 256 % 64 = j at *
  by_cases e1 : i = 1
  · rw [if_pos e1, if_neg (by decide), if_pos rfl, if_neg (by omega), if_pos e1]; rfl
  · rw [if_neg e1]
    by_cases e0 : i = 0
    · subst e0
      rw [if_pos rfl, if_pos rfl]
      have e : (Ent.mk true false false false 1).f = 1 := rfl
      rw [if_neg (by decide), if_neg (by decide), if_neg (by decide), e, h2]
      by_cases e2 : j = 2
      · subst e2; rfl
      · rw [if_neg e2, if_neg e2]; rfl
    · rw [if_neg e0, if_neg e0, if_neg e1]; rfl
theorem alive_walk {B : List Nat} (hE : AliveE B) (a : Nat) (ha : a < 1048576) (acc : Int) : walkOf 80 B 0 a acc = if a / 16384 % 64 = 0 then (if a / 256 % 64 = 2 then (if allows ⟨true, true, true, false, 3⟩ acc then ⟨0, 2, 3, true, true, false⟩ else ⟨4, 2, 0, false, false, false⟩) else ⟨3, 2, 0, false, false, false⟩)
    else if a / 16384 % 64 = 1 then (if allows ⟨true, true, true, true, 16 + ((a / 256 % 64 : Nat) : Int)⟩ acc then ⟨0, 1, 16 + ((a / 256 % 64 : Nat) : Int), true, true, true⟩ else ⟨4, 1, 0, false, false, false⟩) else ⟨2, 1, 0, false, false, false⟩ := by
  have hF := alive_found hE a ha
  have hj : a / 256 % 64 < 64 := by omega
  generalize a / 16384 % 64 = i at *
  generalize a / 256 % 64 = j at *
  by_cases e0 : i = 0
  · rw [if_pos e0] at hF ⊢
    by_cases e2 : j = 2
    · rw [if_pos e2] at hF ⊢
      rw [walk_of hF]
      generalize hA : allows _ acc = b
      cases b <;> rfl
    · rw [if_neg e2] at hF ⊢
      exact walk_bad hF (by decide)
  · rw [if_neg e0] at hF ⊢
    by_cases e1 : i = 1
    · rw [if_pos e1] at hF ⊢
      rw [walk_of hF]
      generalize hA : allows _ acc = b
      cases b
      · rfl
      · show (if ((80 : Nat) : Int) ≤ 16 + (j : Int) then _ else _) = _
        rw [if_neg (by omega)]
        rfl
    · rw [if_neg e1] at hF ⊢
      exact walk_bad hF (by decide)
theorem pages_congr {P Q : Nat → Bool} (k : Nat) (h : ∀ p, p < k → P p = Q p) : pagesL P k = pagesL Q k := by
  unfold pagesL
  rw [List.filter_congr (fun x hx => h x (List.mem_range.1 hx))]
theorem alive_page {B : List Nat} (hE : AliveE B) (p : Nat) (hp : p < 4096) : pageP 80 B 0 p = (decide (p = 2) || (decide (64 ≤ p) && decide (p < 128))) := by
  have hj : joinOk (p : Int) 0 = true := by simp [joinOk]; omega
  obtain ⟨k, hk, hk2, hk3⟩ := joinV_nat (p : Int)
  have hk := (hk3 hj).1
  rw [Int.toNat_natCast] at hk
  subst hk
  unfold pageP lookOk
  rw [hj, Bool.true_and, ‹joinV (p : Int) 0 = _›, Int.toNat_natCast, alive_walk hE _ hk2]
  have e1 : p * 256 / 16384 % 64 = p / 64 := by omega
  have e2 : p * 256 / 256 % 64 = p % 64 := by omega
  rw [e1, e2]
  have al : ∀ (b : Bool) (f : Int), allows ⟨true, true, true, b, f⟩ 0 = true := fun b f => rfl
  rw [al, al, if_pos rfl, if_pos rfl]
  by_cases a1 : p / 64 = 0
  · rw [if_pos a1]
    by_cases a2 : p % 64 = 2
    · rw [if_pos a2]; have : p = 2 := by omega
      subst this; rfl
    · rw [if_neg a2]
      have n1 : ¬ p = 2 := by omega
      have n2 : ¬ 64 ≤ p := by omega
      simp [n1, n2]
  · rw [if_neg a1]
    by_cases a2 : p / 64 = 1
    · rw [if_pos a2]
      have n2 : 64 ≤ p := by omega
      have n3 : p < 128 := by omega
      simp [n2, n3]
    · rw [if_neg a2]
      have n1 : ¬ p = 2 := by omega
      have n3 : ¬ p < 128 := by omega
      simp [n1, n3]
theorem alive_pages {B : List Nat} (hE : AliveE B) : pagesL (pageP 80 B 0) 4096 = pagesL (fun p => decide (p = 2) || (decide (64 ≤ p) && decide (p < 128))) 4096 := pages_congr 4096 (alive_page hE)
theorem alive_len {B : List Nat} (hE : AliveE B) : (pagesL (pageP 80 B 0) 4096).length = 65 := by rw [alive_pages hE]; decide +kernel
theorem alive_head {B : List Nat} (hE : AliveE B) : (pagesL (pageP 80 B 0) 4096)[0]? = some 2 := by rw [alive_pages hE]; decide +kernel
theorem alive_look {B : List Nat} (hE : AliveE B) : lookOk 80 B 0 2 = true ∧ lookE 80 B 0 2 = ⟨true, true, true, false, 3⟩ := by
  have h := alive_page hE 2 (by decide)
  have hj : (joinV (2 : Int) 0).toNat = 512 := by decide
  have h : lookOk 80 B 0 2 = true := h
  refine ⟨h, ?_⟩
  unfold lookE
  rw [if_pos h, hj, alive_walk hE 512 (by decide)]
  rfl
end Go.Proofs.Ytpphbnhlfgadkaa
