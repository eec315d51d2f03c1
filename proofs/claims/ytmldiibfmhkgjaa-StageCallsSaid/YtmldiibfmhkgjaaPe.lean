import Derived.Test.YtmldiibfmhkgjaaPa
import Derived.Test.YtmldiibfmhkgjaaWa
namespace Go.Proofs.Ytmldiibfmhkgjaa
open Go Go.Wd
set_option linter.unusedVariables false
set_option linter.unusedSimpArgs false
set_option linter.unnecessarySimpa false

theorem Fill_spec {h : Hp} {q fb n : Nat} {B : List Nat} (w : MS h q fb n B) (i : Int) {a : Option Addr} {c : Nat} {b : List Nat} (hb : Byt b) (r : rowAtK h a (encL iB b)) :
    CallsH Try.prog 84 [.pointer (some ⟨q, 0, none⟩), .int .i64 i, .slice a b.length c] h fun v h' => v = .int .i64 (fillE n i b.length) ∧ MS h' q fb n (fillL n B i b) ∧ Fr [fb] h h' := by
  refine calls_k fun R hR => ?_
  apply phys_Mem_Fill.calls
  unfold phys_Mem_Fill.P
  refine (there_spec w i).mono ?_
  rintro v h1 ⟨rfl, rfl⟩
  refine ⟨_, rfl, fun c => ?_, fun c => ⟨fun c1 => ?_, fun c1 => ?_⟩⟩
  · have e : fillE n i b.length = 11 := by have c : isIn n i = false := by simpa using c
                                           simp [fillE, c]
    simp only [fillL, e] at hR
    exact hR _ _ ⟨rfl, w, Fr.refl _ _⟩
  · have e : fillE n i b.length = 14 := by
      have c : isIn n i = true := by simpa using c
      simp only [decide_eq_true_eq] at c1
      simp only [fillE, c, if_true]; rw [if_pos (by omega)]
    simp only [fillL, e] at hR
    exact hR _ _ ⟨rfl, w, Fr.refl _ _⟩
  have hin : isIn n i = true := by simpa using c
  have hbl : b.length ≤ 256 := by simp only [decide_eq_false_iff_not] at c1; omega
  have e : fillE n i b.length = 0 := by simp only [fillE, hin, if_true]; rw [if_neg (by omega)]
  simp only [fillL, e, if_true] at hR
  obtain ⟨k, rfl, hk⟩ := isIn_nat hin
  rw [Int.toNat_natCast] at hR
  rintro h2 rfl
  rw [rep_iB, ← List.append_nil (encL iB (List.replicate 256 0))]
  have f2 : Fr [] h1 (new h1 (blk 113 (encL iB (List.replicate 256 0) ++ []))) := Fr.new _ _ _
  have k2 := new_at h1 (blk 113 (encL iB (List.replicate 256 0) ++ []))
  have w2 := w.fr f2 (by simp) (by simp)
  have r2 := r.fr f2 (by simp)
  have lq := w.lt
  have lf := w.ltf
  generalize new h1 (blk 113 (encL iB (List.replicate 256 0) ++ [])) = h2 at *
  generalize hx : sz h1 = x at *
  refine ⟨fun h => h, by omega, by omega, by omega, by omega, ?_⟩
  rw [arr0]
  have hbn : (encL iB b).length = b.length := by rw [encL_length iB_len, Nat.mul_one]
  refine ⟨encL iB b, by rw [hbn, show Nat.min b.length ((((256 : Nat) : Int)).toNat - ((0 : Int)).toNat) = b.length from Nat.min_eq_left hbl, Nat.mul_one], oneCells_B b, r2, .inr ⟨_, _, _, _, rfl, k2, by rw [hbn, List.length_append, encL_length iB_len, List.length_replicate, List.length_nil]; omega, ?_⟩⟩
  rintro h3 rfl
  rw [encB_write [] (by rw [List.length_replicate]; omega)]
  have e3 : putR (List.replicate 256 0) 0 b = full b := by
    show (List.replicate 256 0).take 0 ++ b ++ (List.replicate 256 0).drop (0 + b.length) = _
    rw [List.take_zero, List.nil_append, Nat.zero_add, List.drop_replicate]; rfl
  rw [e3]
  have f3 : Fr [x] h2 (upd h2 x 113 (encL iB (full b) ++ [])) := Fr.upd (by simp) _ _ _
  have k3 := upd_same k2 113 (encL iB (full b) ++ [])
  have w3 := w2.fr f3 (by simp; omega) (by simp; omega)
  generalize upd h2 x 113 (encL iB (full b) ++ []) = h3 at *
  obtain ⟨cc, hcc, hr⟩ := w3.row
  obtain ⟨t, ht⟩ := w3.arr
  have hfl := full_len hbl
  have hl := w.len
  have hfn : (encL iB (full b)).length = 256 := by rw [encL_length iB_len, hfl]
  have hra := readAt_B (h := h3) (q := x) ⟨k3⟩ 0 256 (by omega)
  rw [List.drop_zero, List.take_of_length_le (by omega)] at hra
  refine ⟨_, _, _, hr, encL iB (full b), hfn, hra, by omega, by omega, _, _, rfl, lenIs_intro hfn ⟨oneCells_B _, _, _, ht.hq, ?_, ?_⟩⟩
  · rw [hfn, arrB_len ht, Int.toNat_natCast]; omega
  rintro h4 rfl
  rw [Int.toNat_natCast, Nat.zero_add]
  have f4 : Fr [fb] h3 (upd h3 fb 113 (writeAt (encL iB B ++ t) (k * 256) (encL iB (full b)))) := Fr.upd (by simp) _ _ _
  have ha4 : Arr iB 113 (upd h3 fb 113 (writeAt (encL iB B ++ t) (k * 256) (encL iB (full b)))) fb (putR B (k * 256) (full b)) t := by
    rw [encB_write t (by rw [hfl]; omega)]
    exact ⟨upd_same ht.hq _ _⟩
  refine hR _ _ ⟨rfl, w3.to f4 ha4 (putR_len (by rw [hfl]; omega)) (putR_byt w.byt (full_byt hb) _), ?_⟩
  exact ((f2.mono (G := [fb]) (by simp)).later f3 (by simp; omega)).trans f4

theorem putK_at {B : List Nat} {p w : Nat} : ∀ (k : Nat), p + k ≤ B.length → ∀ i, (putK B p w k)[i]? = if p ≤ i ∧ i < p + k then some (wb w (i - p)) else B[i]?
  | 0, h, i => by rw [if_neg (by omega)]; rfl
  | k + 1, h, i => by
    simp only [putK]
    rw [List.getElem?_set, putK_len, putK_at k (by omega) i]
    by_cases e : p + k = i
    · subst e
      rw [if_pos rfl, if_pos (by omega), if_pos (by omega)]
      congr 2; omega
    · rw [if_neg e]
      by_cases e2 : p ≤ i ∧ i < p + k
      · rw [if_pos e2, if_pos (by omega)]
      · rw [if_neg e2, if_neg (by omega)]
theorem leN_put {B : List Nat} {p w : Nat} (h : p + 4 ≤ B.length) : ∀ k, k ≤ 4 → leN (putK B p w 4) p k = w % 2 ^ (8 * k)
  | 0, _ => by simp [leN, Nat.mod_one]
  | k + 1, hk => by
    have h1 := leN_put (w := w) h k (by omega)
    have h2 : (putK B p w 4).getD (p + k) 0 = wb w k := getD_at (by rw [putK_at 4 h, if_pos (by omega)]; congr 2; omega)
    simp only [leN]
    rw [h1, h2, show 2 ^ (8 * (k + 1)) = 2 ^ (8 * k) * 256 by rw [show 8 * (k + 1) = 8 * k + 8 by omega, Nat.pow_add], Nat.mod_mul]
    unfold wb
    rw [Nat.mul_comm (w / 2 ^ (8 * k) % 256)]
theorem leN_put4 {B : List Nat} {p w : Nat} (h : p + 4 ≤ B.length) (hw : w < 4294967296) : leN (putK B p w 4) p 4 = w := by
  rw [leN_put h 4 (Nat.le_refl _)]
  exact Nat.mod_eq_of_lt hw
theorem leN_off {B : List Nat} {p w q : Nat} (h : p + 4 ≤ B.length) (hq : q + 4 ≤ p ∨ p + 4 ≤ q) : ∀ k, k ≤ 4 → leN (putK B p w 4) q k = leN B q k
  | 0, _ => rfl
  | k + 1, hk => by
    simp only [leN]
    rw [leN_off h hq k (by omega), List.getD_eq_getElem?_getD, List.getD_eq_getElem?_getD, putK_at 4 h, if_neg (by omega)]
theorem leN_zero (m q : Nat) : ∀ k, leN (List.replicate m 0) q k = 0
  | 0 => rfl
  | k + 1 => by
    simp only [leN]
    rw [leN_zero m q k, List.getD_eq_getElem?_getD, List.getElem?_replicate]
    split <;> simp
/-! ## words of frames -/
def wA (B : List Nat) (t i : Nat) : Nat := leN B (t * 256 + 4 * i) 4
theorem entAt_wA (B : List Nat) (t i : Nat) : entAt B t i = dec (wA B t i) := rfl
theorem wA_lt {B : List Nat} (h : Byt B) (t i : Nat) : wA B t i < 4294967296 := leN_lt h _ 4
theorem wA_put {n : Nat} {B : List Nat} (hl : B.length = n * 256) {x : Nat} (hx : x < 4294967296) {t i : Nat} (ht : t < n) (hi : i < 64) {u j : Nat} (hj : j < 64) :
    wA (putW n B (t * 256 + 4 * i) x) u j = if u = t ∧ j = i then x else wA B u j := by
  unfold putW wA
  rw [if_pos (in_len ht hi)]
  by_cases e : u = t ∧ j = i
  · rw [if_pos e, e.1, e.2, leN_put4 (by omega) hx]
  · rw [if_neg e, leN_off (by omega) (by omega) 4 (Nat.le_refl _)]
def zeroF (B : List Nat) (t : Nat) : List Nat := putR B (t * 256) (List.replicate 256 0)
theorem full_nil : full [] = List.replicate 256 0 := rfl
theorem zeroF_len {n : Nat} {B : List Nat} (hl : B.length = n * 256) {t : Nat} (ht : t < n) : (zeroF B t).length = B.length := putR_len (by rw [List.length_replicate]; omega)
theorem zeroF_at {n : Nat} {B : List Nat} (hl : B.length = n * 256) {t : Nat} (ht : t < n) (k : Nat) : (zeroF B t)[k]? = if t * 256 ≤ k ∧ k < t * 256 + 256 then some 0 else B[k]? := by
  unfold zeroF
  rw [putR_at (by rw [List.length_replicate]; omega), List.length_replicate]
  by_cases e : t * 256 ≤ k ∧ k < t * 256 + 256
  · rw [if_pos e, if_pos e, List.getElem?_replicate, if_pos (by omega)]
  · rw [if_neg e, if_neg e]
theorem leN_eq {A B : List Nat} {p q : Nat} : ∀ k, (∀ j, j < k → A[p + j]? = B[q + j]?) → leN A p k = leN B q k
  | 0, _ => rfl
  | k + 1, h => by
    simp only [leN]
    rw [leN_eq k (fun j hj => h j (by omega)), List.getD_eq_getElem?_getD, List.getD_eq_getElem?_getD, h k (by omega)]
theorem wA_zero {n : Nat} {B : List Nat} (hl : B.length = n * 256) {t : Nat} (ht : t < n) {u j : Nat} (hj : j < 64) : wA (zeroF B t) u j = if u = t then 0 else wA B u j := by
  unfold wA
  by_cases e : u = t
  · rw [if_pos e, e]
    rw [leN_eq (B := List.replicate 256 0) (q := 4 * j) 4 (fun i hi => ?_), leN_zero]
    rw [zeroF_at hl ht, if_pos (by omega), List.getElem?_replicate, if_pos (by omega)]
  · rw [if_neg e]
    refine leN_eq 4 (fun i hi => ?_)
    rw [zeroF_at hl ht, if_neg (by omega)]
theorem wA_seg {B : List Nat} {t j : Nat} (hj : j < 64) : leN (frameOf B t) (4 * j) 4 = wA B t j := leN_eq 4 (fun i hi => by rw [frameOf_at (by omega), Nat.add_assoc])
theorem FillNil {h : Hp} {q fb n : Nat} {B : List Nat} (w : MS h q fb n B) {t : Nat} (ht : t < n) :
    CallsH Try.prog 84 [.pointer (some ⟨q, 0, none⟩), .int .i64 t, .slice none 0 0] h fun v h' => (∃ e : Int, v = .int .i64 e) ∧ MS h' q fb n (zeroF B t) ∧ Fr [fb] h h' := by
  refine (Fill_spec w (t : Int) (a := none) (c := 0) (b := []) (by intro x hx; cases hx) (.inl rfl)).mono ?_
  rintro v h' ⟨rfl, w', f'⟩
  refine ⟨⟨_, rfl⟩, ?_, f'⟩
  have e : fillL n B t [] = zeroF B t := by
    have : fillE n (t : Int) ([] : List Nat).length = 0 := by simp [fillE, in_nat ht]
    unfold fillL zeroF
    rw [if_pos this, Int.toNat_natCast, full_nil]
  rw [← e]; exact w'
end Go.Proofs.Ytmldiibfmhkgjaa
