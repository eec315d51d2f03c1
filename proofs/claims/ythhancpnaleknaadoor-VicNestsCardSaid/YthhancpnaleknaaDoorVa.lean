import Derived.Test.YthhancpnaleknaaDoorP
import Derived.Test.YthhancpnaleknaaDoorWdBits
import Derived.Test.YthhancpnaleknaaDoorWdRow
import Derived.Lib.TrailingZeros
namespace Go.Proofs.YthhancpnaleknaaDoor
open Go Go.Wd
set_option linter.unusedVariables false
set_option linter.unusedSimpArgs false

structure Ln where
  en : Bool
  pe : Bool
  ac : Bool
  pr : Int
  deriving DecidableEq
def Ln.cells (x : Ln) : List Value := [.bool x.en, .bool x.pe, .bool x.ac, .int .i64 x.pr]
theorem Ln.len (x : Ln) : x.cells.length = 4 := rfl
theorem Ln.rd {h : Hp} {b o : Nat} (x : Ln) {K : Bool → Bool → Bool → Int → Prop} (hr : ∀ j, j < 4 → cellAt h b (o + j) = x.cells[j]?) (hK : K x.en x.pe x.ac x.pr) :
    ∃ a1 : Bool, cellAt h b (o + 0) = some (.bool a1) ∧ ∃ a2 : Bool, cellAt h b (o + 1) = some (.bool a2) ∧ ∃ a3 : Bool, cellAt h b (o + 2) = some (.bool a3) ∧ ∃ a4 : Int, cellAt h b (o + 3) = some (.int .i64 a4) ∧ K a1 a2 a3 a4 := by
  exact ⟨_, hr 0 (by omega), _, hr 1 (by omega), _, hr 2 (by omega), _, hr 3 (by omega), hK⟩
theorem Ln.ret {h : Hp} {b : Nat} {T : TypeId} {l0 : List Value} (hb : bk h b = some (blk T l0)) (hl : l0.length = 4) (v1 : Bool) (v2 : Bool) (v3 : Bool) (v4 : Int) {K : Bool → Bool → Bool → Int → Hp → Prop} (hK : K v1 v2 v3 v4 (upd h b T (Ln.mk v1 v2 v3 v4).cells)) :
    truly true ∧ ∃ T1 : TypeId, ∃ l : List Value, bk h b = some (blk T1 l) ∧ 0 + 4 ≤ l.length ∧ ∀ h4 : Hp, h4 = upd h b T1 (writeAt l 0 [.bool v1, .bool v2, .bool v3, .int .i64 v4]) → ∃ a1 : Bool, cellAt h4 b (0 + 0) = some (.bool a1) ∧ ∃ a2 : Bool, cellAt h4 b (0 + 1) = some (.bool a2) ∧ ∃ a3 : Bool, cellAt h4 b (0 + 2) = some (.bool a3) ∧ ∃ a4 : Int, cellAt h4 b (0 + 3) = some (.int .i64 a4) ∧ K a1 a2 a3 a4 h4 := by
  refine ⟨rfl, T, l0, hb, by omega, ?_⟩
  rintro h4 rfl
  have hw : writeAt l0 0 [.bool v1, .bool v2, .bool v3, .int .i64 v4] = (Ln.mk v1 v2 v3 v4).cells := by
    rw [writeAt_eq _ _ _ (by rw [hl]; exact Nat.le_refl _)]
    have : l0.drop (0 + 4) = [] := List.drop_eq_nil_of_le (by omega)
    simp only [List.take_zero, List.nil_append, List.length_cons, List.length_nil, Nat.zero_add, Nat.reduceAdd] at this ⊢
    rw [this, List.append_nil]; rfl
  rw [hw]
  exact ⟨_, (cell_upd hb _ _ _).trans rfl, _, (cell_upd hb _ _ _).trans rfl, _, (cell_upd hb _ _ _).trans rfl, _, (cell_upd hb _ _ _).trans rfl, hK⟩

/-! ## numbers of 16 bits -/
theorem wrapn_u16 (n : Nat) (h : n < 2 ^ 16) : IntKind.wrap .u16 (n : Int) = n := by
  show ((n : Int) % 65536 : Int) = n
  exact Int.emod_eq_of_lt (by omega) (by omega)
theorem modn_u16 (n : Nat) : IntKind.wrap .u16 (n : Int) = ((n % 2 ^ 16 : Nat) : Int) := by
  show ((n : Int) % 65536 : Int) = _
  omega
theorem band16 {a b : Nat} (ha : a < 2 ^ 16) (hb : b < 2 ^ 16) : bandV .u16 a b = ((a &&& b : Nat) : Int) := bandV_nat (by decide) wrapn_u16 ha hb
theorem bor16 {a b : Nat} (ha : a < 2 ^ 16) (hb : b < 2 ^ 16) : borV .u16 a b = ((a ||| b : Nat) : Int) := borV_nat (by decide) wrapn_u16 ha hb
theorem bnot16 {a b : Nat} (ha : a < 2 ^ 16) (hb : b < 2 ^ 16) : bnotV .u16 a b = ((a &&& (2 ^ 16 - 1 - b) : Nat) : Int) := bnotV_nat (k := .u16) (m := 16) (by decide) wrapn_u16 ha hb
theorem shr16 {a n : Nat} (hn : n ≤ 16) : shrV .u16 a n = ((a / 2 ^ n : Nat) : Int) := shrV_nat (k := .u16) hn
theorem one16 {n : Nat} (hn : n < 16) : shlV .u16 1 n = ((2 ^ n : Nat) : Int) := by
  rw [show (1 : Int) = ((1 : Nat) : Int) from rfl, shlV_nat (k := .u16) (by show n ≤ 16; omega), wrapn_u16 _ (by rw [Nat.one_mul]; exact Nat.pow_lt_pow_right (by omega) hn), Nat.one_mul]
theorem bit_lt {n : Nat} (hn : n < 16) : 2 ^ n < 2 ^ 16 := Nat.pow_lt_pow_right (by omega) hn
theorem off_bit {x n : Nat} (hn : n < 16) (i : Nat) (hi : i < 16) : (x &&& (2 ^ 16 - 1 - 2 ^ n)).testBit i = (x.testBit i && !decide (n = i)) := by
  rw [Nat.testBit_and, show 2 ^ 16 - 1 - 2 ^ n = 2 ^ 16 - (2 ^ n + 1) by omega, Nat.testBit_two_pow_sub_succ (bit_lt hn), Nat.testBit_two_pow]
  simp [hi]
theorem on_bit {x n : Nat} (i : Nat) : (x ||| 2 ^ n).testBit i = (x.testBit i || decide (n = i)) := by
  rw [Nat.testBit_or, Nat.testBit_two_pow]

/-! ## small ones -/
def thereB (n : Int) : Bool := decide (0 ≤ n) && decide (n < 16)
theorem there_nat {n : Int} (h : thereB n = true) : ∃ k : Nat, n = k ∧ k < 16 := by
  simp only [thereB, Bool.and_eq_true, decide_eq_true_eq] at h
  exact ⟨n.toNat, by omega, by omega⟩
theorem there_spec {h : Hp} (n : Int) : CallsH Tryd.prog 24 [.int .i64 n] h fun v h' => v = .bool (thereB n) ∧ h' = h := by
  apply vic_there.calls
  unfold vic_there.P
  refine ⟨fun c => ⟨?_, rfl⟩, fun c => ⟨?_, rfl⟩⟩
  · simp only [decide_eq_true_eq] at c
    simp only [thereB]
    rw [decide_eq_true (show 0 ≤ n from c), Bool.true_and]
  · simp only [decide_eq_false_iff_not] at c
    simp only [thereB]
    rw [decide_eq_false (show ¬ 0 ≤ n from c), Bool.false_and]
theorem rThere_spec {h : Hp} (n : Int) : CallsH Tryd.prog 20 [.int .i64 n] h fun v h' => v = .bool (thereB n) ∧ h' = h := by
  apply warderref20_There.calls
  unfold warderref20_There.P
  refine ⟨fun c => ⟨?_, rfl⟩, fun c => ⟨?_, rfl⟩⟩
  · simp only [decide_eq_true_eq] at c
    simp only [thereB]
    rw [decide_eq_true (show 0 ≤ n from c), Bool.true_and]
  · simp only [decide_eq_false_iff_not] at c
    simp only [thereB]
    rw [decide_eq_false (show ¬ 0 ≤ n from c), Bool.false_and]
theorem has_spec {h : Hp} {s n : Nat} (hs : s < 2 ^ 16) (hn : n < 16) : CallsH Tryd.prog 26 [.int .u16 s, .int .i64 n] h fun v h' => v = .bool (s.testBit n) ∧ h' = h := by
  apply vic_set_has.calls
  unfold vic_set_has.P
  refine ⟨by omega, ?_, rfl⟩
  rw [shr16 (by omega), show (1 : Int) = ((1 : Nat) : Int) from rfl, band16 (Nat.lt_of_le_of_lt (Nat.div_le_self _ _) hs) (by decide)]
  congr 1
  rw [Nat.testBit, Nat.shiftRight_eq_div_pow, Nat.and_comm]
  have : ∀ y : Nat, ((((1 &&& y : Nat) : Int) == ((1 : Nat) : Int))) = ((1 &&& y) != 0) := by
    intro y
    rw [Nat.one_and_eq_mod_two]
    have := Nat.mod_two_eq_zero_or_one y
    rcases this with e | e <;> rw [e] <;> rfl
  exact this _
theorem put_spec {h : Hp} {q o n x : Nat} {T : TypeId} {l : List Value} (hb : bk h q = some (blk T l)) (hx : l[o]? = some (.int .u16 x)) (hxl : x < 2 ^ 16) (hn : n < 16) (on : Bool) :
    CallsH Tryd.prog 25 [.pointer (some ⟨q, o, none⟩), .int .i64 n, .bool on] h fun v h' => ∃ y : Nat, v = .tuple #[] ∧ bk h' q = some (blk T (l.set o (.int .u16 y))) ∧ y < 2 ^ 16 ∧ (∀ i, i < 16 → y.testBit i = if n = i then on else x.testBit i) ∧ Fr [q] h h' := by
  apply vic_set_put.calls
  unfold vic_set_put.P
  have ho : o < l.length := (List.getElem?_eq_some_iff.1 hx).1
  refine ⟨x, (cellAt_of hb o).trans hx, by omega, truly_rfl, _, _, hb, by omega, ?_⟩
  rintro h1 rfl
  rw [one16 hn, bnot16 hxl (bit_lt hn), writeAt_one]
  have hb1 := upd_same hb T (l.set o (.int .u16 ((x &&& (2 ^ 16 - 1 - 2 ^ n) : Nat) : Int)))
  have hy : x &&& (2 ^ 16 - 1 - 2 ^ n) < 2 ^ 16 := Nat.lt_of_le_of_lt Nat.and_le_left hxl
  have f1 : Fr [q] h (upd h q T (l.set o (.int .u16 ((x &&& (2 ^ 16 - 1 - 2 ^ n) : Nat) : Int)))) := Fr.upd (by simp) _ _ _
  have hz := fun i (hi : i < 16) => off_bit (x := x) hn i hi
  generalize x &&& (2 ^ 16 - 1 - 2 ^ n) = z at *
  generalize upd h q T (l.set o (.int .u16 ((z : Nat) : Int))) = h1 at *
  refine ⟨fun c => ?_, fun c => ?_⟩
  · have hc : (l.set o (.int .u16 ((z : Nat) : Int)))[o]? = some (.int .u16 ((z : Nat) : Int)) := by rw [List.getElem?_set_self ho]
    refine ⟨z, (cellAt_of hb1 o).trans hc, by omega, truly_rfl, _, _, hb1, by rw [List.length_set]; exact ho, ?_⟩
    rintro h2 rfl
    rw [bor16 hy (bit_lt hn), writeAt_one, List.set_set]
    refine ⟨_, rfl, upd_same hb1 _ _, Nat.or_lt_two_pow hy (bit_lt hn), fun i hi => ?_, f1.trans (Fr.upd (by simp) _ _ _)⟩
    rw [on_bit, hz i hi, c]
    by_cases e : n = i <;> simp [e]
  · refine ⟨z, rfl, hb1, hy, fun i hi => ?_, f1⟩
    rw [hz i hi, c]
    by_cases e : n = i <;> simp [e]

/-! ## the table of the library, and the least line -/
def Tab (h : Hp) : Prop := ∀ i, i < 32 → cellAt h 0 i = some (.int .u8 ((Lib.deBruijn32tab.getD i 0 : Nat) : Int))
theorem Tab.fr {h h' : Hp} {F : List Nat} (t : Tab h) (f : Fr F h h') (hn : 0 ∉ F) : Tab h' := fun i hi => f.cell (t i hi) hn
theorem neg16 {s : Nat} (h0 : s ≠ 0) (h : s < 2 ^ 16) : IntKind.wrap .u16 (0 - (s : Int)) = ((2 ^ 16 - s : Nat) : Int) := by
  show ((0 - (s : Int)) % 65536 : Int) = _
  omega
theorem tz_spec {h : Hp} {s : Nat} (hs : s < 2 ^ 16) (h0 : s ≠ 0) (tab : Tab h) : CallsH Tryd.prog 30 [.int .u16 s] h fun v h' => v = .int .i64 ((Lib.ctz 16 s : Nat) : Int) ∧ h' = h := by
  apply math_bits_TrailingZeros16.calls
  unfold math_bits_TrailingZeros16.P
  obtain ⟨e1, e2⟩ := Lib.lowest_bit 16 s h0 hs
  rw [neg16 h0 hs, band16 hs (by omega), e1]
  generalize Lib.ctz 16 s = k at *
  have hk := bit_lt e2
  obtain ⟨d1, d2⟩ := Lib.deBruijn32_at k (by omega)
  have em : IntKind.wrap .u32 (IntKind.wrap .u32 ((2 ^ k : Nat) : Int) * 125613361) = ((2 ^ k * 125613361 % 4294967296 : Nat) : Int) := by
    rw [wrapn_u32 _ (by omega), show (((2 ^ k : Nat) : Int) * 125613361) = ((2 ^ k * 125613361 : Nat) : Int) by rw [Int.natCast_mul]; rfl, modn_u32]
  rw [em, show (27 : Int) = ((27 : Nat) : Int) from rfl, shr32 (by decide)]
  rw [show 2 ^ k * 125613361 % 4294967296 / 2 ^ 27 = 2 ^ k * 125613361 % 4294967296 / 134217728 from rfl]
  generalize 2 ^ k * 125613361 % 4294967296 / 134217728 = j at *
  refine ⟨fun c => absurd c (by simp; omega), fun _ => ⟨by omega, by omega, by omega, k, ?_, ?_, rfl⟩⟩
  · rw [Int.toNat_natCast, Nat.zero_add, Nat.mul_one, tab j d1, d2]
  · rw [wrapn_i64 k (by omega)]
theorem ctz_bit {s : Nat} (h0 : s ≠ 0) (hs : s < 2 ^ 16) : Lib.ctz 16 s < 16 ∧ s.testBit (Lib.ctz 16 s) = true ∧ (∀ i, i < Lib.ctz 16 s → s.testBit i = false) ∧ (∀ i, (s &&& (s - 1)).testBit i = (s.testBit i && !decide (Lib.ctz 16 s = i))) ∧ (s &&& (s - 1)) < s := by
  have hc : Lib.ctz 16 s = Lib.ctzFrom 16 s := by unfold Lib.ctz; rw [if_neg h0]
  rw [hc]
  obtain ⟨m, hm, hk⟩ := Lib.ctzFrom_spec 16 s (by omega) hs
  generalize Lib.ctzFrom 16 s = k at *
  have hb : ∀ i, s.testBit i = (decide (k ≤ i) && (2 * m + 1).testBit (i - k)) := by
    intro i
    rw [hm, Nat.mul_comm, Nat.testBit_mul_two_pow]
  have hs1 : s - 1 = 2 ^ k * (2 * m) + (2 ^ k - 1) := by
    have : 0 < 2 ^ k := Nat.two_pow_pos k
    rw [hm, Nat.mul_add]; omega
  have hand : s &&& (s - 1) = 2 ^ k * (2 * m) := by
    have h1 : s / 2 ^ k = 2 * m + 1 := by rw [hm, Nat.mul_div_cancel_left _ (Nat.two_pow_pos k)]
    have h2 : s % 2 ^ k = 0 := by rw [hm, Nat.mul_mod_right]
    rw [hs1, and_split (by have := Nat.two_pow_pos k; omega), h1, h2, Nat.zero_and, Nat.add_zero]
    congr 1
    apply Nat.eq_of_testBit_eq
    intro i
    rw [Nat.testBit_and]
    cases i with
    | zero => simp [Nat.testBit_zero]
    | succ i =>
      rw [Nat.testBit_succ, Nat.testBit_succ, show (2 * m + 1) / 2 = m by omega, show 2 * m / 2 = m by omega, Bool.and_self]
  refine ⟨hk, ?_, ?_, ?_, ?_⟩
  · rw [hb]; simp [Nat.testBit_zero]
  · intro i hi
    rw [hb, decide_eq_false (by omega), Bool.false_and]
  · intro i
    rw [hand, Nat.mul_comm, Nat.testBit_mul_two_pow, hb]
    by_cases c : k ≤ i
    · rw [decide_eq_true c, Bool.true_and, Bool.true_and]
      by_cases e : k = i
      · subst e; simp [Nat.testBit_zero]
      · obtain ⟨j, hj⟩ : ∃ j, i - k = j + 1 := ⟨i - k - 1, by omega⟩
        rw [hj, Nat.testBit_succ, Nat.testBit_succ, show (2 * m + 1) / 2 = m by omega, show 2 * m / 2 = m by omega, decide_eq_false e]; simp
    · rw [decide_eq_false c]; simp
  · rw [hand]
    have : 0 < 2 ^ k := Nat.two_pow_pos k
    rw [hm, Nat.mul_add]; omega
end Go.Proofs.YthhancpnaleknaaDoor
