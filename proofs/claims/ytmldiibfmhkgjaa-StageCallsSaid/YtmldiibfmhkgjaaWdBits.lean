/-
  Bits of numbers: what the bit operations come to at numbers that are no less than nought.
-/
import Derived.Test.YtmldiibfmhkgjaaWdHeap
namespace Go.Wd
set_option linter.unusedSimpArgs false
set_option linter.unusedVariables false
open Go Go.RowKit

theorem ofInt_nat (m : Nat) (a : Nat) : BitVec.ofInt m (a : Int) = BitVec.ofNat m a := by
  apply BitVec.eq_of_toNat_eq
  simp [BitVec.toNat_ofInt]

section
variable {k : IntKind} {m a b : Nat}
theorem bandV_nat (hm : m ≤ k.bits) (hw : ∀ n : Nat, n < 2 ^ m → k.wrap (n : Int) = n) (ha : a < 2 ^ m) (hb : b < 2 ^ m) : bandV k a b = ((a &&& b : Nat) : Int) := by
  have hp : 2 ^ m ≤ 2 ^ k.bits := Nat.pow_le_pow_right (by omega) hm
  unfold bandV
  rw [ofInt_nat, ofInt_nat, BitVec.toNat_and, BitVec.toNat_ofNat, BitVec.toNat_ofNat, Nat.mod_eq_of_lt (by omega), Nat.mod_eq_of_lt (by omega)]
  exact hw _ (Nat.and_lt_two_pow _ hb)
theorem borV_nat (hm : m ≤ k.bits) (hw : ∀ n : Nat, n < 2 ^ m → k.wrap (n : Int) = n) (ha : a < 2 ^ m) (hb : b < 2 ^ m) : borV k a b = ((a ||| b : Nat) : Int) := by
  have hp : 2 ^ m ≤ 2 ^ k.bits := Nat.pow_le_pow_right (by omega) hm
  unfold borV
  rw [ofInt_nat, ofInt_nat, BitVec.toNat_or, BitVec.toNat_ofNat, BitVec.toNat_ofNat, Nat.mod_eq_of_lt (by omega), Nat.mod_eq_of_lt (by omega)]
  exact hw _ (Nat.or_lt_two_pow ha hb)
theorem bxorV_nat (hm : m ≤ k.bits) (hw : ∀ n : Nat, n < 2 ^ m → k.wrap (n : Int) = n) (ha : a < 2 ^ m) (hb : b < 2 ^ m) : bxorV k a b = ((a ^^^ b : Nat) : Int) := by
  have hp : 2 ^ m ≤ 2 ^ k.bits := Nat.pow_le_pow_right (by omega) hm
  unfold bxorV
  rw [ofInt_nat, ofInt_nat, BitVec.toNat_xor, BitVec.toNat_ofNat, BitVec.toNat_ofNat, Nat.mod_eq_of_lt (by omega), Nat.mod_eq_of_lt (by omega)]
  exact hw _ (Nat.xor_lt_two_pow ha hb)
theorem bnotV_nat (hm : m ≤ k.bits) (hw : ∀ n : Nat, n < 2 ^ m → k.wrap (n : Int) = n) (ha : a < 2 ^ m) (hb : b < 2 ^ m) : bnotV k a b = ((a &&& (2 ^ k.bits - 1 - b) : Nat) : Int) := by
  have hp : 2 ^ m ≤ 2 ^ k.bits := Nat.pow_le_pow_right (by omega) hm
  unfold bnotV
  rw [ofInt_nat, ofInt_nat, BitVec.toNat_and, BitVec.toNat_not, BitVec.toNat_ofNat, BitVec.toNat_ofNat, Nat.mod_eq_of_lt (by omega), Nat.mod_eq_of_lt (by omega)]
  exact hw _ (Nat.lt_of_le_of_lt Nat.and_le_left ha)
theorem shlV_nat {n : Nat} (hn : n ≤ k.bits) : shlV k a n = k.wrap ((a * 2 ^ n : Nat) : Int) := by
  unfold shlV
  rw [Int.toNat_natCast, Nat.min_eq_left hn]
  simp
theorem shrV_nat {n : Nat} (hn : n ≤ k.bits) : shrV k a n = ((a / 2 ^ n : Nat) : Int) := by
  unfold shrV
  rw [Int.toNat_natCast, Nat.min_eq_left hn, Int.fdiv_eq_ediv_of_nonneg _ (Int.le_of_lt (Int.pow_pos (by omega)))]
  simp
end

theorem wrapn_u8 (n : Nat) (h : n < 2 ^ 8) : IntKind.wrap .u8 (n : Int) = n := by
  show ((n : Int) % 256 : Int) = n
  exact Int.emod_eq_of_lt (by omega) (by omega)
theorem wrapn_u32 (n : Nat) (h : n < 2 ^ 32) : IntKind.wrap .u32 (n : Int) = n := wrap_u32 (by omega) (by omega)
theorem wrapn_u64 (n : Nat) (h : n < 2 ^ 64) : IntKind.wrap .u64 (n : Int) = n := wrap_u64 (by omega) (by omega)
theorem wrapn_i64 (n : Nat) (h : n < 2 ^ 63) : IntKind.wrap .i64 (n : Int) = n := wrap_i64 (by omega) (by omega)
theorem modn_u8 (n : Nat) : IntKind.wrap .u8 (n : Int) = ((n % 2 ^ 8 : Nat) : Int) := by
  show ((n : Int) % 256 : Int) = _
  omega
theorem modn_u32 (n : Nat) : IntKind.wrap .u32 (n : Int) = ((n % 2 ^ 32 : Nat) : Int) := by
  show ((n : Int) % 4294967296 : Int) = _
  omega
theorem modn_u64 (n : Nat) : IntKind.wrap .u64 (n : Int) = ((n % 2 ^ 64 : Nat) : Int) := by
  show ((n : Int) % 18446744073709551616 : Int) = _
  omega

theorem band8 {a b : Nat} (ha : a < 2 ^ 8) (hb : b < 2 ^ 8) : bandV .u8 a b = ((a &&& b : Nat) : Int) := bandV_nat (by decide) wrapn_u8 ha hb
theorem band32 {a b : Nat} (ha : a < 2 ^ 32) (hb : b < 2 ^ 32) : bandV .u32 a b = ((a &&& b : Nat) : Int) := bandV_nat (by decide) wrapn_u32 ha hb
theorem band64 {a b : Nat} (ha : a < 2 ^ 64) (hb : b < 2 ^ 64) : bandV .u64 a b = ((a &&& b : Nat) : Int) := bandV_nat (by decide) wrapn_u64 ha hb
theorem bandi {a b : Nat} (ha : a < 2 ^ 63) (hb : b < 2 ^ 63) : bandV .i64 a b = ((a &&& b : Nat) : Int) := bandV_nat (by decide) wrapn_i64 ha hb
theorem bor8 {a b : Nat} (ha : a < 2 ^ 8) (hb : b < 2 ^ 8) : borV .u8 a b = ((a ||| b : Nat) : Int) := borV_nat (by decide) wrapn_u8 ha hb
theorem bor32 {a b : Nat} (ha : a < 2 ^ 32) (hb : b < 2 ^ 32) : borV .u32 a b = ((a ||| b : Nat) : Int) := borV_nat (by decide) wrapn_u32 ha hb
theorem bor64 {a b : Nat} (ha : a < 2 ^ 64) (hb : b < 2 ^ 64) : borV .u64 a b = ((a ||| b : Nat) : Int) := borV_nat (by decide) wrapn_u64 ha hb
theorem bori {a b : Nat} (ha : a < 2 ^ 63) (hb : b < 2 ^ 63) : borV .i64 a b = ((a ||| b : Nat) : Int) := borV_nat (by decide) wrapn_i64 ha hb
theorem bnot32 {a b : Nat} (ha : a < 2 ^ 32) (hb : b < 2 ^ 32) : bnotV .u32 a b = ((a &&& (2 ^ 32 - 1 - b) : Nat) : Int) := bnotV_nat (k := .u32) (m := 32) (by decide) wrapn_u32 ha hb
theorem bnot64 {a b : Nat} (ha : a < 2 ^ 64) (hb : b < 2 ^ 64) : bnotV .u64 a b = ((a &&& (2 ^ 64 - 1 - b) : Nat) : Int) := bnotV_nat (k := .u64) (m := 64) (by decide) wrapn_u64 ha hb

theorem shl32 {a n : Nat} (hn : n ≤ 32) : shlV .u32 a n = ((a * 2 ^ n % 2 ^ 32 : Nat) : Int) := by rw [shlV_nat (k := .u32) hn, modn_u32]
theorem shl64 {a n : Nat} (hn : n ≤ 64) : shlV .u64 a n = ((a * 2 ^ n % 2 ^ 64 : Nat) : Int) := by rw [shlV_nat (k := .u64) hn, modn_u64]
theorem shli {a n : Nat} (hn : n ≤ 64) (h : a * 2 ^ n < 2 ^ 63) : shlV .i64 a n = ((a * 2 ^ n : Nat) : Int) := by rw [shlV_nat (k := .i64) hn, wrapn_i64 _ h]
theorem shr32 {a n : Nat} (hn : n ≤ 32) : shrV .u32 a n = ((a / 2 ^ n : Nat) : Int) := shrV_nat (k := .u32) hn
theorem shr64 {a n : Nat} (hn : n ≤ 64) : shrV .u64 a n = ((a / 2 ^ n : Nat) : Int) := shrV_nat (k := .u64) hn
theorem shri {a n : Nat} (hn : n ≤ 64) : shrV .i64 a n = ((a / 2 ^ n : Nat) : Int) := shrV_nat (k := .i64) hn

theorem and_ones (a n : Nat) : a &&& (2 ^ n - 1) = a % 2 ^ n := Nat.and_two_pow_sub_one_eq_mod a n
/-- A number that lies above, and one below: their bits are their sum. -/
theorem or_apart {n a b : Nat} (hb : b < 2 ^ n) : a * 2 ^ n ||| b = a * 2 ^ n + b := by
  rw [Nat.mul_comm, ← Nat.two_pow_add_eq_or_of_lt hb]
theorem or_low {n a b c : Nat} (hb : b < 2 ^ n) (hc : c < 2 ^ n) : (a * 2 ^ n + b) ||| c = a * 2 ^ n + (b ||| c) := by
  rw [← or_apart hb, Nat.or_assoc, or_apart (Nat.or_lt_two_pow hb hc)]
/-- One bit more above what is there. -/
theorem or_bit {k c : Nat} (hc : c < 2 ^ k) : c ||| 2 ^ k = c + 2 ^ k := by
  have := or_apart (n := k) (a := 1) hc
  rw [Nat.one_mul, Nat.or_comm] at this
  omega
theorem and_split {n a b x : Nat} (hb : b < 2 ^ n) : x &&& (2 ^ n * a + b) = 2 ^ n * (x / 2 ^ n &&& a) + (x % 2 ^ n &&& b) := by
  apply Nat.eq_of_testBit_eq
  intro j
  have h2 : (x % 2 ^ n &&& b) < 2 ^ n := Nat.and_lt_two_pow _ hb
  rw [Nat.testBit_and, Nat.testBit_two_pow_mul_add _ hb, Nat.testBit_two_pow_mul_add _ h2]
  split
  · rename_i hj
    rw [Nat.testBit_and, Nat.testBit_mod_two_pow]
    simp [hj]
  · rename_i hj
    rw [Nat.testBit_and, Nat.testBit_div_two_pow, Nat.sub_add_cancel (by omega)]
theorem or_split {n a b c d : Nat} (hb : b < 2 ^ n) (hd : d < 2 ^ n) : (2 ^ n * a + b) ||| (2 ^ n * c + d) = 2 ^ n * (a ||| c) + (b ||| d) := by
  apply Nat.eq_of_testBit_eq
  intro j
  have h2 : (b ||| d) < 2 ^ n := Nat.or_lt_two_pow hb hd
  rw [Nat.testBit_or, Nat.testBit_two_pow_mul_add _ hb, Nat.testBit_two_pow_mul_add _ hd, Nat.testBit_two_pow_mul_add _ h2]
  split <;> rw [Nat.testBit_or]
end Go.Wd
