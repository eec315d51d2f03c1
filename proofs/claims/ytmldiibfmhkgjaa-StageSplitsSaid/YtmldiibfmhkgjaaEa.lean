import Derived.Test.YtmldiibfmhkgjaaP2
import Derived.Test.YtmldiibfmhkgjaaWdBits
namespace Go.Proofs.Ytmldiibfmhkgjaa
open Go Go.Wd
set_option linter.unusedVariables false
set_option linter.unusedSimpArgs false

theorem fits_spec {h : Hp} (at_ n : Nat) (h1 : 1 ≤ n) (h2 : at_ + n ≤ 32) :
    CallsH Try.prog 116 [.int .i64 at_, .int .i64 n] h fun v h' => v = .bool true ∧ h' = h := by
  apply word_fits.calls
  unfold word_fits.P
  have hw : IntKind.wrap .i64 (32 - (n : Int)) = 32 - n := wrap_i64 (by omega) (by omega)
  have n1 : 1 ≤ (n : Int) := by omega
  have n2 : (n : Int) ≤ 32 := by omega
  have n3 : (at_ : Int) ≤ 32 - n := by omega
  have n4 : ¬ ((n : Int) < 1) := by omega
  have n5 : ¬ (32 < (n : Int)) := by omega
  simp [hw, n1, n2, n3, n4, n5]

theorem ones_div (n : Nat) (h : n ≤ 32) : (4294967295 : Nat) / 2 ^ (32 - n) = 2 ^ n - 1 := by
  have : n = 0 ∨ n = 1 ∨ n = 2 ∨ n = 3 ∨ n = 4 ∨ n = 5 ∨ n = 6 ∨ n = 7 ∨ n = 8 ∨ n = 9 ∨ n = 10 ∨ n = 11 ∨ n = 12 ∨ n = 13 ∨ n = 14 ∨ n = 15 ∨ n = 16 ∨ n = 17 ∨ n = 18 ∨ n = 19 ∨ n = 20 ∨ n = 21 ∨ n = 22 ∨ n = 23 ∨ n = 24 ∨ n = 25 ∨ n = 26 ∨ n = 27 ∨ n = 28 ∨ n = 29 ∨ n = 30 ∨ n = 31 ∨ n = 32 := by omega
  rcases this with rfl | rfl | rfl | rfl | rfl | rfl | rfl | rfl | rfl | rfl | rfl | rfl | rfl | rfl | rfl | rfl | rfl | rfl | rfl | rfl | rfl | rfl | rfl | rfl | rfl | rfl | rfl | rfl | rfl | rfl | rfl | rfl | rfl <;> rfl

theorem mask_spec {h : Hp} (n : Nat) (h1 : 1 ≤ n) (h2 : n ≤ 32) :
    CallsH Try.prog 117 [.int .i64 n] h fun v h' => v = .int .u32 ((2 ^ n - 1 : Nat) : Int) ∧ h' = h := by
  apply word_mask.calls
  unfold word_mask.P
  have hw : IntKind.wrap .i64 (32 - (n : Int)) = ((32 - n : Nat) : Int) := by rw [wrap_i64 (by omega) (by omega)]; omega
  rw [hw]
  refine ⟨by omega, ?_, rfl⟩
  rw [show (4294967295 : Int) = ((4294967295 : Nat) : Int) from rfl, shr32 (by omega), ones_div n h2]

theorem field_spec {h : Hp} (w at_ n : Nat) (hw : w < 2 ^ 32) (h1 : 1 ≤ n) (h2 : at_ + n ≤ 32) :
    CallsH Try.prog 110 [.int .u32 w, .int .i64 at_, .int .i64 n] h fun v h' => v = .int .u32 ((w / 2 ^ at_ % 2 ^ n : Nat) : Int) ∧ h' = h := by
  apply word_Field.calls
  unfold word_Field.P
  refine (fits_spec at_ n h1 h2).mono ?_
  rintro v h1' ⟨rfl, rfl⟩
  simp
  refine (mask_spec n h1 (by omega)).mono ?_
  rintro v h2' ⟨rfl, rfl⟩
  refine ⟨_, rfl, ?_, rfl⟩
  have hp : 2 ^ n ≤ 2 ^ 32 := Nat.pow_le_pow_right (by omega) (by omega)
  have hq : w / 2 ^ at_ ≤ w := Nat.div_le_self _ _
  have h0 : 0 < 2 ^ n := Nat.two_pow_pos n
  rw [shr32 (by omega), band32 (by omega) (by omega), and_ones]
  simp

/-! ## entries -/
structure Ent where
  v : Bool
  w : Bool
  x : Bool
  b : Bool
  f : Int
  deriving DecidableEq

def Ent.cells (e : Ent) : List Value := [.bool e.v, .bool e.w, .bool e.x, .bool e.b, .int .i64 e.f]
def noEnt : Ent := ⟨false, false, false, false, 0⟩
def bit (b : Bool) (n : Nat) : Nat := if b then n else 0
def dec (w : Nat) : Ent := if w % 2 = 0 then noEnt else ⟨true, w / 2 % 2 == 1, w / 4 % 2 == 1, w / 8 % 2 == 1, (w / 256 % 65536 : Nat)⟩
def encN (e : Ent) : Nat := bit e.v 1 + bit e.w 2 + bit e.x 4 + bit e.b 8 + 256 * e.f.toNat
def encOk (e : Ent) : Bool := decide (0 ≤ e.f) && decide (e.f < 65536) && (e.v || decide (e = noEnt))
def allows (e : Ent) (a : Int) : Bool := e.v && (a == 0 || (a == 1 && e.w) || (a == 2 && e.x))

theorem bit_spec {h : Hp} (at_ w c : Nat) (hw : w < 2 ^ 32) (hc : cellAt h c 0 = some (.int .u32 w)) (h2 : at_ + 1 ≤ 32) :
    CallsH Try.prog 109 [.int .i64 at_, .pointer (some ⟨c, 0, none⟩)] h fun v h' => v = .bool (w / 2 ^ at_ % 2 == 1) ∧ h' = h := by
  apply entry_Decode_1.calls
  unfold entry_Decode_1.P
  refine ⟨_, hc, ?_⟩
  refine (field_spec w at_ 1 hw (by omega) h2).mono ?_
  rintro v h' ⟨rfl, rfl⟩
  refine ⟨_, rfl, ?_, rfl⟩
  rw [show (2 : Nat) ^ 1 = 2 from rfl]
  congr 1
  have h1 : (((w / 2 ^ at_ % 2 : Nat) : Int) = 1) = ((w / 2 ^ at_ % 2 : Nat) = 1) := by apply propext; omega
  have h3 : (((w / 2 ^ at_ % 2 : Nat) : Int) == 1) = decide (((w / 2 ^ at_ % 2 : Nat) : Int) = 1) := rfl
  have h4 : ((w / 2 ^ at_ % 2 : Nat) == 1) = decide ((w / 2 ^ at_ % 2 : Nat) = 1) := rfl
  rw [h3, h4]
  simp only [h1]

theorem decode_spec {h : Hp} (w : Nat) (hw : w < 2 ^ 32) :
    CallsH Try.prog 86 [.int .u32 w] h fun v h' => v = .agg ⟨(dec w).cells⟩ ∧ Fr [] h h' := by
  refine calls_k fun R hR => ?_
  apply entry_Decode.calls
  unfold entry_Decode.P
  rintro h1 rfl h2 rfl
  have hc : ∀ o, cellAt (new (new h (blk 42 [.int .u32 w])) o) (sz h) 0 = some (.int .u32 w) := fun o => by
    rw [cellAt_of (b := sz h) (T := 42) (l := [.int .u32 w]) (by rw [bk_new, if_neg (by rw [sz_new]; omega)]; exact new_at _ _)]; rfl
  have fr : ∀ l, Fr [] h (upd (new (new h (blk 42 [.int .u32 w])) (blk 54 [.bool false, .bool false, .bool false, .bool false, .int .i64 0])) (sz (new h (blk 42 [.int .u32 w]))) 54 l) := fun l =>
    ((Fr.new [] h _).trans (Fr.new [] _ _)).later (Fr.upd (F := [sz (new h (blk 42 [.int .u32 w]))]) (by simp) _ _ _) (by simp [sz_new])
  refine (bit_spec 0 w (sz h) hw (hc _) (by omega)).mono ?_
  rintro v h3 ⟨rfl, rfl⟩
  simp only [Nat.pow_zero, Nat.div_one]
  by_cases hv : w % 2 = 0
  · simp [-Bool.exists_bool, and_assoc, hv, bk_new, writeAt, cellAt_upd, sz_new]
    refine hR _ _ ⟨?_, by simpa [sz_new] using fr _⟩
    simp [dec, hv, noEnt, Ent.cells]
  · have hv' : w % 2 = 1 := by omega
    simp only [hv', beq_self_eq_true, Bool.not_true, Bool.false_eq_true, false_implies, true_implies, true_and]
    refine ⟨_, rfl, by simp, fun _ => ⟨_, hc _, ?_⟩⟩
    refine (bit_spec 1 w (sz h) hw (hc _) (by omega)).mono ?_
    rintro v h4 ⟨rfl, rfl⟩
    refine ⟨_, rfl, hc _, ?_⟩
    refine (bit_spec 2 w (sz h) hw (hc _) (by omega)).mono ?_
    rintro v h4 ⟨rfl, rfl⟩
    refine ⟨_, rfl, hc _, ?_⟩
    refine (bit_spec 3 w (sz h) hw (hc _) (by omega)).mono ?_
    rintro v h4 ⟨rfl, rfl⟩
    refine ⟨_, rfl, hc _, ?_⟩
    refine (field_spec w 8 16 hw (by omega) (by omega)).mono ?_
    rintro v h4 ⟨rfl, rfl⟩
    simp [-Bool.exists_bool, and_assoc, bk_new, writeAt, cellAt_upd, sz_new]
    refine hR _ _ ⟨?_, by simpa [sz_new] using fr _⟩
    have hf : IntKind.wrap .i64 ((w / 256 % 65536 : Nat) : Int) = ((w / 256 % 65536 : Nat) : Int) := wrap_i64 (by omega) (by omega)
    have hf' := hf
    simp at hf'
    simp [dec, hv', Ent.cells, hf']
end Go.Proofs.Ytmldiibfmhkgjaa
