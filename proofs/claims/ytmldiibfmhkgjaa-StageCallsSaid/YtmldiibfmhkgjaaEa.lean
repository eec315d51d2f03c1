import Derived.Test.YtmldiibfmhkgjaaP2
import Derived.Test.YtmldiibfmhkgjaaWdBits
namespace Go.Proofs.Ytmldiibfmhkgjaa
open Go Go.Wd
set_option linter.unusedVariables false
set_option linter.unusedSimpArgs false
set_option linter.unnecessarySimpa false


theorem fits_spec {h : Hp} (at_ n : Nat) (h1 : 1 ≤ n) (h2 : at_ + n ≤ 32) :
    CallsH Try.prog 116 [.int .i64 at_, .int .i64 n] h fun v h' => v = .bool true ∧ h' = h := by
  apply word_fits.calls
  unfold word_fits.P
  have hw : IntKind.wrap .i64 (32 - (n : Int)) = 32 - n := wrap_i64 (by omega) (by omega)
  have n1 : 1 ≤ (n : Int) := by omega
  have n2 : (n : Int) ≤ 32 := by omega
  have n3 : (at_ : Int) ≤ 32 - n := by omega
  have n4 : ¬ ((n : Int) < 1) := by omega
  have n5 : ¬ (32 < (n : Int)) := by omega
  simp [hw, n1, n2, n3, n4, n5]

theorem ones_div (n : Nat) (h : n ≤ 32) : (4294967295 : Nat) / 2 ^ (32 - n) = 2 ^ n - 1 := by
  have : n = 0 ∨ n = 1 ∨ n = 2 ∨ n = 3 ∨ n = 4 ∨ n = 5 ∨ n = 6 ∨ n = 7 ∨ n = 8 ∨ n = 9 ∨ n = 10 ∨ n = 11 ∨ n = 12 ∨ n = 13 ∨ n = 14 ∨ n = 15 ∨ n = 16 ∨ n = 17 ∨ n = 18 ∨ n = 19 ∨ n = 20 ∨ n = 21 ∨ n = 22 ∨ n = 23 ∨ n = 24 ∨ n = 25 ∨ n = 26 ∨ n = 27 ∨ n = 28 ∨ n = 29 ∨ n = 30 ∨ n = 31 ∨ n = 32 := by omega
  rcases this with rfl | rfl | rfl | rfl | rfl | rfl | rfl | rfl | rfl | rfl | rfl | rfl | rfl | rfl | rfl | rfl | rfl | rfl | rfl | rfl | rfl | rfl | rfl | rfl | rfl | rfl | rfl | rfl | rfl | rfl | rfl | rfl | rfl <;> rfl

theorem mask_spec {h : Hp} (n : Nat) (h1 : 1 ≤ n) (h2 : n ≤ 32) :
    CallsH Try.prog 117 [.int .i64 n] h fun v h' => v = .int .u32 ((2 ^ n - 1 : Nat) : Int) ∧ h' = h := by
  apply word_mask.calls
  unfold word_mask.P
  have hw : IntKind.wrap .i64 (32 - (n : Int)) = ((32 - n : Nat) : Int) := by rw [wrap_i64 (by omega) (by omega)]; omega
  rw [hw]
  refine ⟨by omega, ?_, rfl⟩
  rw [show (4294967295 : Int) = ((4294967295 : Nat) : Int) from rfl, shr32 (by omega), ones_div n h2]

theorem field_spec {h : Hp} (w at_ n : Nat) (hw : w < 2 ^ 32) (h1 : 1 ≤ n) (h2 : at_ + n ≤ 32) :
    CallsH Try.prog 110 [.int .u32 w, .int .i64 at_, .int .i64 n] h fun v h' => v = .int .u32 ((w / 2 ^ at_ % 2 ^ n : Nat) : Int) ∧ h' = h := by
  apply word_Field.calls
  unfold word_Field.P
  refine (fits_spec at_ n h1 h2).mono ?_
  rintro v h1' ⟨rfl, rfl⟩
  simp
  refine (mask_spec n h1 (by omega)).mono ?_
  rintro v h2' ⟨rfl, rfl⟩
  refine ⟨_, rfl, ?_, rfl⟩
  have hp : 2 ^ n ≤ 2 ^ 32 := Nat.pow_le_pow_right (by omega) (by omega)
  have hq : w / 2 ^ at_ ≤ w := Nat.div_le_self _ _
  have h0 : 0 < 2 ^ n := Nat.two_pow_pos n
  rw [shr32 (by omega), band32 (by omega) (by omega), and_ones]
  simp

/-! ## entries -/
structure Ent where
  v : Bool
  w : Bool
  x : Bool
  b : Bool
  f : Int
  deriving DecidableEq

def Ent.cells (e : Ent) : List Value := [.bool e.v, .bool e.w, .bool e.x, .bool e.b, .int .i64 e.f]
def noEnt : Ent := ⟨false, false, false, false, 0⟩
def bit (b : Bool) (n : Nat) : Nat := if b then n else 0
def dec (w : Nat) : Ent := if w % 2 = 0 then noEnt else ⟨true, w / 2 % 2 == 1, w / 4 % 2 == 1, w / 8 % 2 == 1, (w / 256 % 65536 : Nat)⟩
def encN (e : Ent) : Nat := bit e.v 1 + bit e.w 2 + bit e.x 4 + bit e.b 8 + 256 * e.f.toNat
def encOk (e : Ent) : Bool := decide (0 ≤ e.f) && decide (e.f < 65536) && (e.v || decide (e = noEnt))
def allows (e : Ent) (a : Int) : Bool := e.v && (a == 0 || (a == 1 && e.w) || (a == 2 && e.x))

theorem bit_spec {h : Hp} (at_ w c : Nat) (hw : w < 2 ^ 32) (hc : cellAt h c 0 = some (.int .u32 w)) (h2 : at_ + 1 ≤ 32) :
    CallsH Try.prog 109 [.int .i64 at_, .pointer (some ⟨c, 0, none⟩)] h fun v h' => v = .bool (w / 2 ^ at_ % 2 == 1) ∧ h' = h := by
  apply entry_Decode_1.calls
  unfold entry_Decode_1.P
  refine ⟨_, hc, ?_⟩
  refine (field_spec w at_ 1 hw (by omega) h2).mono ?_
  rintro v h' ⟨rfl, rfl⟩
  refine ⟨_, rfl, ?_, rfl⟩
  rw [show (2 : Nat) ^ 1 = 2 from rfl]
  congr 1
  have h1 : (((w / 2 ^ at_ % 2 : Nat) : Int) = 1) = ((w / 2 ^ at_ % 2 : Nat) = 1) := by apply propext; omega
  have h3 : (((w / 2 ^ at_ % 2 : Nat) : Int) == 1) = decide (((w / 2 ^ at_ % 2 : Nat) : Int) = 1) := rfl
  have h4 : ((w / 2 ^ at_ % 2 : Nat) == 1) = decide ((w / 2 ^ at_ % 2 : Nat) = 1) := rfl
  rw [h3, h4]
  simp only [h1]

theorem decode_spec {h : Hp} (w : Nat) (hw : w < 2 ^ 32) :
    CallsH Try.prog 86 [.int .u32 w] h fun v h' => v = .agg ⟨(dec w).cells⟩ ∧ Fr [] h h' := by
  refine calls_k fun R hR => ?_
  apply entry_Decode.calls
  unfold entry_Decode.P
  rintro h1 rfl h2 rfl
  have hc : ∀ o, cellAt (new (new h (blk 42 [.int .u32 w])) o) (sz h) 0 = some (.int .u32 w) := fun o => by
    rw [cellAt_of (b := sz h) (T := 42) (l := [.int .u32 w]) (by rw [bk_new, if_neg (by rw [sz_new]; omega)]; exact new_at _ _)]; rfl
  have fr : ∀ l, Fr [] h (upd (new (new h (blk 42 [.int .u32 w])) (blk 54 [.bool false, .bool false, .bool false, .bool false, .int .i64 0])) (sz (new h (blk 42 [.int .u32 w]))) 54 l) := fun l =>
    ((Fr.new [] h _).trans (Fr.new [] _ _)).later (Fr.upd (F := [sz (new h (blk 42 [.int .u32 w]))]) (by simp) _ _ _) (by simp [sz_new])
  refine (bit_spec 0 w (sz h) hw (hc _) (by omega)).mono ?_
  rintro v h3 ⟨rfl, rfl⟩
  simp only [Nat.pow_zero, Nat.div_one]
  by_cases hv : w % 2 = 0
  · simp [-Bool.exists_bool, and_assoc, hv, bk_new, writeAt, cellAt_upd, sz_new]
    refine hR _ _ ⟨?_, by simpa [sz_new] using fr _⟩
    simp [dec, hv, noEnt, Ent.cells]
  · have hv' : w % 2 = 1 := by omega
    simp only [hv', beq_self_eq_true, Bool.not_true, Bool.false_eq_true, false_implies, true_implies, true_and]
    refine ⟨_, rfl, by simp, fun _ => ⟨_, hc _, ?_⟩⟩
    refine (bit_spec 1 w (sz h) hw (hc _) (by omega)).mono ?_
    rintro v h4 ⟨rfl, rfl⟩
    refine ⟨_, rfl, hc _, ?_⟩
    refine (bit_spec 2 w (sz h) hw (hc _) (by omega)).mono ?_
    rintro v h4 ⟨rfl, rfl⟩
    refine ⟨_, rfl, hc _, ?_⟩
    refine (bit_spec 3 w (sz h) hw (hc _) (by omega)).mono ?_
    rintro v h4 ⟨rfl, rfl⟩
    refine ⟨_, rfl, hc _, ?_⟩
    refine (field_spec w 8 16 hw (by omega) (by omega)).mono ?_
    rintro v h4 ⟨rfl, rfl⟩
    simp [-Bool.exists_bool, and_assoc, bk_new, writeAt, cellAt_upd, sz_new]
    refine hR _ _ ⟨?_, by simpa [sz_new] using fr _⟩
    have hf : IntKind.wrap .i64 ((w / 256 % 65536 : Nat) : Int) = ((w / 256 % 65536 : Nat) : Int) := wrap_i64 (by omega) (by omega)
    have hf' := hf
    simp at hf'
    simp [dec, hv', Ent.cells, hf']


theorem put0_spec {h : Hp} (at_ n v : Nat) (hv : v < 2 ^ n) (h1 : 1 ≤ n) (h2 : at_ + n ≤ 32) :
    CallsH Try.prog 115 [.int .u32 0, .int .i64 at_, .int .i64 n, .int .u32 v] h fun r h' => r = .int .u32 ((v * 2 ^ at_ : Nat) : Int) ∧ h' = h := by
  apply word_Put.calls
  unfold word_Put.P
  have hp : 2 ^ n ≤ 2 ^ 32 := Nat.pow_le_pow_right (by omega) (by omega)
  have h0 : 0 < 2 ^ n := Nat.two_pow_pos n
  have ha : 0 < 2 ^ at_ := Nat.two_pow_pos at_
  refine (fits_spec at_ n h1 h2).mono ?_
  rintro r h1' ⟨rfl, rfl⟩
  refine ⟨_, rfl, by simp, fun _ => ?_⟩
  refine (mask_spec n h1 (by omega)).mono ?_
  rintro r h2' ⟨rfl, rfl⟩
  refine ⟨_, rfl, by omega, ?_⟩
  refine (mask_spec n h1 (by omega)).mono ?_
  rintro r h3' ⟨rfl, rfl⟩
  refine ⟨_, rfl, by omega, ?_, rfl⟩
  have hm : ((2 ^ n - 1) * 2 ^ at_ : Nat) < 2 ^ 32 := by
    have e : (2 : Nat) ^ n * 2 ^ at_ ≤ 2 ^ 32 := by rw [← Nat.pow_add]; exact Nat.pow_le_pow_right (by omega) (by omega)
    have : (2 ^ n - 1) * 2 ^ at_ + 2 ^ at_ = 2 ^ n * 2 ^ at_ := by rw [← Nat.succ_mul]; congr 1; omega
    omega
  have hvm : v * 2 ^ at_ < 2 ^ 32 := by
    have : v * 2 ^ at_ ≤ (2 ^ n - 1) * 2 ^ at_ := Nat.mul_le_mul_right _ (by omega)
    omega
  rw [shl32 (by omega), band32 (by omega) (by omega), and_ones, Nat.mod_eq_of_lt hv, shl32 (by omega), Nat.mod_eq_of_lt hvm, Nat.mod_eq_of_lt hm]
  rw [show (0 : Int) = ((0 : Nat) : Int) from rfl, bnot32 (by omega) hm, Nat.zero_and, bor32 (by omega) hvm, Nat.zero_or]
def bits4 (v w x b : Bool) : Nat → Nat
  | 0 => 0
  | 1 => bit v 1
  | 2 => bit v 1 + bit w 2
  | 3 => bit v 1 + bit w 2 + bit x 4
  | _ => bit v 1 + bit w 2 + bit x 4 + bit b 8

theorem or_step {f c k : Nat} (hf : f < 65536) (hc : c < 2 ^ k) (hk : k < 8) : borV .u32 ((f * 256 + c : Nat) : Int) (shlV .u32 1 (k : Int)) = ((f * 256 + (c + 2 ^ k) : Nat) : Int) := by
  have hp : 2 ^ k < 2 ^ 8 := Nat.pow_lt_pow_right (by omega) hk
  rw [show (1 : Int) = ((1 : Nat) : Int) from rfl, shl32 (by omega), Nat.one_mul, Nat.mod_eq_of_lt (by omega), bor32 (by omega) (by omega)]
  congr 1
  have := or_low (n := 8) (a := f) (b := c) (c := 2 ^ k) (by omega) hp
  rw [or_bit hc] at this
  exact this

set_option maxHeartbeats 1000000 in
theorem encode_spec {h : Hp} (e : Ent) :
    CallsH Try.prog 97 [.agg ⟨e.cells⟩] h fun v h' => v = .tuple #[.int .u32 (if encOk e then (encN e : Int) else 0), .bool (encOk e)] ∧ Fr [] h h' := by
  obtain ⟨v, w, x, b, f⟩ := e
  refine calls_k fun R hR => ?_
  apply entry_Encode.calls
  unfold entry_Encode.P
  rintro h1 rfl
  have f1 : Fr [] h (new h (blk 54 [.bool v, .bool w, .bool x, .bool b, .int .i64 f])) := Fr.new _ _ _
  have hb := new_at h (blk 54 [.bool v, .bool w, .bool x, .bool b, .int .i64 f])
  generalize hh : new h (blk 54 [.bool v, .bool w, .bool x, .bool b, .int .i64 f]) = h1 at *
  by_cases c1 : f < 0
  · have : encOk ⟨v, w, x, b, f⟩ = false := by simp [encOk]; omega
    simp only [this] at hR
    simp [cellAt_of hb, c1]
    exact ⟨hR _ _ ⟨rfl, f1⟩, by omega⟩
  have c1' : 0 ≤ f := by omega
  by_cases c2 : 65536 ≤ f
  · have : encOk ⟨v, w, x, b, f⟩ = false := by simp [encOk]; omega
    simp only [this] at hR
    simp [cellAt_of hb, c1, c1', c2]
    exact ⟨hR _ _ ⟨rfl, f1⟩, by omega⟩
  have c2' : f < 65536 := by omega
  obtain ⟨n, rfl⟩ : ∃ n : Nat, f = n := ⟨f.toNat, by omega⟩
  have hn : n < 65536 := by omega
  -- the bits one after the other
  have loop : encOk ⟨v, w, x, b, n⟩ = true → ∃ I16 : Int → Int → Hp → Prop, ∃ m17 : Int → Int → Hp → Nat, I16 ((n * 2 ^ 8 : Nat) : Int) 0 h1 ∧ ∀ w18 : Int, ∀ x19 : Int, ∀ h3 : Hp, I16 w18 x19 h3 → ((decide (x19 < 4)) = true → ((0 : Int) ≤ x19 ∧ x19 < ((4 : Nat) : Int) ∧
      ∃ x20 : Bool, ([.bool v, .bool w, .bool x, .bool b] : List Value)[x19.toNat * 1]? = some (.bool x20) ∧ ((x20) = true → ((0 : Int) ≤ x19 ∧ I16 (borV .u32 w18 (shlV .u32 1 x19)) (IntKind.wrap .i64 (x19 + 1)) h3 ∧
      m17 (borV .u32 w18 (shlV .u32 1 x19)) (IntKind.wrap .i64 (x19 + 1)) h3 < m17 w18 x19 h3)) ∧ ((x20) = false → (I16 w18 (IntKind.wrap .i64 (x19 + 1)) h3 ∧ m17 w18 (IntKind.wrap .i64 (x19 + 1)) h3 < m17 w18 x19 h3)))) ∧
      ((decide (x19 < 4)) = false → (R (.tuple #[.int .u32 w18, .bool true]) h3)) := by
    intro hok
    refine ⟨fun w18 x19 h3 => ∃ k : Nat, x19 = k ∧ k ≤ 4 ∧ h3 = h1 ∧ w18 = ((n * 256 + bits4 v w x b k : Nat) : Int), fun _ x19 _ => 4 - x19.toNat, ⟨0, rfl, by omega, rfl, by simp [bits4]⟩, ?_⟩
    rintro w18 x19 h3 ⟨k, rfl, hk, rfl, rfl⟩
    have hw : k < 4 → IntKind.wrap .i64 ((k : Int) + 1) = ((k + 1 : Nat) : Int) := fun _ => by rw [wrap_i64 (by omega) (by omega)]; omega
    have step : ∀ c : Bool, k < 4 → ([.bool v, .bool w, .bool x, .bool b] : List Value)[k]? = some (.bool c) → bits4 v w x b (k + 1) = bits4 v w x b k + bit c (2 ^ k) ∧ bits4 v w x b k < 2 ^ k := by
      intro c hk4 hc
      have : k = 0 ∨ k = 1 ∨ k = 2 ∨ k = 3 := by omega
      rcases this with rfl | rfl | rfl | rfl
      all_goals (simp at hc; subst hc; refine ⟨by simp [bits4], ?_⟩; (first | exact Nat.lt_of_lt_of_le (by simp [bits4] : bits4 _ _ _ _ 0 < 1) (by decide) | (simp only [bits4, bit]; split <;> (try split) <;> (try split) <;> omega)))
    by_cases hk4 : k < 4
    · refine ⟨fun _ => ⟨by omega, by omega, ?_⟩, fun hf => absurd hf (by simp; omega)⟩
      obtain ⟨c, hc⟩ : ∃ c, ([.bool v, .bool w, .bool x, .bool b] : List Value)[k]? = some (.bool c) := by
        have : k = 0 ∨ k = 1 ∨ k = 2 ∨ k = 3 := by omega
        rcases this with rfl | rfl | rfl | rfl <;> exact ⟨_, rfl⟩
      obtain ⟨s1, s2⟩ := step c hk4 hc
      refine ⟨c, by simpa using hc, ?_, ?_⟩
      · rintro rfl
        rw [or_step hn s2 (by omega), hw hk4]
        refine ⟨by omega, ⟨k + 1, rfl, by omega, rfl, by rw [s1]; rfl⟩, by simp only [Int.toNat_natCast]; omega⟩
      · rintro rfl
        rw [hw hk4]
        exact ⟨⟨k + 1, rfl, by omega, rfl, by rw [s1]; rfl⟩, by simp only [Int.toNat_natCast]; omega⟩
    · have : k = 4 := by omega
      subst this
      refine ⟨fun hf => absurd hf (by simp), fun _ => ?_⟩
      refine hR _ _ ⟨?_, f1⟩
      rw [hok, if_pos rfl]
      simp [encN, bits4]
      omega
  have hput := @put0_spec h1 8 16 n (by omega) (by omega) (by omega)
  have hwf : IntKind.wrap .u32 (n : Int) = n := wrapn_u32 n (by omega)
  have z0 : cellAt h1 (sz h) 0 = some (.bool v) := by rw [cellAt_of hb]; rfl
  have z1 : cellAt h1 (sz h) 1 = some (.bool w) := by rw [cellAt_of hb]; rfl
  have z2 : cellAt h1 (sz h) 2 = some (.bool x) := by rw [cellAt_of hb]; rfl
  have z3 : cellAt h1 (sz h) 3 = some (.bool b) := by rw [cellAt_of hb]; rfl
  have z4 : cellAt h1 (sz h) 4 = some (.int .i64 n) := by rw [cellAt_of hb]; rfl
  refine ⟨_, z4, fun hf => absurd hf (by simp), fun _ => ⟨_, z4, fun hf => absurd hf (by simpa using c2'), fun _ => ⟨_, z0, fun hv => ?_, fun hv => ?_⟩⟩⟩
  · have hv' : v = false := by simpa using hv
    refine ⟨_, z0, _, z1, _, z2, _, z3, _, z4, fun hne => ?_, fun heq => ?_⟩
    · have hok : encOk ⟨v, w, x, b, n⟩ = false := by
        have : ¬ (Ent.mk v w x b n = noEnt) := by
          intro he
          simp only [noEnt, Ent.mk.injEq] at he
          obtain ⟨rfl, rfl, rfl, rfl, he⟩ := he
          have : n = 0 := by omega
          subst this
          simp [notIf] at hne
        simp [encOk, hv', hv' ▸ this]
      refine hR _ _ ⟨?_, f1⟩
      rw [hok]; rfl
    · have he : Ent.mk v w x b n = noEnt := by
        simp [notIf] at heq
        obtain ⟨a1, a2, a3, a4, a5⟩ := heq
        subst a1 a2 a3 a4 a5
        rfl
      have hok : encOk ⟨v, w, x, b, n⟩ = true := by rw [he]; rfl
      refine ⟨_, z4, ?_⟩
      rw [hwf]
      refine hput.mono ?_
      rintro r h2 ⟨rfl, rfl⟩
      exact ⟨_, rfl, _, z0, _, z1, _, z2, _, z3, loop hok⟩
  · have hv' : v = true := by simpa using hv
    have hok : encOk ⟨v, w, x, b, n⟩ = true := by simp [encOk, hv']; omega
    refine ⟨_, z4, ?_⟩
    rw [hwf]
    refine hput.mono ?_
    rintro r h2 ⟨rfl, rfl⟩
    exact ⟨_, rfl, _, z0, _, z1, _, z2, _, z3, loop hok⟩


theorem allows_spec {h : Hp} (e : Ent) (a : Int) :
    CallsH Try.prog 58 [.agg ⟨e.cells⟩, .int .i64 a] h fun v h' => v = .bool (allows e a) ∧ Fr [] h h' := by
  obtain ⟨v, w, x, b, f⟩ := e
  refine calls_k fun R hR => ?_
  apply entry_Allows.calls
  unfold entry_Allows.P
  rintro h1 rfl
  have hb := new_at h (blk 54 [.bool v, .bool w, .bool x, .bool b, .int .i64 f])
  have f1 : Fr [] h (new h (blk 54 [.bool v, .bool w, .bool x, .bool b, .int .i64 f])) := Fr.new _ _ _
  generalize new h (blk 54 [.bool v, .bool w, .bool x, .bool b, .int .i64 f]) = h1 at *
  have hr := fun v => hR (.bool v) h1
  by_cases c0 : a = 0
  · subst c0; simp [-Bool.exists_bool, cellAt_of hb]; exact hr _ ⟨by simp [allows], f1⟩
  by_cases c1 : a = 1
  · subst c1; simp [-Bool.exists_bool, cellAt_of hb]; cases v <;> simp <;> exact hr _ ⟨by simp [allows], f1⟩
  by_cases c2 : a = 2
  · subst c2; simp [-Bool.exists_bool, cellAt_of hb]; cases v <;> simp <;> exact hr _ ⟨by simp [allows], f1⟩
  · simp [-Bool.exists_bool, cellAt_of hb, c0, c1, c2]; exact hr _ ⟨by simp [allows, c0, c1, c2], f1⟩



theorem wfield {w k n : Nat} (hn : n ≤ 12) : IntKind.wrap .i64 ((w / 2 ^ k % 2 ^ n : Nat) : Int) = ((w / 2 ^ k % 2 ^ n : Nat) : Int) := by
  have h1 : w / 2 ^ k % 2 ^ n < 2 ^ n := Nat.mod_lt _ (Nat.two_pow_pos n)
  have h2 : 2 ^ n ≤ 2 ^ 12 := Nat.pow_le_pow_right (by omega) hn
  exact wrapn_i64 _ (by omega)
theorem first_spec {h : Hp} (w : Nat) (hw : w < 2 ^ 32) : CallsH Try.prog 101 [.int .u32 w] h fun v h' => v = .int .i64 ((w / 16384 % 64 : Nat) : Int) ∧ h' = h := by
  apply entry_First.calls
  refine (field_spec w 14 6 hw (by omega) (by omega)).mono ?_
  rintro v h' ⟨rfl, rfl⟩
  exact ⟨_, rfl, by rw [wfield (by omega)], rfl⟩
theorem second_spec {h : Hp} (w : Nat) (hw : w < 2 ^ 32) : CallsH Try.prog 102 [.int .u32 w] h fun v h' => v = .int .i64 ((w / 256 % 64 : Nat) : Int) ∧ h' = h := by
  apply entry_Second.calls
  refine (field_spec w 8 6 hw (by omega) (by omega)).mono ?_
  rintro v h' ⟨rfl, rfl⟩
  exact ⟨_, rfl, by rw [wfield (by omega)], rfl⟩
theorem inside_spec {h : Hp} (w : Int) : CallsH Try.prog 99 [.int .u32 w] h fun v h' => v = .bool (decide (w < 1048576)) ∧ h' = h := by
  apply entry_Inside.calls
  exact ⟨rfl, rfl⟩

def joinOk (p o : Int) : Bool := decide (0 ≤ p) && decide (p < 4096) && decide (0 ≤ o) && decide (o < 256)
def joinV (p o : Int) : Int := if joinOk p o then p * 256 + o else 0
theorem join_spec {h : Hp} (p o : Int) : CallsH Try.prog 106 [.int .i64 p, .int .i64 o] h fun v h' => v = .tuple #[.int .u32 (joinV p o), .bool (joinOk p o)] ∧ h' = h := by
  refine calls_k fun R hR => ?_
  apply entry_Join.calls
  unfold entry_Join.P
  by_cases ok : joinOk p o = true
  · simp only [joinV, ok, if_pos] at hR
    simp only [joinOk, Bool.and_eq_true, decide_eq_true_eq] at ok
    obtain ⟨⟨⟨h1, h2⟩, h3⟩, h4⟩ := ok
    have n1 : ¬ (p < 0) := by omega
    have n2 : ¬ (4096 ≤ p) := by omega
    have n3 : ¬ (o < 0) := by omega
    have n4 : ¬ (256 ≤ o) := by omega
    obtain ⟨m, rfl⟩ : ∃ m : Nat, p = m := ⟨p.toNat, by omega⟩
    obtain ⟨k, rfl⟩ : ∃ k : Nat, o = k := ⟨o.toNat, by omega⟩
    have e : borV .i64 (shlV .i64 (m : Int) 8) k = ((m * 2 ^ 8 + k : Nat) : Int) := by
      rw [show (8 : Int) = ((8 : Nat) : Int) from rfl, shli (by omega) (by omega), bori (by omega) (by omega), or_apart (n := 8) (by omega)]
    have e2 : IntKind.wrap .u32 ((m * 2 ^ 8 + k : Nat) : Int) = ((m * 2 ^ 8 + k : Nat) : Int) := wrapn_u32 _ (by omega)
    have n2' : ¬ (4096 ≤ m) := by omega
    have n4' : ¬ (256 ≤ k) := by omega
    have n2'' : (m : Int) < 4096 := by omega
    have n4'' : (k : Int) < 256 := by omega
    rw [e, e2]
    simp [n1, n2, n3, n4, n2', n4', n2'', n4'']
    exact hR _ _ ⟨by simp, rfl⟩
  · have ok' : joinOk p o = false := by simpa using ok
    simp only [joinV, ok', Bool.false_eq_true, if_false] at hR
    have hf := hR _ _ ⟨rfl, rfl⟩
    have : p < 0 ∨ 4096 ≤ p ∨ o < 0 ∨ 256 ≤ o := by
      simp only [joinOk, Bool.and_eq_true, decide_eq_true_eq] at ok
      omega
    simp only [hf, implies_true, true_and]
    by_cases a1 : p < 0
    · simp [a1]
    by_cases a2 : 4096 ≤ p
    · simp [a1, a2]
    by_cases a3 : o < 0
    · simp [a1, a2, a3]
    · simp [a1, a2, a3]; omega

def both (a b : Ent) : Ent := if a.v && b.v then ⟨true, a.w && b.w, a.x && b.x, false, b.f⟩ else noEnt

end Go.Proofs.Ytmldiibfmhkgjaa
