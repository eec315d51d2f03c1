import Derived.Test.YtmldiibfmhkgjaaEa
namespace Go.Proofs.Ytmldiibfmhkgjaa
open Go Go.Wd
set_option linter.unusedVariables false
set_option linter.unusedSimpArgs false

theorem put0_spec {h : Hp} (at_ n v : Nat) (hv : v < 2 ^ n) (h1 : 1 ≤ n) (h2 : at_ + n ≤ 32) :
    CallsH Try.prog 115 [.int .u32 0, .int .i64 at_, .int .i64 n, .int .u32 v] h fun r h' => r = .int .u32 ((v * 2 ^ at_ : Nat) : Int) ∧ h' = h := by
  apply word_Put.calls
  unfold word_Put.P
  have hp : 2 ^ n ≤ 2 ^ 32 := Nat.pow_le_pow_right (by omega) (by omega)
  have h0 : 0 < 2 ^ n := Nat.two_pow_pos n
  have ha : 0 < 2 ^ at_ := Nat.two_pow_pos at_
  refine (fits_spec at_ n h1 h2).mono ?_
  rintro r h1' ⟨rfl, rfl⟩
  refine ⟨_, rfl, by simp, fun _ => ?_⟩
  refine (mask_spec n h1 (by omega)).mono ?_
  rintro r h2' ⟨rfl, rfl⟩
  refine ⟨_, rfl, by omega, ?_⟩
  refine (mask_spec n h1 (by omega)).mono ?_
  rintro r h3' ⟨rfl, rfl⟩
  refine ⟨_, rfl, by omega, ?_, rfl⟩
  have hm : ((2 ^ n - 1) * 2 ^ at_ : Nat) < 2 ^ 32 := by
    have e : (2 : Nat) ^ n * 2 ^ at_ ≤ 2 ^ 32 := by rw [← Nat.pow_add]; exact Nat.pow_le_pow_right (by omega) (by omega)
    have : (2 ^ n - 1) * 2 ^ at_ + 2 ^ at_ = 2 ^ n * 2 ^ at_ := by rw [← Nat.succ_mul]; congr 1; omega
    omega
  have hvm : v * 2 ^ at_ < 2 ^ 32 := by
    have : v * 2 ^ at_ ≤ (2 ^ n - 1) * 2 ^ at_ := Nat.mul_le_mul_right _ (by omega)
    omega
  rw [shl32 (by omega), band32 (by omega) (by omega), and_ones, Nat.mod_eq_of_lt hv, shl32 (by omega), Nat.mod_eq_of_lt hvm, Nat.mod_eq_of_lt hm]
  rw [show (0 : Int) = ((0 : Nat) : Int) from rfl, bnot32 (by omega) hm, Nat.zero_and, bor32 (by omega) hvm, Nat.zero_or]
def bits4 (v w x b : Bool) : Nat → Nat
  | 0 => 0
  | 1 => bit v 1
  | 2 => bit v 1 + bit w 2
  | 3 => bit v 1 + bit w 2 + bit x 4
  | _ => bit v 1 + bit w 2 + bit x 4 + bit b 8

theorem or_step {f c k : Nat} (hf : f < 65536) (hc : c < 2 ^ k) (hk : k < 8) : borV .u32 ((f * 256 + c : Nat) : Int) (shlV .u32 1 (k : Int)) = ((f * 256 + (c + 2 ^ k) : Nat) : Int) := by
  have hp : 2 ^ k < 2 ^ 8 := Nat.pow_lt_pow_right (by omega) hk
  rw [show (1 : Int) = ((1 : Nat) : Int) from rfl, shl32 (by omega), Nat.one_mul, Nat.mod_eq_of_lt (by omega), bor32 (by omega) (by omega)]
  congr 1
  have := or_low (n := 8) (a := f) (b := c) (c := 2 ^ k) (by omega) hp
  rw [or_bit hc] at this
  exact this

set_option maxHeartbeats 1000000 in
theorem encode_spec {h : Hp} (e : Ent) :
    CallsH Try.prog 97 [.agg ⟨e.cells⟩] h fun v h' => v = .tuple #[.int .u32 (if encOk e then (encN e : Int) else 0), .bool (encOk e)] ∧ Fr [] h h' := by
  obtain ⟨v, w, x, b, f⟩ := e
  refine calls_k fun R hR => ?_
  apply entry_Encode.calls
  unfold entry_Encode.P
  rintro h1 rfl
  have f1 : Fr [] h (new h (blk 54 [.bool v, .bool w, .bool x, .bool b, .int .i64 f])) := Fr.new _ _ _
  have hb := new_at h (blk 54 [.bool v, .bool w, .bool x, .bool b, .int .i64 f])
  generalize hh : new h (blk 54 [.bool v, .bool w, .bool x, .bool b, .int .i64 f]) = h1 at *
  by_cases c1 : f < 0
  · have : encOk ⟨v, w, x, b, f⟩ = false := by simp [encOk]; omega
    simp only [this] at hR
    simp [cellAt_of hb, c1]
    exact ⟨hR _ _ ⟨rfl, f1⟩, by omega⟩
  have c1' : 0 ≤ f := by omega
  by_cases c2 : 65536 ≤ f
  · have : encOk ⟨v, w, x, b, f⟩ = false := by simp [encOk]; omega
    simp only [this] at hR
    simp [cellAt_of hb, c1, c1', c2]
    exact ⟨hR _ _ ⟨rfl, f1⟩, by omega⟩
  have c2' : f < 65536 := by omega
  obtain ⟨n, rfl⟩ : ∃ n : Nat, f = n := ⟨f.toNat, by omega⟩
  have hn : n < 65536 := by omega
  -- the bits one after the other
  have loop : encOk ⟨v, w, x, b, n⟩ = true → ∃ I16 : Int → Int → Hp → Prop, ∃ m17 : Int → Int → Hp → Nat, I16 ((n * 2 ^ 8 : Nat) : Int) 0 h1 ∧ ∀ w18 : Int, ∀ x19 : Int, ∀ h3 : Hp, I16 w18 x19 h3 → ((decide (x19 < 4)) = true → ((0 : Int) ≤ x19 ∧ x19 < ((4 : Nat) : Int) ∧
      ∃ x20 : Bool, ([.bool v, .bool w, .bool x, .bool b] : List Value)[x19.toNat * 1]? = some (.bool x20) ∧ ((x20) = true → ((0 : Int) ≤ x19 ∧ I16 (borV .u32 w18 (shlV .u32 1 x19)) (IntKind.wrap .i64 (x19 + 1)) h3 ∧
      m17 (borV .u32 w18 (shlV .u32 1 x19)) (IntKind.wrap .i64 (x19 + 1)) h3 < m17 w18 x19 h3)) ∧ ((x20) = false → (I16 w18 (IntKind.wrap .i64 (x19 + 1)) h3 ∧ m17 w18 (IntKind.wrap .i64 (x19 + 1)) h3 < m17 w18 x19 h3)))) ∧
      ((decide (x19 < 4)) = false → (R (.tuple #[.int .u32 w18, .bool true]) h3)) := by
    intro hok
    refine ⟨fun w18 x19 h3 => ∃ k : Nat, x19 = k ∧ k ≤ 4 ∧ h3 = h1 ∧ w18 = ((n * 256 + bits4 v w x b k : Nat) : Int), fun _ x19 _ => 4 - x19.toNat, ⟨0, rfl, by omega, rfl, by simp [bits4]⟩, ?_⟩
    rintro w18 x19 h3 ⟨k, rfl, hk, rfl, rfl⟩
    have hw : k < 4 → IntKind.wrap .i64 ((k : Int) + 1) = ((k + 1 : Nat) : Int) := fun _ => by rw [wrap_i64 (by omega) (by omega)]; omega
    have step : ∀ c : Bool, k < 4 → ([.bool v, .bool w, .bool x, .bool b] : List Value)[k]? = some (.bool c) → bits4 v w x b (k + 1) = bits4 v w x b k + bit c (2 ^ k) ∧ bits4 v w x b k < 2 ^ k := by
      intro c hk4 hc
      have : k = 0 ∨ k = 1 ∨ k = 2 ∨ k = 3 := by omega
      rcases this with rfl | rfl | rfl | rfl
      all_goals (simp at hc; subst hc; refine ⟨by simp [bits4], ?_⟩; (first | exact Nat.lt_of_lt_of_le (by simp [bits4] : bits4 _ _ _ _ 0 < 1) (by decide) | (simp only [bits4, bit]; split <;> (try split) <;> (try split) <;> omega)))
    by_cases hk4 : k < 4
    · refine ⟨fun _ => ⟨by omega, by omega, ?_⟩, fun hf => absurd hf (by simp; omega)⟩
      obtain ⟨c, hc⟩ : ∃ c, ([.bool v, .bool w, .bool x, .bool b] : List Value)[k]? = some (.bool c) := by
        have : k = 0 ∨ k = 1 ∨ k = 2 ∨ k = 3 := by omega
        rcases this with rfl | rfl | rfl | rfl <;> exact ⟨_, rfl⟩
      obtain ⟨s1, s2⟩ := step c hk4 hc
      refine ⟨c, by simpa using hc, ?_, ?_⟩
      · rintro rfl
        rw [or_step hn s2 (by omega), hw hk4]
        refine ⟨by omega, ⟨k + 1, rfl, by omega, rfl, by rw [s1]; rfl⟩, by simp only [Int.toNat_natCast]; omega⟩
      · rintro rfl
        rw [hw hk4]
        exact ⟨⟨k + 1, rfl, by omega, rfl, by rw [s1]; rfl⟩, by simp only [Int.toNat_natCast]; omega⟩
    · have : k = 4 := by omega
      subst this
      refine ⟨fun hf => absurd hf (by simp), fun _ => ?_⟩
      refine hR _ _ ⟨?_, f1⟩
      rw [hok, if_pos rfl]
      simp [encN, bits4]
      omega
  have hput := @put0_spec h1 8 16 n (by omega) (by omega) (by omega)
  have hwf : IntKind.wrap .u32 (n : Int) = n := wrapn_u32 n (by omega)
  have z0 : cellAt h1 (sz h) 0 = some (.bool v) := by rw [cellAt_of hb]; rfl
  have z1 : cellAt h1 (sz h) 1 = some (.bool w) := by rw [cellAt_of hb]; rfl
  have z2 : cellAt h1 (sz h) 2 = some (.bool x) := by rw [cellAt_of hb]; rfl
  have z3 : cellAt h1 (sz h) 3 = some (.bool b) := by rw [cellAt_of hb]; rfl
  have z4 : cellAt h1 (sz h) 4 = some (.int .i64 n) := by rw [cellAt_of hb]; rfl
  refine ⟨_, z4, fun hf => absurd hf (by simp), fun _ => ⟨_, z4, fun hf => absurd hf (by simpa using c2'), fun _ => ⟨_, z0, fun hv => ?_, fun hv => ?_⟩⟩⟩
  · have hv' : v = false := by simpa using hv
    refine ⟨_, z0, _, z1, _, z2, _, z3, _, z4, fun hne => ?_, fun heq => ?_⟩
    · have hok : encOk ⟨v, w, x, b, n⟩ = false := by
        have : ¬ (Ent.mk v w x b n = noEnt) := by
          intro he
          simp only [noEnt, Ent.mk.injEq] at he
          obtain ⟨rfl, rfl, rfl, rfl, he⟩ := he
          have : n = 0 := by omega
          subst this
          simp [notIf] at hne
        simp [encOk, hv', hv' ▸ this]
      refine hR _ _ ⟨?_, f1⟩
      rw [hok]; rfl
    · have he : Ent.mk v w x b n = noEnt := by
        simp [notIf] at heq
        obtain ⟨a1, a2, a3, a4, a5⟩ := heq
        subst a1 a2 a3 a4 a5
        rfl
      have hok : encOk ⟨v, w, x, b, n⟩ = true := by rw [he]; rfl
      refine ⟨_, z4, ?_⟩
      rw [hwf]
      refine hput.mono ?_
      rintro r h2 ⟨rfl, rfl⟩
      exact ⟨_, rfl, _, z0, _, z1, _, z2, _, z3, loop hok⟩
  · have hv' : v = true := by simpa using hv
    have hok : encOk ⟨v, w, x, b, n⟩ = true := by simp [encOk, hv']; omega
    refine ⟨_, z4, ?_⟩
    rw [hwf]
    refine hput.mono ?_
    rintro r h2 ⟨rfl, rfl⟩
    exact ⟨_, rfl, _, z0, _, z1, _, z2, _, z3, loop hok⟩
end Go.Proofs.Ytmldiibfmhkgjaa
