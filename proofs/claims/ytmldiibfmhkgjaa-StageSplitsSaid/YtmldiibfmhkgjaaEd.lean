import Derived.Test.YtmldiibfmhkgjaaEc
namespace Go.Proofs.Ytmldiibfmhkgjaa
open Go Go.Wd
set_option linter.unusedVariables false
set_option linter.unusedSimpArgs false

theorem wfield {w k n : Nat} (hn : n ≤ 12) : IntKind.wrap .i64 ((w / 2 ^ k % 2 ^ n : Nat) : Int) = ((w / 2 ^ k % 2 ^ n : Nat) : Int) := by
  have h1 : w / 2 ^ k % 2 ^ n < 2 ^ n := Nat.mod_lt _ (Nat.two_pow_pos n)
  have h2 : 2 ^ n ≤ 2 ^ 12 := Nat.pow_le_pow_right (by omega) hn
  exact wrapn_i64 _ (by omega)
theorem first_spec {h : Hp} (w : Nat) (hw : w < 2 ^ 32) : CallsH Try.prog 101 [.int .u32 w] h fun v h' => v = .int .i64 ((w / 16384 % 64 : Nat) : Int) ∧ h' = h := by
  apply entry_First.calls
  refine (field_spec w 14 6 hw (by omega) (by omega)).mono ?_
  rintro v h' ⟨rfl, rfl⟩
  exact ⟨_, rfl, by rw [wfield (by omega)], rfl⟩
theorem second_spec {h : Hp} (w : Nat) (hw : w < 2 ^ 32) : CallsH Try.prog 102 [.int .u32 w] h fun v h' => v = .int .i64 ((w / 256 % 64 : Nat) : Int) ∧ h' = h := by
  apply entry_Second.calls
  refine (field_spec w 8 6 hw (by omega) (by omega)).mono ?_
  rintro v h' ⟨rfl, rfl⟩
  exact ⟨_, rfl, by rw [wfield (by omega)], rfl⟩
theorem inside_spec {h : Hp} (w : Int) : CallsH Try.prog 99 [.int .u32 w] h fun v h' => v = .bool (decide (w < 1048576)) ∧ h' = h := by
  apply entry_Inside.calls
  exact ⟨rfl, rfl⟩

def joinOk (p o : Int) : Bool := decide (0 ≤ p) && decide (p < 4096) && decide (0 ≤ o) && decide (o < 256)
def joinV (p o : Int) : Int := if joinOk p o then p * 256 + o else 0
theorem join_spec {h : Hp} (p o : Int) : CallsH Try.prog 106 [.int .i64 p, .int .i64 o] h fun v h' => v = .tuple #[.int .u32 (joinV p o), .bool (joinOk p o)] ∧ h' = h := by
  refine calls_k fun R hR => ?_
  apply entry_Join.calls
  unfold entry_Join.P
  by_cases ok : joinOk p o = true
  · simp only [joinV, ok, if_pos] at hR
    simp only [joinOk, Bool.and_eq_true, decide_eq_true_eq] at ok
    obtain ⟨⟨⟨h1, h2⟩, h3⟩, h4⟩ := ok
    have n1 : ¬ (p < 0) := by omega
    have n2 : ¬ (4096 ≤ p) := by omega
    have n3 : ¬ (o < 0) := by omega
    have n4 : ¬ (256 ≤ o) := by omega
    obtain ⟨m, rfl⟩ : ∃ m : Nat, p = m := ⟨p.toNat, by omega⟩
    obtain ⟨k, rfl⟩ : ∃ k : Nat, o = k := ⟨o.toNat, by omega⟩
    have e : borV .i64 (shlV .i64 (m : Int) 8) k = ((m * 2 ^ 8 + k : Nat) : Int) := by
      rw [show (8 : Int) = ((8 : Nat) : Int) from rfl, shli (by omega) (by omega), bori (by omega) (by omega), or_apart (n := 8) (by omega)]
    have e2 : IntKind.wrap .u32 ((m * 2 ^ 8 + k : Nat) : Int) = ((m * 2 ^ 8 + k : Nat) : Int) := wrapn_u32 _ (by omega)
    have n2' : ¬ (4096 ≤ m) := by omega
    have n4' : ¬ (256 ≤ k) := by omega
    have n2'' : (m : Int) < 4096 := by omega
    have n4'' : (k : Int) < 256 := by omega
    rw [e, e2]
    simp [n1, n2, n3, n4, n2', n4', n2'', n4'']
    exact hR _ _ ⟨by simp, rfl⟩
  · have ok' : joinOk p o = false := by simpa using ok
    simp only [joinV, ok', Bool.false_eq_true, if_false] at hR
    have hf := hR _ _ ⟨rfl, rfl⟩
    have : p < 0 ∨ 4096 ≤ p ∨ o < 0 ∨ 256 ≤ o := by
      simp only [joinOk, Bool.and_eq_true, decide_eq_true_eq] at ok
      omega
    simp only [hf, implies_true, true_and]
    by_cases a1 : p < 0
    · simp [a1]
    by_cases a2 : 4096 ≤ p
    · simp [a1, a2]
    by_cases a3 : o < 0
    · simp [a1, a2, a3]
    · simp [a1, a2, a3]; omega

def both (a b : Ent) : Ent := if a.v && b.v then ⟨true, a.w && b.w, a.x && b.x, false, b.f⟩ else noEnt
end Go.Proofs.Ytmldiibfmhkgjaa
