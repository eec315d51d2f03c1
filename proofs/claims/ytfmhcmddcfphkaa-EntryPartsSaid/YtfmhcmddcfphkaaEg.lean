import Derived.Test.YtfmhcmddcfphkaaEf
namespace Go.Proofs.Ytfmhcmddcfphkaa
open Go Go.Wd
set_option linter.unusedVariables false
set_option linter.unusedSimpArgs false

theorem parts_or (w : Nat) : borV .u32 (borV .u32 (shlV .u32 (IntKind.wrap .u32 ((w / 16384 % 64 : Nat) : Int)) 14) (shlV .u32 (IntKind.wrap .u32 ((w / 256 % 64 : Nat) : Int)) 8)) (IntKind.wrap .u32 ((w % 256 : Nat) : Int)) = ((w % 1048576 : Nat) : Int) := by
  rw [wrapn_u32 _ (by omega), wrapn_u32 _ (by omega), wrapn_u32 _ (by omega)]
  rw [show (14 : Int) = ((14 : Nat) : Int) from rfl, show (8 : Int) = ((8 : Nat) : Int) from rfl, shl32 (by omega), shl32 (by omega)]
  rw [Nat.mod_eq_of_lt (b := 2 ^ 32) (by omega), Nat.mod_eq_of_lt (b := 2 ^ 32) (by omega), bor32 (by omega) (by omega), or_apart (n := 14) (by omega), bor32 (by omega) (by omega)]
  rw [show w / 16384 % 64 * 2 ^ 14 + w / 256 % 64 * 2 ^ 8 = (w / 16384 % 64 * 64 + w / 256 % 64) * 2 ^ 8 by omega, or_apart (n := 8) (by omega)]
  congr 1
  omega

set_option maxRecDepth 20000 in
set_option maxHeartbeats 2000000 in
theorem parts_spec {h : Hp} (w : Nat) (hw : w < 2 ^ 32) (p o : Int) :
    CallsH Try.prog 4 [.int .u32 w, .int .i64 p, .int .i64 o] h fun v h' => v = .bool true ∧ Fr [] h h' := by
  refine calls_k fun R hR => ?_
  apply warderlaw06_EntryParts.calls
  unfold warderlaw06_EntryParts.P
  refine (alive_spec h).mono ?_
  rintro v h1 ⟨rfl, f1⟩
  refine ⟨_, rfl, by simp, fun _ => ?_⟩
  refine (first_spec w hw).mono ?_
  rintro v h2 ⟨rfl, rfl⟩
  refine ⟨_, rfl, ?_⟩
  refine (second_spec w hw).mono ?_
  rintro v h3 ⟨rfl, rfl⟩
  refine ⟨_, rfl, ?_⟩
  refine (offset_spec w hw).mono ?_
  rintro v h4 ⟨rfl, rfl⟩
  refine ⟨_, rfl, ?_⟩
  refine (page_spec w hw).mono ?_
  rintro v h5 ⟨rfl, rfl⟩
  refine ⟨_, rfl, by omega, ?_⟩
  have hm : Int.tmod (w : Int) 1048576 = ((w % 1048576 : Nat) : Int) := by rw [tmod_nat (by omega)]; omega
  have hp : IntKind.wrap .i64 (IntKind.wrap .i64 (((w / 16384 % 64 : Nat) : Int) * 64) + ((w / 256 % 64 : Nat) : Int)) = ((w / 256 % 4096 : Nat) : Int) := by
    rw [wrap_i64 (n := ((w / 16384 % 64 : Nat) : Int) * 64) (by omega) (by omega), wrap_i64 (by omega) (by omega)]; omega
  rw [parts_or, hm, hp]
  refine ⟨fun h6 => h6 = h5, ?_, ?_⟩
  · refine ⟨by omega, by omega, by simp, fun _ => ⟨by simp, fun _ => ⟨fun hc => absurd hc (by simp; omega), fun _ => ⟨fun hc => absurd hc (by simp; omega), fun _ => ⟨fun hc => absurd hc (by simp; omega), fun _ => ?_⟩⟩⟩⟩⟩
    refine (inside_spec w).mono ?_
    rintro v h6 ⟨rfl, rfl⟩
    have hin : (decide ((w : Int) < 1048576) == (((w % 1048576 : Nat) : Int) == (w : Int))) = true := by
      rw [beq_iff_eq, Bool.eq_iff_iff]
      simp only [decide_eq_true_eq, beq_iff_eq]
      omega
    refine ⟨_, rfl, fun hc => ?_, fun _ => rfl⟩
    rw [hin] at hc; cases hc
  rintro h6 rfl
  refine (join_spec _ _).mono ?_
  rintro v h7 ⟨rfl, rfl⟩
  refine ⟨_, _, rfl, ?_⟩
  have j1 : joinOk ((w / 256 % 4096 : Nat) : Int) ((w % 256 : Nat) : Int) = true := by simp only [joinOk, Bool.and_eq_true, decide_eq_true_eq]; omega
  have j2 : joinV ((w / 256 % 4096 : Nat) : Int) ((w % 256 : Nat) : Int) = ((w % 1048576 : Nat) : Int) := by rw [joinV, if_pos j1]; omega
  rw [j1, j2]
  refine (join_spec p o).mono ?_
  rintro v h8 ⟨rfl, rfl⟩
  refine ⟨_, _, rfl, ?_⟩
  have fin := hR _ _ ⟨rfl, f1⟩
  refine ⟨fun b h9 => b = joinOk p o ∧ h9 = h8, ?_, ?_⟩
  · refine ⟨fun a1 => ⟨fun a2 => ⟨fun a3 => ⟨?_, rfl⟩, fun a3 => ⟨?_, rfl⟩⟩, fun a2 => ⟨?_, rfl⟩⟩, fun a1 => ⟨?_, rfl⟩⟩
    all_goals (simp only [decide_eq_true_eq, decide_eq_false_iff_not] at *; rw [Bool.eq_iff_iff]; simp only [joinOk, decide_eq_true_eq, Bool.and_eq_true, Bool.false_eq_true, false_iff]; omega)
  rintro g h9 ⟨rfl, rfl⟩
  refine ⟨fun h10 => h10 = h9, ⟨by simp, fun _ => ⟨by simp, fun _ => ⟨by simp [notIf], fun _ => rfl⟩⟩⟩, ?_⟩
  rintro h10 rfl
  refine ⟨fun hf => ?_, fun ht => ?_⟩
  · have hf' : joinOk p o = false := by simpa using hf
    refine ⟨fun _ => fin, fun hc => ?_⟩
    simp [joinV, hf'] at hc
  · have ht' : joinOk p o = true := by simpa using ht
    refine ⟨fun _ => ?_, fun hc => by rw [ht'] at hc; cases hc⟩
    have hjv : joinV p o = p * 256 + o := by rw [joinV, if_pos ht']
    simp only [joinOk, Bool.and_eq_true, decide_eq_true_eq] at ht'
    obtain ⟨n, hn⟩ : ∃ n : Nat, p * 256 + o = n := ⟨(p * 256 + o).toNat, by omega⟩
    have hlt : n < 1048576 := by omega
    rw [hjv, hn]
    refine (page_spec n (by omega)).mono ?_
    rintro v h9 ⟨rfl, rfl⟩
    refine ⟨_, rfl, fun _ => ?_, fun hc => ?_⟩
    · refine (offset_spec n (by omega)).mono ?_
      rintro v h10 ⟨rfl, rfl⟩
      refine ⟨_, rfl, fun _ => ?_, fun hc => ?_⟩
      · refine (inside_spec n).mono ?_
        rintro v h11 ⟨rfl, rfl⟩
        have : decide ((n : Int) < 1048576) = true := by simp; omega
        exact ⟨_, rfl, by rw [this]; exact fin⟩
      · exfalso; rw [beq_eq_false_iff_ne] at hc; omega
    · exfalso; rw [beq_eq_false_iff_ne] at hc; omega
end Go.Proofs.Ytfmhcmddcfphkaa
