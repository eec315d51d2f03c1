import Derived.Test.YtfmhcmddcfphkaaEc
namespace Go.Proofs.Ytfmhcmddcfphkaa
open Go Go.Wd
set_option linter.unusedVariables false
set_option linter.unusedSimpArgs false

theorem wfield {w k n : Nat} (hn : n ≤ 12) : IntKind.wrap .i64 ((w / 2 ^ k % 2 ^ n : Nat) : Int) = ((w / 2 ^ k % 2 ^ n : Nat) : Int) := by
  have h1 : w / 2 ^ k % 2 ^ n < 2 ^ n := Nat.mod_lt _ (Nat.two_pow_pos n)
  have h2 : 2 ^ n ≤ 2 ^ 12 := Nat.pow_le_pow_right (by omega) hn
  exact wrapn_i64 _ (by omega)
theorem first_spec {h : Hp} (w : Nat) (hw : w < 2 ^ 32) : CallsH Try.prog 15 [.int .u32 w] h fun v h' => v = .int .i64 ((w / 16384 % 64 : Nat) : Int) ∧ h' = h := by
  apply entry_First.calls
  refine (field_spec w 14 6 hw (by omega) (by omega)).mono ?_
  rintro v h' ⟨rfl, rfl⟩
  exact ⟨_, rfl, by rw [wfield (by omega)], rfl⟩
theorem second_spec {h : Hp} (w : Nat) (hw : w < 2 ^ 32) : CallsH Try.prog 16 [.int .u32 w] h fun v h' => v = .int .i64 ((w / 256 % 64 : Nat) : Int) ∧ h' = h := by
  apply entry_Second.calls
  refine (field_spec w 8 6 hw (by omega) (by omega)).mono ?_
  rintro v h' ⟨rfl, rfl⟩
  exact ⟨_, rfl, by rw [wfield (by omega)], rfl⟩
theorem offset_spec {h : Hp} (w : Nat) (hw : w < 2 ^ 32) : CallsH Try.prog 17 [.int .u32 w] h fun v h' => v = .int .i64 ((w % 256 : Nat) : Int) ∧ h' = h := by
  apply entry_Offset.calls
  refine (field_spec w 0 8 hw (by omega) (by omega)).mono ?_
  rintro v h' ⟨rfl, rfl⟩
  exact ⟨_, rfl, by rw [wfield (by omega)]; simp, rfl⟩
theorem page_spec {h : Hp} (w : Nat) (hw : w < 2 ^ 32) : CallsH Try.prog 18 [.int .u32 w] h fun v h' => v = .int .i64 ((w / 256 % 4096 : Nat) : Int) ∧ h' = h := by
  apply entry_PageOf.calls
  refine (field_spec w 8 12 hw (by omega) (by omega)).mono ?_
  rintro v h' ⟨rfl, rfl⟩
  exact ⟨_, rfl, by rw [wfield (by omega)], rfl⟩
theorem inside_spec {h : Hp} (w : Int) : CallsH Try.prog 19 [.int .u32 w] h fun v h' => v = .bool (decide (w < 1048576)) ∧ h' = h := by
  apply entry_Inside.calls
  exact ⟨rfl, rfl⟩

def joinOk (p o : Int) : Bool := decide (0 ≤ p) && decide (p < 4096) && decide (0 ≤ o) && decide (o < 256)
def joinV (p o : Int) : Int := if joinOk p o then p * 256 + o else 0
theorem join_spec {h : Hp} (p o : Int) : CallsH Try.prog 20 [.int .i64 p, .int .i64 o] h fun v h' => v = .tuple #[.int .u32 (joinV p o), .bool (joinOk p o)] ∧ h' = h := by
  refine calls_k fun R hR => ?_
  apply entry_Join.calls
  unfold entry_Join.P
  by_cases ok : joinOk p o = true
  · simp only [joinV, ok, if_pos] at hR
    simp only [joinOk, Bool.and_eq_true, decide_eq_true_eq] at ok
    obtain ⟨⟨⟨h1, h2⟩, h3⟩, h4⟩ := ok
    have n1 : ¬ (p < 0) := by omega
    have n2 : ¬ (4096 ≤ p) := by omega
    have n3 : ¬ (o < 0) := by omega
    have n4 : ¬ (256 ≤ o) := by omega
    obtain ⟨m, rfl⟩ : ∃ m : Nat, p = m := ⟨p.toNat, by omega⟩
    obtain ⟨k, rfl⟩ : ∃ k : Nat, o = k := ⟨o.toNat, by omega⟩
    have e : borV .i64 (shlV .i64 (m : Int) 8) k = ((m * 2 ^ 8 + k : Nat) : Int) := by
      rw [show (8 : Int) = ((8 : Nat) : Int) from rfl, shli (by omega) (by omega), bori (by omega) (by omega), or_apart (n := 8) (by omega)]
    have e2 : IntKind.wrap .u32 ((m * 2 ^ 8 + k : Nat) : Int) = ((m * 2 ^ 8 + k : Nat) : Int) := wrapn_u32 _ (by omega)
    have n2' : ¬ (4096 ≤ m) := by omega
    have n4' : ¬ (256 ≤ k) := by omega
    have n2'' : (m : Int) < 4096 := by omega
    have n4'' : (k : Int) < 256 := by omega
    rw [e, e2]
    simp [n1, n2, n3, n4, n2', n4', n2'', n4'']
    exact hR _ _ ⟨by simp, rfl⟩
  · have ok' : joinOk p o = false := by simpa using ok
    simp only [joinV, ok', Bool.false_eq_true, if_false] at hR
    have hf := hR _ _ ⟨rfl, rfl⟩
    have : p < 0 ∨ 4096 ≤ p ∨ o < 0 ∨ 256 ≤ o := by
      simp only [joinOk, Bool.and_eq_true, decide_eq_true_eq] at ok
      omega
    simp only [hf, implies_true, true_and]
    by_cases a1 : p < 0
    · simp [a1]
    by_cases a2 : 4096 ≤ p
    · simp [a1, a2]
    by_cases a3 : o < 0
    · simp [a1, a2, a3]
    · simp [a1, a2, a3]; omega

def both (a b : Ent) : Ent := if a.v && b.v then ⟨true, a.w && b.w, a.x && b.x, false, b.f⟩ else noEnt
theorem both_spec {h : Hp} (a b : Ent) : CallsH Try.prog 21 [.agg ⟨a.cells⟩, .agg ⟨b.cells⟩] h fun v h' => v = .agg ⟨(both a b).cells⟩ ∧ Fr [] h h' := by
  obtain ⟨av, aw, ax, ab, af⟩ := a
  obtain ⟨bv, bw, bx, bb, bf⟩ := b
  refine calls_k fun R hR => ?_
  apply entry_Both.calls
  unfold entry_Both.P
  rintro h1 rfl h2 rfl h3 rfl
  have k1 := new_at h (blk 23 [.bool av, .bool aw, .bool ax, .bool ab, .int .i64 af])
  have f1 : Fr [] h (new h (blk 23 [.bool av, .bool aw, .bool ax, .bool ab, .int .i64 af])) := Fr.new _ _ _
  generalize new h (blk 23 [.bool av, .bool aw, .bool ax, .bool ab, .int .i64 af]) = h1 at *
  have f2 : Fr [] h1 (new h1 (blk 23 [.bool bv, .bool bw, .bool bx, .bool bb, .int .i64 bf])) := Fr.new _ _ _
  have k1 := f2.at k1 (by simp)
  have k2 := new_at h1 (blk 23 [.bool bv, .bool bw, .bool bx, .bool bb, .int .i64 bf])
  generalize new h1 (blk 23 [.bool bv, .bool bw, .bool bx, .bool bb, .int .i64 bf]) = h2 at *
  have f3 : Fr [] h2 (new h2 (blk 23 [.bool false, .bool false, .bool false, .bool false, .int .i64 0])) := Fr.new _ _ _
  have k1 := f3.at k1 (by simp)
  have k2 := f3.at k2 (by simp)
  have k3 := new_at h2 (blk 23 [.bool false, .bool false, .bool false, .bool false, .int .i64 0])
  generalize new h2 (blk 23 [.bool false, .bool false, .bool false, .bool false, .int .i64 0]) = h3 at *
  have s1 := f1.size
  have s2 := f2.size
  have fin : ∀ l, Fr [] h (upd h3 (sz h2) 23 l) := fun l => ((f1.trans f2).trans f3).later (Fr.upd (F := [sz h2]) (by simp) _ _ _) (by simp; omega)
  have lt := lt_of_bk k3
  cases av
  · simp [-Bool.exists_bool, and_assoc, cellAt_of k1, cellAt_of k2, k3, writeAt, cellAt_upd, lt]; exact hR _ _ ⟨rfl, fin _⟩
  cases bv
  · simp [-Bool.exists_bool, and_assoc, cellAt_of k1, cellAt_of k2, k3, writeAt, cellAt_upd, lt]; exact hR _ _ ⟨rfl, fin _⟩
  cases aw <;> cases ax <;> (simp [-Bool.exists_bool, and_assoc, cellAt_of k1, cellAt_of k2, k3, writeAt, cellAt_upd, lt]; exact hR _ _ ⟨rfl, fin _⟩)

theorem alive_spec (h : Hp) : CallsH Try.prog 7 [] h fun v h' => v = .bool true ∧ Fr [] h h' := by
  refine calls_k fun R hR => ?_
  apply warderlaw06_alive.calls
  unfold warderlaw06_alive.P
  refine (decode_spec 1283 (by omega)).mono ?_
  have hd : dec 1283 = ⟨true, true, false, false, 5⟩ := by decide
  have he : encOk ⟨true, true, false, false, 5⟩ = true := by decide
  have hn : encN ⟨true, true, false, false, 5⟩ = 1283 := by decide
  have ha1 : allows ⟨true, true, false, false, 5⟩ 1 = true := by decide
  have ha2 : allows ⟨true, true, false, false, 5⟩ 2 = false := by decide
  have hj : joinOk 4095 255 = true := by decide
  have hjv : joinV 4095 255 = 1048575 := by decide
  rintro v h1 ⟨rfl, f1⟩
  simp only [hd, Ent.cells]
  refine ⟨_, _, _, _, _, rfl, ?_⟩
  rintro h2 rfl
  refine ⟨trivial, _, _, new_at _ _, by simp, ?_⟩
  rintro h3 rfl
  simp only [writeAt, List.set_cons_zero, List.set_cons_succ]
  have k3 := upd_same (new_at h1 (blk 23 [.bool false, .bool false, .bool false, .bool false, .int .i64 0])) 23 [.bool true, .bool true, .bool false, .bool false, .int .i64 5]
  have f3 : Fr [] h1 (upd (new h1 (blk 23 [.bool false, .bool false, .bool false, .bool false, .int .i64 0])) (sz h1) 23 [.bool true, .bool true, .bool false, .bool false, .int .i64 5]) := (Fr.new [] h1 _).later (Fr.upd (F := [sz h1]) (by simp) _ _ _) (by simp)
  generalize upd (new h1 (blk 23 [.bool false, .bool false, .bool false, .bool false, .int .i64 0])) (sz h1) 23 [.bool true, .bool true, .bool false, .bool false, .int .i64 5] = h3 at *
  simp [-Bool.exists_bool, and_assoc, cellAt_of k3]
  refine (encode_spec ⟨true, true, false, false, 5⟩).mono ?_
  rintro v h4 ⟨rfl, f4⟩
  simp only [he, hn]
  have k4 := f4.at k3 (by simp)
  refine ⟨_, _, rfl, ?_⟩
  refine (join_spec 4095 255).mono ?_
  rintro v h5 ⟨rfl, rfl⟩
  simp only [hj, hjv]
  simp [-Bool.exists_bool, and_assoc, cellAt_of k4, notIf]
  refine (allows_spec ⟨true, true, false, false, 5⟩ 1).mono ?_
  rintro v h6 ⟨rfl, f6⟩
  have k6 := f6.at k4 (by simp)
  simp only [ha1]
  simp [-Bool.exists_bool, and_assoc, cellAt_of k6]
  refine (allows_spec ⟨true, true, false, false, 5⟩ 2).mono ?_
  rintro v h7 ⟨rfl, f7⟩
  simp only [ha2]
  simp [-Bool.exists_bool, and_assoc]
  refine (first_spec 284280 (by omega)).mono ?_
  rintro v h8 ⟨rfl, rfl⟩
  simp
  refine (second_spec 284280 (by omega)).mono ?_
  rintro v h8 ⟨rfl, rfl⟩
  simp
  refine (offset_spec 284280 (by omega)).mono ?_
  rintro v h8 ⟨rfl, rfl⟩
  simp
  refine (page_spec 284280 (by omega)).mono ?_
  rintro v h8 ⟨rfl, rfl⟩
  simp
  refine (inside_spec 1048575).mono ?_
  rintro v h8 ⟨rfl, rfl⟩
  simp
  refine (inside_spec 1048576).mono ?_
  rintro v h8 ⟨rfl, rfl⟩
  simp
  exact hR _ _ ⟨rfl, (((f1.trans f3).trans f4).trans f6).trans f7⟩
end Go.Proofs.Ytfmhcmddcfphkaa
