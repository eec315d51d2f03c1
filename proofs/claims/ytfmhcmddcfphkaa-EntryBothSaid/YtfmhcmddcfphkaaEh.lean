import Derived.Test.YtfmhcmddcfphkaaEf
namespace Go.Proofs.Ytfmhcmddcfphkaa
open Go Go.Wd
set_option linter.unusedVariables false
set_option linter.unusedSimpArgs false

theorem kept_bits (w : Nat) : w &&& 16776975 = 256 * (w / 256 % 65536) + w % 16 := by
  have h := and_split (n := 8) (a := 65535) (b := 15) (x := w) (by omega)
  have h1 := and_ones (w / 2 ^ 8) 16
  have h2 := and_ones (w % 2 ^ 8) 4
  simp only [show (2 : Nat) ^ 16 - 1 = 65535 from rfl, show (2 : Nat) ^ 4 - 1 = 15 from rfl] at h1 h2
  rw [h1, h2] at h
  simp only [show (2 : Nat) ^ 8 * 65535 + 15 = 16776975 from rfl] at h
  rw [h]
  omega
theorem other_bits (w : Nat) (hw : w < 2 ^ 32) : w &&& 4278190320 = 16777216 * (w / 16777216) + 16 * (w / 16 % 16) := by
  have h := and_split (n := 8) (a := 16711680) (b := 240) (x := w) (by omega)
  have h1 := and_split (n := 16) (a := 255) (b := 0) (x := w / 2 ^ 8) (by omega)
  have h2 := and_split (n := 4) (a := 15) (b := 0) (x := w % 2 ^ 8) (by omega)
  have h3 := and_ones (w / 2 ^ 8 / 2 ^ 16) 8
  have h4 := and_ones (w % 2 ^ 8 / 2 ^ 4) 4
  simp only [show (2 : Nat) ^ 8 - 1 = 255 from rfl, show (2 : Nat) ^ 4 - 1 = 15 from rfl] at h3 h4
  rw [h3, Nat.and_zero] at h1
  rw [h4, Nat.and_zero] at h2
  simp only [show (2 : Nat) ^ 16 * 255 + 0 = 16711680 from rfl, show (2 : Nat) ^ 4 * 15 + 0 = 240 from rfl] at h1 h2
  rw [h1, h2] at h
  simp only [show (2 : Nat) ^ 8 * 16711680 + 240 = 4278190320 from rfl] at h
  rw [h]
  omega
theorem mixed (w o : Nat) (hw : w < 2 ^ 32) (ho : o < 2 ^ 32) : (w &&& 16776975) ||| (o &&& 4278190320) = 16777216 * (o / 16777216) + 256 * (w / 256 % 65536) + 16 * (o / 16 % 16) + w % 16 := by
  rw [kept_bits, other_bits o ho]
  have h := or_split (n := 8) (a := w / 256 % 65536) (b := w % 16) (c := 65536 * (o / 16777216)) (d := 16 * (o / 16 % 16)) (by omega) (by omega)
  have h1 := or_apart (n := 16) (a := o / 16777216) (b := w / 256 % 65536) (by omega)
  have h2 := or_apart (n := 4) (a := o / 16 % 16) (b := w % 16) (by omega)
  rw [Nat.or_comm, Nat.mul_comm] at h1 h2
  simp only [show (2 : Nat) ^ 16 = 65536 from rfl, show (2 : Nat) ^ 4 = 16 from rfl] at h1 h2
  rw [h1, h2] at h
  rw [show 16777216 * (o / 16777216) + 16 * (o / 16 % 16) = 2 ^ 8 * (65536 * (o / 16777216)) + 16 * (o / 16 % 16) by omega]
  simp only [show (256 : Nat) = 2 ^ 8 from rfl] at h ⊢
  rw [h]
  omega
theorem dec_mixed (w o : Nat) (hw : w < 2 ^ 32) (ho : o < 2 ^ 32) : dec ((w &&& 16776975) ||| (o &&& 4278190320)) = dec w := by
  rw [mixed w o hw ho]
  generalize hv : 16777216 * (o / 16777216) + 256 * (w / 256 % 65536) + 16 * (o / 16 % 16) + w % 16 = v
  have h0 : v % 2 = w % 2 := by omega
  have h1 : v / 2 % 2 = w / 2 % 2 := by omega
  have h2 : v / 4 % 2 = w / 4 % 2 := by omega
  have h3 : v / 8 % 2 = w / 8 % 2 := by omega
  have h4 : v / 256 % 65536 = w / 256 % 65536 := by omega
  simp only [dec, h0, h1, h2, h3, h4]
theorem bit_of (k m : Nat) (hk : k < 2) : bit (k == 1) m = k * m := by
  have : k = 0 ∨ k = 1 := by omega
  rcases this with rfl | rfl <;> simp [bit]
theorem enc_dec (w : Nat) (hw : w % 2 = 1) : encN (dec w) = w &&& 16776975 := by
  rw [kept_bits]
  have h : ¬ (w % 2 = 0) := by omega
  simp only [dec, if_neg h, encN, Int.toNat_natCast]
  rw [bit_of _ _ (by omega), bit_of _ _ (by omega), bit_of _ _ (by omega)]
  simp only [bit, if_true]
  omega

set_option maxRecDepth 20000 in
set_option maxHeartbeats 2000000 in
theorem bits_spec {h : Hp} (w o : Nat) (hw : w < 2 ^ 32) (ho : o < 2 ^ 32) :
    CallsH Try.prog 5 [.int .u32 w, .int .u32 o] h fun v h' => v = .bool true ∧ Fr [] h h' := by
  refine calls_k fun R hR => ?_
  apply warderlaw06_EntryBits.calls
  unfold warderlaw06_EntryBits.P
  refine (alive_spec h).mono ?_
  rintro v h1 ⟨rfl, f1⟩
  refine ⟨_, rfl, by simp, fun _ => ?_⟩
  refine (decode_spec w hw).mono ?_
  rintro v h2 ⟨rfl, f2⟩
  have hm := dec_mixed w o hw ho
  have ho2 : 1 ≤ w % 2 → encN (dec w) = w &&& 16776975 := fun _ => enc_dec w (by omega)
  have hal : 1 ≤ w % 2 → allows (dec w) 0 = true := fun _ => by simp [dec, show ¬ (w % 2 = 0) by omega, allows]
  have hno : w % 2 = 0 → dec w = noEnt := fun h => by simp [dec, h]
  have hok := encOk_dec w
  generalize hd : dec w = d at *
  refine ⟨_, _, _, _, _, rfl, ?_⟩
  rintro h3 rfl
  refine ⟨rfl, _, _, new_at _ _, by simp, ?_⟩
  rintro h4 rfl
  simp only [writeAt, List.set_cons_zero, List.set_cons_succ]
  have k4 : bk (upd (new h2 (blk 23 [.bool false, .bool false, .bool false, .bool false, .int .i64 0])) (sz h2) 23 [.bool d.v, .bool d.w, .bool d.x, .bool d.b, .int .i64 d.f]) (sz h2) = some (blk 23 d.cells) := upd_same (new_at _ _) _ _
  have f4 : Fr [] h2 (upd (new h2 (blk 23 [.bool false, .bool false, .bool false, .bool false, .int .i64 0])) (sz h2) 23 [.bool d.v, .bool d.w, .bool d.x, .bool d.b, .int .i64 d.f]) := (Fr.new [] h2 _).later (Fr.upd (F := [sz h2]) (by simp) _ _ _) (by simp)
  generalize upd (new h2 (blk 23 _)) (sz h2) 23 _ = h4 at *
  simp only [Ent.cells] at k4
  have e1 : bandV .u32 (w : Int) 16776975 = ((w &&& 16776975 : Nat) : Int) := band32 (b := 16776975) hw (by omega)
  have e2 : bandV .u32 (o : Int) 4278190320 = ((o &&& 4278190320 : Nat) : Int) := band32 (b := 4278190320) ho (by omega)
  have l1 : w &&& 16776975 < 2 ^ 32 := Nat.lt_of_le_of_lt Nat.and_le_left hw
  have l2 : o &&& 4278190320 < 2 ^ 32 := Nat.lt_of_le_of_lt Nat.and_le_left ho
  rw [e1, e2, bor32 l1 l2]
  simp [-Bool.exists_bool, and_assoc, cellAt_of k4]
  refine (decode_spec _ (Nat.or_lt_two_pow l1 l2)).mono ?_
  rintro v h5 ⟨rfl, f5⟩
  have k5 := f5.at k4 (by simp)
  rw [hm]
  refine ⟨_, _, _, _, _, rfl, ?_⟩
  have hmod : Int.tmod (w : Int) 2 = ((w % 2 : Nat) : Int) := by rw [tmod_nat (by omega)]; omega
  rw [hmod]
  have fall := (((f1.trans f2).trans f4).trans f5)
  by_cases hv : w % 2 = 0
  · have hdn := hno hv
    simp [-Bool.exists_bool, and_assoc, cellAt_of k5, notIf, hv, hdn, noEnt]
    exact hR _ _ ⟨rfl, fall⟩
  · have hv1 : w % 2 = 1 := by omega
    simp [-Bool.exists_bool, and_assoc, cellAt_of k5, notIf, hv1]
    refine (encode_spec d).mono ?_
    rintro v h6 ⟨rfl, f6⟩
    have k6 := f6.at k5 (by simp)
    have hen := ho2 (by omega)
    simp only [hok, if_true, hen]
    refine ⟨_, _, rfl, ?_⟩
    simp [-Bool.exists_bool, and_assoc, cellAt_of k6]
    refine (allows_spec d 0).mono ?_
    rintro v h7 ⟨rfl, f7⟩
    rw [hal (by omega)]
    exact ⟨_, rfl, hR _ _ ⟨rfl, (fall.trans f6).trans f7⟩⟩

theorem allows_both (a b : Ent) (k : Int) (h0 : 0 ≤ k) (h3 : k < 3) : allows (both a b) k = (allows a k && allows b k) := by
  obtain ⟨av, aw, ax, ab, af⟩ := a
  obtain ⟨bv, bw, bx, bb, bf⟩ := b
  have : k = 0 ∨ k = 1 ∨ k = 2 := by omega
  rcases this with rfl | rfl | rfl <;> cases av <;> cases bv <;> cases aw <;> cases bw <;> cases ax <;> cases bx <;> rfl

set_option maxRecDepth 20000 in
set_option maxHeartbeats 4000000 in
theorem bothlaw_spec {h : Hp} (a b : Ent) :
    CallsH Try.prog 6 [.agg ⟨a.cells⟩, .agg ⟨b.cells⟩] h fun v h' => v = .bool true ∧ Fr [] h h' := by
  refine calls_k fun R hR => ?_
  apply warderlaw06_EntryBoth.calls
  unfold warderlaw06_EntryBoth.P
  rintro h1 rfl h2 rfl
  have k1 := new_at h (blk 23 a.cells)
  have f1 : Fr [] h (new h (blk 23 a.cells)) := Fr.new _ _ _
  simp only [Ent.cells] at k1 f1
  generalize new h (blk 23 _) = h1 at *
  have k2 := new_at h1 (blk 23 b.cells)
  have f2 : Fr [] h1 (new h1 (blk 23 b.cells)) := Fr.new _ _ _
  simp only [Ent.cells] at k2 f2
  have k1 := f2.at k1 (by simp)
  generalize new h1 (blk 23 _) = h2 at *
  refine (alive_spec h2).mono ?_
  rintro v h3 ⟨rfl, f3⟩
  have k1 := f3.at k1 (by simp)
  have k2 := f3.at k2 (by simp)
  simp [-Bool.exists_bool, and_assoc, cellAt_of k1, cellAt_of k2]
  refine (both_spec a b).mono ?_
  rintro v h4 ⟨rfl, f4⟩
  have k1 := f4.at k1 (by simp)
  have k2 := f4.at k2 (by simp)
  generalize hc : both a b = c
  refine ⟨_, _, _, _, _, rfl, ?_⟩
  refine ⟨_, _, new_at _ _, by simp, ?_⟩
  simp only [writeAt, List.set_cons_zero, List.set_cons_succ]
  have k3 : bk (upd (new h4 (blk 23 [.bool false, .bool false, .bool false, .bool false, .int .i64 0])) (sz h4) 23 [.bool c.v, .bool c.w, .bool c.x, .bool c.b, .int .i64 c.f]) (sz h4) = some (blk 23 c.cells) := upd_same (new_at _ _) _ _
  have f5 : Fr [] h4 (upd (new h4 (blk 23 [.bool false, .bool false, .bool false, .bool false, .int .i64 0])) (sz h4) 23 [.bool c.v, .bool c.w, .bool c.x, .bool c.b, .int .i64 c.f]) := (Fr.new [] h4 _).later (Fr.upd (F := [sz h4]) (by simp) _ _ _) (by simp)
  generalize upd (new h4 (blk 23 _)) (sz h4) 23 _ = h5 at *
  have k1 := f5.at k1 (by simp)
  have k2 := f5.at k2 (by simp)
  simp only [Ent.cells] at k3
  have fall := (((f1.trans f2).trans f3).trans f4).trans f5
  refine ⟨fun i h6 => ∃ k : Nat, i = k ∧ k ≤ 3 ∧ Fr [] h5 h6, ⟨0, rfl, by omega, Fr.refl _ _⟩, fun i h6 => 3 - i.toNat, ?_⟩
  rintro i h6 ⟨k, rfl, hk, f6⟩
  have k1 := f6.at k1 (by simp)
  have k2 := f6.at k2 (by simp)
  have k3 := f6.at k3 (by simp)
  have hw : IntKind.wrap .i64 ((k : Int) + 1) = (k : Int) + 1 := wrap_i64 (by omega) (by omega)
  have hal : k < 3 → allows c k = (allows a k && allows b k) := fun h => by rw [← hc]; exact allows_both a b k (by omega) (by omega)
  by_cases hk3 : k < 3
  · have n1 : (k : Int) < 3 := by omega
    have n2 : ¬ (3 ≤ (k : Int)) := by omega
    have n3 : ¬ (3 ≤ k) := by omega
    simp [-Bool.exists_bool, and_assoc, cellAt_of k1, cellAt_of k3, n1, n2, n3, hw]
    refine (allows_spec c k).mono ?_
    rintro v h7 ⟨rfl, f7⟩
    have k1 := f7.at k1 (by simp)
    have k2 := f7.at k2 (by simp)
    refine ⟨_, rfl, ?_⟩
    simp [-Bool.exists_bool, and_assoc, cellAt_of k1]
    refine (allows_spec a k).mono ?_
    rintro v h8 ⟨rfl, f8⟩
    have k2 := f8.at k2 (by simp)
    refine ⟨_, rfl, fun ha => ?_, fun ha => ?_⟩
    · simp [-Bool.exists_bool, and_assoc, cellAt_of k2]
      refine (allows_spec b k).mono ?_
      rintro v h9 ⟨rfl, f9⟩
      refine ⟨_, rfl, ?_⟩
      rw [hal hk3, ha]
      simp [notIf]
      exact ⟨⟨k + 1, by omega, by omega, ((f6.trans f7).trans f8).trans f9⟩, by omega⟩
    · rw [hal hk3, ha]
      simp [notIf]
      exact ⟨⟨k + 1, by omega, by omega, ((f6.trans f7).trans f8)⟩, by omega⟩
  · have n1 : ¬ ((k : Int) < 3) := by omega
    have n2 : (3 ≤ (k : Int)) := by omega
    simp only [n1, n2, decide_false, decide_true, Bool.false_eq_true, false_implies, true_implies, true_and]
    obtain ⟨av, aw, ax, ab, af⟩ := a
    obtain ⟨bv, bw, bx, bb, bf⟩ := b
    subst hc
    cases av
    · simp [-Bool.exists_bool, and_assoc, cellAt_of k1, cellAt_of k3, notIf, both, noEnt]
      exact hR _ _ ⟨rfl, fall.trans f6⟩
    cases bv
    · simp [-Bool.exists_bool, and_assoc, cellAt_of k1, cellAt_of k2, cellAt_of k3, notIf, both, noEnt]
      exact hR _ _ ⟨rfl, fall.trans f6⟩
    simp [-Bool.exists_bool, and_assoc, cellAt_of k1, cellAt_of k2, cellAt_of k3, notIf, both]
    refine (allows_spec ⟨true, aw && bw, ax && bx, false, bf⟩ 3).mono ?_
    rintro v h7 ⟨rfl, f7⟩
    have k3 := f7.at k3 (by simp)
    refine ⟨_, rfl, ?_⟩
    simp [-Bool.exists_bool, and_assoc, cellAt_of k3, both, allows]
    refine (allows_spec ⟨true, aw && bw, ax && bx, false, bf⟩ (-1)).mono ?_
    rintro v h8 ⟨rfl, f8⟩
    refine ⟨_, rfl, ?_⟩
    simp [allows]
    exact hR _ _ ⟨rfl, ((fall.trans f6).trans f7).trans f8⟩
end Go.Proofs.Ytfmhcmddcfphkaa
