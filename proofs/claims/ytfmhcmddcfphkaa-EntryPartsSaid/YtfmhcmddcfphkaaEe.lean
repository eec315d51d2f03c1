import Derived.Test.YtfmhcmddcfphkaaEd
namespace Go.Proofs.Ytfmhcmddcfphkaa
open Go Go.Wd
set_option linter.unusedVariables false
set_option linter.unusedSimpArgs false

theorem encOk_dec (w : Nat) : encOk (dec w) = true := by
  unfold dec
  split
  · rfl
  · simp [encOk]
    omega
theorem encN_lt {e : Ent} (h : encOk e = true) : encN e < 2 ^ 32 := by
  simp only [encOk, Bool.and_eq_true, decide_eq_true_eq] at h
  have hb : ∀ (b : Bool) (n : Nat), bit b n ≤ n := by intro b n; cases b <;> simp [bit]
  have h1 := hb e.v 1
  have h2 := hb e.w 2
  have h3 := hb e.x 4
  have h4 := hb e.b 8
  unfold encN
  omega
theorem bit_beq (b : Bool) (k : Nat) (h : k = if b then 1 else 0) : (k == 1) = b := by subst h; cases b <;> rfl
theorem dec_enc {e : Ent} (h : encOk e = true) : dec (encN e) = e := by
  obtain ⟨v, w, x, b, f⟩ := e
  simp only [encOk, Bool.and_eq_true, decide_eq_true_eq, Bool.or_eq_true] at h
  obtain ⟨⟨h1, h2⟩, h3⟩ := h
  obtain ⟨n, rfl⟩ : ∃ n : Nat, f = n := ⟨f.toNat, by omega⟩
  cases v
  · simp at h3
    rw [h3]; decide
  · have hv : bit true 1 = 1 := rfl
    have q : ∀ (k : Bool) (m : Nat), bit k m = (if k then 1 else 0) * m := by intro k m; cases k <;> simp [bit]
    have r : ∀ k : Bool, (if k then 1 else 0 : Nat) ≤ 1 := by intro k; cases k <;> simp
    have rw_ := r w
    have rx := r x
    have rb := r b
    have e1 : encN ⟨true, w, x, b, n⟩ = 1 + (if w then 1 else 0) * 2 + (if x then 1 else 0) * 4 + (if b then 1 else 0) * 8 + 256 * n := by
      simp only [encN, hv, q, Int.toNat_natCast]
    have hm : ¬ (encN ⟨true, w, x, b, n⟩ % 2 = 0) := by rw [e1]; omega
    unfold dec
    rw [if_neg hm, e1]
    refine (Ent.mk.injEq ..).mpr ⟨rfl, bit_beq w _ ?_, bit_beq x _ ?_, bit_beq b _ ?_, ?_⟩ <;> omega

theorem ent_eqb (a b : Ent) : ((a.v : Bool) == b.v && (a.w == b.w && (a.x == b.x && (a.b == b.b && (a.f == b.f && true))))) = decide (a = b) := by
  obtain ⟨v, w, x, b', f⟩ := a
  obtain ⟨v2, w2, x2, b2, f2⟩ := b
  rw [Bool.eq_iff_iff]
  simp [Ent.mk.injEq]

set_option maxRecDepth 20000 in
set_option maxHeartbeats 2000000 in
theorem words_spec {h : Hp} (e : Ent) (w : Nat) (hw : w < 2 ^ 32) (a : Int) :
    CallsH Try.prog 3 [.agg ⟨e.cells⟩, .int .u32 w, .int .i64 a] h fun v h' => v = .bool true ∧ Fr [] h h' := by
  refine calls_k fun R hR => ?_
  apply warderlaw06_EntryWords.calls
  unfold warderlaw06_EntryWords.P
  rintro h1 rfl
  have k1 := new_at h (blk 23 e.cells)
  have f1 : Fr [] h (new h (blk 23 e.cells)) := Fr.new _ _ _
  simp only [Ent.cells] at k1 f1
  generalize new h (blk 23 _) = h1 at *
  refine (alive_spec h1).mono ?_
  rintro v h2 ⟨rfl, f2⟩
  have k2 := f2.at k1 (by simp)
  simp [-Bool.exists_bool, and_assoc, cellAt_of k2]
  refine (encode_spec e).mono ?_
  rintro v h3 ⟨rfl, f3⟩
  have k3 := f3.at k2 (by simp)
  simp [-Bool.exists_bool, and_assoc, cellAt_of k3]
  refine (of_spec e).mono ?_
  rintro v h4 ⟨rfl, f4⟩
  have k4 := f4.at k3 (by simp)
  refine ⟨_, _, _, _, _, rfl, ?_⟩
  refine (refEncode_spec e).mono ?_
  rintro v h5 ⟨rfl, f5⟩
  have k5 := f5.at k4 (by simp)
  refine ⟨_, _, rfl, ?_⟩
  refine (decode_spec w hw).mono ?_
  rintro v h6 ⟨rfl, f6⟩
  have k6 := f6.at k5 (by simp)
  generalize hdw : dec w = d
  have hwd : dec w = d := hdw
  refine ⟨_, _, _, _, _, rfl, ?_⟩
  have f06 := ((((f1.trans f2).trans f3).trans f4).trans f5).trans f6
  have k7 : bk (upd (new h6 (blk 23 [.bool false, .bool false, .bool false, .bool false, .int .i64 0])) (sz h6) 23 d.cells) (sz h6) = some (blk 23 d.cells) := upd_same (new_at _ _) _ _
  have f7 : Fr [] h6 (upd (new h6 (blk 23 [.bool false, .bool false, .bool false, .bool false, .int .i64 0])) (sz h6) 23 d.cells) := (Fr.new [] h6 _).later (Fr.upd (F := [sz h6]) (by simp) _ _ _) (by simp)
  refine ⟨_, _, new_at _ _, by simp, ?_⟩
  simp only [writeAt, List.set_cons_zero, List.set_cons_succ]
  simp only [Ent.cells] at k7 f7
  generalize upd (new h6 (blk 23 _)) (sz h6) 23 _ = h7 at *
  have k6' := f7.at k6 (by simp)
  simp [-Bool.exists_bool, and_assoc, cellAt_of k7, cellAt_of k6', notIf]
  refine (of_spec d).mono ?_
  rintro v h8 ⟨rfl, f8⟩
  have k8 := f8.at k7 (by simp)
  have k6' := f8.at k6' (by simp)
  refine ⟨_, _, _, _, _, rfl, ?_⟩
  refine (refDecode_spec w hw).mono ?_
  rintro v h9 ⟨rfl, f9⟩
  have k9 := f9.at k8 (by simp)
  have k6' := f9.at k6' (by simp)
  rw [hwd]
  refine ⟨_, _, _, _, _, rfl, ?_⟩
  simp [-Bool.exists_bool, and_assoc, cellAt_of k9, cellAt_of k6', notIf]
  refine (allows_spec e a).mono ?_
  rintro v h10 ⟨rfl, f10⟩
  have k10 := f10.at k9 (by simp)
  have k6' := f10.at k6' (by simp)
  refine ⟨_, rfl, ?_⟩
  simp [-Bool.exists_bool, and_assoc, cellAt_of k6']
  refine (of_spec e).mono ?_
  rintro v h11 ⟨rfl, f11⟩
  have k11 := f11.at k10 (by simp)
  have k6' := f11.at k6' (by simp)
  refine ⟨_, _, _, _, _, rfl, ?_⟩
  refine (refAllows_spec e a).mono ?_
  rintro v h12 ⟨rfl, f12⟩
  have k12 := f12.at k11 (by simp)
  have k6' := f12.at k6' (by simp)
  refine ⟨_, rfl, ?_⟩
  simp [-Bool.exists_bool, and_assoc, cellAt_of k12]
  refine (encode_spec d).mono ?_
  rintro v h13 ⟨rfl, f13⟩
  have k13 := f13.at k12 (by simp)
  have k6' := f13.at k6' (by simp)
  have hok : encOk d = true := by rw [← hwd]; exact encOk_dec w
  refine ⟨_, _, rfl, ?_⟩
  simp [-Bool.exists_bool, and_assoc, cellAt_of k13, hok]
  refine (decode_spec (encN d) (encN_lt hok)).mono ?_
  rintro v h14 ⟨rfl, f14⟩
  rw [dec_enc hok]
  have k14 := f14.at k13 (by simp)
  have k6' := f14.at k6' (by simp)
  refine ⟨_, _, _, _, _, rfl, ?_⟩
  simp [-Bool.exists_bool, and_assoc, cellAt_of k14, cellAt_of k6']
  have fall := ((((((((f06.trans f7).trans f8).trans f9).trans f10).trans f11).trans f12).trans f13).trans f14)
  refine ⟨fun _ => hR _ _ ⟨rfl, fall⟩, fun hoe => ?_⟩
  rw [if_pos hoe]
  refine (decode_spec (encN e) (encN_lt hoe)).mono ?_
  rintro v h15 ⟨rfl, f15⟩
  rw [dec_enc hoe]
  have k6' := f15.at k6' (by simp)
  refine ⟨_, _, _, _, _, rfl, ?_⟩
  simp [-Bool.exists_bool, and_assoc, cellAt_of k6']
  exact hR _ _ ⟨rfl, fall.trans f15⟩
end Go.Proofs.Ytfmhcmddcfphkaa
