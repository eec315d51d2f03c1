import Derived.Test.YtmldiibfmhkgjaaHc
namespace Go.Proofs.Ytmldiibfmhkgjaa
open Go Go.Wd
set_option linter.unusedVariables false
set_option linter.unusedSimpArgs false
set_option linter.unnecessarySimpa false

section
variable {h h' : Hp} {q pb fb n K : Nat} {A : Ab}
theorem wrap64i {i : Nat} (hi : i < 64) : IntKind.wrap .i64 (64 * (i : Int)) = ((64 * i : Nat) : Int) := by rw [wrap_i64 (by omega) (by omega)]; omega
theorem whole_mod {g : Nat → Option Pg} {p : Pg} (h0 : g 0 = some p) (hm : ¬ p.f % 64 = 0) : wholeB g = none := by
  unfold wholeB
  rw [h0]
  show (if _ && (p.f % 64 == 0) then some p else none) = none
  rw [if_neg]
  simp [hm]
theorem put_rp {h : Hp} (e : Rp) {K : Hp → Prop} (hK : ∀ h5, bk h5 (sz h) = some (blk 106 e.cells) → Fr [] h h5 → sz h5 = sz h + 1 → K h5) :
    ∀ h4 : Hp, h4 = new h (blk 106 [.int .i64 0, .bool false, .bool false, .bool false]) → truly true ∧ ∃ T1 : TypeId, ∃ l : List Value, bk h4 (sz h) = some (blk T1 l) ∧ 0 + 4 ≤ l.length ∧ ∀ h5 : Hp, h5 = upd h4 (sz h) T1 (writeAt l 0 [.int .i64 e.f, .bool e.t, .bool e.w, .bool e.x]) → K h5 :=
  put_local rfl (by decide) hK
theorem RMerge_spec (w : DS h q pb fb n A K) (hf : ∀ p, p < 4096 → ∀ z, lkT A p = some z → z.f ≤ 2000) (p : Int) :
    CallsH Try.prog 68 [.pointer (some ⟨q, 0, none⟩), .int .i64 p] h fun v h' => v = .int .i64 (opMerge A p).1 ∧ DS h' q pb fb n (opMerge A p).2 K ∧ Fr (RF q pb fb) h h' := by
  refine calls_k fun R hR => ?_
  apply warderref11_Space_Merge.calls
  unfold warderref11_Space_Merge.P
  obtain ⟨⟨PL, FL, rl, rel⟩, hle, hK, hn1⟩ := w
  have w : DS h q pb fb n A K := ⟨⟨PL, FL, rl, rel⟩, hle, hK, hn1⟩
  have bad : ∀ (e : Int) {h7 : Hp}, opMerge A p = (e, A) → Fr [] h h7 → R (.int .i64 e) h7 := fun e h7 he f => hR _ _ ⟨by rw [he], by rw [he]; exact w.fr0 f, f.mono (by simp)⟩
  refine (span_spec _ _).mono ?_
  rintro v h1 ⟨rfl, hh⟩
  rw [hh]; clear hh h1
  refine ⟨_, rfl, fun c => bad 11 ?_ (Fr.refl _ _), fun c => ?_⟩
  · have c : isIn 64 p = false := not_t c
    unfold opMerge; rw [c]; rfl
  have c1 : isIn 64 p = true := not_f c
  obtain ⟨i, rfl, hi⟩ := isIn_nat c1
  have hop : opMerge A (i : Int) = match A i with
    | .tb g => (match wholeB g with
      | some p => (0, fset A i (.bl p.f p.w p.x))
      | none => (20, A))
    | _ => (12, A) := by
    unfold opMerge
    rw [c1, Int.toNat_natCast]; rfl
  refine ⟨_, _, _, rl.cf, by omega, by omega, _, _, rfl, _, rl.first (rel.fi i hi), fun c => bad 12 ?_ (Fr.refl _ _), fun c => ?_⟩
  · have c := bne_true c
    rw [hop]
    cases hA : A i with
    | no => rfl
    | bl f x z => rfl
    | tb g => rw [hA] at c; exact absurd rfl c
  have c := bne_false c
  obtain ⟨g, hA⟩ := isT_tb ((knd_T (A i)).1 c)
  have hlk : ∀ j, j < 64 → lkT A (64 * i + j) = g j := fun j hj => by
    unfold lkT
    rw [show (64 * i + j) / 64 = i by omega, hA, show (64 * i + j) % 64 = j by omega]; rfl
  have hpg : ∀ j, j < 64 → PL[64 * i + j]? = some (rpO (g j)) := fun j hj => by rw [rel.pg _ (by omega), hlk j hj]
  have hop20 : wholeB g = none → opMerge A (i : Int) = (20, A) := fun hw => by
    rw [hop, hA]
    show (match wholeB g with | some p => _ | none => _) = _
    rw [hw]
  rw [wrap64i hi]
  have hp0 : PL[64 * i]? = some (rpO (g 0)) := hpg 0 (by decide)
  refine ⟨_, _, _, rl.cp, by omega, by omega, _, _, rfl, _, (rl.page hp0 0 (by decide)).trans rfl, _, (rl.page hp0 1 (by decide)).trans rfl, _, (rl.page hp0 2 (by decide)).trans rfl, _, (rl.page hp0 3 (by decide)).trans rfl, ?_⟩
  refine put_rp (rpO (g 0)) ?_
  intro h3 k3 f3 s3
  refine ⟨fun k h4 => ∃ j : Nat, k = (j : Int) ∧ j ≤ 64 ∧ (∀ l, l < j → goodP g l ∧ ∀ p, g 0 = some p → p.f % 64 = 0) ∧ Fr [] h h4 ∧ bk h4 (sz h) = some (blk 106 (rpO (g 0)).cells), fun k _ => 64 - k.toNat, ⟨0, rfl, by decide, fun l hl => absurd hl (Nat.not_lt_zero l), f3, k3⟩, ?_⟩
  rintro k h4 ⟨j, rfl, hj64, hgood, f4, k4⟩
  refine ⟨fun c => ?_, fun c => ?_⟩
  · have hj : j < 64 := lt_cast (n := 64) c
    refine Rp.rd0 _ k4 ?_
    refine put_rp (rpO (g 0)) ?_
    intro h6 k6 f6 s6
    have k46 := f6.at k4 (by simp)
    have l4 := lt_of_bk k4
    refine ⟨_, (cellAt_of k46 0).trans rfl, truly_rfl, _, _, k6, Nat.le_of_ble_eq_true rfl, ?_⟩
    intro h7 e7
    have f7 : Fr [sz h4] h6 h7 := by rw [e7]; exact Fr.upd (by simp) _ _ _
    have k7 : bk h7 (sz h4) = some (blk 106 (Rp.mk (IntKind.wrap .i64 ((rpO (g 0)).f + (j : Int))) (rpO (g 0)).t (rpO (g 0)).w (rpO (g 0)).x).cells) := by rw [e7]; exact upd_same k6 _ _
    have f47 : Fr [] h h7 := (f4.trans f6).later f7 (by simpa using f4.size)
    have k47 := f7.at k46 (by simp only [List.mem_singleton]; omega)
    have r7 := rl.fr0 f47
    refine ⟨_, (cellAt_of k47 1).trans rfl, fun c => ?_, fun c => ?_⟩
    · refine bad 20 (hop20 (whole_bad hj ?_)) f47
      rintro ⟨p, h0, _⟩
      rw [h0] at c; cases c
    have c := not_f c
    obtain ⟨p, h0⟩ : ∃ p, g 0 = some p := by
      rw [rpO_t] at c
      exact Option.isSome_iff_exists.1 c
    have hpf := hf (64 * i + 0) (by omega) p (by rw [hlk 0 (by decide)]; exact h0)
    rw [h0] at k47 k7
    refine ⟨_, (cellAt_of k47 0).trans rfl, by decide, ?_⟩
    rw [show (rpO (some p)).f = (p.f : Int) from rfl, mod_bne]
    refine ⟨fun c => ?_, fun c => ?_⟩
    · exact bad 20 (hop20 (whole_mod h0 (by have := not_t c; simpa using this))) f47
    have hm : p.f % 64 = 0 := eq_of_beq (not_f c)
    rw [show (rpO (some p)).f = (p.f : Int) from rfl, wrap_add hpf hj] at k7
    have hrow := hpg j hj
    have haj : IntKind.wrap .i64 (((64 * i : Nat) : Int) + (j : Int)) = ((64 * i + j : Nat) : Int) := by rw [wrap_i64 (by omega) (by omega)]; omega
    rw [haj]
    refine ⟨_, _, _, r7.cp, by omega, by omega, _, _, rfl, _, (r7.page hrow 0 (by decide)).trans rfl, _, (r7.page hrow 1 (by decide)).trans rfl, _, (r7.page hrow 2 (by decide)).trans rfl, _, (r7.page hrow 3 (by decide)).trans rfl, ?_⟩
    refine Rp.rd0 _ k7 ?_
    refine ⟨fun c => ?_, fun c => ?_⟩
    · refine bad 20 (hop20 (whole_bad hj ?_)) f47
      rintro ⟨p', h0', hp'⟩
      rw [h0] at h0'; cases h0'
      rw [hp'] at c
      simp [notIf, rpO] at c
    · rw [wrap_next hj]
      refine ⟨⟨j + 1, rfl, hj, fun l hl => ?_, f47, by rw [h0]; exact k47⟩, dec64 hj⟩
      by_cases e : l = j
      · rw [e]
        refine ⟨⟨p, h0, ?_⟩, fun p' hp' => by rw [h0] at hp'; cases hp'; exact hm⟩
        refine rpO_inj ?_
        obtain ⟨z, hz⟩ : ∃ z, rpO (g j) = z := ⟨_, rfl⟩
        rw [hz] at c
        obtain ⟨zf, zt, zw, zx⟩ := z
        simp [notIf, rpO] at c
        obtain ⟨a1, a2, a3, a4⟩ := c
        rw [hz, a1, a2, a3, a4]
        simp [rpO]
      · exact hgood l (by omega)
  · have hj : j = 64 := Nat.le_antisymm hj64 (ge_cast (n := 64) c)
    subst hj
    obtain ⟨⟨p, h0, _⟩, hm⟩ := hgood 0 (by decide)
    have hm := hm p h0
    have hw := whole_good h0 (fun l hl => (hgood l hl).1)
    have hw : wholeB g = some p := by rw [hw, hm]; rfl
    have hop : opMerge A (i : Int) = (0, fset A i (.bl p.f p.w p.x)) := by
      rw [hop, hA]
      show (match wholeB g with | some p => _ | none => _) = _
      rw [hw]
    have r4 := rl.fr0 f4
    refine ⟨_, _, _, r4.cf, by omega, by omega, _, _, rfl, ?_⟩
    refine r4.setF (by rw [rel.lf]; exact hi) 1 ?_
    intro h8 r8 f8
    have hnt := nT_fset A hi (.bl p.f p.w p.x)
    rw [hA] at hnt
    simp [Fst.isT] at hnt
    refine ⟨_, r8.cfree, ?_⟩
    refine r8.setN (K - nT (fset A i (.bl p.f p.w p.x))) (by rw [wrap_i64 (by omega) (by omega)]; omega) ?_
    intro h9 r9 f9
    refine hR _ _ ⟨by rw [hop], ?_, ((f4.mono (G := RF q pb fb) (by simp)).trans (f8.mono (by simp [RF]))).trans (f9.mono (by simp [RF]))⟩
    rw [hop]
    refine ⟨⟨_, _, r9, rel.put hi (.bl p.f p.w p.x) rel.lp (fun l hl => ?_)⟩, by show nT (fset A i (.bl p.f p.w p.x)) ≤ K; omega, hK, hn1⟩
    rw [rel.pg l hl]
    by_cases e : l / 64 = i
    · rw [if_pos e]
      obtain ⟨⟨p', h0', hgl⟩, _⟩ := hgood (l % 64) (by omega)
      rw [h0] at h0'; cases h0'
      unfold lkT
      rw [e, hA]
      show some (rpO (g (l % 64))) = _
      rw [hgl]; rfl
    · rw [if_neg e]
theorem doRef_spec (w : DS h q pb fb n A K) (hf : ∀ p, p < 4096 → ∀ z, lkT A p = some z → z.f ≤ 2000) (c : Cl) :
    CallsH Try.prog 19 [.pointer (some ⟨q, 0, none⟩), .agg ⟨c.cells⟩] h fun v h' => v = .int .i64 (opDo A n (decide (nT A < K)) c).1 ∧ DS h' q pb fb n (opDo A n (decide (nT A < K)) c).2 K ∧ Fr (RF q pb fb) h h' := by
  refine calls_k fun R hR => ?_
  apply warderlaw11_doRef.calls
  unfold warderlaw11_doRef.P
  intro h1 e1
  have k1 : bk h1 (sz h) = some (blk 24 c.cells) := by rw [e1]; exact new_at _ _
  have f1 : Fr [] h h1 := by rw [e1]; exact Fr.new _ _ _
  clear e1
  have w1 := w.fr0 f1
  have a0 : cellAt h1 (sz h) 0 = some (.int .i64 c.what) := (cellAt_of k1 0).trans rfl
  have a1 : cellAt h1 (sz h) 1 = some (.int .i64 c.page) := (cellAt_of k1 1).trans rfl
  have a2 : cellAt h1 (sz h) 2 = some (.int .i64 c.frame) := (cellAt_of k1 2).trans rfl
  have a3 : cellAt h1 (sz h) 3 = some (.bool c.w) := (cellAt_of k1 3).trans rfl
  have a4 : cellAt h1 (sz h) 4 = some (.bool c.x) := (cellAt_of k1 4).trans rfl
  have fin : ∀ op, opDo A n (decide (nT A < K)) c = op → ∀ v h', (v = Value.int .i64 op.1 ∧ DS h' q pb fb n op.2 K ∧ Fr (RF q pb fb) h1 h') → ∃ e : Int, v = Value.int .i64 e ∧ R (.int .i64 e) h' := by
    rintro op ho v h' ⟨rfl, w', f'⟩
    exact ⟨_, rfl, hR _ _ ⟨by rw [ho], by rw [ho]; exact w', (f1.mono (by simp)).trans f'⟩⟩
  refine ⟨_, a0, fun c0 => ?_, fun n0 => ?_⟩
  · refine ⟨_, a1, _, a2, _, a3, _, a4, ?_⟩
    exact (RMap_spec w1 _ _ _ _).mono (fin _ (by unfold opDo; rw [if_pos (beq_eq c0)]))
  refine ⟨fun c1 => ?_, fun n1 => ?_⟩
  · refine ⟨_, a1, _, a2, _, a3, _, a4, ?_⟩
    exact (RRun_spec w1 _ _ _ _).mono (fin _ (by unfold opDo; rw [if_neg (beq_ne n0), if_pos (beq_eq c1)]))
  refine ⟨fun c2 => ?_, fun n2 => ?_⟩
  · refine ⟨_, a1, ?_⟩
    exact (RUnmap_spec w1 _).mono (fin _ (by unfold opDo; rw [if_neg (beq_ne n0), if_neg (beq_ne n1), if_pos (beq_eq c2)]))
  refine ⟨fun c3 => ?_, fun n3 => ?_⟩
  · refine ⟨_, a1, _, a3, _, a4, ?_⟩
    exact (RProt_spec w1 _ _ _).mono (fin _ (by unfold opDo; rw [if_neg (beq_ne n0), if_neg (beq_ne n1), if_neg (beq_ne n2), if_pos (beq_eq c3)]))
  refine ⟨fun c4 => ?_, fun n4 => ?_⟩
  · refine ⟨_, a1, ?_⟩
    exact (RSplit_spec w1 _).mono (fin _ (by unfold opDo; rw [if_neg (beq_ne n0), if_neg (beq_ne n1), if_neg (beq_ne n2), if_neg (beq_ne n3), if_pos (beq_eq c4)]))
  · refine ⟨_, a1, ?_⟩
    exact (RMerge_spec w1 hf _).mono (fin _ (by unfold opDo; rw [if_neg (beq_ne n0), if_neg (beq_ne n1), if_neg (beq_ne n2), if_neg (beq_ne n3), if_neg (beq_ne n4)]))
end
/-! ## the document's space at its beginning -/
theorem zeros_rp (m : Nat) : zeros [.int .i64 0, .bool false, .bool false, .bool false] m = encL Rp.cells (List.replicate m (rpO none)) := by
  induction m with
  | zero => simp [zeros, encL]
  | succ m ih =>
    have e : zeros [.int .i64 0, .bool false, .bool false, .bool false] (m + 1) = [.int .i64 0, .bool false, .bool false, .bool false] ++ zeros [.int .i64 0, .bool false, .bool false, .bool false] m := by rw [zeros, List.replicate_succ, List.flatten_cons]; rfl
    rw [e, ih, List.replicate_succ, encL_cons]; rfl
theorem zeros_in (m : Nat) : zeros [.int .i64 0] m = encL iN (List.replicate m 0) := zeros_iN m
theorem arr_of {α : Type} {f : α → List Value} {T : TypeId} {h : Hp} {q : Nat} {L : List α} {l : List Value} (hb : bk h q = some (blk T l)) (e : l = encL f L) : Arr f T h q L [] := ⟨by rw [hb, e, List.append_nil]⟩
theorem rel_zero : Rel A0 (List.replicate 4096 (rpO none)) (List.replicate 64 0) := by
  obtain ⟨N, hN⟩ : ∃ N : Nat, N = 4096 := ⟨_, rfl⟩
  rw [← hN]
  refine ⟨by rw [List.length_replicate]; exact hN, List.length_replicate, fun p hp => ?_, fun i hi => ?_⟩
  · rw [List.getElem?_replicate, if_pos (by omega)]; rfl
  · rw [List.getElem?_replicate, if_pos hi]; rfl
theorem RNew_spec {h : Hp} {n K : Nat} (hn : n ≤ 1000) (hK : K ≤ 1000) :
    CallsH Try.prog 18 [.int .i64 (n : Int), .int .i64 (K : Int)] h fun v h' => ∃ q pb fb : Nat, v = .pointer (some ⟨q, 0, none⟩) ∧ DS h' q pb fb n A0 K ∧ Fr [] h h' ∧ sz h ≤ q ∧ sz h ≤ pb ∧ sz h ≤ fb := by
  refine calls_k fun R hR => ?_
  apply warderref11_New.calls
  unfold warderref11_New.P
  have e4 : (4096 : Int).toNat = 4096 := rfl
  have e6 : (64 : Int).toNat = 64 := rfl
  rw [e4, e6, zeros_rp, zeros_in]
  have hz : K - nT A0 = K := by rw [nT_zero]; rfl
  have hle : nT A0 ≤ K := by rw [nT_zero]; exact Nat.zero_le _
  generalize hPL : encL Rp.cells (List.replicate 4096 (rpO none)) = Z
  refine ⟨⟨by decide, by decide, by decide, by decide, rfl, ?_⟩, by decide, by decide, by decide, by decide, rfl, ?_⟩
  · intro h1 e1
    have k1 : bk h1 (sz h) = some (blk 106 Z) := by rw [e1]; exact new_at _ _
    have f1 : Fr [] h h1 := by rw [e1]; exact Fr.new _ _ _
    clear e1
    refine ⟨by decide, by decide, by decide, by decide, rfl, ?_⟩
    intro h2 e2
    have k2 : bk h2 (sz h1) = some (blk 3 (encL iN (List.replicate 64 0))) := by rw [e2]; exact new_at _ _
    have f2 : Fr [] h1 h2 := by rw [e2]; exact Fr.new _ _ _
    clear e2
    intro h3 e3
    have k3 : bk h3 (sz h2) = some (blk 104 [.slice (some ⟨sz h, 0, none⟩) 4096 4096, .slice (some ⟨sz h1, 0, none⟩) 64 64, .int .i64 (n : Int), .int .i64 (K : Int)]) := by rw [e3]; exact new_at _ _
    have f3 : Fr [] h2 h3 := by rw [e3]; exact Fr.new _ _ _
    clear e3
    refine hR _ _ ⟨sz h2, sz h, sz h1, rfl, ⟨⟨_, _, ⟨by rw [hz]; exact k3, arr_of ((f2.trans f3).at k1 (by simp)) hPL.symm, arr_of (f3.at k2 (by simp)) rfl⟩, rel_zero⟩, hle, hK, hn⟩, (f1.trans f2).trans f3, (f1.trans f2).size, Nat.le_refl _, f1.size⟩
  · intro h4 e4'
    have k4 : bk h4 (sz h) = some (blk 3 (encL iN (List.replicate 64 0))) := by rw [e4']; exact new_at _ _
    have f4 : Fr [] h h4 := by rw [e4']; exact Fr.new _ _ _
    clear e4'
    refine ⟨by decide, by decide, by decide, by decide, rfl, ?_⟩
    intro h5 e5
    have k5 : bk h5 (sz h4) = some (blk 106 Z) := by rw [e5]; exact new_at _ _
    have f5 : Fr [] h4 h5 := by rw [e5]; exact Fr.new _ _ _
    clear e5
    intro h6 e6'
    have k6 : bk h6 (sz h5) = some (blk 104 [.slice (some ⟨sz h4, 0, none⟩) 4096 4096, .slice (some ⟨sz h, 0, none⟩) 64 64, .int .i64 (n : Int), .int .i64 (K : Int)]) := by rw [e6']; exact new_at _ _
    have f6 : Fr [] h5 h6 := by rw [e6']; exact Fr.new _ _ _
    clear e6'
    refine hR _ _ ⟨sz h5, sz h4, sz h, rfl, ⟨⟨_, _, ⟨by rw [hz]; exact k6, arr_of (f6.at k5 (by simp)) hPL.symm, arr_of ((f5.trans f6).at k4 (by simp)) rfl⟩, rel_zero⟩, hle, hK, hn⟩, (f4.trans f5).trans f6, (f4.trans f5).size, f4.size, Nat.le_refl _⟩
end Go.Proofs.Ytmldiibfmhkgjaa
