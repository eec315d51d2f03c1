import Derived.Test.YtadghpkdkdphdaaGl
namespace Go.Proofs.Ytadghpkdkdphdaa
open Go Go.Wd
set_option linter.unusedVariables false
set_option linter.unusedSimpArgs false

theorem filter_at {α : Type} {p : α → Bool} {L : List α} {n : Nat} {x : α} (hx : L[n]? = some x) (hp : p x = true) : (L.filter p)[((L.take n).filter p).length]? = some x := by
  have e : L = L.take n ++ x :: L.drop (n + 1) := by rw [← drop_one hx, List.take_append_drop]
  have e2 : L.filter p = (L.take n).filter p ++ x :: (L.drop (n + 1)).filter p := by
    conv => lhs; rw [e]
    rw [List.filter_append, List.filter_cons, if_pos hp]
  rw [e2, List.getElem?_append_right (Nat.le_refl _), Nat.sub_self]; rfl

set_option maxHeartbeats 4000000 in
theorem told_spec {h : Hp} {q q2 lb : Nat} {L : List G} (w : GS h q L) (r : RS h q2 lb L) (g : Inv L) (hne : q ≠ lb) (hne2 : q ≠ q2) (c : C) :
    CallsH Try.prog 14 [.pointer (some ⟨q, 0, none⟩), .pointer (some ⟨q2, 0, none⟩), .agg ⟨c.cells⟩] h fun v h' => v = .bool true ∧ GS h' q (stepL L c) ∧ RS h' q2 lb (stepL L c) ∧ Fr [q, lb] h h' := by
  refine calls_k fun R hR => ?_
  apply warderlaw12_told.calls
  unfold warderlaw12_told.P
  rintro h1 rfl
  have f1 : Fr [q, lb] h (new h (blk 40 c.cells)) := Fr.new _ _ _
  have k1 := new_at h (blk 40 c.cells)
  have w1 := w.fr (Fr.new [] h (blk 40 c.cells)) (by simp)
  have r1 := r.fr (Fr.new [] h (blk 40 c.cells)) (by simp) (by simp)
  have z1 : sz (new h (blk 40 c.cells)) = sz h + 1 := sz_new _ _
  have lq := w.lt
  have lq2 := r.lt
  have ll := r.ltl
  simp only [C.cells] at f1 k1 w1 r1 z1
  generalize new h (blk 40 [.int .i64 c.what, .int .i64 c.who, .int .i64 c.id, .int .i64 c.frame, .int .i64 c.to, .bool c.write]) = h1 at *
  generalize hb : sz h = b at *
  have c0 := (cellAt_of k1 0).trans rfl
  have c1 := (cellAt_of k1 1).trans rfl
  have c2 := (cellAt_of k1 2).trans rfl
  have c3 := (cellAt_of k1 3).trans rfl
  have c4 := (cellAt_of k1 4).trans rfl
  have c5 := (cellAt_of k1 5).trans rfl
  refine ⟨_, c0, fun d => ?_, fun n0 => ⟨fun d => ?_, fun n1 => ⟨fun d => ?_, fun n2 => ⟨fun d => ?_, fun n3 => ⟨fun d => ?_, fun n4 => ?_⟩⟩⟩⟩⟩
  · simp only [beq_iff_eq] at d
    refine ⟨_, c1, _, c3, _, c4, _, c5, ?_⟩
    refine (offer_spec w1 _ _ _ _).mono ?_
    rintro v h2 ⟨rfl, w2, f2⟩
    have hbq : b ∉ [q] := by simp; omega
    have r2 := r1.fr f2 (by simpa using fun e => hne2 e.symm) (by simpa using fun e => hne e.symm)
    refine ⟨_, _, rfl, _, f2.cell c1 hbq, _, f2.cell c3 hbq, _, f2.cell c4 hbq, _, f2.cell c5 hbq, ?_⟩
    refine (rOffer_spec r2 g _ _ _ _).mono ?_
    rintro v h3 ⟨rfl, r3, f3⟩
    refine ⟨_, _, rfl, fun _ => hR _ _ ⟨by rw [beq_self_eq_true], ?_, ?_, (f1.trans (f2.mono (by simp))).trans (f3.mono (by simp))⟩, fun c => absurd c (by simp)⟩
    · simpa only [stepL, d, if_true] using w2.fr f3 (by simpa using hne)
    · simpa only [stepL, d, if_true] using r3
  · simp only [beq_iff_eq] at d
    have n0 : ¬ c.what = 0 := by omega
    have n1 : True := trivial
    have n2 : True := trivial
    refine ⟨_, c2, _, c1, _, c3, ?_⟩
    refine (accept_spec w1 c.id c.who c.frame).mono ?_
    rintro v h4 ⟨rfl, w4, f4⟩
    refine ⟨_, _, _, _, _, _, _, rfl, ?_⟩
    refine put_local rfl (by simp) ?_
    intro h6 k6 f6 s6
    have f46 := f4.trans (f6.mono (by simp))
    have r6 := r1.fr f46 (by simpa using fun e => hne2 e.symm) (by simpa using fun e => hne e.symm)
    have kc6 := f46.at k1 (by simp; omega)
    refine ⟨_, (cellAt_of kc6 2).trans rfl, _, (cellAt_of kc6 1).trans rfl, _, (cellAt_of kc6 3).trans rfl, ?_⟩
    refine (rAccept_spec r6 c.id c.who c.frame).mono ?_
    rintro v h7 ⟨rfl, r7, f7⟩
    refine ⟨_, _, _, _, _, _, _, rfl, ?_⟩
    refine put_local rfl (by simp) ?_
    intro h9 k9 f9 s9
    have z46 := f46.size
    have z4 := f4.size
    have z6 := f6.size
    have z7 := f7.size
    have k6' := (f7.trans (f9.mono (by simp))).at k6 (by simp; omega)
    refine G.rd (o := 0) (acceptG L c.id c.who c.frame) (fun j hj => by rw [Nat.zero_add]; exact cellAt_of k6' j) ?_
    refine G.rd (o := 0) (acceptG L c.id c.who c.frame) (fun j hj => by rw [Nat.zero_add]; exact cellAt_of k9 j) ?_
    refine (of_spec (acceptG L c.id c.who c.frame)).mono ?_
    rintro v h10 ⟨rfl, f10⟩
    have k10 := f10.at k9 (by simp)
    have ec : ∀ j, j < 6 → cellAt h10 (sz h7) (0 + j) = (acceptG L c.id c.who c.frame).cells[j]? := fun j hj => by rw [Nat.zero_add]; exact cellAt_of k10 j
    refine ⟨_, _, _, _, _, _, rfl, (ec 0 (by omega)).trans rfl, (ec 1 (by omega)).trans rfl, (ec 2 (by omega)).trans rfl, (ec 3 (by omega)).trans rfl, (ec 4 (by omega)).trans rfl, (ec 5 (by omega)).trans rfl, fun _ => ?_, fun c => absurd c (by simp [notIf])⟩
    refine hR _ _ ⟨by rw [beq_self_eq_true], ?_, ?_, ?_⟩
    · have := w4.fr ((f6.mono (G := [lb]) (by simp)).trans (f7.trans ((f9.trans f10).mono (by simp)))) (by simpa using hne)
      simpa [stepL, d] using this
    · have := r7.fr (f9.trans f10) (by simp) (by simp)
      simpa [stepL, d] using this
    · exact ((f1.trans (f46.mono (by simp))).trans (f7.mono (by simp))).trans ((f9.trans f10).mono (by simp))
  · simp only [beq_iff_eq] at d
    have n0 : ¬ c.what = 0 := by omega
    have n1 : ¬ c.what = 1 := by omega
    have n2 : True := trivial
    refine ⟨_, c2, _, c1, ?_⟩
    refine (leave_spec w1 c.id c.who).mono ?_
    rintro v h4 ⟨rfl, w4, f4⟩
    refine ⟨_, _, _, _, _, _, _, rfl, ?_⟩
    refine put_local rfl (by simp) ?_
    intro h6 k6 f6 s6
    have f46 := f4.trans (f6.mono (by simp))
    have r6 := r1.fr f46 (by simpa using fun e => hne2 e.symm) (by simpa using fun e => hne e.symm)
    have kc6 := f46.at k1 (by simp; omega)
    refine ⟨_, (cellAt_of kc6 2).trans rfl, _, (cellAt_of kc6 1).trans rfl, ?_⟩
    refine (rLeave_spec r6 c.id c.who).mono ?_
    rintro v h7 ⟨rfl, r7, f7⟩
    refine ⟨_, _, _, _, _, _, _, rfl, ?_⟩
    refine put_local rfl (by simp) ?_
    intro h9 k9 f9 s9
    have z46 := f46.size
    have z4 := f4.size
    have z6 := f6.size
    have z7 := f7.size
    have k6' := (f7.trans (f9.mono (by simp))).at k6 (by simp; omega)
    refine G.rd (o := 0) (leaveG L c.id c.who) (fun j hj => by rw [Nat.zero_add]; exact cellAt_of k6' j) ?_
    refine G.rd (o := 0) (leaveG L c.id c.who) (fun j hj => by rw [Nat.zero_add]; exact cellAt_of k9 j) ?_
    refine (of_spec (leaveG L c.id c.who)).mono ?_
    rintro v h10 ⟨rfl, f10⟩
    have k10 := f10.at k9 (by simp)
    have ec : ∀ j, j < 6 → cellAt h10 (sz h7) (0 + j) = (leaveG L c.id c.who).cells[j]? := fun j hj => by rw [Nat.zero_add]; exact cellAt_of k10 j
    refine ⟨_, _, _, _, _, _, rfl, (ec 0 (by omega)).trans rfl, (ec 1 (by omega)).trans rfl, (ec 2 (by omega)).trans rfl, (ec 3 (by omega)).trans rfl, (ec 4 (by omega)).trans rfl, (ec 5 (by omega)).trans rfl, fun _ => ?_, fun c => absurd c (by simp [notIf])⟩
    refine hR _ _ ⟨by rw [beq_self_eq_true], ?_, ?_, ?_⟩
    · have := w4.fr ((f6.mono (G := [lb]) (by simp)).trans (f7.trans ((f9.trans f10).mono (by simp)))) (by simpa using hne)
      simpa [stepL, d] using this
    · have := r7.fr (f9.trans f10) (by simp) (by simp)
      simpa [stepL, d] using this
    · exact ((f1.trans (f46.mono (by simp))).trans (f7.mono (by simp))).trans ((f9.trans f10).mono (by simp))
  · simp only [beq_iff_eq] at d
    have n0 : ¬ c.what = 0 := by omega
    have n1 : ¬ c.what = 1 := by omega
    have n2 : ¬ c.what = 2 := by omega
    refine ⟨_, c2, _, c1, ?_⟩
    refine (revoke_spec w1 c.id c.who).mono ?_
    rintro v h4 ⟨rfl, w4, f4⟩
    refine ⟨_, _, _, _, _, _, _, rfl, ?_⟩
    refine put_local rfl (by simp) ?_
    intro h6 k6 f6 s6
    have f46 := f4.trans (f6.mono (by simp))
    have r6 := r1.fr f46 (by simpa using fun e => hne2 e.symm) (by simpa using fun e => hne e.symm)
    have kc6 := f46.at k1 (by simp; omega)
    refine ⟨_, (cellAt_of kc6 2).trans rfl, _, (cellAt_of kc6 1).trans rfl, ?_⟩
    refine (rRevoke_spec r6 c.id c.who).mono ?_
    rintro v h7 ⟨rfl, r7, f7⟩
    refine ⟨_, _, _, _, _, _, _, rfl, ?_⟩
    refine put_local rfl (by simp) ?_
    intro h9 k9 f9 s9
    have z46 := f46.size
    have z4 := f4.size
    have z6 := f6.size
    have z7 := f7.size
    have k6' := (f7.trans (f9.mono (by simp))).at k6 (by simp; omega)
    refine G.rd (o := 0) (revokeG L c.id c.who) (fun j hj => by rw [Nat.zero_add]; exact cellAt_of k6' j) ?_
    refine G.rd (o := 0) (revokeG L c.id c.who) (fun j hj => by rw [Nat.zero_add]; exact cellAt_of k9 j) ?_
    refine (of_spec (revokeG L c.id c.who)).mono ?_
    rintro v h10 ⟨rfl, f10⟩
    have k10 := f10.at k9 (by simp)
    have ec : ∀ j, j < 6 → cellAt h10 (sz h7) (0 + j) = (revokeG L c.id c.who).cells[j]? := fun j hj => by rw [Nat.zero_add]; exact cellAt_of k10 j
    refine ⟨_, _, _, _, _, _, rfl, (ec 0 (by omega)).trans rfl, (ec 1 (by omega)).trans rfl, (ec 2 (by omega)).trans rfl, (ec 3 (by omega)).trans rfl, (ec 4 (by omega)).trans rfl, (ec 5 (by omega)).trans rfl, fun _ => ?_, fun c => absurd c (by simp [notIf])⟩
    refine hR _ _ ⟨by rw [beq_self_eq_true], ?_, ?_, ?_⟩
    · have := w4.fr ((f6.mono (G := [lb]) (by simp)).trans (f7.trans ((f9.trans f10).mono (by simp)))) (by simpa using hne)
      simpa [stepL, d] using this
    · have := r7.fr (f9.trans f10) (by simp) (by simp)
      simpa [stepL, d] using this
    · exact ((f1.trans (f46.mono (by simp))).trans (f7.mono (by simp))).trans ((f9.trans f10).mono (by simp))
  · simp only [beq_iff_eq] at d
    have hst : stepL L c = goneL c.who L := by simp [stepL, d]
    rw [hst] at hR
    refine ⟨_, c1, ?_⟩
    refine (gone_spec w1 _).mono ?_
    rintro v h25 ⟨a, cc, rfl, ra, fa, w25, f25⟩
    refine ⟨_, _, _, rfl, ?_⟩
    have r25 := r1.fr f25 (by simpa using fun e => hne2 e.symm) (by simpa using fun e => hne e.symm)
    have k25 := f25.at k1 (by simp; omega)
    have hfa : ∀ y ∈ foot a, y ∉ [lb] := fun y hy => by have := (fa y hy).1; simp; omega
    have hlen := w.len
    refine ⟨fun k i h26 => ∃ n : Nat, i = n ∧ n ≤ 32 ∧ k = (((L.take n).filter (goneP c.who)).length : Nat) ∧ GS h26 q (goneL c.who L) ∧ RS h26 q2 lb (goneL c.who (L.take n) ++ L.drop n) ∧ rowAtK h26 a (encL G.cells (L.filter (goneP c.who))) ∧ bk h26 b = some (blk 40 c.cells) ∧ Fr [q, lb] h h26,
      fun _ i _ => 32 - i.toNat, ⟨0, rfl, by omega, rfl, w25, by simpa [goneL] using r25, ra, k25, f1.trans (f25.mono (by simp))⟩, ?_⟩
    rintro k i h26 ⟨n, rfl, hn, rfl, w26, r26, ra26, k26, f26⟩
    have hcl : (goneL c.who (L.take n)).length = n := by simp [goneL]; omega
    by_cases hn32 : n < 32
    · obtain ⟨x, hx⟩ := w.ex hn32
      have hdrop := drop_one hx
      have htake := take_one hx
      have hx6 : (goneL c.who (L.take n) ++ L.drop n)[n]? = some x := by rw [List.getElem?_append_right (by omega), hcl, hdrop]; simp
      refine ⟨fun _ => ⟨_, _, _, r26.list, by omega, by omega, _, _, rfl, ?_⟩, fun hf => absurd hf (by simp; omega)⟩
      refine G.rd x (fun j hj => r26.cell hx6 j hj) ?_
      refine put_local rfl (by simp) ?_
      intro h28 k28 f28 s28
      have w28 := w26.fr f28 (by simp)
      have r28 := r26.fr f28 (by simp) (by simp)
      have ra28 := ra26.fr f28 (by simp)
      have kc28 := f28.at k26 (by simp)
      have fr28 := f26.trans (f28.mono (by simp))
      have ltb := lt_of_bk k26
      have lq26 := w26.lt
      have ll26 := r26.ltl
      have lq226 := r26.lt
      have skip : goneP c.who x = false → (∃ n' : Nat, IntKind.wrap .i64 ((n : Int) + 1) = n' ∧ n' ≤ 32 ∧ ((((L.take n).filter (goneP c.who)).length : Nat) : Int) = (((L.take n').filter (goneP c.who)).length : Nat) ∧ GS h28 q (goneL c.who L) ∧ RS h28 q2 lb (goneL c.who (L.take n') ++ L.drop n') ∧ rowAtK h28 a (encL G.cells (L.filter (goneP c.who))) ∧ bk h28 b = some (blk 40 c.cells) ∧ Fr [q, lb] h h28) ∧ 32 - (IntKind.wrap .i64 ((n : Int) + 1)).toNat < 32 - (n : Int).toNat := by
        intro hp
        rw [wrapN hn32 (by omega)]
        refine ⟨⟨n + 1, rfl, by omega, by rw [htake, List.filter_append]; simp [hp], w28, ?_, ra28, kc28, fr28⟩, by omega⟩
        have e : goneL c.who (L.take (n + 1)) = goneL c.who (L.take n) ++ [x] := by rw [htake]; simp [goneL, hp]
        rw [e, List.append_assoc, List.singleton_append, ← hdrop]
        exact r28
      generalize hx26 : sz h26 = xb at *
      refine ⟨fun h29 => h29 = h28 ∧ goneP c.who x = true, ⟨_, (cellAt_of k28 0).trans rfl, fun e0 => skip (by simp only [beq_iff_eq] at e0; simp [goneP, e0]), fun e0 => ⟨_, (cellAt_of k28 1).trans rfl, _, (cellAt_of kc28 1).trans rfl, fun e1 => ⟨_, (cellAt_of k28 3).trans rfl, _, (cellAt_of kc28 1).trans rfl, fun e3 => skip (by simp only [bne_iff_ne] at e1 e3; simp [goneP, e1, e3]), fun e3 => ⟨rfl, ?_⟩⟩, fun e1 => ⟨rfl, ?_⟩⟩⟩, ?_⟩
      · simp only [beq_eq_false_iff_ne] at e0
        simp only [bne_eq_false_iff_eq] at e3
        simp [goneP, e0, e3]
      · simp only [beq_eq_false_iff_ne] at e0
        simp only [bne_eq_false_iff_eq] at e1
        simp [goneP, e0, e1]
      rintro h29 ⟨rfl, hp⟩
      have hfx := filter_at hx hp
      have hlt := (List.getElem?_eq_some_iff.1 hfx).1
      obtain ⟨b3, o3, rfl, e3⟩ := encL_one (f := G.cells) (m := 6) G.len ra28 hfx (by omega)
      refine ⟨fun h31 => Fr [] h29 h31, ⟨fun hc => absurd hc (by simp; omega), fun _ => ⟨by omega, by omega, _, _, rfl, ?_⟩⟩, ?_⟩
      · refine G.rd x (fun j hj => by rw [Int.toNat_natCast]; exact e3 j hj) ?_
        refine G.rd (o := 0) x (fun j hj => by rw [Nat.zero_add]; exact cellAt_of k28 j) ?_
        refine (of_spec x).mono ?_
        rintro v h30 ⟨rfl, f30⟩
        have k30 := f30.at k28 (by simp)
        have ec : ∀ j, j < 6 → cellAt h30 xb (0 + j) = x.cells[j]? := fun j hj => by rw [Nat.zero_add]; exact cellAt_of k30 j
        exact ⟨_, _, _, _, _, _, rfl, (ec 0 (by omega)).trans rfl, (ec 1 (by omega)).trans rfl, (ec 2 (by omega)).trans rfl, (ec 3 (by omega)).trans rfl, (ec 4 (by omega)).trans rfl, (ec 5 (by omega)).trans rfl, fun hc => absurd hc (by simp [notIf]), fun _ => f30⟩
      intro h31 f31
      have r31 := r28.fr f31 (by simp) (by simp)
      refine ⟨_, _, _, r31.list, by omega, by omega, _, _, rfl, truly_rfl, _, _, r31.arr.hq, r31.room0 hn32 (by omega), ?_⟩
      rintro h32 rfl
      have r32 := r31.put0 (y := noG) (vs := noG.cells) hx6 (by simp [G.cells]) rfl
      have f32 : Fr [lb] h31 (upd h31 lb 41 (writeAt (encL G.cells (goneL c.who (L.take n) ++ L.drop n) ++ []) (0 + (n : Int).toNat * 6) noG.cells)) := Fr.upd (F := [lb]) (by simp) _ _ _
      simp only [noG, G.cells] at r32 f32
      have fx := (f31.mono (G := [lb]) (by simp)).trans f32
      have hfl : ((L.take n).filter (goneP c.who)).length ≤ n := by
        have := List.length_filter_le (goneP c.who) (L.take n)
        simp at this; omega
      rw [wrapN hn32 (by omega), wrapN (n := 32) (by omega) (by omega)]
      refine ⟨⟨n + 1, rfl, by omega, by rw [htake, List.filter_append]; simp [hp], w28.fr fx (by simpa using hne), ?_, ra28.fr fx hfa, fx.at kc28 (by simp; omega), fr28.trans (fx.mono (by simp))⟩, by show 32 - ((n + 1 : Nat) : Int).toNat < 32 - (n : Int).toNat; omega⟩
      have e : goneL c.who (L.take (n + 1)) ++ L.drop (n + 1) = (goneL c.who (L.take n) ++ L.drop n).set n noG := by
        have h1 := set_mid (goneL c.who (L.take n)) (L.drop (n + 1)) x noG
        rw [hcl] at h1
        rw [hdrop, h1, htake]; simp [goneL, hp]
      rw [e]; exact r32
    · have : n = 32 := by omega
      subst this
      have e1 : L.take 32 = L := List.take_of_length_le (by omega)
      have e2 : L.drop 32 = [] := List.drop_eq_nil_of_le (by omega)
      rw [e1, e2, List.append_nil] at r26
      rw [e1]
      exact ⟨fun hf => absurd hf (by simp), fun _ => hR _ _ ⟨by rw [beq_self_eq_true], w26, r26, f26⟩⟩
  · simp only [beq_eq_false_iff_ne] at n0 n1 n2 n3 n4
    have hst : stepL L c = L := by simp [stepL, n0, n1, n2, n3, n4]
    rw [hst] at hR
    exact hR _ _ ⟨rfl, w1, r1, f1⟩
end Go.Proofs.Ytadghpkdkdphdaa
