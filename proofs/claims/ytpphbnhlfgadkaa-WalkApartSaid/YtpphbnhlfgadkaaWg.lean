import Derived.Test.YtpphbnhlfgadkaaWf
namespace Go.Proofs.Ytpphbnhlfgadkaa
open Go Go.Wd
set_option linter.unusedVariables false
set_option linter.unusedSimpArgs false

theorem hit_keep {h h4 h5 : Hp} {T : TypeId} {z : List Value} {x : Hit} (e4 : h4 = new h (blk T z)) (e5 : h5 = upd h4 (sz h) T (writeAt z 0 x.cells)) (hl : z.length = 6) : bk h5 (sz h) = some (blk T x.cells) ∧ Fr [] h h5 ∧ sz h5 = sz h + 1 :=
  put_facts e4 e5 (by rw [hl, Hit.len])

set_option maxHeartbeats 1000000 in
theorem alive_spec (h : Hp) : CallsH Try.prog 8 [] h fun v h' => v = .bool true ∧ Fr [] h h' := by
  refine calls_k fun R hR => ?_
  apply warderlaw07_alive.calls
  unfold warderlaw07_alive.P
  intro h1 e1
  have k1 : bk h1 (sz h) = some (blk 50 (encL Pt.cells [⟨0, 257⟩, ⟨4, 4111⟩, ⟨264, 775⟩])) := by rw [e1]; exact new_at _ _
  have f1 : Fr [] h h1 := by rw [e1]; exact Fr.new _ _ _
  clear e1
  have g1 : rowAtK h1 (some ⟨sz h, 0, none⟩) (encL Pt.cells [⟨0, 257⟩, ⟨4, 4111⟩, ⟨264, 775⟩]) := .inr ⟨_, _, rfl, readAt_of k1 0 _ (by simp)⟩
  refine (Both_spec (n := 80) (by decide) (by decide) (c := 3) g1 (fun x hx => by simp at hx; rcases hx with rfl | rfl | rfl <;> exact ⟨by decide, by decide⟩) (by simp)).mono ?_
  rintro v h2 ⟨q, fb, q2, rb, rfl, w2, -, -, f2⟩
  rw [show putsB 80 [⟨0, 257⟩, ⟨4, 4111⟩, ⟨264, 775⟩] = aliveB from rfl] at w2
  have hE := alive_ent
  generalize aliveB = B at w2 hE
  have fr2 := f1.trans f2
  refine ⟨_, _, rfl, fun c => absurd c (by simp [notIf]), fun _ => ?_⟩
  have a1 : walkOf 80 B 0 530 1 = ⟨0, 2, 3, true, true, false⟩ := by rw [alive_walk hE 530 (by decide)]; rfl
  have a2 : walkOf 80 B 0 17157 2 = ⟨0, 1, 19, true, true, true⟩ := by rw [alive_walk hE 17157 (by decide)]; rfl
  have a3 : walkOf 80 B 0 32768 0 = ⟨2, 1, 0, false, false, false⟩ := by rw [alive_walk hE 32768 (by decide)]; rfl
  have a4 := alive_look hE
  have a5 := alive_len hE
  have a6 := alive_head hE
  generalize hP : pagesL (pageP 80 B 0) 4096 = PP at a5 a6
  refine (Walk_spec w2 0 (a := 530) (by decide) 1).mono ?_
  rintro v h3 ⟨rfl, f3⟩
  rw [a1]
  refine ⟨_, _, _, _, _, _, rfl, ?_⟩
  intro h4 e4
  refine ⟨truly_rfl, _, _, by rw [e4]; exact new_at _ _, by simp, ?_⟩
  intro h5 e5
  obtain ⟨k5, f5, s5⟩ := hit_keep (x := ⟨0, 2, 3, true, true, false⟩) e4 e5 rfl
  clear e4 e5
  have w5 := (w2.fr f3 (by simp) (by simp)).fr f5 (by simp) (by simp)
  refine (Walk_spec w5 0 (a := 17157) (by decide) 2).mono ?_
  rintro v h6 ⟨rfl, f6⟩
  rw [a2]
  refine ⟨_, _, _, _, _, _, rfl, ?_⟩
  intro h7 e7
  refine ⟨truly_rfl, _, _, by rw [e7]; exact new_at _ _, by simp, ?_⟩
  intro h8 e8
  obtain ⟨k8, f8, s8⟩ := hit_keep (x := ⟨0, 1, 19, true, true, true⟩) e7 e8 rfl
  clear e7 e8
  have w8 := (w5.fr f6 (by simp) (by simp)).fr f8 (by simp) (by simp)
  refine (Walk_spec w8 0 (a := 32768) (by decide) 0).mono ?_
  rintro v h9 ⟨rfl, f9⟩
  rw [a3]
  refine ⟨_, _, _, _, _, _, rfl, ?_⟩
  intro h10 e10
  refine ⟨truly_rfl, _, _, by rw [e10]; exact new_at _ _, by simp, ?_⟩
  intro h11 e11
  obtain ⟨k11, f11, s11⟩ := hit_keep (x := ⟨2, 1, 0, false, false, false⟩) e10 e11 rfl
  clear e10 e11
  have w11 := (w8.fr f9 (by simp) (by simp)).fr f11 (by simp) (by simp)
  refine (Look_spec w11 0 2).mono ?_
  rintro v h12 ⟨rfl, f12⟩
  rw [a4.2, a4.1]
  refine ⟨_, _, _, _, _, _, rfl, ?_⟩
  intro h13 e13
  refine ⟨truly_rfl, _, _, by rw [e13]; exact new_at _ _, by simp, ?_⟩
  intro h14 e14
  obtain ⟨k14, f14, s14⟩ := put_facts (v := [.bool true, .bool true, .bool true, .bool false, .int .i64 3]) e13 e14 rfl
  clear e13 e14
  have w14 := (w11.fr f12 (by simp) (by simp)).fr f14 (by simp) (by simp)
  refine (Pages_spec w14 0).mono ?_
  rw [hP]
  rintro v h15 ⟨a, c, rfl, r15, -, f15⟩
  have k5' := (((((((f6.trans f8).trans f9).trans f11).trans f12).trans f14).trans f15)).at k5 (by simp)
  have k8' := (((((f9.trans f11).trans f12).trans f14).trans f15)).at k8 (by simp)
  have k11' := ((f12.trans f14).trans f15).at k11 (by simp)
  have k14' := f15.at k14 (by simp)
  have fr15 := (((((((((fr2.trans f3).trans f5).trans f6).trans f8).trans f9).trans f11).trans f12).trans f14).trans f15)
  have yes := hR _ h15 ⟨rfl, fr15⟩
  refine ⟨_, _, _, rfl, fun _ => ?_, fun c => absurd c (by simp)⟩
  refine Hit.rd (o := 0) ⟨0, 2, 3, true, true, false⟩ (fun j hj => by rw [Nat.zero_add]; exact cellAt_of k5' j) ?_
  refine ⟨fun _ => ?_, fun c => absurd c (by decide)⟩
  refine Hit.rd (o := 0) ⟨0, 1, 19, true, true, true⟩ (fun j hj => by rw [Nat.zero_add]; exact cellAt_of k8' j) ?_
  refine ⟨fun _ => ?_, fun c => absurd c (by decide)⟩
  refine Hit.rd (o := 0) ⟨2, 1, 0, false, false, false⟩ (fun j hj => by rw [Nat.zero_add]; exact cellAt_of k11' j) ?_
  refine ⟨fun _ => ?_, fun c => absurd c (by decide)⟩
  refine ⟨3, (cellAt_of k14' 4).trans rfl, fun _ => ⟨fun _ => ?_, fun c => ?_⟩, fun c => absurd c (by decide)⟩
  · obtain ⟨b, o, ha, hc⟩ := rowN_cell r15 (k := 0) a6
    exact ⟨by decide, by rw [a5]; decide, b, o, ha, _, hc, yes⟩
  · rw [a5] at c
    exact absurd c (by decide)
end Go.Proofs.Ytpphbnhlfgadkaa
