import Derived.Test.YtmldiibfmhkgjaaSo
namespace Go.Proofs.Ytmldiibfmhkgjaa
open Go Go.Wd
set_option linter.unusedVariables false
set_option linter.unusedSimpArgs false
set_option linter.unnecessarySimpa false

def Q1 : Ab := (opMap A0 140 true 3 5 true false).2
def Q2 : Ab := (opUnmap Q1 true 3).2
def Q3 : Ab := (opRun Q2 140 1 64 false true).2
def Q4 : Ab := (opProt Q3 true 65 true true).2
def Q5 : Ab := (opMerge Q4 1).2
def Q6 : Ab := (opProt Q5 true 65 false true).2
def Q7 : Ab := (opMerge Q6 1).2
theorem q1 : (opMap A0 140 true 3 5 true false).1 = 0 := by decide +kernel
theorem n1 : nT Q1 = 1 := by decide +kernel
theorem q2 : (opUnmap Q1 true 3).1 = 0 := by decide +kernel
theorem n2 : nT Q2 = 0 := by decide +kernel
theorem q3 : (opRun Q2 140 1 64 false true).1 = 0 := by decide +kernel
theorem n3 : nT Q3 = 0 := by decide +kernel
theorem q4 : (opProt Q3 true 65 true true).1 = 0 := by decide +kernel
theorem n4 : nT Q4 = 1 := by decide +kernel
theorem l4 : lookA Q4 65 = some (⟨65, true, true⟩, false) := by decide +kernel
theorem q5 : (opMerge Q4 1).1 = 20 := by decide +kernel
theorem n5 : nT Q5 = 1 := by decide +kernel
theorem q6 : (opProt Q5 true 65 false true).1 = 0 := by decide +kernel
theorem n6 : nT Q6 = 1 := by decide +kernel
theorem q7 : (opMerge Q6 1).1 = 0 := by decide +kernel
theorem n7 : nT Q7 = 0 := by decide +kernel
theorem l7 : lookA Q7 66 = some (⟨66, false, true⟩, true) := by decide +kernel
theorem alive_spec {h : Hp} : CallsH Try.prog 9 [] h fun v h' => v = .bool true ∧ Fr [] h h' := by
  refine calls_k fun R hR => ?_
  apply warderlaw11_alive.calls
  unfold warderlaw11_alive.P
  refine (Begin_spec (n := 140) (away := 100) (by decide) (by decide) (by decide)).mono ?_
  rintro v h1 ⟨b, y, s0, rfl, w0, i0⟩
  have l0 := i0.lv
  refine ⟨_, rfl, fun c => absurd c (by simp [notIf]), fun _ => ⟨_, _, rfl, _, w0.csp, ?_⟩⟩
  have hfree : ∀ {s : Sp} {A : Ab} {T : Nat → Nat}, Liv s A T 140 (140 - 100 - 1) → nT A ≤ 1 → freeB s = true := fun l h => l.free (Nat.lt_of_le_of_lt h (by decide))
  -- a page
  have fr0 := hfree l0 (by rw [nT_zero]; decide)
  refine (Map_spec w0.sp l0.hv 3 5 true false).mono ?_
  rw [fr0, l0.n]
  rintro v h2 ⟨e, s1, rfl, p1, f1, r1⟩
  obtain ⟨he1, _, _, T1, l1⟩ := l0.step r1
  rw [q1] at he1
  have l1 : Liv s1 Q1 T1 140 (140 - 100 - 1) := l1
  have w1 := w0.go p1 (.ofF f1)
  refine ⟨_, rfl, ?_⟩
  refine (Tables_spec p1 l1.inv l1.de).mono ?_
  rw [n1]
  rintro v h3 ⟨rfl, f2⟩
  have w2 := w1.fr0 f2
  have fr1 := hfree l1 (by rw [n1]; decide)
  refine ⟨_, rfl, ?_⟩
  refine (Unmap_spec w2.sp l1.hv 3).mono ?_
  rw [fr1]
  rintro v h4 ⟨e2, s2, rfl, p3, f3, r3⟩
  obtain ⟨he2, _, _, T2, l2⟩ := l1.step r3
  rw [q2] at he2
  have l2 : Liv s2 Q2 T2 140 (140 - 100 - 1) := l2
  have w3 := w2.go p3 (.ofF f3)
  refine ⟨_, rfl, ?_⟩
  -- a block
  refine (MapRun_spec w3.sp l2.hv 1 64 false true).mono ?_
  rw [l2.n]
  rintro v h5 ⟨e3, s3, rfl, p4, f4, r4⟩
  obtain ⟨he3, _, _, T3, l3⟩ := l2.step r4
  rw [q3] at he3
  have l3 : Liv s3 Q3 T3 140 (140 - 100 - 1) := l3
  have w4 := w3.go p4 (.ofF f4)
  have fr3 := hfree l3 (by rw [n3]; decide)
  refine ⟨_, rfl, ?_⟩
  refine (Protect_spec w4.sp l3.hv 65 true true).mono ?_
  rw [fr3]
  rintro v h6 ⟨e4, s4, rfl, p5, f5, r5⟩
  obtain ⟨he4, _, _, T4, l4'⟩ := l3.step r5
  rw [q4] at he4
  have l4' : Liv s4 Q4 T4 140 (140 - 100 - 1) := l4'
  have w5 := w4.go p5 (.ofF f5)
  refine ⟨_, rfl, ?_⟩
  refine (SLook_spec w5.sp l4'.inv l4'.de 65).mono ?_
  rw [l4]
  rintro v h7 ⟨rfl, f6⟩
  have w6 := w5.fr0 f6
  refine ⟨_, _, _, _, _, _, rfl, ?_⟩
  refine put_ent (lkE (some (⟨65, true, true⟩, false))) ?_
  intro h9 k9 f9 _
  have w9 := w6.fr0 f9
  have out9 : sz h7 ∉ y.F := fun hm => by have := w6.sp.ltF _ hm; omega
  refine (Merge_spec w9.sp l4'.hv 1).mono ?_
  rintro v h10 ⟨e5, s5, rfl, p10, f10, r10⟩
  obtain ⟨he5, _, _, T5, l5⟩ := l4'.step r10
  rw [q5] at he5
  have l5 : Liv s5 Q5 T5 140 (140 - 100 - 1) := l5
  have w10 := w9.go p10 (.ofF f10)
  have k10 := f10.at k9 out9
  have fr5 := hfree l5 (by rw [n5]; decide)
  refine ⟨_, rfl, ?_⟩
  refine (Protect_spec w10.sp l5.hv 65 false true).mono ?_
  rw [fr5]
  rintro v h11 ⟨e6, s6, rfl, p11, f11, r11⟩
  obtain ⟨he6, _, _, T6, l6⟩ := l5.step r11
  rw [q6] at he6
  have l6 : Liv s6 Q6 T6 140 (140 - 100 - 1) := l6
  have w11 := w10.go p11 (.ofF f11)
  have k11 := f11.at k10 out9
  refine ⟨_, rfl, ?_⟩
  refine (Merge_spec w11.sp l6.hv 1).mono ?_
  rintro v h12 ⟨e7, s7, rfl, p12, f12, r12⟩
  obtain ⟨he7, _, _, T7, l7'⟩ := l6.step r12
  rw [q7] at he7
  have l7' : Liv s7 Q7 T7 140 (140 - 100 - 1) := l7'
  have w12 := w11.go p12 (.ofF f12)
  have k12 := f12.at k11 out9
  refine ⟨_, rfl, ?_⟩
  refine (SLook_spec w12.sp l7'.inv l7'.de 66).mono ?_
  rw [l7]
  rintro v h13 ⟨rfl, f13⟩
  have w13 := w12.fr0 f13
  have k13 := f13.at k12 (by simp)
  refine ⟨_, _, _, _, _, _, rfl, ?_⟩
  refine put_ent (lkE (some (⟨66, false, true⟩, true))) ?_
  intro h15 k15 f15 _
  have w15 := w13.fr0 f15
  have k9' := f15.at k13 (by simp)
  subst he1; subst he2; subst he3; subst he4; subst he5; subst he6; subst he7
  have yes : ∀ {P Q : Prop} {t : Bool}, t = true → P → (t = true → P) ∧ (t = false → Q) := fun ht hp => ⟨fun _ => hp, fun c => by rw [ht] at c; cases c⟩
  refine yes rfl (yes rfl (yes rfl (yes rfl (yes rfl (yes rfl ?_)))))
  refine ⟨_, (cellAt_of k9' 4).trans rfl, yes rfl ⟨_, (cellAt_of k9' 1).trans rfl, yes rfl (yes rfl (yes rfl (yes rfl (yes rfl ⟨_, (cellAt_of k15 3).trans rfl, yes rfl ?_⟩))))⟩⟩
  refine (Tables_spec w15.sp l7'.inv l7'.de).mono ?_
  rw [n7]
  rintro v h16 ⟨rfl, f16⟩
  have w16 := w15.fr0 f16
  refine ⟨_, rfl, yes rfl ⟨_, _, rfl, _, w16.cfr, ?_⟩⟩
  refine (Count_spec w16.sp.g.f 1).mono ?_
  rw [show s7.L.count 1 = 1 by rw [l7'.c1, n7]]
  rintro v h17 ⟨rfl, hh⟩
  rw [hh]; clear hh h17
  refine ⟨_, rfl, yes rfl ?_⟩
  refine (Vmid_spec w16.sp).mono ?_
  rw [l7'.vm]
  rintro v h18 ⟨rfl, hh⟩
  rw [hh]; clear hh h18
  exact ⟨_, rfl, hR _ _ ⟨rfl, w16.fr⟩⟩
end Go.Proofs.Ytmldiibfmhkgjaa
