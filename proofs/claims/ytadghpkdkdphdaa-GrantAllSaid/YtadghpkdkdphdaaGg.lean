import Derived.Test.YtadghpkdkdphdaaGf
namespace Go.Proofs.Ytadghpkdkdphdaa
open Go Go.Wd
set_option linter.unusedVariables false
set_option linter.unusedSimpArgs false

def b0 : List G := List.replicate 32 noG
def b1 : List G := offerL b0 2 7 3 true
def b2 : List G := acceptL b1 0 3 40
def b3 : List G := revokeL b2 0 2

theorem alive_spec (h : Hp) : CallsH Try.prog 8 [] h fun v h' => v = .bool true ∧ Fr [] h h' := by
  refine calls_k fun R hR => ?_
  apply warderlaw12_alive.calls
  unfold warderlaw12_alive.P
  refine new_spec.mono ?_
  rintro v h1 ⟨rfl, w1, f1, s1⟩
  refine ⟨_, rfl, by simp [notIf], fun _ => ?_⟩
  have hlt := w1.lt
  refine (offer_spec w1 2 7 3 true).mono ?_
  have e1 : offerI (List.replicate 32 noG) 2 7 3 = 0 := by decide +kernel
  have e2 : offerE (List.replicate 32 noG) 2 7 3 = 0 := by decide +kernel
  have e3 : offerL (List.replicate 32 noG) 2 7 3 true = b1 := rfl
  rw [e1, e2, e3]
  rintro v h2 ⟨rfl, w2, f2⟩
  refine ⟨_, _, rfl, ?_⟩
  refine (accept_spec w2 0 3 40).mono ?_
  have e4 : acceptE b1 0 3 40 = 0 := by decide +kernel
  have e5 : acceptG b1 0 3 40 = ⟨2, 2, 7, 3, 40, true⟩ := by decide +kernel
  have e6 : acceptL b1 0 3 40 = b2 := rfl
  rw [e4, e5, e6]
  rintro v h3 ⟨rfl, w3, f3⟩
  refine ⟨_, _, _, _, _, _, _, rfl, ?_⟩
  refine put_local rfl (by simp) ?_
  intro h5 k5 f5 s5
  have w5 := w3.fr f5 (by simp)
  refine (May_spec w5 3 7 true).mono ?_
  have e7 : decide (0 ≤ idx (mayP 3 7 true) b2) = true := by decide +kernel
  rw [e7]
  rintro v h6 ⟨rfl, f6⟩
  have w6 := w5.fr f6 (by simp)
  refine ⟨_, rfl, ?_⟩
  refine (revoke_spec w6 0 2).mono ?_
  have e8 : revokeE b2 0 2 = 0 := by decide +kernel
  have e9 : revokeG b2 0 2 = ⟨2, 2, 7, 3, 40, true⟩ := by decide +kernel
  have e10 : revokeL b2 0 2 = b3 := rfl
  rw [e8, e9, e10]
  rintro v h7 ⟨rfl, w7, f7⟩
  refine ⟨_, _, _, _, _, _, _, rfl, ?_⟩
  refine put_local rfl (by simp) ?_
  intro h9 k9 f9 s9
  have w9 := w7.fr f9 (by simp)
  refine (offer_spec w9 2 7 2 true).mono ?_
  have e11 : offerI b3 2 7 2 = -1 := by decide +kernel
  have e12 : offerE b3 2 7 2 = 11 := by decide +kernel
  have e13 : offerL b3 2 7 2 true = b3 := by decide +kernel
  rw [e11, e12, e13]
  rintro v h10 ⟨rfl, w10, f10⟩
  have z2 := f2.size
  have z3 := f3.size
  have z6 := f6.size
  have z7 := f7.size
  have k510 := ((((f6.mono (by simp)).trans f7).trans (f9.mono (by simp))).trans f10).at k5 (F := [sz h]) (by simp; omega)
  have k910 := f10.at k9 (by simp; omega)
  refine ⟨_, _, rfl, ?_⟩
  have c1 : cellAt h10 (sz h3) 0 = some (.int .i64 2) := by rw [cellAt_of k510]; rfl
  have c2 : cellAt h10 (sz h7) 4 = some (.int .i64 40) := by rw [cellAt_of k910]; rfl
  refine ⟨fun _ => ⟨fun _ => ⟨fun _ => ⟨_, c1, fun _ => ⟨fun _ => ⟨fun _ => ⟨_, c2, fun _ => ?_, fun c => absurd c (by simp)⟩, fun c => absurd c (by simp)⟩, fun c => absurd c (by simp)⟩, fun c => absurd c (by simp)⟩, fun c => absurd c (by simp)⟩, fun c => absurd c (by simp)⟩, fun c => absurd c (by simp)⟩
  refine (May_spec w10 3 7 false).mono ?_
  have e14 : decide (0 ≤ idx (mayP 3 7 false) b3) = false := by decide +kernel
  rw [e14]
  rintro v h11 ⟨rfl, f11⟩
  refine ⟨_, rfl, fun _ => ⟨fun _ => ?_, fun c => absurd c (by simp)⟩, fun c => absurd c (by simp)⟩
  refine (get_spec (w10.fr f11 (by simp)) 0).mono ?_
  have e15 : getG b3 0 = noG := by decide +kernel
  rw [e15]
  rintro v h12 ⟨rfl, f12⟩
  refine ⟨_, _, _, _, _, _, rfl, fun _ => ?_, fun c => absurd c (by simp [notIf, noG])⟩
  refine (At_spec ((w10.fr f11 (by simp)).fr f12 (by simp)) 3 40).mono ?_
  have e16 : idx (atP 3 40) b3 = -1 := by decide +kernel
  rw [e16]
  rintro v h13 ⟨rfl, f13⟩
  refine ⟨_, rfl, hR _ _ ⟨by simp, ?_⟩⟩
  have fa : Fr [sz h] h1 h13 := ((((((((f2.trans f3).trans (f5.mono (by simp))).trans (f6.mono (by simp))).trans f7).trans (f9.mono (by simp))).trans f10).trans (f11.mono (by simp))).trans (f12.mono (by simp))).trans (f13.mono (by simp))
  exact f1.later fa (by simp)
end Go.Proofs.Ytadghpkdkdphdaa
