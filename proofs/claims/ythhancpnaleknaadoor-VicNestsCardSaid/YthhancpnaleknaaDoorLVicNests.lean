/-
  The law VicNests: for every input the call returns true, and each argument reads as it read before.  No further condition.
-/
import Derived.Test.YthhancpnaleknaaDoorRows
import Derived.Test.YthhancpnaleknaaDoorVr
import Derived.Test.YthhancpnaleknaaDoorWdRow
import Derived.WalkKit
import Derived.ProofKit
import Derived.OpenShut
import Derived.ShutString
import Derived.ChangeOld
import Derived.Below
import Derived.SizedLaws
namespace Go.Proofs.YthhancpnaleknaaDoor.vicNests
open Go.ChangeShapes Go.WideShapes Go.ChangeAt Go.RowKit Go.Wd
open Go.ChangeMaps (open_string shut_string)
set_option linter.unusedVariables false
theorem own : ownKnob Tryd.prog.godebug = none := by kernel_rfl
theorem laidOut : laidOutB Tryd.prog = true := by kernel_rfl
set_option maxRecDepth 100000 in
theorem lifted (os : Os) (started : os.Started) (H : Type) (enc : TypeId × Value → H) :
    ReturnsInHanded {} Tryd.checked os 5 .any (fun w args => (Rows.vicNestsSpec.pre enc Tryd.prog Tryd.f5 Rows.vicNestsRow.domain false w args ∧ laidMetH Tryd.prog laidTab w) ∧ sizedMet enc Tryd.prog Tryd.f5 (OpenSpec.ofChange Rows.vicNestsSpec) false w args) (Rows.vicNestsSpec.post enc Tryd.prog Tryd.f5 false true false false) := by
  refine returnsInHanded_of_change_and (C := Tryd.checked) (X := fun w _ => laidMetH Tryd.prog laidTab w) (fun _ _ _ hh h => h.of_heap hh) own started (by kernel_rfl) Tryd.func5
    (ChangeSpec.witness_at (enc := enc) (C := Tryd.checked) (os := os) (X := fun w _ => laidMetH Tryd.prog laidTab w) false (World.laidAll Tryd.prog os laidTab) #[.slice none 0 0] 8 (World.laidAll_os _ _ _) (by kernel_rfl) (by kernel_rfl) (by kernel_rfl) (by kernel_rfl) (by kernel_rfl)
      (show laidMet Tryd.prog laidTab _ from laidMet_laidAll #[.slice none 0 0] (by kernel_rfl) (by kernel_rfl))) ?_
  intro W base args ds gs before hval0 hW hcnd hsz0 hL _
  have hval : ∀ (j : Nat) t v, Tryd.f5.params[j]? = some t → args[j]? = some v → Value.okWide Tryd.prog W .any base t v := hval0
  have hW' := hW
  obtain ⟨p, q, hA0, hV, rfl, hfz, hnd⟩ := hW
  have hA : DataW.TrodAll enc Tryd.prog W 0 (fun _ => true) true Tryd.f5.params.toList args.toList ds p := hA0
  rw [Tryd.params5] at hA hval
  obtain ⟨v0, vs0, d0, ds0, p0, q0, hargs, rfl, rfl, h0, r0⟩ := trodAll_cons hA
  obtain ⟨rfl, rfl, rfl⟩ := trodAll_nil r0
  obtain rfl : args = #[v0] := by cases args; simp_all
  obtain ⟨rfl, rfl⟩ := trodVars_none hV
  have k0 := h0
  have lt0 : ∀ x ∈ p0, x.block < W.heap.size := by obtain ⟨m, hm⟩ := k0; exact DataW.trod_lt m _ _ _ hm
  have hs0 := okWide_slice Tryd.underlying39 (hval 0 39 v0 rfl rfl)
  obtain ⟨fuel0, hf0⟩ := h0
  obtain ⟨a0, l0, c0, rfl, hle0, hmax0, rows0, hrows0, hw0, hr0⟩ := open_rows (ss := [.int .i64, .int .i64, .int .i64, .bool]) Tryd.underlying39 (by kernel_rfl) (by simp) hf0 hs0
  clear hA0 hval0 hsz0
  have hc : CallsH Tryd.prog 5 [.slice a0 l0 c0] W.heap fun v h' => v = .bool true ∧ Fr [] W.heap h' := by
    have tab := tab_of_laid hL
    obtain ⟨l, e1, e2⟩ := rows_c hw0
    rw [e2] at hr0
    subst hrows0
    rw [e1]
    exact nests_spec tab hr0
  refine (hc W rfl).mono ?_
  rintro e W' ⟨v, rfl, hsame, rfl, hfr⟩
  have bel := Below_of_Fr hsame hfr
  exact ⟨_, rfl, _, _, _, [], _, [], hW', trodAll_mk1 (shut_bool Tryd.underlying4 _), (trodAll_cons_mk (Below.trod laidOut (by kernel_rfl) (of_decide_eq_true (by kernel_rfl)) k0 bel lt0) trodAll_mk0), rfl, bel.frame _, fun h => by cases h⟩
theorem over : Rows.vicNestsRow.holds Tryd.pinned (OpenSpec.ofChange Rows.vicNestsSpec) :=
  OpenClaim.holds_of_wide 5 Tryd.f5 rfl rfl rfl rfl rfl rfl rfl ⟨rfl, rfl, rfl, rfl, rfl⟩ rfl rfl rfl rfl rfl (by kernel_rfl) Tryd.func5 (by kernel_rfl)
    (of_decide_eq_true (by kernel_rfl)) (by unfold Func.isWrapper; first | (rw [if_pos (by decide +kernel)]; kernel_rfl) | (rw [if_neg (by decide +kernel)]; exact ⟨rfl, rfl⟩))
    (fun os started H enc _ => lifted os started H enc)
theorem card : Rows.VicNestsCardSaid :=
  Claim7.holds_tied_plain_at .later [] [.data] true (true, "1224a877b6a6b1821ff94c0554d292c010ce485875014bc33eda5c9475558730") false
    over (fun _ h => by cases h) (by kernel_rfl) (fun _ h => by cases h) vicNests_row_tie rfl ⟨rfl, rfl⟩ (by kernel_rfl) rfl
    (fun f fn hf hfn => by
      obtain rfl : f = 5 := Option.some.inj ((show Tryd.prog.funcNamed "warder/warderlaw20.VicNests" = some 5 by kernel_rfl).symm.trans hf) |>.symm
      obtain rfl : fn = Tryd.f5 := (Option.some.inj (Tryd.func5.symm.trans hfn)).symm
      refine ⟨by kernel_rfl, fun j t ht => ?_⟩
      rw [Tryd.params5] at ht
      have hm : t ∈ ([39] : List TypeId) := List.mem_of_getElem? (i := j) (by simpa using ht)
      simp only [List.mem_cons, List.not_mem_nil, or_false] at hm
      subst hm
      exact (show Tryd.prog.wantsStandIn 39 = false by kernel_rfl))
    (by kernel_rfl)
#print axioms card
end Go.Proofs.YthhancpnaleknaaDoor.vicNests
namespace Go.Proofs.YthhancpnaleknaaDoor
/-- The card, under a short name, for the claim. -/
theorem vicNests_holds : Rows.VicNestsCardSaid := vicNests.card
end Go.Proofs.YthhancpnaleknaaDoor
