/-
  The law VmidApart: for every input the call returns true, and each argument reads as it read before.  No further condition.
-/
import Derived.Test.YtmocndbebknbgaaRows
import Derived.Test.YtmocndbebknbgaaYh
import Derived.Test.YtmocndbebknbgaaWdRow
import Derived.WalkKit
import Derived.ProofKit
import Derived.OpenShut
import Derived.ShutString
import Derived.ChangeOld
import Derived.Below
import Derived.SizedLaws
namespace Go.Proofs.Ytmocndbebknbgaa.vmidApart
open Go.ChangeShapes Go.WideShapes Go.ChangeAt Go.RowKit Go.Wd
open Go.ChangeMaps (open_string shut_string)
set_option linter.unusedVariables false
theorem own : ownKnob Try.prog.godebug = none := by kernel_rfl
theorem laidOut : laidOutB Try.prog = true := by kernel_rfl
set_option maxRecDepth 100000 in
theorem lifted (os : Os) (started : os.Started) (H : Type) (enc : TypeId × Value → H) :
    ReturnsInHanded {} Try.checked os 6 .any (Rows.vmidApartSpec.pre6 enc Try.prog Try.f6 Rows.vmidApartRow.domain false) (Rows.vmidApartSpec.post enc Try.prog Try.f6 false true false false) := by
  refine returnsInHanded_of_change_sized (C := Try.checked) own started (by kernel_rfl) Try.func6
    (ChangeSpec.witness6 (enc := enc) (C := Try.checked) false ⟨#[], #[.int .i64 0, .slice none 0 0], []⟩ 8 (by kernel_rfl) (by kernel_rfl) (by kernel_rfl) (by kernel_rfl)) ?_
  intro W base args ds gs before hval0 hW hcnd hsz0 _
  have hval : ∀ (j : Nat) t v, Try.f6.params[j]? = some t → args[j]? = some v → Value.okWide Try.prog W .any base t v := hval0
  have hW' := hW
  obtain ⟨p, q, hA0, hV, rfl, hfz, hnd⟩ := hW
  have hA : DataW.TrodAll enc Try.prog W 0 (fun _ => true) true Try.f6.params.toList args.toList ds p := hA0
  rw [Try.params6] at hA hval
  obtain ⟨v0, vs0, d0, ds0, p0, q0, hargs, rfl, rfl, h0, r0⟩ := trodAll_cons hA
  obtain ⟨v1, vs1, d1, ds1, p1, q1, rfl, rfl, rfl, h1, r1⟩ := trodAll_cons r0
  obtain ⟨rfl, rfl, rfl⟩ := trodAll_nil r1
  obtain rfl : args = #[v0, v1] := by cases args; simp_all
  obtain ⟨rfl, rfl⟩ := trodVars_none hV
  obtain ⟨a0, rfl, rfl, rfl, w0⟩ := open_int Try.underlying3 (hval 0 3 v0 rfl rfl) h0
  have k1 := h1
  have lt1 : ∀ x ∈ p1, x.block < W.heap.size := by obtain ⟨m, hm⟩ := k1; exact DataW.trod_lt m _ _ _ hm
  have hs1 := okWide_slice Try.underlying22 (hval 1 22 v1 rfl rfl)
  obtain ⟨fuel1, hf1⟩ := h1
  obtain ⟨a1, l1, c1, rfl, hle1, hmax1, rows1, hrows1, hw1, hr1⟩ := open_rows (ss := [.int .i64, .int .i64]) Try.underlying22 (by kernel_rfl) (by simp) hf1 hs1
  clear hA0 hval0 hsz0
  have hc : CallsH Try.prog 6 [.int .i64 a0, .slice a1 l1 c1] W.heap fun v h' => v = .bool true ∧ Fr [] W.heap h' := by
    obtain ⟨l, e1, e2⟩ := rows_c hw1
    rw [e2] at hr1
    subst hrows1
    rw [e1]
    exact apart_law a0 hr1
  refine (hc W rfl).mono ?_
  rintro e W' ⟨v, rfl, hsame, rfl, hfr⟩
  have bel := Below_of_Fr hsame hfr
  exact ⟨_, rfl, _, _, _, [], _, [], hW', trodAll_mk1 (shut_bool Try.underlying4 _), (trodAll_cons_mk (shut_int Try.underlying3 w0) (trodAll_cons_mk (Below.trod laidOut (by kernel_rfl) (of_decide_eq_true (by kernel_rfl)) k1 bel lt1) trodAll_mk0)), rfl, bel.frame _, fun h => by cases h⟩
theorem over : Rows.vmidApartRow.holds Try.pinned (OpenSpec.ofChange Rows.vmidApartSpec) :=
  OpenClaim.holds_of_wide 6 Try.f6 rfl rfl rfl rfl rfl rfl rfl ⟨rfl, rfl, rfl, rfl, rfl⟩ rfl rfl rfl rfl rfl (by kernel_rfl) Try.func6 (by kernel_rfl)
    (of_decide_eq_true (by kernel_rfl)) (by unfold Func.isWrapper; first | (rw [if_pos (by decide +kernel)]; kernel_rfl) | (rw [if_neg (by decide +kernel)]; exact ⟨rfl, rfl⟩))
    (fun os started H enc _ => lifted os started H enc)
theorem proved : Rows.VmidApartSaid := over
#print axioms proved
end Go.Proofs.Ytmocndbebknbgaa.vmidApart
namespace Go.Proofs.Ytmocndbebknbgaa
/-- The row, under a short name, for the claim. -/
theorem vmidApart_holds : Rows.VmidApartSaid := vmidApart.proved
end Go.Proofs.Ytmocndbebknbgaa
