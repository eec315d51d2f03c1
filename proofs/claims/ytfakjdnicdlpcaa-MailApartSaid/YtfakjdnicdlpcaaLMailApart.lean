/-
  The law MailApart: for every input the call returns true, and each argument reads as it read before.  No further condition.
-/
import Derived.Test.YtfakjdnicdlpcaaRows
import Derived.Test.YtfakjdnicdlpcaaMg
import Derived.Test.YtfakjdnicdlpcaaWdRow
import Derived.WalkKit
import Derived.ProofKit
import Derived.OpenShut
import Derived.ShutString
import Derived.ChangeOld
import Derived.Below
import Derived.SizedLaws
namespace Go.Proofs.Ytfakjdnicdlpcaa.mailApart
open Go.ChangeShapes Go.WideShapes Go.ChangeAt Go.RowKit Go.Wd
open Go.ChangeMaps (open_string shut_string)
set_option linter.unusedVariables false
theorem own : ownKnob Try.prog.godebug = none := by kernel_rfl
theorem laidOut : laidOutB Try.prog = true := by kernel_rfl
set_option maxRecDepth 100000 in
theorem lifted (os : Os) (started : os.Started) (H : Type) (enc : TypeId × Value → H) :
    ReturnsInHanded {} Try.checked os 5 .any (Rows.mailApartSpec.pre6 enc Try.prog Try.f5 Rows.mailApartRow.domain false) (Rows.mailApartSpec.post enc Try.prog Try.f5 false true false false) := by
  refine returnsInHanded_of_change_sized (C := Try.checked) own started (by kernel_rfl) Try.func5
    (ChangeSpec.witness6 (enc := enc) (C := Try.checked) false ⟨#[], #[.slice none 0 0, .slice none 0 0], []⟩ 8 (by kernel_rfl) (by kernel_rfl) (by kernel_rfl) (by kernel_rfl)) ?_
  intro W base args ds gs before hval0 hW hcnd hsz0 _
  have hval : ∀ (j : Nat) t v, Try.f5.params[j]? = some t → args[j]? = some v → Value.okWide Try.prog W .any base t v := hval0
  have hW' := hW
  obtain ⟨p, q, hA0, hV, rfl, hfz, hnd⟩ := hW
  have hA : DataW.TrodAll enc Try.prog W 0 (fun _ => true) true Try.f5.params.toList args.toList ds p := hA0
  rw [Try.params5] at hA hval
  obtain ⟨v0, vs0, d0, ds0, p0, q0, hargs, rfl, rfl, h0, r0⟩ := trodAll_cons hA
  obtain ⟨v1, vs1, d1, ds1, p1, q1, rfl, rfl, rfl, h1, r1⟩ := trodAll_cons r0
  obtain ⟨rfl, rfl, rfl⟩ := trodAll_nil r1
  obtain rfl : args = #[v0, v1] := by cases args; simp_all
  obtain ⟨rfl, rfl⟩ := trodVars_none hV
  have k0 := h0
  have lt0 : ∀ x ∈ p0, x.block < W.heap.size := by obtain ⟨m, hm⟩ := k0; exact DataW.trod_lt m _ _ _ hm
  have hs0 := okWide_slice Try.underlying50 (hval 0 50 v0 rfl rfl)
  obtain ⟨fuel0, hf0⟩ := h0
  obtain ⟨a0, l0, c0, rfl, hle0, hmax0, rows0, hrows0, hw0, hr0⟩ := open_rows (ss := [.int .u32]) Try.underlying50 (by kernel_rfl) (by simp) hf0 hs0
  have k1 := h1
  have lt1 : ∀ x ∈ p1, x.block < W.heap.size := by obtain ⟨m, hm⟩ := k1; exact DataW.trod_lt m _ _ _ hm
  have hs1 := okWide_slice Try.underlying52 (hval 1 52 v1 rfl rfl)
  obtain ⟨fuel1, hf1⟩ := h1
  obtain ⟨a1, l1, c1, rfl, hle1, hmax1, rows1, hrows1, hw1, hr1⟩ := open_rows (ss := [.int .i64]) Try.underlying52 (by kernel_rfl) (by simp) hf1 hs1
  clear hA0 hval0 hsz0
  have hc : CallsH Try.prog 5 [.slice a0 l0 c0, .slice a1 l1 c1] W.heap fun v h' => v = .bool true ∧ Fr [] W.heap h' := by
    obtain ⟨l, e1, e2⟩ := rows_u hw0
    rw [e2] at hr0
    obtain ⟨m, e3, e4⟩ := rows_n hw1
    rw [e4] at hr1
    subst hrows0
    subst hrows1
    rw [e1, e3]
    exact apart_law hr0 hr1
  refine (hc W rfl).mono ?_
  rintro e W' ⟨v, rfl, hsame, rfl, hfr⟩
  have bel := Below_of_Fr hsame hfr
  exact ⟨_, rfl, _, _, _, [], _, [], hW', trodAll_mk1 (shut_bool Try.underlying4 _), (trodAll_cons_mk (Below.trod laidOut (by kernel_rfl) (of_decide_eq_true (by kernel_rfl)) k0 bel lt0) (trodAll_cons_mk (Below.trod laidOut (by kernel_rfl) (of_decide_eq_true (by kernel_rfl)) k1 bel lt1) trodAll_mk0)), rfl, bel.frame _, fun h => by cases h⟩
theorem over : Rows.mailApartRow.holds Try.pinned (OpenSpec.ofChange Rows.mailApartSpec) :=
  OpenClaim.holds_of_wide 5 Try.f5 rfl rfl rfl rfl rfl rfl rfl ⟨rfl, rfl, rfl, rfl, rfl⟩ rfl rfl rfl rfl rfl (by kernel_rfl) Try.func5 (by kernel_rfl)
    (of_decide_eq_true (by kernel_rfl)) (by unfold Func.isWrapper; first | (rw [if_pos (by decide +kernel)]; kernel_rfl) | (rw [if_neg (by decide +kernel)]; exact ⟨rfl, rfl⟩))
    (fun os started H enc _ => lifted os started H enc)
theorem proved : Rows.MailApartSaid := over
#print axioms proved
end Go.Proofs.Ytfakjdnicdlpcaa.mailApart
namespace Go.Proofs.Ytfakjdnicdlpcaa
/-- The row, under a short name, for the claim. -/
theorem mailApart_holds : Rows.MailApartSaid := mailApart.proved
end Go.Proofs.Ytfakjdnicdlpcaa
