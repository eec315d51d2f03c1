/-
  The law LinesCuts: for every input the call returns true, and each argument reads as it read before.  No further condition.
-/
import Derived.Test.YtppoomofmiggcaaRows
import Derived.Test.YtppoomofmiggcaaLi
import Derived.Test.YtppoomofmiggcaaWdRow
import Derived.WalkKit
import Derived.ProofKit
import Derived.OpenShut
import Derived.ShutString
import Derived.ChangeOld
import Derived.Below
import Derived.SizedLaws
namespace Go.Proofs.Ytppoomofmiggcaa.linesCuts
open Go.ChangeShapes Go.WideShapes Go.ChangeAt Go.RowKit Go.Wd
open Go.ChangeMaps (open_string shut_string)
set_option linter.unusedVariables false
theorem own : ownKnob Try.prog.godebug = none := by kernel_rfl
theorem laidOut : laidOutB Try.prog = true := by kernel_rfl
set_option maxRecDepth 100000 in
theorem lifted (os : Os) (started : os.Started) (H : Type) (enc : TypeId × Value → H) :
    ReturnsInHanded {} Try.checked os 6 .any (Rows.linesCutsSpec.pre6 enc Try.prog Try.f6 Rows.linesCutsRow.domain false) (Rows.linesCutsSpec.post enc Try.prog Try.f6 false true false false) := by
  refine returnsInHanded_of_change_sized (C := Try.checked) own started (by kernel_rfl) Try.func6
    (ChangeSpec.witness6 (enc := enc) (C := Try.checked) false ⟨#[], #[.slice none 0 0, .int .i64 0, .int .u64 0], []⟩ 8 (by kernel_rfl) (by kernel_rfl) (by kernel_rfl) (by kernel_rfl)) ?_
  intro W base args ds gs before hval0 hW hcnd hsz0 _
  have hval : ∀ (j : Nat) t v, Try.f6.params[j]? = some t → args[j]? = some v → Value.okWide Try.prog W .any base t v := hval0
  have hW' := hW
  obtain ⟨p, q, hA0, hV, rfl, hfz, hnd⟩ := hW
  have hA : DataW.TrodAll enc Try.prog W 0 (fun _ => true) true Try.f6.params.toList args.toList ds p := hA0
  rw [Try.params6] at hA hval
  obtain ⟨v0, vs0, d0, ds0, p0, q0, hargs, rfl, rfl, h0, r0⟩ := trodAll_cons hA
  obtain ⟨v1, vs1, d1, ds1, p1, q1, rfl, rfl, rfl, h1, r1⟩ := trodAll_cons r0
  obtain ⟨v2, vs2, d2, ds2, p2, q2, rfl, rfl, rfl, h2, r2⟩ := trodAll_cons r1
  obtain ⟨rfl, rfl, rfl⟩ := trodAll_nil r2
  obtain rfl : args = #[v0, v1, v2] := by cases args; simp_all
  obtain ⟨rfl, rfl⟩ := trodVars_none hV
  have k0 := h0
  have lt0 : ∀ x ∈ p0, x.block < W.heap.size := by obtain ⟨m, hm⟩ := k0; exact DataW.trod_lt m _ _ _ hm
  have hs0 := okWide_slice Try.underlying44 (hval 0 44 v0 rfl rfl)
  obtain ⟨fuel0, hf0⟩ := h0
  obtain ⟨a0, l0, c0, rfl, hle0, hmax0, rows0, hrows0, hw0, hr0⟩ := open_rows (ss := [.int .i64, .int .i64, .int .i64, .int .i64, .int .u64, .int .u64]) Try.underlying44 (by kernel_rfl) (by simp) hf0 hs0
  obtain ⟨a1, rfl, rfl, rfl, w1⟩ := open_int Try.underlying3 (hval 1 3 v1 rfl rfl) h1
  obtain ⟨a2, rfl, rfl, rfl, w2⟩ := open_int Try.underlying22 (hval 2 22 v2 rfl rfl) h2
  clear hA0 hval0 hsz0
  have hc : CallsH Try.prog 6 [.slice a0 l0 c0, .int .i64 a1, .int .u64 a2] W.heap fun v h' => v = .bool true ∧ Fr [] W.heap h' := by
    obtain ⟨l, e1, e2, _⟩ := rows_enc (f := encC) (ok := fun _ => True) (fun r hr => by
      obtain ⟨v1, r, rfl, q1, h⟩ := wfCells_cons (hw0 r hr)
      obtain ⟨v2, r, rfl, q2, h⟩ := wfCells_cons h
      obtain ⟨v3, r, rfl, q3, h⟩ := wfCells_cons h
      obtain ⟨v4, r, rfl, q4, h⟩ := wfCells_cons h
      obtain ⟨v5, r, rfl, q5, h⟩ := wfCells_cons h
      obtain ⟨v6, r, rfl, q6, h⟩ := wfCells_cons h
      obtain rfl := wfCells_nil h
      obtain ⟨b1, rfl, _⟩ := wfInt q1
      obtain ⟨b2, rfl, _⟩ := wfInt q2
      obtain ⟨b3, rfl, _⟩ := wfInt q3
      obtain ⟨b4, rfl, _⟩ := wfInt q4
      obtain ⟨b5, rfl, _⟩ := wfInt q5
      obtain ⟨b6, rfl, _⟩ := wfInt q6
      exact ⟨⟨b1, b2, b3, b4, b5, b6⟩, rfl, trivial⟩)
    rw [e2] at hr0
    subst hrows0
    rw [e1]
    exact cuts_spec a1 a2 hr0
  refine (hc W rfl).mono ?_
  rintro e W' ⟨v, rfl, hsame, rfl, hfr⟩
  have bel := Below_of_Fr hsame hfr
  exact ⟨_, rfl, _, _, _, [], _, [], hW', trodAll_mk1 (shut_bool Try.underlying4 _), (trodAll_cons_mk (Below.trod laidOut (by kernel_rfl) (of_decide_eq_true (by kernel_rfl)) k0 bel lt0) (trodAll_cons_mk (shut_int Try.underlying3 w1) (trodAll_cons_mk (shut_int Try.underlying22 w2) trodAll_mk0))), rfl, bel.frame _, fun h => by cases h⟩
theorem over : Rows.linesCutsRow.holds Try.pinned (OpenSpec.ofChange Rows.linesCutsSpec) :=
  OpenClaim.holds_of_wide 6 Try.f6 rfl rfl rfl rfl rfl rfl rfl ⟨rfl, rfl, rfl, rfl, rfl⟩ rfl rfl rfl rfl rfl (by kernel_rfl) Try.func6 (by kernel_rfl)
    (of_decide_eq_true (by kernel_rfl)) (by unfold Func.isWrapper; first | (rw [if_pos (by decide +kernel)]; kernel_rfl) | (rw [if_neg (by decide +kernel)]; exact ⟨rfl, rfl⟩))
    (fun os started H enc _ => lifted os started H enc)
theorem proved : Rows.LinesCutsSaid := over
#print axioms proved
end Go.Proofs.Ytppoomofmiggcaa.linesCuts
namespace Go.Proofs.Ytppoomofmiggcaa
/-- The row, under a short name, for the claim. -/
theorem linesCuts_holds : Rows.LinesCutsSaid := linesCuts.proved
end Go.Proofs.Ytppoomofmiggcaa
