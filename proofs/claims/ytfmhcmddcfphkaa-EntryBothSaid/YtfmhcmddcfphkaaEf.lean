import Derived.Test.YtfmhcmddcfphkaaEe
import Derived.Test.YtfmhcmddcfphkaaWdRow
namespace Go.Proofs.Ytfmhcmddcfphkaa
open Go Go.Wd
set_option linter.unusedVariables false
set_option linter.unusedSimpArgs false

theorem ent_of {cs : List Value} (h : wfCells [.bool, .bool, .bool, .bool, .int .i64] cs) : ∃ e : Ent, cs = e.cells := by
  obtain ⟨v1, r, rfl, h1, h⟩ := wfCells_cons h
  obtain ⟨v2, r, rfl, h2, h⟩ := wfCells_cons h
  obtain ⟨v3, r, rfl, h3, h⟩ := wfCells_cons h
  obtain ⟨v4, r, rfl, h4, h⟩ := wfCells_cons h
  obtain ⟨v5, r, rfl, h5, h⟩ := wfCells_cons h
  obtain rfl := wfCells_nil h
  obtain ⟨a, rfl⟩ := wfBool h1
  obtain ⟨b, rfl⟩ := wfBool h2
  obtain ⟨c, rfl⟩ := wfBool h3
  obtain ⟨d, rfl⟩ := wfBool h4
  obtain ⟨f, rfl, _⟩ := wfInt h5
  exact ⟨⟨a, b, c, d, f⟩, rfl⟩
theorem u32_nat {a : Int} (h : (Lit.int .u32 a).wf = true) : ∃ n : Nat, a = n ∧ n < 2 ^ 32 := by
  have := wf_bounds h
  simp only [min_u32, max_u32] at this
  exact ⟨a.toNat, by omega, by omega⟩
end Go.Proofs.Ytfmhcmddcfphkaa
