import Derived.Test.YtgajaoophcljnaaRe
import Derived.Test.YtgajaoophcljnaaWdRow
namespace Go.Proofs.Ytgajaoophcljnaa
open Go Go.Wd
set_option linter.unusedVariables false
set_option linter.unusedSimpArgs false

theorem callD_of {r : List Value} (h : wfCells [.int .i64, .int .u64, .int .u64] r) : ∃ c : CallD, r = encC c ∧ CallOk c := by
  obtain ⟨v1, r, rfl, h1, h⟩ := wfCells_cons h
  obtain ⟨v2, r, rfl, h2, h⟩ := wfCells_cons h
  obtain ⟨v3, r, rfl, h3, h⟩ := wfCells_cons h
  obtain rfl := wfCells_nil h
  obtain ⟨a, rfl, _, _⟩ := wfInt h1
  obtain ⟨b, rfl, b1, b2⟩ := wfInt h2
  obtain ⟨c, rfl, c1, c2⟩ := wfInt h3
  simp only [min_u64, max_u64] at b1 b2 c1 c2
  exact ⟨⟨a, b, c⟩, rfl, by simp only; omega, by simp only; omega, by simp only; omega, by simp only; omega⟩
end Go.Proofs.Ytgajaoophcljnaa
