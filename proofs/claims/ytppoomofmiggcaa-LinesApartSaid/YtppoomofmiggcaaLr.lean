import Derived.Test.YtppoomofmiggcaaLe
import Derived.Test.YtppoomofmiggcaaWdRow
namespace Go.Proofs.Ytppoomofmiggcaa
open Go Go.Wd
set_option linter.unusedVariables false
set_option linter.unusedSimpArgs false

theorem rows_u {rows : List (List Value)} (hw : ∀ r ∈ rows, wfCells [.int .u64] r) : ∃ l : List Int, rows.length = l.length ∧ rows.flatten = encL encU l ∧ ∀ x ∈ l, U64 x :=
  rows_enc (f := encU) (ok := U64) (fun r hr => by
    obtain ⟨v1, r, rfl, h1, h⟩ := wfCells_cons (hw r hr)
    obtain rfl := wfCells_nil h
    obtain ⟨b, rfl, b1, b2⟩ := wfInt h1
    simp only [min_u64, max_u64] at b1 b2
    exact ⟨b, rfl, by omega, by omega⟩)
theorem rows_i {rows : List (List Value)} (hw : ∀ r ∈ rows, wfCells [.int .i64] r) : ∃ l : List Int, rows.length = l.length ∧ rows.flatten = encL (fun n => [Value.int .i64 n]) l := by
  obtain ⟨l, h1, h2, _⟩ := rows_enc (f := fun n => [Value.int .i64 n]) (ok := fun _ => True) (rows := rows) (fun r hr => by
    obtain ⟨v1, r, rfl, h1, h⟩ := wfCells_cons (hw r hr)
    obtain rfl := wfCells_nil h
    obtain ⟨b, rfl, b1, b2⟩ := wfInt h1
    exact ⟨b, rfl, trivial⟩)
  exact ⟨l, h1, h2⟩
theorem rows_b {rows : List (List Value)} (hw : ∀ r ∈ rows, wfCells [.bool] r) : ∃ l : List Bool, rows.length = l.length ∧ rows.flatten = encL encB l := by
  obtain ⟨l, h1, h2, _⟩ := rows_enc (f := encB) (ok := fun _ => True) (rows := rows) (fun r hr => by
    obtain ⟨v1, r, rfl, h1, h⟩ := wfCells_cons (hw r hr)
    obtain rfl := wfCells_nil h
    obtain ⟨b, rfl⟩ := wfBool h1
    exact ⟨b, rfl, trivial⟩)
  exact ⟨l, h1, h2⟩
end Go.Proofs.Ytppoomofmiggcaa
