import Derived.Test.YthhancpnaleknaaDoorVj
import Derived.Test.YthhancpnaleknaaDoorRows
import Derived.Test.YthhancpnaleknaaDoorCards
import Derived.Test.YthhancpnaleknaaDoorTie
import Derived.ProofKit
import Derived.LaidLaws
import Derived.Lay
import Derived.Handed
import Derived.FnData
import Derived.SevenTiedAt
/-! The table of the library, out of the row's list of what package-level variables hold. -/
namespace Go.Proofs.YthhancpnaleknaaDoor
open Go Go.Wd
set_option linter.unusedVariables false
set_option linter.unusedSimpArgs false

theorem mapM_some {α β : Type} {f : α → Option β} : ∀ {l : List α} {ys : List β}, l.mapM f = some ys → ∀ (i : Nat) (x : α), l[i]? = some x → ∃ y : β, f x = some y ∧ ys[i]? = some y
  | [], ys, h, i, x, hx => by simp at hx
  | a :: l, ys, h, i, x, hx => by
    simp only [List.mapM_cons, Option.bind_eq_bind, Option.bind_eq_some_iff, Option.pure_def, Option.some.injEq] at h
    obtain ⟨b, hb, bs, hbs, rfl⟩ := h
    cases i with
    | zero =>
      simp at hx
      subst hx
      exact ⟨b, hb, rfl⟩
    | succ i => exact mapM_some hbs i x (by simpa using hx)

abbrev laidTab : List (String × DataW Unit) := [("math/bits.deBruijn32tab", Rows.laid_math_bits_deBruijn32tab)]
theorem tab_global : Tryd.prog.globalNamed "math/bits.deBruijn32tab" = some 0 := by kernel_rfl
theorem tab_type : (Tryd.prog.globals[0]?).map (·.type) = some 64 := by kernel_rfl
theorem tab_under : Tryd.prog.underlying 64 = some (.array 32 5) := by kernel_rfl
theorem tab_elem : Tryd.prog.underlying 5 = some (.int .u8) := by kernel_rfl
theorem tab_cells : Tryd.prog.cellsOf 5 = 1 := by kernel_rfl
theorem tab_eq : (Rows.laid_math_bits_deBruijn32tab : DataW Unit) = .agg ((List.range 32).map fun i => .lit (.int .u8 ((Lib.deBruijn32tab.getD i 0 : Nat) : Int))) := by rfl
theorem tab_of_laid {W : World} (h : laidMetH Tryd.prog laidTab W) : Tab W.heap := by
  have h' : laidMet Tryd.prog laidTab W := h
  obtain ⟨ps, ⟨g, t, cs, fuel, p, q, hg, ht, hvar, hd, _, _⟩, _⟩ := h'
  obtain rfl := Option.some.inj (tab_global.symm.trans hg)
  obtain rfl := Option.some.inj (tab_type.symm.trans ht)
  intro i hi
  rw [← cell?_mk, World.var?_cell hg hvar i]
  cases fuel with
  | zero => simp [DataW.trod] at hd
  | succ fuel =>
    unfold DataW.trod at hd
    rw [tab_under] at hd
    simp only at hd
    split at hd
    · simp only [Option.map_eq_some_iff, Prod.mk.injEq] at hd
      obtain ⟨xs, hm, hx, _⟩ := hd
      obtain ⟨y, hy, hyi⟩ := mapM_some hm i i (by rw [List.getElem?_range hi])
      rw [tab_eq] at hx
      simp only [DataW.agg.injEq] at hx
      have hl : (xs.map (·.1))[i]? = ((List.range 32).map fun i => (.lit (.int .u8 ((Lib.deBruijn32tab.getD i 0 : Nat) : Int)) : DataW Unit))[i]? := by rw [hx]
      simp only [List.getElem?_map, hyi, Option.map_some, List.getElem?_range hi, Option.some.injEq] at hl
      rw [tab_cells, Nat.mul_one] at hy
      cases fuel with
      | zero => simp [DataW.trod] at hy
      | succ fuel =>
        unfold DataW.trod at hy
        rw [tab_elem] at hy
        have hc : ∃ v, cs[i]? = some v ∧ (cs.toList.drop i).take 1 = [v] := by
          cases hv : cs[i]? with
          | none =>
            have : cs.toList.drop i = [] := List.drop_eq_nil_of_le (by have := Array.getElem?_eq_none_iff.1 hv; simpa using this)
            rw [this] at hy
            simp at hy
          | some v =>
            refine ⟨v, rfl, ?_⟩
            obtain ⟨hlt, he⟩ := Array.getElem?_eq_some_iff.1 hv
            rw [List.drop_eq_getElem_cons (by simpa using hlt)]
            simp [he]
        obtain ⟨v, hv, ht⟩ := hc
        rw [hv]
        rw [ht] at hy
        cases v <;> simp at hy
        rename_i k n
        obtain ⟨⟨rfl, _⟩, rfl⟩ := hy
        simp only [DataW.lit.injEq, Lit.int.injEq] at hl
        rw [hl.2]
    · cases hd
theorem rows_n {rows : List (List Value)} (hw : ∀ r ∈ rows, wfCells [.int .i64] r) : ∃ l : List Int, rows.length = l.length ∧ rows.flatten = encL iN l := by
  obtain ⟨l, h1, h2, _⟩ := rows_enc (f := iN) (ok := fun _ => True) (rows := rows) (fun r hr => by
    obtain ⟨v1, r, rfl, h1, h⟩ := wfCells_cons (hw r hr)
    obtain rfl := wfCells_nil h
    obtain ⟨b, rfl, b1, b2⟩ := wfInt h1
    exact ⟨b, rfl, trivial⟩)
  exact ⟨l, h1, h2⟩
end Go.Proofs.YthhancpnaleknaaDoor
