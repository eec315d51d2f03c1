import Derived.Test.YtadghpkdkdphdaaP
import Derived.Test.YtadghpkdkdphdaaWdBits
namespace Go.Proofs.Ytadghpkdkdphdaa
open Go Go.Wd
set_option linter.unusedVariables false
set_option linter.unusedSimpArgs false

structure G where
  state : Int
  owner : Int
  frame : Int
  to : Int
  page : Int
  write : Bool
  deriving DecidableEq
def G.cells (x : G) : List Value := [.int .i64 x.state, .int .i64 x.owner, .int .i64 x.frame, .int .i64 x.to, .int .i64 x.page, .bool x.write]
theorem G.len (x : G) : x.cells.length = 6 := rfl
theorem G.rd {h : Hp} {b o : Nat} (x : G) {K : Int → Int → Int → Int → Int → Bool → Prop} (hr : ∀ j, j < 6 → cellAt h b (o + j) = x.cells[j]?) (hK : K x.state x.owner x.frame x.to x.page x.write) :
    ∃ a1 : Int, cellAt h b (o + 0) = some (.int .i64 a1) ∧ ∃ a2 : Int, cellAt h b (o + 1) = some (.int .i64 a2) ∧ ∃ a3 : Int, cellAt h b (o + 2) = some (.int .i64 a3) ∧ ∃ a4 : Int, cellAt h b (o + 3) = some (.int .i64 a4) ∧ ∃ a5 : Int, cellAt h b (o + 4) = some (.int .i64 a5) ∧ ∃ a6 : Bool, cellAt h b (o + 5) = some (.bool a6) ∧ K a1 a2 a3 a4 a5 a6 := by
  exact ⟨_, hr 0 (by omega), _, hr 1 (by omega), _, hr 2 (by omega), _, hr 3 (by omega), _, hr 4 (by omega), _, hr 5 (by omega), hK⟩
theorem G.ret {h : Hp} {b : Nat} {T : TypeId} {l0 : List Value} (hb : bk h b = some (blk T l0)) (hl : l0.length = 6) (v1 : Int) (v2 : Int) (v3 : Int) (v4 : Int) (v5 : Int) (v6 : Bool) {K : Int → Int → Int → Int → Int → Bool → Hp → Prop} (hK : K v1 v2 v3 v4 v5 v6 (upd h b T (G.mk v1 v2 v3 v4 v5 v6).cells)) :
    truly true ∧ ∃ T1 : TypeId, ∃ l : List Value, bk h b = some (blk T1 l) ∧ 0 + 6 ≤ l.length ∧ ∀ h4 : Hp, h4 = upd h b T1 (writeAt l 0 [.int .i64 v1, .int .i64 v2, .int .i64 v3, .int .i64 v4, .int .i64 v5, .bool v6]) → ∃ a1 : Int, cellAt h4 b (0 + 0) = some (.int .i64 a1) ∧ ∃ a2 : Int, cellAt h4 b (0 + 1) = some (.int .i64 a2) ∧ ∃ a3 : Int, cellAt h4 b (0 + 2) = some (.int .i64 a3) ∧ ∃ a4 : Int, cellAt h4 b (0 + 3) = some (.int .i64 a4) ∧ ∃ a5 : Int, cellAt h4 b (0 + 4) = some (.int .i64 a5) ∧ ∃ a6 : Bool, cellAt h4 b (0 + 5) = some (.bool a6) ∧ K a1 a2 a3 a4 a5 a6 h4 := by
  refine ⟨rfl, T, l0, hb, by omega, ?_⟩
  rintro h4 rfl
  have hw : writeAt l0 0 [.int .i64 v1, .int .i64 v2, .int .i64 v3, .int .i64 v4, .int .i64 v5, .bool v6] = (G.mk v1 v2 v3 v4 v5 v6).cells := by
    rw [writeAt_eq _ _ _ (by rw [hl]; exact Nat.le_refl _)]
    have : l0.drop (0 + 6) = [] := List.drop_eq_nil_of_le (by omega)
    simp only [List.take_zero, List.nil_append, List.length_cons, List.length_nil, Nat.zero_add, Nat.reduceAdd] at this ⊢
    rw [this, List.append_nil]; rfl
  rw [hw]
  exact ⟨_, (cell_upd hb _ _ _).trans rfl, _, (cell_upd hb _ _ _).trans rfl, _, (cell_upd hb _ _ _).trans rfl, _, (cell_upd hb _ _ _).trans rfl, _, (cell_upd hb _ _ _).trans rfl, _, (cell_upd hb _ _ _).trans rfl, hK⟩
end Go.Proofs.Ytadghpkdkdphdaa
