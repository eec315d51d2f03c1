import Derived.Test.YtmldiibfmhkgjaaEa
namespace Go.Proofs.Ytmldiibfmhkgjaa
open Go Go.Wd
set_option linter.unusedVariables false
set_option linter.unusedSimpArgs false

theorem allows_spec {h : Hp} (e : Ent) (a : Int) :
    CallsH Try.prog 58 [.agg ⟨e.cells⟩, .int .i64 a] h fun v h' => v = .bool (allows e a) ∧ Fr [] h h' := by
  obtain ⟨v, w, x, b, f⟩ := e
  refine calls_k fun R hR => ?_
  apply entry_Allows.calls
  unfold entry_Allows.P
  rintro h1 rfl
  have hb := new_at h (blk 54 [.bool v, .bool w, .bool x, .bool b, .int .i64 f])
  have f1 : Fr [] h (new h (blk 54 [.bool v, .bool w, .bool x, .bool b, .int .i64 f])) := Fr.new _ _ _
  generalize new h (blk 54 [.bool v, .bool w, .bool x, .bool b, .int .i64 f]) = h1 at *
  have hr := fun v => hR (.bool v) h1
  by_cases c0 : a = 0
  · subst c0; simp [-Bool.exists_bool, cellAt_of hb]; exact hr _ ⟨by simp [allows], f1⟩
  by_cases c1 : a = 1
  · subst c1; simp [-Bool.exists_bool, cellAt_of hb]; cases v <;> simp <;> exact hr _ ⟨by simp [allows], f1⟩
  by_cases c2 : a = 2
  · subst c2; simp [-Bool.exists_bool, cellAt_of hb]; cases v <;> simp <;> exact hr _ ⟨by simp [allows], f1⟩
  · simp [-Bool.exists_bool, cellAt_of hb, c0, c1, c2]; exact hr _ ⟨by simp [allows, c0, c1, c2], f1⟩

end Go.Proofs.Ytmldiibfmhkgjaa
