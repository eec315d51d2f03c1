import Derived.Test.YtopfdfcbhclolaaEa
namespace Go.Proofs.Ytopfdfcbhclolaa
open Go Go.Wd
set_option linter.unusedVariables false
set_option linter.unusedSimpArgs false

theorem allows_spec {h : Hp} (e : Ent) (a : Int) :
    CallsH Try.prog 14 [.agg ⟨e.cells⟩, .int .i64 a] h fun v h' => v = .bool (allows e a) ∧ Fr [] h h' := by
  obtain ⟨v, w, x, b, f⟩ := e
  refine calls_k fun R hR => ?_
  apply entry_Allows.calls
  unfold entry_Allows.P
  rintro h1 rfl
  have hb := new_at h (blk 41 [.bool v, .bool w, .bool x, .bool b, .int .i64 f])
  have f1 : Fr [] h (new h (blk 41 [.bool v, .bool w, .bool x, .bool b, .int .i64 f])) := Fr.new _ _ _
  generalize new h (blk 41 [.bool v, .bool w, .bool x, .bool b, .int .i64 f]) = h1 at *
  have hr := fun v => hR (.bool v) h1
  by_cases c0 : a = 0
  · subst c0; simp [-Bool.exists_bool, cellAt_of hb]; exact hr _ ⟨by simp [allows], f1⟩
  by_cases c1 : a = 1
  · subst c1; simp [-Bool.exists_bool, cellAt_of hb]; cases v <;> simp <;> exact hr _ ⟨by simp [allows], f1⟩
  by_cases c2 : a = 2
  · subst c2; simp [-Bool.exists_bool, cellAt_of hb]; cases v <;> simp <;> exact hr _ ⟨by simp [allows], f1⟩
  · simp [-Bool.exists_bool, cellAt_of hb, c0, c1, c2]; exact hr _ ⟨by simp [allows, c0, c1, c2], f1⟩

theorem refAllows_spec {h : Hp} (e : Ent) (a : Int) :
    CallsH Try.prog 42 [.agg ⟨e.cells⟩, .int .i64 a] h fun v h' => v = .bool (allows e a) ∧ Fr [] h h' := by
  obtain ⟨v, w, x, b, f⟩ := e
  refine calls_k fun R hR => ?_
  apply warderref06_Allows.calls
  unfold warderref06_Allows.P
  rintro h1 rfl
  have hb := new_at h (blk 97 [.bool v, .bool w, .bool x, .bool b, .int .i64 f])
  have f1 : Fr [] h (new h (blk 97 [.bool v, .bool w, .bool x, .bool b, .int .i64 f])) := Fr.new _ _ _
  generalize new h (blk 97 [.bool v, .bool w, .bool x, .bool b, .int .i64 f]) = h1 at *
  have hr := fun v => hR (.bool v) h1
  have z0 : cellAt h1 (sz h) 0 = some (.bool v) := by rw [cellAt_of hb]; rfl
  have z1 : cellAt h1 (sz h) 1 = some (.bool w) := by rw [cellAt_of hb]; rfl
  have z2 : cellAt h1 (sz h) 2 = some (.bool x) := by rw [cellAt_of hb]; rfl
  cases v
  · simp [-Bool.exists_bool, z0]; exact hr _ ⟨by simp [allows], f1⟩
  by_cases c0 : a = 0
  · subst c0; simp [-Bool.exists_bool, z0]; exact hr _ ⟨by simp [allows], f1⟩
  by_cases c1 : a = 1
  · subst c1; cases w <;> simp [-Bool.exists_bool, z0, z1] <;> exact hr _ ⟨by simp [allows], f1⟩
  by_cases c2 : a = 2
  · subst c2; simp [-Bool.exists_bool, z0, z2] <;> exact hr _ ⟨by simp [allows], f1⟩
  · simp [-Bool.exists_bool, z0, c0, c1, c2]; exact hr _ ⟨by simp [allows, c0, c1, c2], f1⟩

theorem refDecode_spec {h : Hp} (w : Nat) (hw : w < 2 ^ 32) :
    CallsH Try.prog 61 [.int .u32 w] h fun v h' => v = .agg ⟨(dec w).cells⟩ ∧ Fr [] h h' := by
  refine calls_k fun R hR => ?_
  apply warderref06_Decode.calls
  unfold warderref06_Decode.P
  rintro h1 rfl
  have fr : ∀ l, Fr [] h (upd (new h (blk 97 [.bool false, .bool false, .bool false, .bool false, .int .i64 0])) (sz h) 97 l) := fun l =>
    ((Fr.new [] h _)).later (Fr.upd (F := [sz h]) (by simp) _ _ _) (by simp)
  have m1 : ∀ k : Nat, Int.tmod (w : Int) k = ((w % k : Nat) : Int) := fun k => by rw [tmod_nat (by omega), Int.natCast_emod]
  have d1 : ∀ k : Nat, IntKind.wrap .u32 (Int.tdiv (w : Int) k) = ((w / k : Nat) : Int) := fun k => by
    rw [tdiv_nat (by omega), ← Int.natCast_ediv]
    exact wrapn_u32 _ (Nat.lt_of_le_of_lt (Nat.div_le_self _ _) hw)
  have t1 : ∀ k n : Nat, Int.tmod ((w / k : Nat) : Int) n = ((w / k % n : Nat) : Int) := fun k n => by rw [tmod_nat (Int.natCast_nonneg _), Int.natCast_emod]
  have m2 := m1 2
  have d2 := d1 2
  have d4 := d1 4
  have d8 := d1 8
  have dd := d1 256
  have t2 := t1 2 2
  have t4 := t1 4 2
  have t8 := t1 8 2
  have td := t1 256 65536
  have wf : IntKind.wrap .i64 ((w / 256 % 65536 : Nat) : Int) = ((w / 256 % 65536 : Nat) : Int) := wrap_i64 (by omega) (by omega)
  have q : ∀ n : Nat, ((n : Int) == 1) = (n == 1) := fun n => by
    have h3 : ((n : Int) == 1) = decide ((n : Int) = 1) := rfl
    have h4 : (n == 1) = decide (n = 1) := rfl
    rw [h3, h4]; congr 1; apply propext; omega
  rw [show ((2 : Nat) : Int) = 2 from rfl] at m2 d2 t2 t4 t8
  rw [show ((4 : Nat) : Int) = 4 from rfl] at d4
  rw [show ((8 : Nat) : Int) = 8 from rfl] at d8
  rw [show ((256 : Nat) : Int) = 256 from rfl] at dd
  rw [show ((65536 : Nat) : Int) = 65536 from rfl] at td
  rw [m2, d2, d4, d8, dd, t2, t4, t8, td, wf, q, q, q]
  by_cases hv : w % 2 = 0
  · have hv' : ((w % 2 : Nat) : Int) = 0 := by omega
    rw [hv']
    simp [-Bool.exists_bool, and_assoc, bk_new, writeAt, cellAt_upd, sz_new]
    refine hR _ _ ⟨by simp [dec, hv, noEnt, Ent.cells], fr _⟩
  · have hv' : (((w % 2 : Nat) : Int) == 0) = false := by rw [beq_eq_false_iff_ne]; omega
    have hv2 : ¬ (w % 2 = 0) := hv
    rw [hv']
    simp only [new_at, blk, Obj.cells.injEq, Array.mk.injEq, exists_and_left, exists_eq_left']
    refine ⟨by decide, by simp, fun _ => ⟨by decide, by decide, by decide, by decide, by decide, by decide, by decide, by decide, truly_rfl, 97, _, rfl, by simp, ?_⟩⟩
    rintro h3 rfl
    simp only [writeAt, List.set_cons_zero, List.set_cons_succ]
    have hb := fun l => upd_same (new_at h (blk 97 [.bool false, .bool false, .bool false, .bool false, .int .i64 0])) 97 l
    refine ⟨_, by rw [cellAt_of (hb _)]; rfl, _, by rw [cellAt_of (hb _)]; rfl, _, by rw [cellAt_of (hb _)]; rfl, _, by rw [cellAt_of (hb _)]; rfl, _, by rw [cellAt_of (hb _)]; rfl, ?_⟩
    refine hR _ _ ⟨by simp only [dec, if_neg hv2, Ent.cells], fr _⟩

end Go.Proofs.Ytopfdfcbhclolaa
