import Derived.Test.YtfmhcmddcfphkaaEb
namespace Go.Proofs.Ytfmhcmddcfphkaa
open Go Go.Wd
set_option linter.unusedVariables false
set_option linter.unusedSimpArgs false

theorem allows_spec {h : Hp} (e : Ent) (a : Int) :
    CallsH Try.prog 13 [.agg ⟨e.cells⟩, .int .i64 a] h fun v h' => v = .bool (allows e a) ∧ Fr [] h h' := by
  obtain ⟨v, w, x, b, f⟩ := e
  refine calls_k fun R hR => ?_
  apply entry_Allows.calls
  unfold entry_Allows.P
  rintro h1 rfl
  have hb := new_at h (blk 23 [.bool v, .bool w, .bool x, .bool b, .int .i64 f])
  have f1 : Fr [] h (new h (blk 23 [.bool v, .bool w, .bool x, .bool b, .int .i64 f])) := Fr.new _ _ _
  generalize new h (blk 23 [.bool v, .bool w, .bool x, .bool b, .int .i64 f]) = h1 at *
  have hr := fun v => hR (.bool v) h1
  by_cases c0 : a = 0
  · subst c0; simp [-Bool.exists_bool, cellAt_of hb]; exact hr _ ⟨by simp [allows], f1⟩
  by_cases c1 : a = 1
  · subst c1; simp [-Bool.exists_bool, cellAt_of hb]; cases v <;> simp <;> exact hr _ ⟨by simp [allows], f1⟩
  by_cases c2 : a = 2
  · subst c2; simp [-Bool.exists_bool, cellAt_of hb]; cases v <;> simp <;> exact hr _ ⟨by simp [allows], f1⟩
  · simp [-Bool.exists_bool, cellAt_of hb, c0, c1, c2]; exact hr _ ⟨by simp [allows, c0, c1, c2], f1⟩

theorem refAllows_spec {h : Hp} (e : Ent) (a : Int) :
    CallsH Try.prog 14 [.agg ⟨e.cells⟩, .int .i64 a] h fun v h' => v = .bool (allows e a) ∧ Fr [] h h' := by
  obtain ⟨v, w, x, b, f⟩ := e
  refine calls_k fun R hR => ?_
  apply warderref06_Allows.calls
  unfold warderref06_Allows.P
  rintro h1 rfl
  have hb := new_at h (blk 29 [.bool v, .bool w, .bool x, .bool b, .int .i64 f])
  have f1 : Fr [] h (new h (blk 29 [.bool v, .bool w, .bool x, .bool b, .int .i64 f])) := Fr.new _ _ _
  generalize new h (blk 29 [.bool v, .bool w, .bool x, .bool b, .int .i64 f]) = h1 at *
  have hr := fun v => hR (.bool v) h1
  have z0 : cellAt h1 (sz h) 0 = some (.bool v) := by rw [cellAt_of hb]; rfl
  have z1 : cellAt h1 (sz h) 1 = some (.bool w) := by rw [cellAt_of hb]; rfl
  have z2 : cellAt h1 (sz h) 2 = some (.bool x) := by rw [cellAt_of hb]; rfl
  cases v
  · simp [-Bool.exists_bool, z0]; exact hr _ ⟨by simp [allows], f1⟩
  by_cases c0 : a = 0
  · subst c0; simp [-Bool.exists_bool, z0]; exact hr _ ⟨by simp [allows], f1⟩
  by_cases c1 : a = 1
  · subst c1; cases w <;> simp [-Bool.exists_bool, z0, z1] <;> exact hr _ ⟨by simp [allows], f1⟩
  by_cases c2 : a = 2
  · subst c2; simp [-Bool.exists_bool, z0, z2] <;> exact hr _ ⟨by simp [allows], f1⟩
  · simp [-Bool.exists_bool, z0, c0, c1, c2]; exact hr _ ⟨by simp [allows, c0, c1, c2], f1⟩

theorem of_spec {h : Hp} (e : Ent) : CallsH Try.prog 10 [.agg ⟨e.cells⟩] h fun v h' => v = .agg ⟨e.cells⟩ ∧ Fr [] h h' := by
  obtain ⟨v, w, x, b, f⟩ := e
  refine calls_k fun R hR => ?_
  apply warderlaw06_of.calls
  unfold warderlaw06_of.P
  rintro h1 rfl h2 rfl
  have hb := new_at h (blk 23 [.bool v, .bool w, .bool x, .bool b, .int .i64 f])
  have f1 : Fr [] h (new h (blk 23 [.bool v, .bool w, .bool x, .bool b, .int .i64 f])) := Fr.new _ _ _
  generalize new h (blk 23 [.bool v, .bool w, .bool x, .bool b, .int .i64 f]) = h1 at *
  have hb2 := (Fr.new [] h1 (blk 29 [.bool false, .bool false, .bool false, .bool false, .int .i64 0])).at hb (by simp)
  have lt := lt_of_bk hb
  simp [-Bool.exists_bool, and_assoc, cellAt_of hb2, bk_new, writeAt, cellAt_upd, sz_new]
  refine hR _ _ ⟨rfl, (f1.trans (Fr.new _ _ _)).later (Fr.upd (F := [sz h1]) (by simp) _ _ _) (by simp; omega)⟩

theorem one_spec {h : Hp} (b : Bool) (n : Int) : CallsH Try.prog 23 [.bool b, .int .u32 n] h fun v h' => v = .int .u32 (if b then n else 0) ∧ h' = h := by
  apply warderref06_one.calls
  unfold warderref06_one.P
  cases b <;> simp

theorem refDecode_spec {h : Hp} (w : Nat) (hw : w < 2 ^ 32) :
    CallsH Try.prog 12 [.int .u32 w] h fun v h' => v = .agg ⟨(dec w).cells⟩ ∧ Fr [] h h' := by
  refine calls_k fun R hR => ?_
  apply warderref06_Decode.calls
  unfold warderref06_Decode.P
  rintro h1 rfl
  have fr : ∀ l, Fr [] h (upd (new h (blk 29 [.bool false, .bool false, .bool false, .bool false, .int .i64 0])) (sz h) 29 l) := fun l =>
    ((Fr.new [] h _)).later (Fr.upd (F := [sz h]) (by simp) _ _ _) (by simp)
  have m1 : ∀ k : Nat, Int.tmod (w : Int) k = ((w % k : Nat) : Int) := fun k => by rw [tmod_nat (by omega), Int.natCast_emod]
  have d1 : ∀ k : Nat, IntKind.wrap .u32 (Int.tdiv (w : Int) k) = ((w / k : Nat) : Int) := fun k => by
    rw [tdiv_nat (by omega), ← Int.natCast_ediv]
    exact wrapn_u32 _ (Nat.lt_of_le_of_lt (Nat.div_le_self _ _) hw)
  have t1 : ∀ k n : Nat, Int.tmod ((w / k : Nat) : Int) n = ((w / k % n : Nat) : Int) := fun k n => by rw [tmod_nat (Int.natCast_nonneg _), Int.natCast_emod]
  have m2 := m1 2
  have d2 := d1 2
  have d4 := d1 4
  have d8 := d1 8
  have dd := d1 256
  have t2 := t1 2 2
  have t4 := t1 4 2
  have t8 := t1 8 2
  have td := t1 256 65536
  have wf : IntKind.wrap .i64 ((w / 256 % 65536 : Nat) : Int) = ((w / 256 % 65536 : Nat) : Int) := wrap_i64 (by omega) (by omega)
  have q : ∀ n : Nat, ((n : Int) == 1) = (n == 1) := fun n => by
    have h3 : ((n : Int) == 1) = decide ((n : Int) = 1) := rfl
    have h4 : (n == 1) = decide (n = 1) := rfl
    rw [h3, h4]; congr 1; apply propext; omega
  rw [show ((2 : Nat) : Int) = 2 from rfl] at m2 d2 t2 t4 t8
  rw [show ((4 : Nat) : Int) = 4 from rfl] at d4
  rw [show ((8 : Nat) : Int) = 8 from rfl] at d8
  rw [show ((256 : Nat) : Int) = 256 from rfl] at dd
  rw [show ((65536 : Nat) : Int) = 65536 from rfl] at td
  rw [m2, d2, d4, d8, dd, t2, t4, t8, td, wf, q, q, q]
  by_cases hv : w % 2 = 0
  · have hv' : ((w % 2 : Nat) : Int) = 0 := by omega
    rw [hv']
    simp [-Bool.exists_bool, and_assoc, bk_new, writeAt, cellAt_upd, sz_new]
    refine hR _ _ ⟨by simp [dec, hv, noEnt, Ent.cells], fr _⟩
  · have hv' : (((w % 2 : Nat) : Int) == 0) = false := by rw [beq_eq_false_iff_ne]; omega
    have hv2 : ¬ (w % 2 = 0) := hv
    rw [hv']
    simp only [new_at, blk, Obj.cells.injEq, Array.mk.injEq, exists_and_left, exists_eq_left']
    refine ⟨by decide, by simp, fun _ => ⟨by decide, by decide, by decide, by decide, by decide, by decide, by decide, by decide, trivial, 29, _, rfl, by simp, ?_⟩⟩
    rintro h3 rfl
    simp only [writeAt, List.set_cons_zero, List.set_cons_succ]
    have hb := fun l => upd_same (new_at h (blk 29 [.bool false, .bool false, .bool false, .bool false, .int .i64 0])) 29 l
    refine ⟨_, by rw [cellAt_of (hb _)]; rfl, _, by rw [cellAt_of (hb _)]; rfl, _, by rw [cellAt_of (hb _)]; rfl, _, by rw [cellAt_of (hb _)]; rfl, _, by rw [cellAt_of (hb _)]; rfl, ?_⟩
    refine hR _ _ ⟨by simp only [dec, if_neg hv2, Ent.cells], fr _⟩

theorem refEncode_spec {h : Hp} (e : Ent) :
    CallsH Try.prog 9 [.agg ⟨e.cells⟩] h fun v h' => v = .tuple #[.int .u32 (if encOk e then (encN e : Int) else 0), .bool (encOk e)] ∧ Fr [] h h' := by
  obtain ⟨v, w, x, b, f⟩ := e
  refine calls_k fun R hR => ?_
  apply warderref06_Encode.calls
  unfold warderref06_Encode.P
  rintro h1 rfl
  have f1 : Fr [] h (new h (blk 29 [.bool v, .bool w, .bool x, .bool b, .int .i64 f])) := Fr.new _ _ _
  have hb := new_at h (blk 29 [.bool v, .bool w, .bool x, .bool b, .int .i64 f])
  generalize hh : new h (blk 29 [.bool v, .bool w, .bool x, .bool b, .int .i64 f]) = h1 at *
  by_cases c1 : f < 0
  · have : encOk ⟨v, w, x, b, f⟩ = false := by simp [encOk]; omega
    simp only [this] at hR
    simp [cellAt_of hb, c1]
    exact ⟨hR _ _ ⟨rfl, f1⟩, by omega⟩
  have c1' : 0 ≤ f := by omega
  by_cases c2 : 65535 < f
  · have : encOk ⟨v, w, x, b, f⟩ = false := by simp [encOk]; omega
    simp only [this] at hR
    simp [cellAt_of hb, c1, c1', c2]
    exact ⟨hR _ _ ⟨rfl, f1⟩, by omega⟩
  have c2' : f ≤ 65535 := by omega
  obtain ⟨n, rfl⟩ : ∃ n : Nat, f = n := ⟨f.toNat, by omega⟩
  have hn : n < 65536 := by omega
  have hwf : IntKind.wrap .u32 (n : Int) = n := wrapn_u32 n (by omega)
  have z0 : cellAt h1 (sz h) 0 = some (.bool v) := by rw [cellAt_of hb]; rfl
  have z1 : cellAt h1 (sz h) 1 = some (.bool w) := by rw [cellAt_of hb]; rfl
  have z2 : cellAt h1 (sz h) 2 = some (.bool x) := by rw [cellAt_of hb]; rfl
  have z3 : cellAt h1 (sz h) 3 = some (.bool b) := by rw [cellAt_of hb]; rfl
  have z4 : cellAt h1 (sz h) 4 = some (.int .i64 n) := by rw [cellAt_of hb]; rfl
  have fin : encOk ⟨v, w, x, b, n⟩ = true → R (.tuple #[.int .u32 (IntKind.wrap .u32 ((IntKind.wrap .u32 ((IntKind.wrap .u32 ((IntKind.wrap .u32 ((if v then 1 else 0) + (if w then 2 else 0))) + (if x then 4 else 0))) + (if b then 8 else 0))) + (IntKind.wrap .u32 (256 * (IntKind.wrap .u32 n))))), .bool true]) h1 := by
    intro hok
    refine hR _ _ ⟨?_, f1⟩
    rw [hok, if_pos rfl, hwf]
    have e1 : ∀ (k : Bool) (m : Int), 0 ≤ m → 0 ≤ (if k then m else 0) ∧ (if k then m else 0) ≤ m := by intro k m hm; cases k <;> simp [hm]
    have q1 := e1 v 1 (by omega)
    have q2 := e1 w 2 (by omega)
    have q3 := e1 x 4 (by omega)
    have q4 := e1 b 8 (by omega)
    rw [wrap_u32 (n := 256 * (n : Int)) (by omega) (by omega), wrap_u32 (n := (if v then 1 else 0) + (if w then 2 else 0)) (by omega) (by omega),
      wrap_u32 (n := (if v then 1 else 0) + (if w then 2 else 0) + (if x then 4 else 0)) (by omega) (by omega), wrap_u32 (n := (if v then 1 else 0) + (if w then 2 else 0) + (if x then 4 else 0) + (if b then 8 else 0)) (by omega) (by omega), wrap_u32 (by omega) (by omega)]
    have r1 : (if v then (1 : Int) else 0) = ((bit v 1 : Nat) : Int) := by cases v <;> rfl
    have r2 : (if w then (2 : Int) else 0) = ((bit w 2 : Nat) : Int) := by cases w <;> rfl
    have r3 : (if x then (4 : Int) else 0) = ((bit x 4 : Nat) : Int) := by cases x <;> rfl
    have r4 : (if b then (8 : Int) else 0) = ((bit b 8 : Nat) : Int) := by cases b <;> rfl
    rw [r1, r2, r3, r4]
    simp [encN]
  have tail : encOk ⟨v, w, x, b, n⟩ = true → CallsH Try.prog 23 [.bool v, .int .u32 1] h1 fun r14 h2 => ∃ one15 : Int, r14 = .int .u32 one15 ∧ cellAt h2 (sz h) 1 = some (.bool w) ∧
      cellAt h2 (sz h) 2 = some (.bool x) ∧ cellAt h2 (sz h) 3 = some (.bool b) ∧ cellAt h2 (sz h) 4 = some (.int .i64 n) ∧ CallsH Try.prog 23 [.bool w, .int .u32 2] h2 fun r16 h3 => ∃ one17 : Int, r16 = .int .u32 one17 ∧
      cellAt h3 (sz h) 2 = some (.bool x) ∧ cellAt h3 (sz h) 3 = some (.bool b) ∧ cellAt h3 (sz h) 4 = some (.int .i64 n) ∧ CallsH Try.prog 23 [.bool x, .int .u32 4] h3 fun r18 h4 => ∃ one19 : Int, r18 = .int .u32 one19 ∧
      cellAt h4 (sz h) 3 = some (.bool b) ∧ cellAt h4 (sz h) 4 = some (.int .i64 n) ∧ CallsH Try.prog 23 [.bool b, .int .u32 8] h4 fun r20 h5 => ∃ one21 : Int, r20 = .int .u32 one21 ∧ cellAt h5 (sz h) 4 = some (.int .i64 n) ∧
      R (.tuple #[.int .u32 (IntKind.wrap .u32 ((IntKind.wrap .u32 ((IntKind.wrap .u32 ((IntKind.wrap .u32 (one15 + one17)) + one19)) + one21)) + (IntKind.wrap .u32 (256 * (IntKind.wrap .u32 n))))), .bool true]) h5 := by
    intro hok
    refine (one_spec v 1).mono ?_
    rintro r h2 ⟨rfl, rfl⟩
    refine ⟨_, rfl, z1, z2, z3, z4, ?_⟩
    refine (one_spec w 2).mono ?_
    rintro r h2 ⟨rfl, rfl⟩
    refine ⟨_, rfl, z2, z3, z4, ?_⟩
    refine (one_spec x 4).mono ?_
    rintro r h2 ⟨rfl, rfl⟩
    refine ⟨_, rfl, z3, z4, ?_⟩
    refine (one_spec b 8).mono ?_
    rintro r h2 ⟨rfl, rfl⟩
    exact ⟨_, rfl, z4, fin hok⟩
  refine ⟨_, z4, fun hf => absurd hf (by simp), fun _ => ⟨_, z4, fun hf => absurd hf (by simpa using c2'), fun _ => ⟨_, z0, fun hv => ?_, fun hv => ?_⟩⟩⟩
  · have hv' : v = false := by simpa using hv
    refine ⟨_, z0, _, z1, _, z2, _, z3, _, z4, fun hne => ?_, fun heq => ?_⟩
    · have hok : encOk ⟨v, w, x, b, n⟩ = false := by
        have : ¬ (Ent.mk v w x b n = noEnt) := by
          intro he
          simp only [noEnt, Ent.mk.injEq] at he
          obtain ⟨rfl, rfl, rfl, rfl, he⟩ := he
          have : n = 0 := by omega
          subst this
          simp [notIf] at hne
        simp [encOk, hv', hv' ▸ this]
      refine hR _ _ ⟨?_, f1⟩
      rw [hok]; rfl
    · have he : Ent.mk v w x b n = noEnt := by
        simp [notIf] at heq
        obtain ⟨a1, a2, a3, a4, a5⟩ := heq
        subst a1 a2 a3 a4 a5
        rfl
      have hok : encOk ⟨v, w, x, b, n⟩ = true := by rw [he]; rfl
      exact ⟨_, z0, _, z1, _, z2, _, z3, _, z4, tail hok⟩
  · have hv' : v = true := by simpa using hv
    have hok : encOk ⟨v, w, x, b, n⟩ = true := by simp [encOk, hv']; omega
    exact ⟨_, z0, _, z1, _, z2, _, z3, _, z4, tail hok⟩
end Go.Proofs.Ytfmhcmddcfphkaa
