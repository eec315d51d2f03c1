import Derived.Test.YtmldiibfmhkgjaaSk
namespace Go.Proofs.Ytmldiibfmhkgjaa
open Go Go.Wd
set_option linter.unusedVariables false
set_option linter.unusedSimpArgs false
set_option linter.unnecessarySimpa false

/-- What a call on a space comes to: of one that is none, of one that lives. -/
def Res (s : Sp) (A : Ab) (T : Nat → Nat) (op : Int × Ab) (e : Int) (s' : Sp) : Prop :=
  (s.dead = true ∧ e = 20 ∧ s' = { s with lg := [] }) ∨ (s.dead = false ∧ Outp { s with lg := [] } A T op e s')
theorem Inv.nil {s : Sp} {A : Ab} {T : Nat → Nat} (w : Inv s A T) : Inv { s with lg := [] } A T := ⟨w.hn, w.bl, w.ll, w.fw, w.sw, w.bb, w.pb, w.ro, w.to, w.tt⟩
theorem freeB_nil (s : Sp) : freeB { s with lg := [] } = freeB s := rfl
theorem by49_eq (qb qo : Nat) (w0b w0o : Nat) (w1b w1o : Nat) (w2b w2o : Nat) (w3b w3o : Nat) (w4b w4o : Nat) (h : Hp) (R : Value → Hp → Prop) : stage_Space_by_49.P qb qo w0b w0o w1b w1o w2b w2o w3b w3o w4b w4o h R = byP (fun h R X => CallsX Try.prog 49 [.pointer (some ⟨w0b, w0o, none⟩), .pointer (some ⟨w1b, w1o, none⟩), .pointer (some ⟨w2b, w2o, none⟩), .pointer (some ⟨w3b, w3o, none⟩), .pointer (some ⟨w4b, w4o, none⟩)] h R X) qb qo h R := by unfold stage_Space_by_49.P byP; rfl
theorem by60_eq (qb qo : Nat) (w0b w0o : Nat) (w1b w1o : Nat) (h : Hp) (R : Value → Hp → Prop) : stage_Space_by_60.P qb qo w0b w0o w1b w1o h R = byP (fun h R X => CallsX Try.prog 60 [.pointer (some ⟨w0b, w0o, none⟩), .pointer (some ⟨w1b, w1o, none⟩)] h R X) qb qo h R := by unfold stage_Space_by_60.P byP; rfl
theorem by72_eq (qb qo : Nat) (w0b w0o : Nat) (w1b w1o : Nat) (h : Hp) (R : Value → Hp → Prop) : stage_Space_by_72.P qb qo w0b w0o w1b w1o h R = byP (fun h R X => CallsX Try.prog 72 [.pointer (some ⟨w0b, w0o, none⟩), .pointer (some ⟨w1b, w1o, none⟩)] h R X) qb qo h R := by unfold stage_Space_by_72.P byP; rfl
theorem by75_eq (qb qo : Nat) (w0b w0o : Nat) (w1b w1o : Nat) (h : Hp) (R : Value → Hp → Prop) : stage_Space_by_75.P qb qo w0b w0o w1b w1o h R = byP (fun h R X => CallsX Try.prog 75 [.pointer (some ⟨w0b, w0o, none⟩), .pointer (some ⟨w1b, w1o, none⟩)] h R X) qb qo h R := by unfold stage_Space_by_75.P byP; rfl
theorem by77_eq (qb qo : Nat) (w0b w0o : Nat) (w1b w1o : Nat) (w2b w2o : Nat) (w3b w3o : Nat) (h : Hp) (R : Value → Hp → Prop) : stage_Space_by_77.P qb qo w0b w0o w1b w1o w2b w2o w3b w3o h R = byP (fun h R X => CallsX Try.prog 77 [.pointer (some ⟨w0b, w0o, none⟩), .pointer (some ⟨w1b, w1o, none⟩), .pointer (some ⟨w2b, w2o, none⟩), .pointer (some ⟨w3b, w3o, none⟩)] h R X) qb qo h R := by unfold stage_Space_by_77.P byP; rfl
theorem by93_eq (qb qo : Nat) (w0b w0o : Nat) (w1b w1o : Nat) (w2b w2o : Nat) (w3b w3o : Nat) (w4b w4o : Nat) (h : Hp) (R : Value → Hp → Prop) : stage_Space_by_93.P qb qo w0b w0o w1b w1o w2b w2o w3b w3o w4b w4o h R = byP (fun h R X => CallsX Try.prog 93 [.pointer (some ⟨w0b, w0o, none⟩), .pointer (some ⟨w1b, w1o, none⟩), .pointer (some ⟨w2b, w2o, none⟩), .pointer (some ⟨w3b, w3o, none⟩), .pointer (some ⟨w4b, w4o, none⟩)] h R X) qb qo h R := by unfold stage_Space_by_93.P byP; rfl
section
variable {h : Hp} {y : Lay} {s : Sp} {A : Ab} {T : Nat → Nat}
theorem Map_spec (w : SP h y s) (hv : s.dead = false → Inv s A T ∧ NE A) (p f : Int) (pw px : Bool) :
    CallsH Try.prog 14 [.pointer (some ⟨y.q, 0, none⟩), .int .i64 p, .int .i64 f, .bool pw, .bool px] h fun v h' => ∃ e s', v = .int .i64 e ∧ SP h' y s' ∧ Fr y.F h h' ∧ Res s A T (opMap A s.n (freeB s) p f pw px) e s' := by
  refine calls_k fun R hR => ?_
  apply stage_Space_Map.calls
  unfold stage_Space_Map.P
  intro h1 e1
  have k1 : bk h1 (sz h) = some (blk 34 [.pointer (some ⟨y.q, 0, none⟩)]) := by rw [e1]; exact new_at _ _
  have f1 : Fr [] h h1 := by rw [e1]; exact Fr.new _ _ _
  clear e1
  intro h2 e2
  have k2 : bk h2 (sz h1) = some (blk 3 [.int .i64 p]) := by rw [e2]; exact new_at _ _
  have f2 : Fr [] h1 h2 := by rw [e2]; exact Fr.new _ _ _
  clear e2
  intro h3 e3
  have k3 : bk h3 (sz h2) = some (blk 3 [.int .i64 f]) := by rw [e3]; exact new_at _ _
  have f3 : Fr [] h2 h3 := by rw [e3]; exact Fr.new _ _ _
  clear e3
  intro h4 e4
  have k4 : bk h4 (sz h3) = some (blk 4 [.bool pw]) := by rw [e4]; exact new_at _ _
  have f4 : Fr [] h3 h4 := by rw [e4]; exact Fr.new _ _ _
  clear e4
  intro h5 e5
  have k5 : bk h5 (sz h4) = some (blk 4 [.bool px]) := by rw [e5]; exact new_at _ _
  have f5 : Fr [] h4 h5 := by rw [e5]; exact Fr.new _ _ _
  clear e5
  have t1 := f1
  have t2 := t1.trans f2
  have t3 := t2.trans f3
  have t4 := t3.trans f4
  have t5 := t4.trans f5
  have c1 := (f5.at (f4.at (f3.at (f2.at k1 (by simp)) (by simp)) (by simp)) (by simp))
  have c2 := (f5.at (f4.at (f3.at k2 (by simp)) (by simp)) (by simp))
  have c3 := (f5.at (f4.at k3 (by simp)) (by simp))
  have c4 := (f5.at k4 (by simp))
  have c5 := k5
  have w15 := w.fr0 t5
  have lF := w.ltF
  have out : ∀ x, sz h ≤ x → x ∉ y.F := fun x hx hm => by have := lF x hm; omega
  have z1 := Nat.le_refl (sz h)
  have z2 := t1.size
  have z3 := t2.size
  have z4 := t3.size
  have z5 := t4.size
  refine ⟨_, (cellAt_of c1 0).trans rfl, ?_⟩
  apply stage_Space_by_49.calls
  rw [by49_eq]
  refine by_spec w15 (Res s A T (opMap A s.n (freeB s) p f pw px)) (fun _ _ _ _ _ hc h1 h2 => hc.mono h1 h2) ?_ ?_ ?_
  · intro e s' h' w' f' o'
    exact ⟨_, rfl, hR _ _ ⟨e, s', rfl, w', ((t5.mono (by simp)).trans f'), o'⟩⟩
  · exact fun hd => .inl ⟨hd, rfl, rfl⟩
  · intro h9 w9 f9 hd
    obtain ⟨v, ne⟩ := hv hd
    have q9 : ∀ x, sz h ≤ x → x ∉ [y.q] := fun x hx hm => by simp only [List.mem_singleton] at hm; have := w.lq; omega
    refine (Map1_spec w9 v.nil ne rfl hd (f9.at c2 (q9 _ z2)) (f9.at c1 (q9 _ z1)) (f9.at c3 (q9 _ z3)) (f9.at c4 (q9 _ z4)) (f9.at c5 (q9 _ z5)) (out _ z2) (out _ z1) (out _ z3) (out _ z4) (out _ z5)).mono ?_ ?_
    · rintro r h' ⟨rfl, s', w', f', o'⟩
      exact ⟨rfl, s', w', f', .inr ⟨hd, o'⟩⟩
    · rintro r h' ⟨e, rfl, w', f', o'⟩
      exact ⟨e, rfl, w', f', .inr ⟨hd, o'⟩⟩
theorem MapRun_spec (w : SP h y s) (hv : s.dead = false → Inv s A T ∧ NE A) (p f : Int) (pw px : Bool) :
    CallsH Try.prog 40 [.pointer (some ⟨y.q, 0, none⟩), .int .i64 p, .int .i64 f, .bool pw, .bool px] h fun v h' => ∃ e s', v = .int .i64 e ∧ SP h' y s' ∧ Fr y.F h h' ∧ Res s A T (opRun A s.n p f pw px) e s' := by
  refine calls_k fun R hR => ?_
  apply stage_Space_MapRun.calls
  unfold stage_Space_MapRun.P
  intro h1 e1
  have k1 : bk h1 (sz h) = some (blk 34 [.pointer (some ⟨y.q, 0, none⟩)]) := by rw [e1]; exact new_at _ _
  have f1 : Fr [] h h1 := by rw [e1]; exact Fr.new _ _ _
  clear e1
  intro h2 e2
  have k2 : bk h2 (sz h1) = some (blk 3 [.int .i64 p]) := by rw [e2]; exact new_at _ _
  have f2 : Fr [] h1 h2 := by rw [e2]; exact Fr.new _ _ _
  clear e2
  intro h3 e3
  have k3 : bk h3 (sz h2) = some (blk 3 [.int .i64 f]) := by rw [e3]; exact new_at _ _
  have f3 : Fr [] h2 h3 := by rw [e3]; exact Fr.new _ _ _
  clear e3
  intro h4 e4
  have k4 : bk h4 (sz h3) = some (blk 4 [.bool pw]) := by rw [e4]; exact new_at _ _
  have f4 : Fr [] h3 h4 := by rw [e4]; exact Fr.new _ _ _
  clear e4
  intro h5 e5
  have k5 : bk h5 (sz h4) = some (blk 4 [.bool px]) := by rw [e5]; exact new_at _ _
  have f5 : Fr [] h4 h5 := by rw [e5]; exact Fr.new _ _ _
  clear e5
  have t1 := f1
  have t2 := t1.trans f2
  have t3 := t2.trans f3
  have t4 := t3.trans f4
  have t5 := t4.trans f5
  have c1 := (f5.at (f4.at (f3.at (f2.at k1 (by simp)) (by simp)) (by simp)) (by simp))
  have c2 := (f5.at (f4.at (f3.at k2 (by simp)) (by simp)) (by simp))
  have c3 := (f5.at (f4.at k3 (by simp)) (by simp))
  have c4 := (f5.at k4 (by simp))
  have c5 := k5
  have w15 := w.fr0 t5
  have lF := w.ltF
  have out : ∀ x, sz h ≤ x → x ∉ y.F := fun x hx hm => by have := lF x hm; omega
  have z1 := Nat.le_refl (sz h)
  have z2 := t1.size
  have z3 := t2.size
  have z4 := t3.size
  have z5 := t4.size
  refine ⟨_, (cellAt_of c1 0).trans rfl, ?_⟩
  apply stage_Space_by_93.calls
  rw [by93_eq]
  refine by_spec w15 (Res s A T (opRun A s.n p f pw px)) (fun _ _ _ _ _ hc h1 h2 => hc.mono h1 h2) ?_ ?_ ?_
  · intro e s' h' w' f' o'
    exact ⟨_, rfl, hR _ _ ⟨e, s', rfl, w', ((t5.mono (by simp)).trans f'), o'⟩⟩
  · exact fun hd => .inl ⟨hd, rfl, rfl⟩
  · intro h9 w9 f9 hd
    obtain ⟨v, ne⟩ := hv hd
    have q9 : ∀ x, sz h ≤ x → x ∉ [y.q] := fun x hx hm => by simp only [List.mem_singleton] at hm; have := w.lq; omega
    refine (Run1_spec w9 v.nil ne rfl (f9.at c2 (q9 _ z2)) (f9.at c1 (q9 _ z1)) (f9.at c3 (q9 _ z3)) (f9.at c4 (q9 _ z4)) (f9.at c5 (q9 _ z5))).mono ?_ ?_
    · rintro r h' ⟨rfl, s', w', f', o'⟩
      exact ⟨rfl, s', w', f', .inr ⟨hd, o'⟩⟩
    · rintro r h' ⟨e, rfl, w', f', o'⟩
      exact ⟨e, rfl, w', f', .inr ⟨hd, o'⟩⟩
theorem Unmap_spec (w : SP h y s) (hv : s.dead = false → Inv s A T ∧ NE A) (p : Int) :
    CallsH Try.prog 17 [.pointer (some ⟨y.q, 0, none⟩), .int .i64 p] h fun v h' => ∃ e s', v = .int .i64 e ∧ SP h' y s' ∧ Fr y.F h h' ∧ Res s A T (opUnmap A (freeB s) p) e s' := by
  refine calls_k fun R hR => ?_
  apply stage_Space_Unmap.calls
  unfold stage_Space_Unmap.P
  intro h1 e1
  have k1 : bk h1 (sz h) = some (blk 34 [.pointer (some ⟨y.q, 0, none⟩)]) := by rw [e1]; exact new_at _ _
  have f1 : Fr [] h h1 := by rw [e1]; exact Fr.new _ _ _
  clear e1
  intro h2 e2
  have k2 : bk h2 (sz h1) = some (blk 3 [.int .i64 p]) := by rw [e2]; exact new_at _ _
  have f2 : Fr [] h1 h2 := by rw [e2]; exact Fr.new _ _ _
  clear e2
  have t1 := f1
  have t2 := t1.trans f2
  have c1 := (f2.at k1 (by simp))
  have c2 := k2
  have w12 := w.fr0 t2
  have lF := w.ltF
  have out : ∀ x, sz h ≤ x → x ∉ y.F := fun x hx hm => by have := lF x hm; omega
  have z1 := Nat.le_refl (sz h)
  have z2 := t1.size
  refine ⟨_, (cellAt_of c1 0).trans rfl, ?_⟩
  apply stage_Space_by_60.calls
  rw [by60_eq]
  refine by_spec w12 (Res s A T (opUnmap A (freeB s) p)) (fun _ _ _ _ _ hc h1 h2 => hc.mono h1 h2) ?_ ?_ ?_
  · intro e s' h' w' f' o'
    exact ⟨_, rfl, hR _ _ ⟨e, s', rfl, w', ((t2.mono (by simp)).trans f'), o'⟩⟩
  · exact fun hd => .inl ⟨hd, rfl, rfl⟩
  · intro h9 w9 f9 hd
    obtain ⟨v, ne⟩ := hv hd
    have q9 : ∀ x, sz h ≤ x → x ∉ [y.q] := fun x hx hm => by simp only [List.mem_singleton] at hm; have := w.lq; omega
    refine (Unmap1_spec w9 v.nil ne rfl hd (f9.at c1 (q9 _ z1)) (f9.at c2 (q9 _ z2)) (out _ z1) (out _ z2)).mono ?_ ?_
    · rintro r h' ⟨rfl, s', w', f', o'⟩
      exact ⟨rfl, s', w', f', .inr ⟨hd, o'⟩⟩
    · rintro r h' ⟨e, rfl, w', f', o'⟩
      exact ⟨e, rfl, w', f', .inr ⟨hd, o'⟩⟩
theorem Protect_spec (w : SP h y s) (hv : s.dead = false → Inv s A T ∧ NE A) (p : Int) (pw px : Bool) :
    CallsH Try.prog 26 [.pointer (some ⟨y.q, 0, none⟩), .int .i64 p, .bool pw, .bool px] h fun v h' => ∃ e s', v = .int .i64 e ∧ SP h' y s' ∧ Fr y.F h h' ∧ Res s A T (opProt A (freeB s) p pw px) e s' := by
  refine calls_k fun R hR => ?_
  apply stage_Space_Protect.calls
  unfold stage_Space_Protect.P
  intro h1 e1
  have k1 : bk h1 (sz h) = some (blk 34 [.pointer (some ⟨y.q, 0, none⟩)]) := by rw [e1]; exact new_at _ _
  have f1 : Fr [] h h1 := by rw [e1]; exact Fr.new _ _ _
  clear e1
  intro h2 e2
  have k2 : bk h2 (sz h1) = some (blk 3 [.int .i64 p]) := by rw [e2]; exact new_at _ _
  have f2 : Fr [] h1 h2 := by rw [e2]; exact Fr.new _ _ _
  clear e2
  intro h3 e3
  have k3 : bk h3 (sz h2) = some (blk 4 [.bool pw]) := by rw [e3]; exact new_at _ _
  have f3 : Fr [] h2 h3 := by rw [e3]; exact Fr.new _ _ _
  clear e3
  intro h4 e4
  have k4 : bk h4 (sz h3) = some (blk 4 [.bool px]) := by rw [e4]; exact new_at _ _
  have f4 : Fr [] h3 h4 := by rw [e4]; exact Fr.new _ _ _
  clear e4
  have t1 := f1
  have t2 := t1.trans f2
  have t3 := t2.trans f3
  have t4 := t3.trans f4
  have c1 := (f4.at (f3.at (f2.at k1 (by simp)) (by simp)) (by simp))
  have c2 := (f4.at (f3.at k2 (by simp)) (by simp))
  have c3 := (f4.at k3 (by simp))
  have c4 := k4
  have w14 := w.fr0 t4
  have lF := w.ltF
  have out : ∀ x, sz h ≤ x → x ∉ y.F := fun x hx hm => by have := lF x hm; omega
  have z1 := Nat.le_refl (sz h)
  have z2 := t1.size
  have z3 := t2.size
  have z4 := t3.size
  refine ⟨_, (cellAt_of c1 0).trans rfl, ?_⟩
  apply stage_Space_by_77.calls
  rw [by77_eq]
  refine by_spec w14 (Res s A T (opProt A (freeB s) p pw px)) (fun _ _ _ _ _ hc h1 h2 => hc.mono h1 h2) ?_ ?_ ?_
  · intro e s' h' w' f' o'
    exact ⟨_, rfl, hR _ _ ⟨e, s', rfl, w', ((t4.mono (by simp)).trans f'), o'⟩⟩
  · exact fun hd => .inl ⟨hd, rfl, rfl⟩
  · intro h9 w9 f9 hd
    obtain ⟨v, ne⟩ := hv hd
    have q9 : ∀ x, sz h ≤ x → x ∉ [y.q] := fun x hx hm => by simp only [List.mem_singleton] at hm; have := w.lq; omega
    refine (Protect1_spec w9 v.nil ne rfl hd (f9.at c1 (q9 _ z1)) (f9.at c2 (q9 _ z2)) (f9.at c3 (q9 _ z3)) (f9.at c4 (q9 _ z4)) (out _ z1) (out _ z2) (out _ z3) (out _ z4)).mono ?_ ?_
    · rintro r h' ⟨rfl, s', w', f', o'⟩
      exact ⟨rfl, s', w', f', .inr ⟨hd, o'⟩⟩
    · rintro r h' ⟨e, rfl, w', f', o'⟩
      exact ⟨e, rfl, w', f', .inr ⟨hd, o'⟩⟩
theorem Split_spec (w : SP h y s) (hv : s.dead = false → Inv s A T ∧ NE A) (p : Int) :
    CallsH Try.prog 23 [.pointer (some ⟨y.q, 0, none⟩), .int .i64 p] h fun v h' => ∃ e s', v = .int .i64 e ∧ SP h' y s' ∧ Fr y.F h h' ∧ Res s A T (opSplit A (freeB s) p) e s' := by
  refine calls_k fun R hR => ?_
  apply stage_Space_Split.calls
  unfold stage_Space_Split.P
  intro h1 e1
  have k1 : bk h1 (sz h) = some (blk 34 [.pointer (some ⟨y.q, 0, none⟩)]) := by rw [e1]; exact new_at _ _
  have f1 : Fr [] h h1 := by rw [e1]; exact Fr.new _ _ _
  clear e1
  intro h2 e2
  have k2 : bk h2 (sz h1) = some (blk 3 [.int .i64 p]) := by rw [e2]; exact new_at _ _
  have f2 : Fr [] h1 h2 := by rw [e2]; exact Fr.new _ _ _
  clear e2
  have t1 := f1
  have t2 := t1.trans f2
  have c1 := (f2.at k1 (by simp))
  have c2 := k2
  have w12 := w.fr0 t2
  have lF := w.ltF
  have out : ∀ x, sz h ≤ x → x ∉ y.F := fun x hx hm => by have := lF x hm; omega
  have z1 := Nat.le_refl (sz h)
  have z2 := t1.size
  refine ⟨_, (cellAt_of c1 0).trans rfl, ?_⟩
  apply stage_Space_by_72.calls
  rw [by72_eq]
  refine by_spec w12 (Res s A T (opSplit A (freeB s) p)) (fun _ _ _ _ _ hc h1 h2 => hc.mono h1 h2) ?_ ?_ ?_
  · intro e s' h' w' f' o'
    exact ⟨_, rfl, hR _ _ ⟨e, s', rfl, w', ((t2.mono (by simp)).trans f'), o'⟩⟩
  · exact fun hd => .inl ⟨hd, rfl, rfl⟩
  · intro h9 w9 f9 hd
    obtain ⟨v, ne⟩ := hv hd
    have q9 : ∀ x, sz h ≤ x → x ∉ [y.q] := fun x hx hm => by simp only [List.mem_singleton] at hm; have := w.lq; omega
    refine (Split1_spec w9 v.nil ne rfl (f9.at c2 (q9 _ z2)) (f9.at c1 (q9 _ z1))).mono ?_ ?_
    · rintro r h' ⟨rfl, s', w', f', o'⟩
      exact ⟨rfl, s', w', f', .inr ⟨hd, o'⟩⟩
    · rintro r h' ⟨e, rfl, w', f', o'⟩
      exact ⟨e, rfl, w', f', .inr ⟨hd, o'⟩⟩
theorem Merge_spec (w : SP h y s) (hv : s.dead = false → Inv s A T ∧ NE A) (p : Int) :
    CallsH Try.prog 25 [.pointer (some ⟨y.q, 0, none⟩), .int .i64 p] h fun v h' => ∃ e s', v = .int .i64 e ∧ SP h' y s' ∧ Fr y.F h h' ∧ Res s A T (opMerge A p) e s' := by
  refine calls_k fun R hR => ?_
  apply stage_Space_Merge.calls
  unfold stage_Space_Merge.P
  intro h1 e1
  have k1 : bk h1 (sz h) = some (blk 34 [.pointer (some ⟨y.q, 0, none⟩)]) := by rw [e1]; exact new_at _ _
  have f1 : Fr [] h h1 := by rw [e1]; exact Fr.new _ _ _
  clear e1
  intro h2 e2
  have k2 : bk h2 (sz h1) = some (blk 3 [.int .i64 p]) := by rw [e2]; exact new_at _ _
  have f2 : Fr [] h1 h2 := by rw [e2]; exact Fr.new _ _ _
  clear e2
  have t1 := f1
  have t2 := t1.trans f2
  have c1 := (f2.at k1 (by simp))
  have c2 := k2
  have w12 := w.fr0 t2
  have lF := w.ltF
  have out : ∀ x, sz h ≤ x → x ∉ y.F := fun x hx hm => by have := lF x hm; omega
  have z1 := Nat.le_refl (sz h)
  have z2 := t1.size
  refine ⟨_, (cellAt_of c1 0).trans rfl, ?_⟩
  apply stage_Space_by_75.calls
  rw [by75_eq]
  refine by_spec w12 (Res s A T (opMerge A p)) (fun _ _ _ _ _ hc h1 h2 => hc.mono h1 h2) ?_ ?_ ?_
  · intro e s' h' w' f' o'
    exact ⟨_, rfl, hR _ _ ⟨e, s', rfl, w', ((t2.mono (by simp)).trans f'), o'⟩⟩
  · exact fun hd => .inl ⟨hd, rfl, rfl⟩
  · intro h9 w9 f9 hd
    obtain ⟨v, ne⟩ := hv hd
    have q9 : ∀ x, sz h ≤ x → x ∉ [y.q] := fun x hx hm => by simp only [List.mem_singleton] at hm; have := w.lq; omega
    refine (Merge1_spec w9 v.nil ne rfl (f9.at c2 (q9 _ z2)) (f9.at c1 (q9 _ z1)) (out _ z1)).mono ?_ ?_
    · rintro r h' ⟨rfl, s', w', f', o'⟩
      exact ⟨rfl, s', w', f', .inr ⟨hd, o'⟩⟩
    · rintro r h' ⟨e, rfl, w', f', o'⟩
      exact ⟨e, rfl, w', f', .inr ⟨hd, o'⟩⟩
/-- A call. -/
structure Cl where
  what : Int
  page : Int
  frame : Int
  w : Bool
  x : Bool
def Cl.cells (c : Cl) : List Value := [.int .i64 c.what, .int .i64 c.page, .int .i64 c.frame, .bool c.w, .bool c.x]
theorem Cl.len (c : Cl) : c.cells.length = 5 := rfl
def opDo (A : Ab) (n : Nat) (free : Bool) (c : Cl) : Int × Ab :=
  if c.what = 0 then opMap A n free c.page c.frame c.w c.x
  else if c.what = 1 then opRun A n c.page c.frame c.w c.x
  else if c.what = 2 then opUnmap A free c.page
  else if c.what = 3 then opProt A free c.page c.w c.x
  else if c.what = 4 then opSplit A free c.page
  else opMerge A c.page
theorem beq_eq {a b : Int} (h : (a == b) = true) : a = b := eq_of_beq h
theorem beq_ne {a b : Int} (h : (a == b) = false) : a ≠ b := by intro e; rw [e] at h; simp at h
theorem Do_spec (w : SP h y s) (hv : s.dead = false → Inv s A T ∧ NE A) (c : Cl) :
    CallsH Try.prog 12 [.pointer (some ⟨y.q, 0, none⟩), .agg ⟨c.cells⟩] h fun v h' => ∃ e s', v = .int .i64 e ∧ SP h' y s' ∧ Fr y.F h h' ∧ Res s A T (opDo A s.n (freeB s) c) e s' := by
  refine calls_k fun R hR => ?_
  apply warderlaw11_Do.calls
  unfold warderlaw11_Do.P
  intro h1 e1
  have k1 : bk h1 (sz h) = some (blk 24 c.cells) := by rw [e1]; exact new_at _ _
  have f1 : Fr [] h h1 := by rw [e1]; exact Fr.new _ _ _
  clear e1
  have w1 := w.fr0 f1
  have a0 : cellAt h1 (sz h) 0 = some (.int .i64 c.what) := (cellAt_of k1 0).trans rfl
  have a1 : cellAt h1 (sz h) 1 = some (.int .i64 c.page) := (cellAt_of k1 1).trans rfl
  have a2 : cellAt h1 (sz h) 2 = some (.int .i64 c.frame) := (cellAt_of k1 2).trans rfl
  have a3 : cellAt h1 (sz h) 3 = some (.bool c.w) := (cellAt_of k1 3).trans rfl
  have a4 : cellAt h1 (sz h) 4 = some (.bool c.x) := (cellAt_of k1 4).trans rfl
  have fin : ∀ op, opDo A s.n (freeB s) c = op → ∀ v h', (∃ (e : Int) (s' : Sp), v = Value.int .i64 e ∧ SP h' y s' ∧ Fr y.F h1 h' ∧ Res s A T op e s') → ∃ e : Int, v = Value.int .i64 e ∧ R (.int .i64 e) h' := by
    rintro op ho v h' ⟨e, s', rfl, w', f', o'⟩
    exact ⟨e, rfl, hR _ _ ⟨e, s', rfl, w', (f1.mono (by simp)).trans f', by rw [ho]; exact o'⟩⟩
  refine ⟨_, a0, fun c0 => ?_, fun n0 => ?_⟩
  · refine ⟨_, a1, _, a2, _, a3, _, a4, ?_⟩
    exact (Map_spec w1 hv _ _ _ _).mono (fin _ (by unfold opDo; rw [if_pos (beq_eq c0)]))
  refine ⟨fun c1 => ?_, fun n1 => ?_⟩
  · refine ⟨_, a1, _, a2, _, a3, _, a4, ?_⟩
    exact (MapRun_spec w1 hv _ _ _ _).mono (fin _ (by unfold opDo; rw [if_neg (beq_ne n0), if_pos (beq_eq c1)]))
  refine ⟨fun c2 => ?_, fun n2 => ?_⟩
  · refine ⟨_, a1, ?_⟩
    exact (Unmap_spec w1 hv _).mono (fin _ (by unfold opDo; rw [if_neg (beq_ne n0), if_neg (beq_ne n1), if_pos (beq_eq c2)]))
  refine ⟨fun c3 => ?_, fun n3 => ?_⟩
  · refine ⟨_, a1, _, a3, _, a4, ?_⟩
    exact (Protect_spec w1 hv _ _ _).mono (fin _ (by unfold opDo; rw [if_neg (beq_ne n0), if_neg (beq_ne n1), if_neg (beq_ne n2), if_pos (beq_eq c3)]))
  refine ⟨fun c4 => ?_, fun n4 => ?_⟩
  · refine ⟨_, a1, ?_⟩
    exact (Split_spec w1 hv _).mono (fin _ (by unfold opDo; rw [if_neg (beq_ne n0), if_neg (beq_ne n1), if_neg (beq_ne n2), if_neg (beq_ne n3), if_pos (beq_eq c4)]))
  · refine ⟨_, a1, ?_⟩
    exact (Merge_spec w1 hv _).mono (fin _ (by unfold opDo; rw [if_neg (beq_ne n0), if_neg (beq_ne n1), if_neg (beq_ne n2), if_neg (beq_ne n3), if_neg (beq_ne n4)]))
end
end Go.Proofs.Ytmldiibfmhkgjaa
