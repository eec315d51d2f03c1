import Derived.Test.YthhancpnaleknaaDoorVd
namespace Go.Proofs.YthhancpnaleknaaDoor
open Go Go.Wd
set_option linter.unusedVariables false
set_option linter.unusedSimpArgs false

theorem fr_out {a h h' : Hp} {F G : List Nat} (f : Fr G a h) (k : Fr F h h') (hs : ∀ x ∈ F, x ∈ G ∨ sz a ≤ x) : Fr G a h' := f.fresh k hs
theorem put_facts {h h4 h5 : Hp} {T : TypeId} {z v : List Value} (e4 : h4 = new h (blk T z)) (e5 : h5 = upd h4 (sz h) T (writeAt z 0 v)) (hl : z.length = v.length) : bk h5 (sz h) = some (blk T v) ∧ Fr [] h h5 ∧ sz h5 = sz h + 1 := by
  subst e4
  have hw : writeAt z 0 v = v := by
    rw [writeAt_eq _ _ _ (by omega), Nat.zero_add, ← hl, List.drop_length]; simp
  rw [hw] at e5
  subst e5
  exact ⟨upd_same (new_at _ _) _ _, (Fr.new [] h _).later (Fr.upd (F := [sz h]) (by simp) _ _ _) (by simp), by rw [sz_upd, sz_new]⟩
theorem of_spec {h : Hp} (x : Ln) : CallsH Tryd.prog 21 [.agg ⟨x.cells⟩] h fun v h' => v = .agg ⟨x.cells⟩ ∧ Fr [] h h' := by
  refine calls_k fun R hR => ?_
  apply warderlaw20_of.calls
  unfold warderlaw20_of.P
  rintro h1 rfl h2 rfl
  have k1 := new_at h (blk 30 x.cells)
  have f1 : Fr [] h (new h (blk 30 x.cells)) := Fr.new _ _ _
  simp only [Ln.cells] at k1 f1
  generalize new h (blk 30 [.bool x.en, .bool x.pe, .bool x.ac, .int .i64 x.pr]) = h1 at *
  have k2 := new_at h1 (blk 46 [.bool false, .bool false, .bool false, .int .i64 0])
  have f2 : Fr [] h1 (new h1 (blk 46 [.bool false, .bool false, .bool false, .int .i64 0])) := Fr.new _ _ _
  have k12 := f2.at k1 (by simp)
  have fr2 := f1.trans f2
  have z1 := f1.size
  generalize new h1 (blk 46 [.bool false, .bool false, .bool false, .int .i64 0]) = h2 at *
  refine ⟨_, (cellAt_of k12 0).trans rfl, _, (cellAt_of k12 1).trans rfl, _, (cellAt_of k12 2).trans rfl, _, (cellAt_of k12 3).trans rfl, ?_⟩
  refine Ln.ret k2 rfl _ _ _ _ ?_
  exact hR _ _ ⟨rfl, fr2.fresh (Fr.upd (F := [sz h1]) (by simp) _ _ _) (fun x hx => .inr (by simp at hx; omega))⟩

/-! ## a call that both are told -/
structure C where
  what : Int
  line : Int
  n : Int
  on : Bool
  deriving DecidableEq
def C.cells (x : C) : List Value := [.int .i64 x.what, .int .i64 x.line, .int .i64 x.n, .bool x.on]
theorem C.len (x : C) : x.cells.length = 4 := rfl
theorem C.rd {h : Hp} {b o : Nat} (x : C) {K : Int → Int → Int → Bool → Prop} (hr : ∀ j, j < 4 → cellAt h b (o + j) = x.cells[j]?) (hK : K x.what x.line x.n x.on) :
    ∃ a1 : Int, cellAt h b (o + 0) = some (.int .i64 a1) ∧ ∃ a2 : Int, cellAt h b (o + 1) = some (.int .i64 a2) ∧ ∃ a3 : Int, cellAt h b (o + 2) = some (.int .i64 a3) ∧ ∃ a4 : Bool, cellAt h b (o + 3) = some (.bool a4) ∧ K a1 a2 a3 a4 := by
  exact ⟨_, hr 0 (by omega), _, hr 1 (by omega), _, hr 2 (by omega), _, hr 3 (by omega), hK⟩
theorem C.ret {h : Hp} {b : Nat} {T : TypeId} {l0 : List Value} (hb : bk h b = some (blk T l0)) (hl : l0.length = 4) (v1 : Int) (v2 : Int) (v3 : Int) (v4 : Bool) {K : Int → Int → Int → Bool → Hp → Prop} (hK : K v1 v2 v3 v4 (upd h b T (C.mk v1 v2 v3 v4).cells)) :
    truly true ∧ ∃ T1 : TypeId, ∃ l : List Value, bk h b = some (blk T1 l) ∧ 0 + 4 ≤ l.length ∧ ∀ h4 : Hp, h4 = upd h b T1 (writeAt l 0 [.int .i64 v1, .int .i64 v2, .int .i64 v3, .bool v4]) → ∃ a1 : Int, cellAt h4 b (0 + 0) = some (.int .i64 a1) ∧ ∃ a2 : Int, cellAt h4 b (0 + 1) = some (.int .i64 a2) ∧ ∃ a3 : Int, cellAt h4 b (0 + 2) = some (.int .i64 a3) ∧ ∃ a4 : Bool, cellAt h4 b (0 + 3) = some (.bool a4) ∧ K a1 a2 a3 a4 h4 := by
  refine ⟨rfl, T, l0, hb, by omega, ?_⟩
  rintro h4 rfl
  have hw : writeAt l0 0 [.int .i64 v1, .int .i64 v2, .int .i64 v3, .bool v4] = (C.mk v1 v2 v3 v4).cells := by
    rw [writeAt_eq _ _ _ (by rw [hl]; exact Nat.le_refl _)]
    have : l0.drop (0 + 4) = [] := List.drop_eq_nil_of_le (by omega)
    simp only [List.take_zero, List.nil_append, List.length_cons, List.length_nil, Nat.zero_add, Nat.reduceAdd] at this ⊢
    rw [this, List.append_nil]; rfl
  rw [hw]
  exact ⟨_, (cell_upd hb _ _ _).trans rfl, _, (cell_upd hb _ _ _).trans rfl, _, (cell_upd hb _ _ _).trans rfl, _, (cell_upd hb _ _ _).trans rfl, hK⟩

theorem rows_c {rows : List (List Value)} (hw : ∀ r ∈ rows, wfCells [.int .i64, .int .i64, .int .i64, .bool] r) : ∃ l : List C, rows.length = l.length ∧ rows.flatten = encL C.cells l := by
  obtain ⟨l, h1, h2, _⟩ := rows_enc (f := C.cells) (ok := fun _ => True) (rows := rows) (fun r hr => by
    obtain ⟨v1, r, rfl, h1, h⟩ := wfCells_cons (hw r hr)
    obtain ⟨v2, r, rfl, h2, h⟩ := wfCells_cons h
    obtain ⟨v3, r, rfl, h3, h⟩ := wfCells_cons h
    obtain ⟨v4, r, rfl, h4, h⟩ := wfCells_cons h
    obtain rfl := wfCells_nil h
    obtain ⟨b1, rfl, _, _⟩ := wfInt h1
    obtain ⟨b2, rfl, _, _⟩ := wfInt h2
    obtain ⟨b3, rfl, _, _⟩ := wfInt h3
    obtain ⟨b4, rfl⟩ := wfBool h4
    exact ⟨⟨b1, b2, b3, b4⟩, rfl, trivial⟩)
  exact ⟨l, h1, h2⟩
theorem RV.putM {h : Hp} {q rb : Nat} {L : List Ln} {m : Int} (w : RV h q rb L m) (y : Int) : RV (upd h q 49 (writeAt [.slice (some ⟨rb, 0, none⟩) 16 16, .int .i64 m] (0 + 1) [.int .i64 y])) q rb L y :=
  ⟨upd_same w.hq _ _, ⟨by rw [upd_other w.ne]; exact w.arr.hq⟩, w.ne, w.pr⟩

set_option maxHeartbeats 4000000 in
theorem told_spec {h : Hp} {q q2 rb : Nat} {L : List Ln} {m : Int} (w : VS h q L m) (r : RV h q2 rb L m) (n1 : q ≠ q2) (n2 : q ≠ rb) (z1 : 0 ≠ q2) (z2 : 0 ≠ rb) (c : C) :
    CallsH Tryd.prog 18 [.pointer (some ⟨q, 0, none⟩), .pointer (some ⟨q2, 0, none⟩), .agg ⟨c.cells⟩] h fun v h' => ∃ (L' : List Ln) (m' : Int), v = .bool true ∧ VS h' q L' m' ∧ RV h' q2 rb L' m' ∧ Fr [q, q2, rb] h h' := by
  refine calls_k fun R hR => ?_
  apply warderlaw20_told.calls
  unfold warderlaw20_told.P
  intro h1 e1
  have k1 : bk h1 (sz h) = some (blk 44 c.cells) := by rw [e1]; exact new_at _ _
  have f1 : Fr [q, q2, rb] h h1 := by rw [e1]; exact Fr.new _ _ _
  have f10 : Fr [] h h1 := by rw [e1]; exact Fr.new _ _ _
  clear e1
  have w1 := w.fr f10 (by simp) (by simp)
  have r1 := r.fr f10 (by simp) (by simp)
  have lq := w.lt
  have lq2 := r.lt
  have lr := r.ltr
  have z0 := w.ne
  generalize hb : sz h = b at *
  have b1 : b ∉ [q] := by simp; omega
  have b2 : b ∉ [q2] := by simp; omega
  have b3 : b ∉ [rb] := by simp; omega
  have q1 : q ∉ [rb] := by simpa using n2
  have q3 : q2 ∉ [q] := by simpa using n1.symm
  have q4 : rb ∉ [q] := by simpa using n2.symm
  have q5 : q ∉ [q2] := by simpa using n1
  have o1 : 0 ∉ [rb] := by simpa using z2
  have o2 : 0 ∉ [q2] := by simpa using z1
  have s1 : [rb] ⊆ [q, q2, rb] := by simp
  have s2 : [q] ⊆ [q, q2, rb] := by simp
  have s3 : [q2] ⊆ [q, q2, rb] := by simp
  have cW : cellAt h1 b 0 = some (.int .i64 c.what) := (cellAt_of k1 0).trans rfl
  have cL : cellAt h1 b 1 = some (.int .i64 c.line) := (cellAt_of k1 1).trans rfl
  have cN : cellAt h1 b 2 = some (.int .i64 c.n) := (cellAt_of k1 2).trans rfl
  have cO : cellAt h1 b 3 = some (.bool c.on) := (cellAt_of k1 3).trans rfl
  have eqb : ∀ x : Bool, notIf true (x == x) = true := fun x => by cases x <;> rfl
  refine ⟨_, cL, ?_⟩
  refine (rThere_spec c.line).mono ?_
  rintro v h2 ⟨rfl, rfl⟩
  refine ⟨_, rfl, _, cW, fun _ => ?_, fun _ => ⟨fun _ => ?_, fun _ => ⟨fun _ => ?_, fun _ => ⟨fun _ => ?_, fun _ => ⟨fun _ => ?_, fun _ => ⟨fun _ => ?_, fun _ => ⟨fun _ => ?_, fun _ => hR _ _ ⟨L, m, rfl, w1, r1, f1⟩⟩⟩⟩⟩⟩⟩⟩
  · -- Raise
    refine ⟨fun want h3 => h3 = h2 ∧ want = (thereB c.line && !(atL L c.line).pe), ⟨fun d => ?_, fun d => ⟨rfl, by rw [d]; rfl⟩⟩, ?_⟩
    · obtain ⟨k, hk, hk16⟩ := there_nat d
      obtain ⟨x, hx⟩ := r1.pr.get hk16
      have cp : cellAt h2 rb (0 + c.line.toNat * 4 + 1) = some (.bool x.pe) := by rw [hk, Int.toNat_natCast, Nat.zero_add]; exact r1.at hx 1 (by omega)
      exact ⟨_, _, _, r1.row, _, cL, by omega, by omega, _, _, rfl, _, cp, rfl, by rw [d, hk, atL_nat hk16 hx]; rfl⟩
    rintro want h3 ⟨rfl, rfl⟩
    refine ⟨fun d => ?_, fun d => ?_⟩
    · obtain ⟨k, hk, hk16⟩ := there_nat d
      obtain ⟨x, hx⟩ := r1.pr.get hk16
      refine ⟨_, _, _, r1.row, _, cL, by omega, by omega, _, _, rfl, truly_rfl, _, _, r1.arr.hq, by rw [hk, Int.toNat_natCast, Nat.zero_add]; exact r1.room hk16 (by omega), ?_⟩
      intro h4 e4
      rw [hk, Int.toNat_natCast, Nat.zero_add] at e4
      have r4 := r1.put hx (Ln.sPe · true) (j := 1) (v := .bool true) (by omega) rfl (fun _ h => h)
      rw [← e4] at r4
      have f4 : Fr [rb] h3 h4 := by rw [e4]; exact Fr.upd (by simp) _ _ _
      clear e4
      have w4 := w1.fr f4 q1 o1
      refine ⟨_, f4.cell cL b3, ?_⟩
      refine (Raise_spec w4 c.line).mono ?_
      rintro v h5 ⟨rfl, w5, f5⟩
      rw [if_pos d, hk, Int.toNat_natCast] at w5
      refine ⟨_, rfl, ?_⟩
      rw [eqb]
      exact hR _ _ ⟨_, _, rfl, w5, r4.fr f5 q3 q4, (f1.trans (f4.sub s1)).trans (f5.sub s2)⟩
    · refine ⟨_, cL, ?_⟩
      refine (Raise_spec w1 c.line).mono ?_
      rintro v h5 ⟨rfl, w5, f5⟩
      rw [d, if_neg (by simp)] at w5
      refine ⟨_, rfl, ?_⟩
      rw [eqb]
      exact hR _ _ ⟨_, _, rfl, w5, r1.fr f5 q3 q4, f1.trans (f5.sub s2)⟩
  · -- Drop
    refine ⟨fun want h3 => h3 = h2 ∧ want = (thereB c.line && (atL L c.line).pe), ⟨fun d => ?_, fun d => ⟨rfl, by rw [d]; rfl⟩⟩, ?_⟩
    · obtain ⟨k, hk, hk16⟩ := there_nat d
      obtain ⟨x, hx⟩ := r1.pr.get hk16
      have cp : cellAt h2 rb (0 + c.line.toNat * 4 + 1) = some (.bool x.pe) := by rw [hk, Int.toNat_natCast, Nat.zero_add]; exact r1.at hx 1 (by omega)
      exact ⟨_, _, _, r1.row, _, cL, by omega, by omega, _, _, rfl, _, cp, rfl, by rw [d, hk, atL_nat hk16 hx]; rfl⟩
    rintro want h3 ⟨rfl, rfl⟩
    refine ⟨fun d => ?_, fun d => ?_⟩
    · obtain ⟨k, hk, hk16⟩ := there_nat d
      obtain ⟨x, hx⟩ := r1.pr.get hk16
      refine ⟨_, _, _, r1.row, _, cL, by omega, by omega, _, _, rfl, truly_rfl, _, _, r1.arr.hq, by rw [hk, Int.toNat_natCast, Nat.zero_add]; exact r1.room hk16 (by omega), ?_⟩
      intro h4 e4
      rw [hk, Int.toNat_natCast, Nat.zero_add] at e4
      have r4 := r1.put hx (Ln.sPe · false) (j := 1) (v := .bool false) (by omega) rfl (fun _ h => h)
      rw [← e4] at r4
      have f4 : Fr [rb] h3 h4 := by rw [e4]; exact Fr.upd (by simp) _ _ _
      clear e4
      have w4 := w1.fr f4 q1 o1
      refine ⟨_, f4.cell cL b3, ?_⟩
      refine (Drop_spec w4 c.line).mono ?_
      rintro v h5 ⟨rfl, w5, f5⟩
      rw [if_pos d, hk, Int.toNat_natCast] at w5
      refine ⟨_, rfl, ?_⟩
      rw [eqb]
      exact hR _ _ ⟨_, _, rfl, w5, r4.fr f5 q3 q4, (f1.trans (f4.sub s1)).trans (f5.sub s2)⟩
    · refine ⟨_, cL, ?_⟩
      refine (Drop_spec w1 c.line).mono ?_
      rintro v h5 ⟨rfl, w5, f5⟩
      rw [d, if_neg (by simp)] at w5
      refine ⟨_, rfl, ?_⟩
      rw [eqb]
      exact hR _ _ ⟨_, _, rfl, w5, r1.fr f5 q3 q4, f1.trans (f5.sub s2)⟩
  · -- Enable
    refine ⟨fun d => ?_, fun d => ?_⟩
    · have d : thereB c.line = false := by simpa using d
      refine ⟨_, cL, _, cO, ?_⟩
      refine (Enable_spec w1 c.line c.on).mono ?_
      rintro v h5 ⟨rfl, w5, f5⟩
      rw [d, if_neg (by simp)] at w5
      refine ⟨_, rfl, ?_⟩
      rw [d]
      exact hR _ _ ⟨_, _, rfl, w5, r1.fr f5 q3 q4, f1.trans (f5.sub s2)⟩
    · have d : thereB c.line = true := by simpa using d
      obtain ⟨k, hk, hk16⟩ := there_nat d
      obtain ⟨x, hx⟩ := r1.pr.get hk16
      refine ⟨_, _, _, r1.row, _, cL, _, cO, by omega, by omega, _, _, rfl, truly_rfl, _, _, r1.arr.hq, by rw [hk, Int.toNat_natCast, Nat.zero_add]; exact r1.room (j := 0) hk16 (by omega), ?_⟩
      intro h4 e4
      rw [hk, Int.toNat_natCast, Nat.zero_add] at e4
      have r4 := r1.put hx (Ln.sEn · c.on) (j := 0) (v := .bool c.on) (by omega) rfl (fun _ h => h)
      rw [Nat.add_zero, ← e4] at r4
      have f4 : Fr [rb] h2 h4 := by rw [e4]; exact Fr.upd (by simp) _ _ _
      clear e4
      have w4 := w1.fr f4 q1 o1
      refine ⟨_, f4.cell cL b3, _, f4.cell cO b3, ?_⟩
      refine (Enable_spec w4 c.line c.on).mono ?_
      rintro v h5 ⟨rfl, w5, f5⟩
      rw [if_pos d, hk, Int.toNat_natCast] at w5
      refine ⟨_, rfl, ?_⟩
      rw [d]
      exact hR _ _ ⟨_, _, rfl, w5, r4.fr f5 q3 q4, (f1.trans (f4.sub s1)).trans (f5.sub s2)⟩
  · -- Prioritize
    refine ⟨fun h3 => h3 = h2 ∧ (thereB c.line && decide (0 ≤ c.n) && decide (c.n ≤ 15)) = true, ?_, ?_⟩
    · refine ⟨fun x h3 => h3 = h2 ∧ x = !(thereB c.line && decide (0 ≤ c.n) && decide (c.n ≤ 15)), ⟨fun d => ⟨rfl, ?_⟩, fun d => ⟨_, cN, fun d2 => ⟨rfl, ?_⟩, fun d2 => ⟨_, cN, rfl, ?_⟩⟩⟩, ?_⟩
      · have d : thereB c.line = false := by simpa using d
        rw [d]; rfl
      · have d2 : ¬ 0 ≤ c.n := by simp only [decide_eq_true_eq] at d2; omega
        rw [decide_eq_false d2, Bool.and_false, Bool.false_and]; rfl
      · have d : thereB c.line = true := by simpa using d
        have d2 : 0 ≤ c.n := by simp only [decide_eq_false_iff_not] at d2; omega
        rw [d, decide_eq_true d2, Bool.true_and, Bool.true_and]
        by_cases e : c.n ≤ 15
        · rw [decide_eq_true e, decide_eq_false (by omega)]; rfl
        · rw [decide_eq_false e, decide_eq_true (by omega)]; rfl
      rintro x h3 ⟨rfl, rfl⟩
      refine ⟨fun d => ?_, fun d => ⟨rfl, by rw [Bool.not_eq_false'] at d; exact d⟩⟩
      have d : (thereB c.line && decide (0 ≤ c.n) && decide (c.n ≤ 15)) = false := by rw [Bool.not_eq_true'] at d; exact d
      refine ⟨_, cL, _, cN, ?_⟩
      refine (Prio_spec w1 c.line c.n).mono ?_
      rintro v h5 ⟨rfl, w5, f5⟩
      rw [d, if_neg (by simp)] at w5
      refine ⟨_, rfl, ?_⟩
      rw [d]
      exact hR _ _ ⟨_, _, rfl, w5, r1.fr f5 q3 q4, f1.trans (f5.sub s2)⟩
    rintro h3 ⟨rfl, d⟩
    have dd := d
    simp only [Bool.and_eq_true, decide_eq_true_eq] at dd
    obtain ⟨⟨d1, p0⟩, p1⟩ := dd
    obtain ⟨k, hk, hk16⟩ := there_nat d1
    obtain ⟨x, hx⟩ := r1.pr.get hk16
    refine ⟨_, _, _, r1.row, _, cL, _, cN, by omega, by omega, _, _, rfl, truly_rfl, _, _, r1.arr.hq, by rw [hk, Int.toNat_natCast, Nat.zero_add]; exact r1.room hk16 (by omega), ?_⟩
    intro h4 e4
    rw [hk, Int.toNat_natCast, Nat.zero_add] at e4
    have r4 := r1.put hx (Ln.sPr · c.n) (j := 3) (v := .int .i64 c.n) (by omega) rfl (fun _ _ => ⟨p0, p1⟩)
    rw [← e4] at r4
    have f4 : Fr [rb] h3 h4 := by rw [e4]; exact Fr.upd (by simp) _ _ _
    clear e4
    have w4 := w1.fr f4 q1 o1
    refine ⟨_, f4.cell cL b3, _, f4.cell cN b3, ?_⟩
    refine (Prio_spec w4 c.line c.n).mono ?_
    rintro v h5 ⟨rfl, w5, f5⟩
    rw [if_pos d, hk, Int.toNat_natCast] at w5
    refine ⟨_, rfl, ?_⟩
    rw [d]
    exact hR _ _ ⟨_, _, rfl, w5, r4.fr f5 q3 q4, (f1.trans (f4.sub s1)).trans (f5.sub s2)⟩
  · -- Mask
    have no : ¬ (0 ≤ c.n ∧ c.n ≤ 16) → CallsH Tryd.prog 23 [.pointer (some ⟨q, 0, none⟩), .int .i64 c.n] h2 fun r93 h19 => ∃ Mask94 : Int, r93 = .int .i64 Mask94 ∧ R (.bool (Mask94 == 11)) h19 := by
      intro hn
      refine (Mask_spec w1 c.n).mono ?_
      rintro v h5 ⟨rfl, w5, f5⟩
      rw [if_neg hn] at w5 ⊢
      exact ⟨_, rfl, hR _ _ ⟨_, _, rfl, w5, r1.fr f5 q3 q4, f1.trans (f5.sub s2)⟩⟩
    refine ⟨fun h3 => h3 = h2 ∧ 0 ≤ c.n ∧ c.n ≤ 16, ⟨_, cN, fun d => ⟨_, cN, no ?_⟩, fun d => ⟨_, cN, fun d2 => ⟨_, cN, no ?_⟩, fun d2 => ⟨rfl, ?_, ?_⟩⟩⟩, ?_⟩
    · simp only [decide_eq_true_eq] at d; omega
    · simp only [decide_eq_true_eq] at d2; omega
    · simp only [decide_eq_false_iff_not] at d; omega
    · simp only [decide_eq_false_iff_not] at d2; omega
    rintro h3 ⟨rfl, p0, p1⟩
    refine ⟨_, cN, truly_rfl, _, _, r1.hq, by simp, ?_⟩
    intro h4 e4
    have r4 := r1.putM c.n
    rw [← e4] at r4
    have f4 : Fr [q2] h3 h4 := by rw [e4]; exact Fr.upd (by simp) _ _ _
    clear e4
    have w4 := w1.fr f4 q5 o2
    refine ⟨_, f4.cell cN b2, ?_⟩
    refine (Mask_spec w4 c.n).mono ?_
    rintro v h5 ⟨rfl, w5, f5⟩
    rw [if_pos ⟨p0, p1⟩] at w5 ⊢
    exact ⟨_, rfl, hR _ _ ⟨_, _, rfl, w5, r4.fr f5 q3 q4, (f1.trans (f4.sub s3)).trans (f5.sub s2)⟩⟩
  · -- Take
    refine (rNext_spec r1).mono ?_
    rintro v h3 ⟨bn, rfl, hN, f3⟩
    have w3 := w1.fr f3 (by simp) (by simp)
    have r3 := r1.fr f3 (by simp) (by simp)
    have fr3 : Fr [q, q2, rb] h h3 := f1.trans (f3.mono (by simp))
    refine ⟨_, rfl, ?_⟩
    refine ⟨fun h4 => VS h4 q L m ∧ RV h4 q2 rb (takeL L bn) m ∧ Fr [q, q2, rb] h h4, ⟨fun d => ?_, fun d => ?_⟩, ?_⟩
    · have d : 0 ≤ bn := by simpa using d
      rcases hN.cases' r1.pr with ⟨rfl, _⟩ | ⟨j, x, rfl, hj, hx, _⟩
      · omega
      refine ⟨_, _, _, r3.row, by omega, by omega, _, _, rfl, truly_rfl, _, _, r3.arr.hq, by rw [Int.toNat_natCast, Nat.zero_add]; exact r3.room hj (by omega), ?_⟩
      intro h4 e4
      rw [Int.toNat_natCast, Nat.zero_add] at e4
      have r4 := r3.put hx (Ln.sAc · true) (j := 2) (v := .bool true) (by omega) rfl (fun _ h => h)
      rw [← e4] at r4
      have f4 : Fr [rb] h3 h4 := by rw [e4]; exact Fr.upd (by simp) _ _ _
      clear e4
      have hx4 : (upL L j (Ln.sAc · true))[j]? = some (x.sAc true) := by rw [upL_at, if_pos rfl, hx]; rfl
      refine ⟨_, _, _, r4.row, by omega, by omega, _, _, rfl, truly_rfl, _, _, r4.arr.hq, by rw [Int.toNat_natCast, Nat.zero_add]; exact r4.room hj (by omega), ?_⟩
      intro h5 e5
      rw [Int.toNat_natCast, Nat.zero_add] at e5
      have r5 := r4.put hx4 (Ln.sPe · false) (j := 1) (v := .bool false) (by omega) rfl (fun _ h => h)
      rw [← e5] at r5
      have f5 : Fr [rb] h4 h5 := by rw [e5]; exact Fr.upd (by simp) _ _ _
      clear e5
      refine ⟨w3.fr (f4.trans f5) q1 o1, ?_, fr3.trans ((f4.trans f5).sub s1)⟩
      unfold takeL
      rw [if_pos d, Int.toNat_natCast]
      exact r5
    · have d : ¬ 0 ≤ bn := by simpa using d
      refine ⟨w3, ?_, fr3⟩
      unfold takeL
      rw [if_neg d]
      exact r3
    rintro h4 ⟨w4, r4, fr4⟩
    refine (Take_spec w4).mono ?_
    rintro v h5 ⟨b', rfl, hN', w5, f5⟩
    obtain rfl := hN.uniq hN'
    refine ⟨_, _, rfl, fun _ => ?_, fun hc => absurd hc (by simp)⟩
    rw [show (decide (bn ≥ 0)) = decide (0 ≤ bn) from rfl, eqb]
    exact hR _ _ ⟨_, _, rfl, w5, r4.fr f5 q3 q4, fr4.trans (f5.sub s2)⟩
  · -- End
    refine ⟨_, cL, _, cL, ?_⟩
    refine (End_spec w1 c.line).mono ?_
    rintro v h5 ⟨rfl, w5, f5⟩
    refine ⟨_, rfl, f5.cell cL b1, ?_⟩
    have r5 := r1.fr f5 q3 q4
    refine (rEnd_spec r5 c.line).mono ?_
    rintro v h6 ⟨rfl, r6, f6⟩
    refine ⟨_, rfl, ?_⟩
    rw [beq_self_eq_true]
    exact hR _ _ ⟨_, _, rfl, w5.fr f6 q1 o1, r6, (f1.trans (f5.sub s2)).trans (f6.sub s1)⟩
end Go.Proofs.YthhancpnaleknaaDoor
