import Derived.Test.YtdcbapbpamekkaaTe
namespace Go.Proofs.Ytdcbapbpamekkaa
open Go Go.Wd
set_option linter.unusedVariables false
set_option linter.unusedSimpArgs false

/-! ## the law's own helpers -/
theorem of_spec (h : Hp) (s : S) : CallsH Try.prog 15 [.agg #[.int .i64 s.vm, .int .i64 s.pg, .int .i64 s.fr, .bool s.wr, .bool s.ex]] h fun v h' => v = .agg #[.int .i64 s.vm, .int .i64 s.pg, .int .i64 s.fr, .bool s.wr, .bool s.ex, .bool true] ∧ Fr [] h h' := by
  refine calls_k fun R hR => ?_
  apply warderlaw09_of.calls
  unfold warderlaw09_of.P
  intro h1 e1
  have b1 : bk h1 (sz h) = some (blk 29 s.cells) := by rw [e1]; exact new_at _ _
  have s1 : sz h1 = sz h + 1 := by rw [e1]; exact sz_new _ _
  have f1 : Fr [] h h1 := by rw [e1]; exact Fr.new _ _ _
  clear e1
  intro h2 e2
  have b2 : bk h2 (sz h1) = some (blk 42 (rc none)) := by rw [e2]; exact new_at _ _
  have f2 : Fr [] h1 h2 := by rw [e2]; exact Fr.new _ _ _
  clear e2
  have b12 := f2.at b1 (by simp)
  refine ⟨s.vm, (cellAt_of b12 0).trans rfl, s.pg, (cellAt_of b12 1).trans rfl, s.fr, (cellAt_of b12 2).trans rfl, s.wr, (cellAt_of b12 3).trans rfl, s.ex, (cellAt_of b12 4).trans rfl, truly_rfl, _, _, b2, by decide, ?_⟩
  intro h3 e3
  have b3 : bk h3 (sz h1) = some (blk 42 (rc (some s))) := by rw [e3]; exact upd_same b2 _ _
  have f3 : Fr [sz h1] h2 h3 := by rw [e3]; exact Fr.upd (by simp) _ _ _
  exact ⟨s.vm, (cellAt_of b3 0).trans rfl, s.pg, (cellAt_of b3 1).trans rfl, s.fr, (cellAt_of b3 2).trans rfl, s.wr, (cellAt_of b3 3).trans rfl, s.ex, (cellAt_of b3 4).trans rfl, true, (cellAt_of b3 5).trans rfl, hR _ _ ⟨rfl, (f1.trans f2).later f3 (by simp; omega)⟩⟩
theorem toList_take {L : List (Option S)} {k : Nat} {o : Option S} (ho : L[k]? = some o) : (L.take (k + 1)).filterMap id = (L.take k).filterMap id ++ o.toList := by
  rw [List.take_add_one, ho, List.filterMap_append]
  cases o <;> rfl
theorem take_le (L : List (Option S)) (k : Nat) : ((L.take k).filterMap id).length ≤ k := by
  have := List.length_filterMap_le id (L.take k)
  rw [List.length_take] at this; omega
theorem take_at {L : List (Option S)} {k : Nat} {s : S} (ho : L[k]? = some (some s)) : (L.filterMap id)[((L.take k).filterMap id).length]? = some s := by
  have h : L.filterMap id = (L.take (k + 1)).filterMap id ++ (L.drop (k + 1)).filterMap id := by rw [← List.filterMap_append, List.take_append_drop]
  rw [h, toList_take ho]
  simp
theorem filter_le (L : List (Option S)) : (L.filterMap id).length ≤ L.length := List.length_filterMap_le _ _
theorem same_spec {h : Hp} {q pl mp rq rpl : Nat} {L : List (Option S)} {nx nx2 : Nat} (w : TS h q pl mp L nx) (r : RS h rq rpl L nx2) :
    CallsH Try.prog 21 [.pointer (some ⟨q, 0, none⟩), .pointer (some ⟨rq, 0, none⟩)] h fun v h' => v = .bool true ∧ Fr [] h h' := by
  refine calls_k fun R hR => ?_
  apply warderlaw09_same.calls
  unfold warderlaw09_same.P
  have hpos := w.pos
  refine (List_spec w).mono ?_
  rintro v h1 ⟨a, c, rfl, o1, fa, f1⟩
  refine ⟨_, _, _, rfl, ?_⟩
  refine ⟨fun k x h2 => ∃ j : Nat, x = j ∧ j ≤ L.length ∧ k = (((L.take j).filterMap id).length : Nat) ∧ Fr [] h1 h2, fun _ x _ => L.length - x.toNat, ⟨0, rfl, by omega, rfl, Fr.refl _ _⟩, ?_⟩
  rintro k x h2 ⟨j, rfl, hj, rfl, f2⟩
  have r2 := (r.fr0 f1).fr0 f2
  have o2 := o1.fr f2 (by simp)
  have hle := take_le L j
  refine ⟨_, _, _, r2.row, fun hc => ?_, fun hc => ?_⟩
  · have hj : j < L.length := by simpa using hc
    obtain ⟨o, ho⟩ : ∃ o, L[j]? = some o := ⟨_, List.getElem?_eq_getElem hj⟩
    rw [wrapN hj (by omega)]
    refine ⟨_, _, _, r2.row, by omega, by omega, _, _, rfl, o.isSome, ?_, fun ht => ?_, fun ht => ?_⟩
    · rw [r2.at ho 5 (by decide)]; cases o <;> rfl
    · cases o with
      | some s => cases ht
      | none => exact ⟨⟨j + 1, rfl, by omega, by rw [toList_take ho]; simp, f2⟩, decM hj⟩
    · cases o with
      | none => cases ht
      | some s =>
        have hat := take_at ho
        have hlt := (List.getElem?_eq_some_iff.1 hat).1
        refine ⟨fun hc2 => ?_, fun _ => ?_⟩
        · simp only [decide_eq_true_eq] at hc2; omega
        obtain ⟨b, o', rfl, e⟩ := encL_one S.len o2.row hat (by decide)
        have hw : IntKind.wrap .i64 ((((L.take j).filterMap id).length : Int) + 1) = ((((L.take j).filterMap id).length + 1 : Nat) : Int) := by rw [wrap_i64 (by omega) (by omega)]; omega
        rw [hw]
        refine ⟨by omega, by omega, _, _, rfl, s.vm, (by rw [Int.toNat_natCast]; exact e 0 (by decide)), s.pg, (by rw [Int.toNat_natCast]; exact e 1 (by decide)), s.fr, (by rw [Int.toNat_natCast]; exact e 2 (by decide)), s.wr, (by rw [Int.toNat_natCast]; exact e 3 (by decide)), s.ex, (by rw [Int.toNat_natCast]; exact e 4 (by decide)), ?_⟩
        refine ⟨_, _, _, r2.row, by omega, by omega, _, _, rfl, s.vm, (r2.at ho 0 (by decide)).trans rfl, s.pg, (r2.at ho 1 (by decide)).trans rfl, s.fr, (r2.at ho 2 (by decide)).trans rfl, s.wr, (r2.at ho 3 (by decide)).trans rfl, s.ex, (r2.at ho 4 (by decide)).trans rfl, true, (r2.at ho 5 (by decide)).trans rfl, ?_⟩
        refine (of_spec h2 s).mono ?_
        rintro v h3 ⟨rfl, f3⟩
        have r3 := r2.fr0 f3
        refine ⟨_, _, _, _, _, _, rfl, r3.row, (r3.at ho 0 (by decide)).trans rfl, (r3.at ho 1 (by decide)).trans rfl, (r3.at ho 2 (by decide)).trans rfl, (r3.at ho 3 (by decide)).trans rfl, (r3.at ho 4 (by decide)).trans rfl, (r3.at ho 5 (by decide)).trans rfl, fun hn => ?_, fun _ => ?_⟩
        · simp [notIf] at hn
        · exact ⟨⟨j + 1, rfl, by omega, by rw [toList_take ho]; simp, f2.trans f3⟩, decM hj⟩
  · have hj : j = L.length := by have : ¬ j < L.length := by simpa using hc
                                 omega
    subst hj
    rw [List.take_length]
    exact hR _ _ ⟨by simp, f1.trans f2⟩
theorem alike_spec {h : Hp} {a b : Option Addr} {ca cb : Nat} {l : List S} (g1 : rowAtK h a (encL S.cells l)) (g2 : rowAtK h b (encL S.cells l)) (hl : l.length ≤ 1000000) :
    CallsH Try.prog 12 [.slice a l.length ca, .slice b l.length cb] h fun v h' => v = .bool true ∧ h' = h := by
  refine calls_k fun R hR => ?_
  apply warderlaw09_alike.calls
  unfold warderlaw09_alike.P
  refine ⟨fun hn => by simp at hn, fun _ => ?_⟩
  refine ⟨fun i h1 => ∃ k : Nat, i = k ∧ k ≤ l.length ∧ h1 = h, fun i _ => l.length - i.toNat, ⟨0, rfl, by omega, rfl⟩, ?_⟩
  rintro i h1 ⟨k, rfl, hk, rfl⟩
  refine ⟨fun hc => ?_, fun hc => hR _ _ ⟨rfl, rfl⟩⟩
  have hk : k < l.length := by simpa using hc
  obtain ⟨s, hs⟩ : ∃ o, l[k]? = some o := ⟨_, List.getElem?_eq_getElem hk⟩
  obtain ⟨b1, o1, rfl, e1⟩ := encL_one S.len g1 hs (by decide)
  obtain ⟨b2, o2, rfl, e2⟩ := encL_one S.len g2 hs (by decide)
  rw [Int.toNat_natCast, wrapN hk (by omega)]
  refine ⟨by omega, by omega, _, _, rfl, s.vm, e1 0 (by decide), s.pg, e1 1 (by decide), s.fr, e1 2 (by decide), s.wr, e1 3 (by decide), s.ex, e1 4 (by decide), by omega, by omega, _, _, rfl, s.vm, e2 0 (by decide), s.pg, e2 1 (by decide), s.fr, e2 2 (by decide), s.wr, e2 3 (by decide), s.ex, e2 4 (by decide), fun hn => ?_, fun _ => ?_⟩
  · simp [notIf] at hn
  · exact ⟨⟨k + 1, rfl, by omega, rfl⟩, decM hk⟩

/-! ## calls, and what lasts -/
structure Cl where
  what : Int
  s : S
def Cl.cells (c : Cl) : List Value := [.int .i64 c.what, .int .i64 c.s.vm, .int .i64 c.s.pg, .int .i64 c.s.fr, .bool c.s.wr, .bool c.s.ex]
theorem Cl.len (c : Cl) : c.cells.length = 6 := rfl
def lst (t : S) (fine : Bool) (c : Cl) : Bool :=
  if c.what = 0 then (if c.s.vm = t.vm ∧ c.s.pg = t.pg then decide (c.s = t) else fine)
  else if c.what = 1 then fine && !(c.s.vm == t.vm && c.s.pg == t.pg)
  else if c.what = 2 then fine && (c.s.vm != t.vm)
  else if c.what = 3 then fine && (c.s.fr != t.fr)
  else if c.what = 4 then false else fine
theorem S.eq_iff (s t : S) : ((s.vm == t.vm) && ((s.pg == t.pg) && ((s.fr == t.fr) && (((s.wr : Bool) == t.wr) && (((s.ex : Bool) == t.ex) && true))))) = decide (s = t) := by
  cases s; cases t
  rw [Bool.eq_iff_iff]
  simp
theorem fold_step (t : S) (cs : List Cl) {k : Nat} {c : Cl} (hc : cs[k]? = some c) : (cs.take (k + 1)).foldl (lst t) false = lst t ((cs.take k).foldl (lst t) false) c := by
  rw [List.take_add_one, hc, List.foldl_append]
  rfl
theorem lasting_spec {h : Hp} {a b : Option Addr} {ca cb : Nat} {l : List S} {cs : List Cl} (g1 : rowAtK h a (encL S.cells l)) (g2 : rowAtK h b (encL Cl.cells cs)) (hl : l.length ≤ 1000000) (hcs : cs.length ≤ 1000000)
    (hall : ∀ s ∈ l, cs.foldl (lst s) false = true) : CallsH Try.prog 22 [.slice a l.length ca, .slice b cs.length cb] h fun v h' => v = .bool true ∧ Fr [] h h' := by
  refine calls_k fun R hR => ?_
  apply warderlaw09_lasting.calls
  unfold warderlaw09_lasting.P
  refine ⟨fun i h1 => ∃ k : Nat, i = k ∧ k ≤ l.length ∧ Fr [] h h1, fun i _ => l.length - i.toNat, ⟨0, rfl, by omega, Fr.refl _ _⟩, ?_⟩
  rintro i h1 ⟨k, rfl, hk, f1⟩
  refine ⟨fun hc => ?_, fun hc => hR _ _ ⟨rfl, f1⟩⟩
  have hk : k < l.length := by simpa using hc
  obtain ⟨t, ht⟩ : ∃ o, l[k]? = some o := ⟨_, List.getElem?_eq_getElem hk⟩
  rw [wrapN hk (by omega)]
  refine ⟨fun fine i2 h2 => ∃ j : Nat, i2 = j ∧ j ≤ cs.length ∧ fine = (cs.take j).foldl (lst t) false ∧ Fr [] h h2, fun _ i2 _ => cs.length - i2.toNat, ⟨0, rfl, by omega, rfl, f1⟩, ?_⟩
  rintro fine i2 h2 ⟨j, rfl, hj, rfl, f2⟩
  refine ⟨fun hc => ?_, fun hc => ?_⟩
  · have hj : j < cs.length := by simpa using hc
    obtain ⟨c, hcc⟩ : ∃ o, cs[j]? = some o := ⟨_, List.getElem?_eq_getElem hj⟩
    have hst := fold_step t cs hcc
    generalize (cs.take j).foldl (lst t) false = fine at *
    rw [wrapN hj (by omega)]
    simp only [Int.toNat_natCast]
    obtain ⟨b2, o2, rfl, e2⟩ := encL_one Cl.len (g2.fr f2 (by simp)) hcc (by decide)
    refine ⟨by omega, by omega, _, _, rfl, c.s.vm, e2 1 (by decide), c.s.pg, e2 2 (by decide), c.s.fr, e2 3 (by decide), c.s.wr, e2 4 (by decide), c.s.ex, e2 5 (by decide), ?_⟩
    refine put_local rfl (by decide) ?_
    intro h4 b4 f4 s4
    have f24 := f2.trans f4
    obtain ⟨b1, o1, ea, e1⟩ := encL_one S.len (g1.fr f24 (by simp)) ht (by decide)
    obtain ⟨b2', o2', eb, e2'⟩ := encL_one Cl.len (g2.fr f24 (by simp)) hcc (by decide)
    cases eb
    have d0 : cellAt h4 (sz h2) 0 = some (.int .i64 c.s.vm) := (cellAt_of b4 0).trans rfl
    have d1 : cellAt h4 (sz h2) 1 = some (.int .i64 c.s.pg) := (cellAt_of b4 1).trans rfl
    have d2 : cellAt h4 (sz h2) 2 = some (.int .i64 c.s.fr) := (cellAt_of b4 2).trans rfl
    have d3 : cellAt h4 (sz h2) 3 = some (.bool c.s.wr) := (cellAt_of b4 3).trans rfl
    have d4 : cellAt h4 (sz h2) 4 = some (.bool c.s.ex) := (cellAt_of b4 4).trans rfl
    have p0 : cellAt h4 b1 (o1 + k * 5) = some (.int .i64 t.vm) := e1 0 (by decide)
    have p1 : cellAt h4 b1 (o1 + k * 5 + 1) = some (.int .i64 t.pg) := e1 1 (by decide)
    have p2 : cellAt h4 b1 (o1 + k * 5 + 2) = some (.int .i64 t.fr) := e1 2 (by decide)
    have p3 : cellAt h4 b1 (o1 + k * 5 + 3) = some (.bool t.wr) := e1 3 (by decide)
    have p4 : cellAt h4 b1 (o1 + k * 5 + 4) = some (.bool t.ex) := e1 4 (by decide)
    have pw : cellAt h4 b2 (o2 + j * 6) = some (.int .i64 c.what) := e2' 0 (by decide)
    have hgo : ∀ x : Bool, x = lst t fine c → (∃ j' : Nat, ((j + 1 : Nat) : Int) = j' ∧ j' ≤ cs.length ∧ x = (cs.take j').foldl (lst t) false ∧ Fr [] h h4) ∧ cs.length - ((j + 1 : Nat) : Int).toNat < cs.length - (j : Int).toNat := by
      rintro x rfl
      exact ⟨⟨j + 1, rfl, by omega, hst.symm, f24⟩, decM hj⟩
    refine ⟨fun one h5 => one = (c.s.vm == t.vm && c.s.pg == t.pg) ∧ h5 = h4, ⟨_, d0, by omega, by omega, _, _, ea, _, p0, fun c1 => ⟨_, d1, by omega, by omega, _, _, ea, _, p1, ?_, rfl⟩, fun c1 => ⟨?_, rfl⟩⟩, ?_⟩
    · rw [c1, Bool.true_and]
    · rw [c1, Bool.false_and]
    rintro one h5 ⟨rfl, rfl⟩
    have hone : (c.s.vm == t.vm && c.s.pg == t.pg) = decide (c.s.vm = t.vm ∧ c.s.pg = t.pg) := by rw [Bool.eq_iff_iff]; simp
    refine ⟨by omega, by omega, _, _, rfl, _, pw, fun c0 => ⟨fun o => ?_, fun o => ?_⟩, fun c0 => ⟨fun c1 => ⟨fun o => ?_, fun o => ?_⟩, fun c1 => ⟨fun c2 => ⟨fun o => ?_, fun o => ?_⟩, fun c2 => ⟨fun c3 => ⟨fun o => ?_, fun o => ?_⟩, fun c3 => ⟨fun c4 => ?_, fun c4 => ?_⟩⟩⟩⟩⟩ <;> (try simp only [beq_iff_eq, beq_eq_false_iff_ne, ne_eq] at c0) <;> (try simp only [beq_iff_eq, beq_eq_false_iff_ne, ne_eq] at c1) <;> (try simp only [beq_iff_eq, beq_eq_false_iff_ne, ne_eq] at c2) <;> (try simp only [beq_iff_eq, beq_eq_false_iff_ne, ne_eq] at c3) <;> (try simp only [beq_iff_eq, beq_eq_false_iff_ne, ne_eq] at c4)
    · rw [hone] at o
      refine ⟨_, d0, _, d1, _, d2, _, d3, _, d4, by omega, by omega, _, _, ea, _, p0, _, p1, _, p2, _, p3, _, p4, hgo _ ?_⟩
      unfold lst
      rw [if_pos c0, if_pos (of_decide_eq_true o), S.eq_iff]
      cases decide (c.s = t) <;> rfl
    · rw [hone] at o
      refine hgo _ ?_
      unfold lst
      rw [if_pos c0, if_neg (of_decide_eq_false o)]
    · refine hgo _ ?_
      unfold lst
      rw [if_neg c0, if_pos c1, o, Bool.true_and]
    · refine hgo _ ?_
      unfold lst
      rw [if_neg c0, if_pos c1, o, Bool.false_and]
    · refine ⟨_, d0, by omega, by omega, _, _, ea, _, p0, hgo _ ?_⟩
      unfold lst
      rw [if_neg c0, if_neg c1, if_pos c2, o, Bool.true_and]
    · refine hgo _ ?_
      unfold lst
      rw [if_neg c0, if_neg c1, if_pos c2, o, Bool.false_and]
    · refine ⟨_, d2, by omega, by omega, _, _, ea, _, p2, hgo _ ?_⟩
      unfold lst
      rw [if_neg c0, if_neg c1, if_neg c2, if_pos c3, o, Bool.true_and]
    · refine hgo _ ?_
      unfold lst
      rw [if_neg c0, if_neg c1, if_neg c2, if_pos c3, o, Bool.false_and]
    · refine hgo _ ?_
      unfold lst
      rw [if_neg c0, if_neg c1, if_neg c2, if_neg c3, if_pos c4]
    · refine hgo _ ?_
      unfold lst
      rw [if_neg c0, if_neg c1, if_neg c2, if_neg c3, if_neg c4]
  · have hj : j = cs.length := by have : ¬ j < cs.length := by simpa using hc
                                  omega
    subst hj
    rw [List.take_length, hall t (List.mem_of_getElem? ht)]
    exact ⟨fun hn => (by cases hn), fun _ => ⟨⟨k + 1, rfl, by omega, f2⟩, decM hk⟩⟩
end Go.Proofs.Ytdcbapbpamekkaa
