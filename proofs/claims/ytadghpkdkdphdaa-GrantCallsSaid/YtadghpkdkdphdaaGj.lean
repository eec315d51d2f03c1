import Derived.Test.YtadghpkdkdphdaaGi
import Derived.Test.YtadghpkdkdphdaaWdRow
namespace Go.Proofs.Ytadghpkdkdphdaa
open Go Go.Wd
set_option linter.unusedVariables false
set_option linter.unusedSimpArgs false

structure C where
  what : Int
  who : Int
  id : Int
  frame : Int
  to : Int
  write : Bool
  deriving DecidableEq
def C.cells (x : C) : List Value := [.int .i64 x.what, .int .i64 x.who, .int .i64 x.id, .int .i64 x.frame, .int .i64 x.to, .bool x.write]
theorem C.len (x : C) : x.cells.length = 6 := rfl
theorem C.rd {h : Hp} {b o : Nat} (x : C) {K : Int → Int → Int → Int → Int → Bool → Prop} (hr : ∀ j, j < 6 → cellAt h b (o + j) = x.cells[j]?) (hK : K x.what x.who x.id x.frame x.to x.write) :
    ∃ a1 : Int, cellAt h b (o + 0) = some (.int .i64 a1) ∧ ∃ a2 : Int, cellAt h b (o + 1) = some (.int .i64 a2) ∧ ∃ a3 : Int, cellAt h b (o + 2) = some (.int .i64 a3) ∧ ∃ a4 : Int, cellAt h b (o + 3) = some (.int .i64 a4) ∧ ∃ a5 : Int, cellAt h b (o + 4) = some (.int .i64 a5) ∧ ∃ a6 : Bool, cellAt h b (o + 5) = some (.bool a6) ∧ K a1 a2 a3 a4 a5 a6 := by
  exact ⟨_, hr 0 (by omega), _, hr 1 (by omega), _, hr 2 (by omega), _, hr 3 (by omega), _, hr 4 (by omega), _, hr 5 (by omega), hK⟩
theorem C.ret {h : Hp} {b : Nat} {T : TypeId} {l0 : List Value} (hb : bk h b = some (blk T l0)) (hl : l0.length = 6) (v1 : Int) (v2 : Int) (v3 : Int) (v4 : Int) (v5 : Int) (v6 : Bool) {K : Int → Int → Int → Int → Int → Bool → Hp → Prop} (hK : K v1 v2 v3 v4 v5 v6 (upd h b T (C.mk v1 v2 v3 v4 v5 v6).cells)) :
    truly true ∧ ∃ T1 : TypeId, ∃ l : List Value, bk h b = some (blk T1 l) ∧ 0 + 6 ≤ l.length ∧ ∀ h4 : Hp, h4 = upd h b T1 (writeAt l 0 [.int .i64 v1, .int .i64 v2, .int .i64 v3, .int .i64 v4, .int .i64 v5, .bool v6]) → ∃ a1 : Int, cellAt h4 b (0 + 0) = some (.int .i64 a1) ∧ ∃ a2 : Int, cellAt h4 b (0 + 1) = some (.int .i64 a2) ∧ ∃ a3 : Int, cellAt h4 b (0 + 2) = some (.int .i64 a3) ∧ ∃ a4 : Int, cellAt h4 b (0 + 3) = some (.int .i64 a4) ∧ ∃ a5 : Int, cellAt h4 b (0 + 4) = some (.int .i64 a5) ∧ ∃ a6 : Bool, cellAt h4 b (0 + 5) = some (.bool a6) ∧ K a1 a2 a3 a4 a5 a6 h4 := by
  refine ⟨rfl, T, l0, hb, by omega, ?_⟩
  rintro h4 rfl
  have hw : writeAt l0 0 [.int .i64 v1, .int .i64 v2, .int .i64 v3, .int .i64 v4, .int .i64 v5, .bool v6] = (C.mk v1 v2 v3 v4 v5 v6).cells := by
    rw [writeAt_eq _ _ _ (by rw [hl]; exact Nat.le_refl _)]
    have : l0.drop (0 + 6) = [] := List.drop_eq_nil_of_le (by omega)
    simp only [List.take_zero, List.nil_append, List.length_cons, List.length_nil, Nat.zero_add, Nat.reduceAdd] at this ⊢
    rw [this, List.append_nil]; rfl
  rw [hw]
  exact ⟨_, (cell_upd hb _ _ _).trans rfl, _, (cell_upd hb _ _ _).trans rfl, _, (cell_upd hb _ _ _).trans rfl, _, (cell_upd hb _ _ _).trans rfl, _, (cell_upd hb _ _ _).trans rfl, _, (cell_upd hb _ _ _).trans rfl, hK⟩
theorem rows_c {rows : List (List Value)} (hw : ∀ r ∈ rows, wfCells [.int .i64, .int .i64, .int .i64, .int .i64, .int .i64, .bool] r) : ∃ l : List C, rows.length = l.length ∧ rows.flatten = encL C.cells l := by
  obtain ⟨l, h1, h2, _⟩ := rows_enc (f := C.cells) (ok := fun _ => True) (rows := rows) (fun r hr => by
    obtain ⟨v1, r, rfl, h1, h⟩ := wfCells_cons (hw r hr)
    obtain ⟨v2, r, rfl, h2, h⟩ := wfCells_cons h
    obtain ⟨v3, r, rfl, h3, h⟩ := wfCells_cons h
    obtain ⟨v4, r, rfl, h4, h⟩ := wfCells_cons h
    obtain ⟨v5, r, rfl, h5, h⟩ := wfCells_cons h
    obtain ⟨v6, r, rfl, h6, h⟩ := wfCells_cons h
    obtain rfl := wfCells_nil h
    obtain ⟨b1, rfl, _, _⟩ := wfInt h1
    obtain ⟨b2, rfl, _, _⟩ := wfInt h2
    obtain ⟨b3, rfl, _, _⟩ := wfInt h3
    obtain ⟨b4, rfl, _, _⟩ := wfInt h4
    obtain ⟨b5, rfl, _, _⟩ := wfInt h5
    obtain ⟨b6, rfl⟩ := wfBool h6
    exact ⟨⟨b1, b2, b3, b4, b5, b6⟩, rfl, trivial⟩)
  exact ⟨l, h1, h2⟩

/-- What a call makes of the grants. -/
def stepL (L : List G) (c : C) : List G :=
  if c.what = 0 then offerL L c.who c.frame c.to c.write else if c.what = 1 then acceptL L c.id c.who c.frame else if c.what = 2 then leaveL L c.id c.who
  else if c.what = 3 then revokeL L c.id c.who else if c.what = 4 then goneL c.who L else L
theorem Inv.step {L : List G} (g : Inv L) (hl : L.length = 32) (c : C) : Inv (stepL L c) := by
  unfold stepL
  split
  · exact g.offer _ _ _ _
  split
  · exact g.accept hl _ _ _
  split
  · exact g.leave hl _ _
  split
  · exact g.revoke _ _
  split
  · exact g.gone _
  · exact g
theorem gone_none {L : List G} {w : Int} : ∀ x ∈ goneL w L, x.state ≠ 0 → x.owner ≠ w ∧ x.to ≠ w := by
  intro x hx hs
  obtain ⟨j, hj⟩ := List.mem_iff_getElem?.1 hx
  rcases gone_at hj with ⟨_, _, _, rfl⟩ | ⟨_, h⟩
  · exact absurd rfl hs
  · simp [goneP, hs] at h; exact h
theorem wrapN {j n : Nat} (h : j < n) (hn : n ≤ 1000) : IntKind.wrap .i64 ((j : Int) + 1) = ((j + 1 : Nat) : Int) := by rw [wrap_i64 (by omega) (by omega)]; omega

set_option maxHeartbeats 4000000 in
theorem may_law {h : Hp} {a : Option Addr} {c : Nat} {l : List C} (g1 : rowAtK h a (encL C.cells l)) :
    CallsH Try.prog 5 [.slice a l.length c] h fun v h' => v = .bool true ∧ Fr [] h h' := by
  refine calls_k fun R hR => ?_
  apply warderlaw12_GrantMay.calls
  unfold warderlaw12_GrantMay.P
  refine (alive_spec h).mono ?_
  rintro v h1 ⟨rfl, f1⟩
  have yes := fun h' (f : Fr [] h h') => hR (.bool true) h' ⟨rfl, f⟩
  refine ⟨_, rfl, by simp, fun _ => ⟨fun _ => yes _ f1, fun d1 => ?_⟩⟩
  have hn : l.length ≤ 60 := by simp only [decide_eq_false_iff_not] at d1; omega
  refine new_spec.mono ?_
  rintro v h2 ⟨rfl, w2, f2, s2⟩
  refine ⟨_, rfl, ?_⟩
  have z1 := f1.size
  generalize hq : sz h1 = q at *
  refine ⟨fun i h3 => ∃ (k : Nat) (L : List G), i = k ∧ k ≤ l.length ∧ GS h3 q L ∧ Inv L ∧ Fr [] h h3, fun i _ => l.length - i.toNat, ⟨0, _, rfl, by omega, w2, Inv.zero, f1.trans f2⟩, ?_⟩
  rintro i h3 ⟨k, L, rfl, hk, w3, v3, f3⟩
  by_cases hkl : k < l.length
  · refine ⟨fun _ => ?_, fun hf => absurd hf (by simp; omega)⟩
    obtain ⟨c, hc⟩ : ∃ c, l[k]? = some c := ⟨_, List.getElem?_eq_getElem hkl⟩
    obtain ⟨b1, o1, rfl, e1⟩ := encL_one (f := C.cells) (m := 6) C.len (g1.fr f3 (by simp)) hc (by omega)
    refine ⟨by omega, by omega, _, _, rfl, ?_⟩
    refine C.rd c (by simpa using e1) ?_
    refine put_local rfl (by simp) ?_
    intro h5 k5 f5 s5
    have w5 := w3.fr f5 (by simp)
    have hb := w3.lt
    have f5' := f3.trans f5
    have c0 := (cellAt_of k5 0).trans rfl
    have c1 := (cellAt_of k5 1).trans rfl
    have c2 := (cellAt_of k5 2).trans rfl
    have c3 := (cellAt_of k5 3).trans rfl
    have c4 := (cellAt_of k5 4).trans rfl
    have c5 := (cellAt_of k5 5).trans rfl
    have z3 := f3.size
    generalize hbb : sz h3 = b at *
    have hbq : b ∉ [q] := by simp; omega
    have later : ∀ h6, Fr [q] h5 h6 → Fr [] h h6 := fun h6 f6 => f5'.later f6 (by simp; omega)
    refine ⟨fun h6 => GS h6 q (stepL L c) ∧ bk h6 b = some (blk 40 c.cells) ∧ Fr [] h h6, ?_, ?_⟩
    · refine ⟨_, c0, fun d => ⟨_, c1, _, c3, _, c4, _, c5, ?_⟩, fun n0 => ⟨fun d => ⟨_, c2, _, c1, _, c3, ?_⟩, fun n1 => ⟨fun d => ⟨_, c2, _, c1, ?_⟩, fun n2 => ⟨fun d => ⟨_, c2, _, c1, ?_⟩, fun n3 => ⟨fun d => ⟨_, c1, ?_⟩, fun n4 => ?_⟩⟩⟩⟩⟩
      · refine (offer_spec w5 _ _ _ _).mono ?_
        rintro v h6 ⟨rfl, w6, f6⟩
        simp only [beq_iff_eq] at d
        exact ⟨_, _, rfl, by simpa [stepL, d] using w6, f6.at k5 hbq, later _ f6⟩
      · refine (accept_spec w5 _ _ _).mono ?_
        rintro v h6 ⟨rfl, w6, f6⟩
        simp only [beq_iff_eq] at d
        exact ⟨_, _, _, _, _, _, _, rfl, by simpa [stepL, d] using w6, f6.at k5 hbq, later _ f6⟩
      · refine (leave_spec w5 _ _).mono ?_
        rintro v h6 ⟨rfl, w6, f6⟩
        simp only [beq_iff_eq] at d
        exact ⟨_, _, _, _, _, _, _, rfl, by simpa [stepL, d] using w6, f6.at k5 hbq, later _ f6⟩
      · refine (revoke_spec w5 _ _).mono ?_
        rintro v h6 ⟨rfl, w6, f6⟩
        simp only [beq_iff_eq] at d
        exact ⟨_, _, _, _, _, _, _, rfl, by simpa [stepL, d] using w6, f6.at k5 hbq, later _ f6⟩
      · refine (gone_spec w5 _).mono ?_
        rintro v h6 ⟨a6, c6, rfl, _, _, w6, f6⟩
        simp only [beq_iff_eq] at d
        exact ⟨_, _, _, rfl, by simpa [stepL, d] using w6, f6.at k5 hbq, later _ f6⟩
      · simp only [beq_eq_false_iff_ne] at n0 n1 n2 n3 n4
        exact ⟨by simpa [stepL, n0, n1, n2, n3, n4] using w5, k5, f5'⟩
    rintro h6 ⟨w6, k6, f6⟩
    have v6 := v3.step w3.len c
    have hg : c.what = 4 → ∀ x ∈ stepL L c, x.state ≠ 0 → x.owner ≠ c.who ∧ x.to ≠ c.who := by
      intro e
      have : stepL L c = goneL c.who L := by simp [stepL, e]
      rw [this]; exact gone_none
    clear w5 k5 f5 f5' c0 c1 c2 c3 c4 c5 w3 v3 later
    generalize stepL L c = M at *
    have hlt6 := lt_of_bk k6
    have nxt : ∀ h7, GS h7 q M → Fr [] h h7 → (∃ (k' : Nat) (L : List G), IntKind.wrap .i64 ((k : Int) + 1) = k' ∧ k' ≤ l.length ∧ GS h7 q L ∧ Inv L ∧ Fr [] h h7) ∧ l.length - (IntKind.wrap .i64 ((k : Int) + 1)).toNat < l.length - (k : Int).toNat := by
      intro h7 w7 f7
      rw [wrapN hkl (by omega)]
      exact ⟨⟨k + 1, M, rfl, by omega, w7, v6, f7⟩, by omega⟩
    refine ⟨fun i h7 => ∃ j : Nat, i = j ∧ j ≤ 32 ∧ GS h7 q M ∧ bk h7 b = some (blk 40 c.cells) ∧ Fr [] h h7, fun i _ => 32 - i.toNat, ⟨0, rfl, by omega, w6, k6, f6⟩, ?_⟩
    rintro i h7 ⟨j, rfl, hj, w7, k7, f7⟩
    by_cases hj32 : j < 32
    · refine ⟨fun _ => ?_, fun hf => absurd hf (by simp; omega)⟩
      obtain ⟨x, hx⟩ := w7.ex hj32
      refine (get_spec w7 j).mono ?_
      rw [getG_nat hj32 hx]
      rintro v h8 ⟨rfl, f8⟩
      refine ⟨_, _, _, _, _, _, rfl, ?_⟩
      refine put_local rfl (by simp) ?_
      intro h9 k9 f9 s9
      have f79 := f8.trans f9
      have w9 := w7.fr f79 (by simp)
      have kb9 := f79.at k7 (by simp)
      have fr9 := f7.trans f79
      have hjm := wrapN hj32 (by omega)
      have nxj : ∀ h7, GS h7 q M → bk h7 b = some (blk 40 c.cells) → Fr [] h h7 → (∃ j' : Nat, IntKind.wrap .i64 ((j : Int) + 1) = j' ∧ j' ≤ 32 ∧ GS h7 q M ∧ bk h7 b = some (blk 40 c.cells) ∧ Fr [] h h7) ∧ 32 - (IntKind.wrap .i64 ((j : Int) + 1)).toNat < 32 - (j : Int).toNat := by
        intro h7 w7 k7 f7
        rw [hjm]
        exact ⟨⟨j + 1, rfl, by omega, w7, k7, f7⟩, by omega⟩
      have e0 := (cellAt_of k9 0).trans rfl
      have e1 := (cellAt_of k9 1).trans rfl
      have e2 := (cellAt_of k9 2).trans rfl
      have e3 := (cellAt_of k9 3).trans rfl
      have e4 := (cellAt_of k9 4).trans rfl
      have e5 := (cellAt_of k9 5).trans rfl
      refine ⟨fun h10 => h10 = h9, ?_, ?_⟩
      · rcases v6.well j x hx with rfl | ⟨hs, hne, ho1, ho2, ht1, ht2⟩
        · simp only [noG] at e0 e1 e2 e3 e4 e5
          simp [-Bool.exists_bool, and_assoc, e0, e1, e2, e3, e4, e5, notIf]
        · have n1 : ¬ x.owner < 2 := by omega
          have n2 : ¬ 9 < x.to := by omega
          rcases hs with ⟨hs, hp⟩ | hs
          · simp [-Bool.exists_bool, and_assoc, e0, e1, e2, e3, e4, e5, notIf, hs, hp, hne, n1, n2]
          · simp [-Bool.exists_bool, and_assoc, e0, e1, e2, e3, e4, e5, notIf, hs, hne, n1, n2]
      rintro h10 rfl
      refine ⟨_, e0, fun d => ⟨_, e3, _, e2, _, e5, ?_⟩, fun _ => nxj _ w9 kb9 fr9⟩
      have d2 : x.state = 2 := by simpa using d
      obtain ⟨m1, m2⟩ := v6.may hx d2
      refine (May_spec w9 _ _ _).mono ?_
      rintro v h11 ⟨rfl, f11⟩
      refine ⟨_, rfl, fun c => absurd c (by simp [m1]), fun _ => ⟨_, f11.cell e3 (by simp), _, f11.cell e4 (by simp), ?_⟩⟩
      refine (At_spec (w9.fr f11 (by simp)) _ _).mono ?_
      rintro v h12 ⟨rfl, f12⟩
      rw [m2]
      have f912 := f11.trans f12
      exact ⟨_, rfl, fun c => absurd c (by simp), fun _ => nxj _ (w9.fr f912 (by simp)) (f912.at kb9 (by simp)) (fr9.trans f912)⟩
    · refine ⟨fun hf => absurd hf (by simp; omega), fun _ => ?_⟩
      refine ⟨c.what, (cellAt_of k7 0).trans rfl, fun d => ?_, fun _ => nxt _ w7 f7⟩
      have d4 : c.what = 4 := by simpa using d
      refine ⟨fun i h8 => ∃ m : Nat, i = m ∧ m ≤ 12 ∧ GS h8 q M ∧ bk h8 b = some (blk 40 c.cells) ∧ Fr [] h h8, fun i _ => 12 - i.toNat, ⟨0, rfl, by omega, w7, k7, f7⟩, ?_⟩
      rintro i h8 ⟨m, rfl, hm, w8, k8, f8⟩
      by_cases hm12 : m < 12
      · refine ⟨fun _ => ?_, fun hf => absurd hf (by simp; omega)⟩
        refine ⟨c.who, (cellAt_of k8 1).trans rfl, ?_⟩
        refine (May_spec w8 _ _ _).mono ?_
        rintro v h9 ⟨rfl, f9⟩
        have : idx (mayP c.who m false) M = -1 := idx_none (fun x hx => by
          have := hg d4 x hx
          cases hp : mayP c.who m false x
          · rfl
          · simp [mayP] at hp
            exact absurd hp.2.1 (this (by omega)).2)
        rw [this]
        refine ⟨_, rfl, fun c => absurd c (by simp), fun _ => ?_⟩
        rw [wrapN hm12 (by omega)]
        exact ⟨⟨m + 1, rfl, by omega, w8.fr f9 (by simp), f9.at k8 (by simp), f8.trans f9⟩, by show 12 - ((m + 1 : Nat) : Int).toNat < 12 - (m : Int).toNat; omega⟩
      · exact ⟨fun hf => absurd hf (by simp; omega), fun _ => nxt _ w8 f8⟩
  · exact ⟨fun hf => absurd hf (by simp; omega), fun _ => yes _ f3⟩
end Go.Proofs.Ytadghpkdkdphdaa
