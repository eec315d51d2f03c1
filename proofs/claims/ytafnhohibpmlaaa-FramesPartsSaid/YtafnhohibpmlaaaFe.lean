import Derived.Test.YtafnhohibpmlaaaFd
import Derived.Test.YtafnhohibpmlaaaWdRow
namespace Go.Proofs.Ytafnhohibpmlaaa
open Go Go.Wd
set_option linter.unusedVariables false
set_option linter.unusedSimpArgs false

structure C where
  what : Int
  owner : Int
  to : Int
  frame : Int
  deriving DecidableEq
def C.cells (x : C) : List Value := [.int .i64 x.what, .int .i64 x.owner, .int .i64 x.to, .int .i64 x.frame]
theorem C.len (x : C) : x.cells.length = 4 := rfl
theorem C.rd {h : Hp} {b o : Nat} (x : C) {K : Int → Int → Int → Int → Prop} (hr : ∀ j, j < 4 → cellAt h b (o + j) = x.cells[j]?) (hK : K x.what x.owner x.to x.frame) :
    ∃ a1 : Int, cellAt h b (o + 0) = some (.int .i64 a1) ∧ ∃ a2 : Int, cellAt h b (o + 1) = some (.int .i64 a2) ∧ ∃ a3 : Int, cellAt h b (o + 2) = some (.int .i64 a3) ∧ ∃ a4 : Int, cellAt h b (o + 3) = some (.int .i64 a4) ∧ K a1 a2 a3 a4 := by
  exact ⟨_, hr 0 (by omega), _, hr 1 (by omega), _, hr 2 (by omega), _, hr 3 (by omega), hK⟩
theorem C.ret {h : Hp} {b : Nat} {T : TypeId} {l0 : List Value} (hb : bk h b = some (blk T l0)) (hl : l0.length = 4) (v1 : Int) (v2 : Int) (v3 : Int) (v4 : Int) {K : Int → Int → Int → Int → Hp → Prop} (hK : K v1 v2 v3 v4 (upd h b T (C.mk v1 v2 v3 v4).cells)) :
    truly true ∧ ∃ T1 : TypeId, ∃ l : List Value, bk h b = some (blk T1 l) ∧ 0 + 4 ≤ l.length ∧ ∀ h4 : Hp, h4 = upd h b T1 (writeAt l 0 [.int .i64 v1, .int .i64 v2, .int .i64 v3, .int .i64 v4]) → ∃ a1 : Int, cellAt h4 b (0 + 0) = some (.int .i64 a1) ∧ ∃ a2 : Int, cellAt h4 b (0 + 1) = some (.int .i64 a2) ∧ ∃ a3 : Int, cellAt h4 b (0 + 2) = some (.int .i64 a3) ∧ ∃ a4 : Int, cellAt h4 b (0 + 3) = some (.int .i64 a4) ∧ K a1 a2 a3 a4 h4 := by
  refine ⟨rfl, T, l0, hb, by omega, ?_⟩
  rintro h4 rfl
  have hw : writeAt l0 0 [.int .i64 v1, .int .i64 v2, .int .i64 v3, .int .i64 v4] = (C.mk v1 v2 v3 v4).cells := by
    rw [writeAt_eq _ _ _ (by rw [hl]; exact Nat.le_refl _)]
    have : l0.drop (0 + 4) = [] := List.drop_eq_nil_of_le (by omega)
    simp only [List.take_zero, List.nil_append, List.length_cons, List.length_nil, Nat.zero_add, Nat.reduceAdd] at this ⊢
    rw [this, List.append_nil]; rfl
  rw [hw]
  exact ⟨_, (cell_upd hb _ _ _).trans rfl, _, (cell_upd hb _ _ _).trans rfl, _, (cell_upd hb _ _ _).trans rfl, _, (cell_upd hb _ _ _).trans rfl, hK⟩

theorem rows_c {rows : List (List Value)} (hw : ∀ r ∈ rows, wfCells [.int .i64, .int .i64, .int .i64, .int .i64] r) : ∃ l : List C, rows.length = l.length ∧ rows.flatten = encL C.cells l := by
  obtain ⟨l, h1, h2, _⟩ := rows_enc (f := C.cells) (ok := fun _ => True) (rows := rows) (fun r hr => by
    obtain ⟨v1, r, rfl, h1, h⟩ := wfCells_cons (hw r hr)
    obtain ⟨v2, r, rfl, h2, h⟩ := wfCells_cons h
    obtain ⟨v3, r, rfl, h3, h⟩ := wfCells_cons h
    obtain ⟨v4, r, rfl, h4, h⟩ := wfCells_cons h
    obtain rfl := wfCells_nil h
    obtain ⟨b1, rfl, _, _⟩ := wfInt h1
    obtain ⟨b2, rfl, _, _⟩ := wfInt h2
    obtain ⟨b3, rfl, _, _⟩ := wfInt h3
    obtain ⟨b4, rfl, _, _⟩ := wfInt h4
    exact ⟨⟨b1, b2, b3, b4⟩, rfl, trivial⟩)
  exact ⟨l, h1, h2⟩

def stepL (L : List Int) (c : C) : List Int :=
  if c.what = 0 then takeL 1 L c.owner else if c.what = 1 then takeL 64 L c.owner else if c.what = 2 then moveL L c.frame c.owner 0
  else if c.what = 3 then giveL L c.owner else if c.what = 4 then MoveL L c.frame c.owner c.to else L

theorem give_eq {h : Hp} {q ob : Nat} {L : List Int} (w : TS h q ob L) {o : Int} (h0 : o ≠ 0) : giveA L o = posOf o L ∧ giveL L o = freeO o L := by
  cases hs : isSome o
  · have : L.count o = 0 := List.count_eq_zero.2 fun hm => by
      have := w.ok o hm
      simp only [isSome, Bool.and_eq_false_iff, decide_eq_false_iff_not] at hs
      omega
    have hp : posOf o L = [] := List.eq_nil_of_length_eq_zero (by rw [posOf_length, this])
    refine ⟨by simp [giveA, hs, hp], ?_⟩
    rw [← setAll_free o L, hp]
    simp [giveL, hs, setAll]
  · simp [giveA, giveL, hs]

set_option maxHeartbeats 2000000 in
theorem do_spec {h : Hp} {q ob q2 rb : Nat} {L : List Int} (w : TS h q ob L) (r : RS h q2 rb L) (n1 : q ≠ q2) (n2 : q ≠ rb) (n3 : ob ≠ q2) (n4 : ob ≠ rb) (c : C) :
    CallsH Try.prog 11 [.pointer (some ⟨q, 0, none⟩), .pointer (some ⟨q2, 0, none⟩), .agg ⟨c.cells⟩] h fun v h' => v = .bool true ∧ TS h' q ob (stepL L c) ∧ RS h' q2 rb (stepL L c) ∧ Fr [q, ob, rb] h h' := by
  refine calls_k fun R hR => ?_
  apply warderlaw10_do.calls
  unfold warderlaw10_do.P
  rintro h1 rfl
  have f1 : Fr [q, ob, rb] h (new h (blk 32 c.cells)) := Fr.new _ _ _
  have k1 := new_at h (blk 32 c.cells)
  have w1 := w.fr (Fr.new [] h (blk 32 c.cells)) (by simp) (by simp)
  have r1 := r.fr (Fr.new [] h (blk 32 c.cells)) (by simp) (by simp)
  have lq := w.lt
  have lo := w.lto
  have lq2 := r.lt
  have lr := r.lto
  have hl := w.len
  simp only [C.cells] at f1 k1 w1 r1
  generalize new h (blk 32 [.int .i64 c.what, .int .i64 c.owner, .int .i64 c.to, .int .i64 c.frame]) = h1 at *
  generalize hb : sz h = b at *
  have c0 := (cellAt_of k1 0).trans rfl
  have c1 := (cellAt_of k1 1).trans rfl
  have c2 := (cellAt_of k1 2).trans rfl
  have c3 := (cellAt_of k1 3).trans rfl
  have hbq : b ∉ [q, ob] := by simp; omega
  have hbr : b ∉ [rb] := by simp; omega
  have hq2 : q2 ∉ [q, ob] := by simp; omega
  have hrb : rb ∉ [q, ob] := by simp; omega
  have hqr : q ∉ [rb] := by simpa using n2
  have hor : ob ∉ [rb] := by simpa using n4
  refine ⟨_, c0, fun d => ⟨_, c1, ?_⟩, fun m0 => ⟨fun d => ⟨_, c1, ?_⟩, fun m1 => ⟨fun d => ⟨_, c1, _, c3, _, c3, _, c1, ?_⟩, fun m2 => ⟨fun d => ⟨_, c1, ?_⟩, fun m3 => ⟨fun d => ?_, fun m4 => ?_⟩⟩⟩⟩⟩
  · simp only [beq_iff_eq] at d
    refine (Take_spec w1 _).mono ?_
    rintro v h2 ⟨rfl, w2, f2⟩
    refine ⟨_, _, rfl, _, f2.cell c1 hbq, ?_⟩
    refine (rTake_spec (r1.fr f2 hq2 hrb) hl _ (n := 1) (by omega) (by omega)).mono ?_
    rintro v h3 ⟨rfl, r3, f3⟩
    refine ⟨_, _, rfl, fun _ => hR _ _ ⟨by rw [beq_self_eq_true], ?_, ?_, (f1.trans (f2.mono (by simp))).trans (f3.mono (by simp))⟩, fun c => absurd c (by simp)⟩
    · simpa [stepL, d] using w2.fr f3 hqr hor
    · simpa [stepL, d] using r3
  · simp only [beq_iff_eq] at d
    refine (TakeRun_spec w1 _).mono ?_
    rintro v h2 ⟨rfl, w2, f2⟩
    refine ⟨_, _, rfl, _, f2.cell c1 hbq, ?_⟩
    refine (rTake_spec (r1.fr f2 hq2 hrb) hl _ (n := 64) (by omega) (by omega)).mono ?_
    rintro v h3 ⟨rfl, r3, f3⟩
    refine ⟨_, _, rfl, fun _ => hR _ _ ⟨by rw [beq_self_eq_true], ?_, ?_, (f1.trans (f2.mono (by simp))).trans (f3.mono (by simp))⟩, fun c => absurd c (by simp)⟩
    · simpa [stepL, d] using w2.fr f3 hqr hor
    · simpa [stepL, d] using r3
  · simp only [beq_iff_eq] at d
    refine (Give_spec w1 _ _).mono ?_
    rintro v h2 ⟨rfl, w2, f2⟩
    refine ⟨_, rfl, f2.cell c3 hbq, f2.cell c1 hbq, ?_⟩
    refine (rMove_spec (r1.fr f2 hq2 hrb) _ _ 0).mono ?_
    rintro v h3 ⟨rfl, r3, f3⟩
    refine ⟨_, rfl, hR _ _ ⟨by simp, ?_, ?_, (f1.trans (f2.mono (by simp))).trans (f3.mono (by simp))⟩⟩
    · simpa [stepL, d] using w2.fr f3 hqr hor
    · simpa [stepL, d] using r3
  · simp only [beq_iff_eq] at d
    have hst : stepL L c = giveL L c.owner := by simp [stepL, d]
    rw [hst] at hR
    refine (GiveAll_spec w1 c.owner).mono ?_
    rintro v h2 ⟨a, cc, rfl, ra, fa, w2, f2⟩
    have r2 := r1.fr f2 hq2 hrb
    refine ⟨_, _, _, rfl, _, f2.cell c1 hbq, fun e0 => ?_, fun e0 => ⟨_, f2.cell c1 hbq, ?_⟩⟩
    · have e0 : c.owner = 0 := by simpa using e0
      have hs : isSome c.owner = false := by rw [e0]; rfl
      simp only [giveA, giveL, hs, Bool.false_eq_true, if_false] at hR w2 ⊢
      exact hR _ _ ⟨rfl, w2, r2, f1.trans (f2.mono (by simp))⟩
    · have e0 : c.owner ≠ 0 := by simpa using e0
      obtain ⟨g1, g2⟩ := give_eq w e0
      rw [g1] at ra ⊢
      rw [g2] at w2 hR
      refine (rList_spec r2 hl c.owner).mono ?_
      rintro v h3 ⟨a3, cc3, rfl, ra3, fa3, f3⟩
      refine ⟨_, _, _, rfl, ?_⟩
      have f12 := f1.trans (f2.mono (G := [q, ob, rb]) (by simp))
      have hpl : (posOf c.owner L).length ≤ 1024 := by rw [posOf_length]; exact Nat.le_trans List.count_le_length hl
      have z1 := f1.size
      have z12 := f12.size
      have hf1 : ∀ y ∈ foot a, y ∉ [rb] := fun y hy => by have := (fa y hy).1; simp; omega
      have hf3 : ∀ y ∈ foot a3, y ∉ [rb] := fun y hy => by have := (fa3 y hy).1; simp; omega
      refine ⟨fun i h4 => ∃ k : Nat, i = k ∧ k ≤ (posOf c.owner L).length ∧ RS h4 q2 rb (setAll L ((posOf c.owner L).take k)) ∧ Fr [rb] h3 h4, fun i _ => (posOf c.owner L).length - i.toNat, ⟨0, rfl, by omega, by simpa [setAll] using r2.fr f3 (by simp) (by simp), Fr.refl _ _⟩, ?_⟩
      rintro i h4 ⟨k, rfl, hk, r4, f4⟩
      by_cases hkl : k < (posOf c.owner L).length
      · obtain ⟨f, hf⟩ : ∃ f, (posOf c.owner L)[k]? = some f := ⟨_, List.getElem?_eq_getElem hkl⟩
        obtain ⟨b1, o1, rfl, e1⟩ := row_cell (ra3.fr f4 hf3) hf
        obtain ⟨fk, rfl, hfk⟩ := pos_mem (List.mem_of_getElem? hf)
        have hfl := (List.getElem?_eq_some_iff.1 hfk).1
        have hlm : fk < (setAll L ((posOf c.owner L).take k)).length := by rw [setAll_len]; exact hfl
        refine ⟨fun _ => ⟨_, _, _, r4.row, by omega, by omega, _, _, rfl, _, e1, by omega, by omega, _, _, rfl, truly_rfl, _, _, r4.arr.hq, arr_room r4.arr hlm, ?_⟩, fun hf => absurd hf (by simp; omega)⟩
        rintro h5 rfl
        rw [wrapN hkl (by omega)]
        refine ⟨⟨k + 1, rfl, by omega, ?_, f4.trans (Fr.upd (F := [rb]) (by simp) _ _ _)⟩, dec hkl⟩
        rw [take_one hf, setAll_snoc, Int.toNat_natCast]
        exact r4.put hlm 0
      · have : k = (posOf c.owner L).length := by omega
        subst this
        rw [List.take_length, setAll_free] at r4
        refine ⟨fun hf => absurd hf (by simp), fun _ => ?_⟩
        refine (Same_spec (c := cc) (d := cc3) ((ra.fr f3 (by simp)).fr f4 hf1) (ra3.fr f4 hf3) (by omega)).mono ?_
        rintro v h5 ⟨rfl, rfl⟩
        exact ⟨_, rfl, hR _ _ ⟨by simp, (w2.fr f3 (by simp) (by simp)).fr f4 hqr hor, r4, (f12.trans (f3.mono (by simp))).trans (f4.mono (by simp))⟩⟩
  · simp only [beq_iff_eq] at d
    have hst : stepL L c = MoveL L c.frame c.owner c.to := by simp [stepL, d]
    rw [hst] at hR
    refine ⟨fun want h14 => want = MoveE L c.frame c.owner c.to ∧ RS h14 q2 rb (MoveL L c.frame c.owner c.to) ∧ Fr [rb] h1 h14, ⟨_, c2, fun e => ⟨_, c3, _, c1, _, c2, ?_⟩, fun e => ?_⟩, ?_⟩
    · refine (rMove_spec r1 _ _ _).mono ?_
      have e : ¬ c.to = 0 := by simpa using e
      rw [if_neg e, if_neg e]
      rintro v h2 ⟨rfl, r2, f2⟩
      exact ⟨_, rfl, rfl, r2, f2⟩
    · have e : c.to = 0 := by simpa using e
      have hs : isSome c.to = false := by rw [e]; rfl
      simp only [MoveE, MoveL, hs, Bool.false_eq_true, if_false]
      exact ⟨trivial, r1, Fr.refl _ _⟩
    rintro want h2 ⟨rfl, r2, f2⟩
    refine ⟨_, f2.cell c3 hbr, _, f2.cell c1 hbr, _, f2.cell c2 hbr, ?_⟩
    refine (Move_spec (w1.fr f2 hqr hor) _ _ _).mono ?_
    rintro v h3 ⟨rfl, w3, f3⟩
    exact ⟨_, rfl, hR _ _ ⟨by simp, w3, r2.fr f3 hq2 hrb, (f1.trans (f2.mono (by simp))).trans (f3.mono (by simp))⟩⟩
  · simp only [beq_eq_false_iff_ne] at m0 m1 m2 m3 m4
    have hst : stepL L c = L := by simp [stepL, m0, m1, m2, m3, m4]
    rw [hst] at hR
    exact hR _ _ ⟨rfl, w1, r1, f1⟩

theorem owners_spec {h : Hp} {q ob : Nat} {L : List Int} (w : TS h q ob L) :
    CallsH Try.prog 17 [.pointer (some ⟨q, 0, none⟩), .int .i64 (L.length : Nat)] h fun v h' => ∃ a c, v = .slice a L.length c ∧ rowAtK h' a (encL iN L) ∧ (∀ y ∈ foot a, sz h ≤ y ∧ y < sz h') ∧ Fr [] h h' := by
  refine calls_k fun R hR => ?_
  apply warderlaw10_owners.calls
  unfold warderlaw10_owners.P
  have hl := w.len
  rintro h2 rfl
  have f2 : Fr [] h (new h (blk 3 [])) := Fr.new _ _ _
  have k2 := new_at h (blk 3 [])
  have w2 := w.fr f2 (by simp) (by simp)
  generalize new h (blk 3 []) = h2 at *
  refine ⟨fun oa ol oc i h3 => ∃ k : Nat, i = k ∧ k ≤ L.length ∧ ol = k ∧ Own h3 3 1 oa ol oc (encL iN (L.take k)) ∧ (∀ y ∈ foot oa, sz h ≤ y) ∧ TS h3 q ob L ∧ Fr [] h h3, fun _ _ _ i _ => L.length - i.toNat,
    ⟨0, rfl, by omega, rfl, ⟨rfl, .inr ⟨_, [], rfl, k2, rfl, by omega⟩⟩, by simp [foot], w2, f2⟩, ?_⟩
  rintro oa ol oc i h3 ⟨k, rfl, hk, rfl, o3, fo, w3, f3⟩
  have lq := w.lt
  have lo := w.lto
  by_cases hkl : ol < L.length
  · obtain ⟨x, hx⟩ : ∃ x, L[ol]? = some x := ⟨_, List.getElem?_eq_getElem hkl⟩
    refine ⟨fun _ => ?_, fun hf => absurd hf (by simp; omega)⟩
    refine (Owner_spec w3 ol).mono ?_
    rw [ownerOf_nat hx]
    rintro v h4 ⟨rfl, rfl⟩
    refine ⟨_, rfl, ?_⟩
    intro h5 h5e
    refine append_new (h0 := h) (F := []) o3 rfl f3 (fun y hy => .inr (fo y hy)) rfl rfl h5e (by omega) (by omega) ?_
    intro a' c' h5 o5 f5 g5 l5 t5
    have hge : ∀ y ∈ foot a', sz h ≤ y := by
      intro y hy
      rcases t5 with rfl | t5
      · exact fo y hy
      · have := t5 y hy; have := f3.size; omega
    rw [wrapN hkl (by omega)]
    refine ⟨⟨ol + 1, rfl, by omega, rfl, ?_, hge, w3.fr l5 (fun hq => by have := fo _ hq; omega) (fun hq => by have := fo _ hq; omega), f5⟩, dec hkl⟩
    rw [take_one hx, encL_append]
    exact o5
  · have : ol = L.length := by omega
    subst this
    rw [List.take_length] at o3
    exact ⟨fun hf => absurd hf (by simp), fun _ => hR _ _ ⟨oa, oc, rfl, o3.row, fun y hy => ⟨fo y hy, o3.foot_lt y hy⟩, f3⟩⟩

def a0 : List Int := List.replicate 130 0
def a1 : List Int := takeL 1 a0 2
def a2 : List Int := takeL 1 a1 3
def a3 : List Int := moveL a2 0 2 0
def a4 : List Int := takeL 1 a3 4
def a5 : List Int := takeL 64 a4 5
def a6 : List Int := takeL 64 a5 5
def a7 : List Int := MoveL a6 1 3 6
def a8 : List Int := moveL a7 1 3 0
def a9 : List Int := giveL a8 5
set_option maxRecDepth 100000 in
theorem a_facts : (takeN 1 a0 2 = 0 ∧ takeN 1 a1 3 = 1 ∧ moveE a2 0 2 = 0 ∧ takeN 1 a3 4 = 0 ∧ takeE 1 a3 4 = 0 ∧ takeN 64 a4 5 = 64 ∧ takeE 64 a4 5 = 0 ∧ takeE 64 a5 5 = 15) ∧ (MoveE a6 1 3 6 = 0 ∧ moveE a7 1 3 = 16 ∧ ownerOf a8 1 = 6 ∧ ownerOf a8 130 = -1 ∧ a8.count 5 = 64 ∧ (giveA a8 5).length = 64 ∧ a9.count 5 = 0 ∧ posOf 4 a9 = [0]) := by
  decide +kernel
theorem alive_spec (h : Hp) : CallsH Try.prog 8 [] h fun v h' => v = .bool true ∧ Fr [] h h' := by
  refine calls_k fun R hR => ?_
  apply warderlaw10_alive.calls
  unfold warderlaw10_alive.P
  obtain ⟨⟨e1, e2, e3, e4, e5, e6, e7, e8⟩, e9, e10, e11, e12, e13, e14, e15, e16⟩ := a_facts
  refine (new_spec (n := 130) (by omega) (by omega)).mono ?_
  rintro v h1 ⟨rfl, w1, f1, s1⟩
  have gq : ∀ y ∈ [sz h + 1, sz h], sz h ≤ y := by simp
  generalize sz h + 1 = q at *
  generalize hob : sz h = ob at *
  have w1 : TS h1 q ob a0 := w1
  refine ⟨_, _, rfl, fun h2 => h2 = h1, ⟨fun hc => absurd hc (by simp), fun _ => ⟨fun hc => absurd hc (by simp [notIf]), fun _ => rfl⟩⟩, ?_⟩
  rintro h2 rfl
  refine (Take_spec w1 2).mono ?_
  rintro v h2 ⟨rfl, w2, f2⟩
  refine ⟨_, _, rfl, ?_⟩
  refine (Take_spec (L := a1) w2 3).mono ?_
  rintro v h3 ⟨rfl, w3, f3⟩
  refine ⟨_, _, rfl, ?_⟩
  refine (Give_spec (L := a2) w3 2 0).mono ?_
  rintro v h4 ⟨rfl, w4, f4⟩
  refine ⟨_, rfl, ?_⟩
  refine (Take_spec (L := a3) w4 4).mono ?_
  rintro v h5 ⟨rfl, w5, f5⟩
  refine ⟨_, _, rfl, ?_⟩
  refine (TakeRun_spec (L := a4) w5 5).mono ?_
  rintro v h6 ⟨rfl, w6, f6⟩
  refine ⟨_, _, rfl, ?_⟩
  refine (TakeRun_spec (L := a5) w6 5).mono ?_
  rintro v h7 ⟨rfl, w7, f7⟩
  refine ⟨_, _, rfl, ?_⟩
  refine (Move_spec (L := a6) w7 1 3 6).mono ?_
  rintro v h8 ⟨rfl, w8, f8⟩
  refine ⟨_, rfl, ?_⟩
  refine (Give_spec (L := a7) w8 3 1).mono ?_
  rintro v h9 ⟨rfl, w9, f9⟩
  have w9 : TS h9 q ob a8 := w9
  rw [e1, e2, e3, e4, e5, e6, e7, e8, e9, e10]
  refine ⟨_, rfl, fun _ => ⟨fun _ => ⟨fun _ => ⟨fun _ => ⟨fun _ => ⟨fun _ => ⟨fun _ => ⟨fun _ => ⟨fun _ => ⟨fun _ => ?_, fun c => absurd c (by simp)⟩, fun c => absurd c (by simp)⟩, fun c => absurd c (by simp)⟩, fun c => absurd c (by simp)⟩, fun c => absurd c (by simp)⟩, fun c => absurd c (by simp)⟩, fun c => absurd c (by simp)⟩, fun c => absurd c (by simp)⟩, fun c => absurd c (by simp)⟩, fun c => absurd c (by simp)⟩
  refine (Owner_spec w9 1).mono ?_
  rw [e11]
  rintro v h10 ⟨rfl, rfl⟩
  refine ⟨_, rfl, fun _ => ?_, fun c => absurd c (by simp)⟩
  refine (Owner_spec w9 130).mono ?_
  rw [e12]
  rintro v h10 ⟨rfl, rfl⟩
  refine ⟨_, rfl, fun _ => ?_, fun c => absurd c (by simp)⟩
  refine (Count_spec w9 5).mono ?_
  rw [e13]
  rintro v h10 ⟨rfl, rfl⟩
  refine ⟨_, rfl, fun _ => ?_, fun c => absurd c (by simp)⟩
  refine (GiveAll_spec w9 5).mono ?_
  rw [e14]
  rintro v h11 ⟨a, cc, rfl, _, _, w11, f11⟩
  refine ⟨_, _, _, rfl, fun _ => ?_, fun c => absurd c (by simp)⟩
  refine (Count_spec (L := a9) w11 5).mono ?_
  rw [e15]
  rintro v h12 ⟨rfl, rfl⟩
  refine ⟨_, rfl, fun _ => ?_, fun c => absurd c (by simp)⟩
  refine (List_spec (L := a9) w11 4).mono ?_
  rw [e16]
  rintro v h13 ⟨a4, c4, rfl, r4, _, f13⟩
  refine ⟨_, _, _, rfl, ?_⟩
  rintro h14 rfl
  have f14 : Fr [] h13 (new h13 (blk 3 [.int .i64 0])) := Fr.new _ _ _
  have rr : rowAtK (new h13 (blk 3 [.int .i64 0])) (some ⟨sz h13, 0, none⟩) (encL iN [0]) := .inr ⟨_, 0, rfl, readAt_of (new_at _ _) 0 _ rfl⟩
  refine (Same_spec (c := c4) (d := 1) (r4.fr f14 (by simp)) rr (by simp)).mono ?_
  rintro v h15 ⟨rfl, rfl⟩
  refine ⟨_, rfl, hR _ _ ⟨by simp, ?_⟩⟩
  have ff := (((((((f2.trans f3).trans f4).trans f5).trans f6).trans f7).trans f8).trans f9).trans f11
  exact ((f1.fresh ff (fun x hx => .inr (by rw [hob]; rcases List.mem_cons.1 hx with rfl | hx; exact gq _ (by simp); exact gq _ (by simp at hx; simp [hx])))).trans f13).trans f14
end Go.Proofs.Ytafnhohibpmlaaa
