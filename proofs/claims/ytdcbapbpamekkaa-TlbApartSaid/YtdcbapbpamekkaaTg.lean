import Derived.Test.YtdcbapbpamekkaaTf
namespace Go.Proofs.Ytdcbapbpamekkaa
open Go Go.Wd
set_option linter.unusedVariables false
set_option linter.unusedSimpArgs false

set_option maxRecDepth 4000 in
theorem alive_spec (h : Hp) : CallsH Try.prog 6 [] h fun v h' => v = .bool true ∧ Fr [] h h' := by
  refine calls_k fun R hR => ?_
  apply warderlaw09_alive.calls
  unfold warderlaw09_alive.P
  refine (New_spec 2).mono ?_
  rintro v h1 ⟨f1, ⟨hn, _⟩ | ⟨_, _, rfl, w1⟩⟩
  · omega
  refine ⟨_, _, rfl, ?_⟩
  refine ⟨fun h2 => h2 = h1, ⟨fun hn => by simp at hn, fun _ => ⟨fun hn => by simp [notIf] at hn, fun _ => rfl⟩⟩, ?_⟩
  rintro h2 rfl
  refine (Fill_spec w1 ⟨1, 2, 3, false, false⟩).mono ?_
  rintro _ h3 ⟨rfl, w3, f3⟩
  refine ⟨rfl, ?_⟩
  refine (Fill_spec w3 ⟨1, 3, 4, false, false⟩).mono ?_
  rintro _ h4 ⟨rfl, w4, f4⟩
  refine ⟨rfl, ?_⟩
  refine (Fill_spec w4 ⟨2, 2, 5, true, false⟩).mono ?_
  rintro _ h5 ⟨rfl, w5, f5⟩
  refine ⟨rfl, ?_⟩
  have f15 : Fr [] h h5 := f1.later ((f3.trans f4).trans f5) (by simp)
  clear f1 f3 f4 f5 w1 w3 w4
  replace w5 : TS h5 (sz h + 2) (sz h) (sz h + 1) [some ⟨2, 2, 5, true, false⟩, some ⟨1, 3, 4, false, false⟩] 1 := w5
  refine (Find_spec w5 1 2).mono ?_
  rintro _ h6 ⟨rfl, f6⟩
  refine ⟨_, _, _, _, _, _, rfl, ?_⟩
  refine put_local rfl (by decide) ?_
  intro h8 b8 f8 s8
  have w8 := (w5.fr0 f6).fr0 f8
  refine (Find_spec w8 2 2).mono ?_
  rintro _ h9 ⟨rfl, f9⟩
  refine ⟨_, _, _, _, _, _, rfl, ?_⟩
  refine put_local rfl (by decide) ?_
  intro h11 b11 f11 s11
  have w11 := (w8.fr0 f9).fr0 f11
  have z8 := w8.lq
  have z9 := f9.size
  refine (Drop_spec w11 1 3).mono ?_
  rintro _ h12 ⟨rfl, w12, f12⟩
  refine ⟨_, rfl, ?_⟩
  refine (DropAll_spec w12 1).mono ?_
  rintro _ h13 ⟨rfl, w13, f13⟩
  refine ⟨_, rfl, ?_⟩
  have f13' := f12.trans f13
  have b13 := f13'.at b11 (by simp; omega)
  have g13 : Fr [] h h13 := (((f15.trans f6).trans f8).trans (f9.trans f11)).later f13' (by simp)
  replace w13 : TS h13 (sz h + 2) (sz h) (sz h + 1) [some ⟨2, 2, 5, true, false⟩, none] 1 := w13
  refine ⟨fun _ => ⟨fun _ => ⟨fun _ => ⟨fun _ => ?_, fun hn => absurd hn (by decide)⟩, fun hn => absurd hn (by decide)⟩, fun hn => absurd hn (by decide)⟩, fun hn => absurd hn (by decide)⟩
  refine ⟨5, (cellAt_of b13 2).trans rfl, fun _ => ⟨true, (cellAt_of b13 3).trans rfl, fun _ => ?_, fun hn => (by cases hn)⟩, fun hn => absurd hn (by decide)⟩
  refine (List_spec w13).mono ?_
  rintro _ h14 ⟨a, c, rfl, o14, fa, f14⟩
  refine ⟨_, _, _, rfl, fun _ => ?_, fun hn => absurd hn (by decide)⟩
  refine (DropFrame_spec (w13.fr0 f14) 5).mono ?_
  rintro _ h15 ⟨rfl, w15, f15'⟩
  refine ⟨_, rfl, fun _ => ?_, fun hn => absurd hn (by decide)⟩
  refine (List_spec w15).mono ?_
  rintro _ h16 ⟨a2, c2, rfl, o16, fa2, f16⟩
  exact ⟨_, _, _, rfl, hR _ _ ⟨rfl, ((g13.trans f14).later f15' (by simp)).trans f16⟩⟩

/-! ## a TLB and the document's -/
theorem fillL_len (L : List (Option S)) (nx : Nat) (s : S) : (fillL L nx s).1.length = L.length := by
  unfold fillL; split <;> simp
theorem dropL_len (f : S → Bool) (L : List (Option S)) : (dropL f L).length = L.length := by simp [dropL]
theorem RS.apart {h h' : Hp} {q pl mp rq rpl : Nat} {L L2 : List (Option S)} {nx nx2 : Nat} (r : RS h rq rpl L2 nx2) (t : TS h q pl mp L nx) (k : Fr [q, pl, mp] h h') : RS h' rq rpl L2 nx2 := by
  obtain ⟨A, hA, _⟩ := t.hpl
  obtain ⟨M, c, hM, _⟩ := t.hmp
  have ne : ∀ {x y : Nat} {o o' : Obj}, bk h x = some o → bk h y = some o' → o ≠ o' → x ≠ y := by
    intro x y o o' hx hy hn e; subst e; rw [hx] at hy; exact hn (Option.some.inj hy)
  refine r.fr k ?_ ?_
  · simp only [List.mem_cons, List.not_mem_nil, or_false, not_or]
    exact ⟨ne r.hq t.hq (by simp [blk]), ne r.hq hA (by simp [blk]), ne r.hq hM (by simp [blk])⟩
  · simp only [List.mem_cons, List.not_mem_nil, or_false, not_or]
    exact ⟨ne r.hpl t.hq (by simp [blk]), ne r.hpl hA (by simp [blk]), ne r.hpl hM (by simp [blk])⟩
theorem TS.apartR {h h' : Hp} {q pl mp rq rpl : Nat} {L L2 : List (Option S)} {nx nx2 : Nat} (t : TS h q pl mp L nx) (r : RS h rq rpl L2 nx2) (k : Fr [rq, rpl] h h') : TS h' q pl mp L nx := by
  obtain ⟨A, hA, _⟩ := t.hpl
  obtain ⟨M, c, hM, _⟩ := t.hmp
  have ne : ∀ {x y : Nat} {o o' : Obj}, bk h x = some o → bk h y = some o' → o ≠ o' → x ≠ y := by
    intro x y o o' hx hy hn e; subst e; rw [hx] at hy; exact hn (Option.some.inj hy)
  refine t.fr k ?_ ?_ ?_ ?_
  · simp only [List.mem_cons, List.not_mem_nil, or_false, not_or]
    exact ⟨ne t.hq r.hq (by simp [blk]), ne t.hq r.hpl (by simp [blk])⟩
  · simp only [List.mem_cons, List.not_mem_nil, or_false, not_or]
    exact ⟨ne hA r.hq (by simp [blk]), ne hA r.hpl (by simp [blk])⟩
  · simp only [List.mem_cons, List.not_mem_nil, or_false, not_or]
    exact ⟨ne hM r.hq (by simp [blk]), ne hM r.hpl (by simp [blk])⟩
  · intro x hx T l hb
    simp only [List.mem_cons, List.not_mem_nil, or_false] at hx
    rcases hx with rfl | rfl
    · rw [r.hq] at hb; cases hb; decide
    · rw [r.hpl] at hb; cases hb; decide
structure St (h0 h : Hp) (q pl mp rq rpl n : Nat) (L : List (Option S)) (nx : Nat) : Prop where
  t : TS h q pl mp L nx
  r : RS h rq rpl L nx
  len : L.length = n
  gq : sz h0 ≤ q
  gp : sz h0 ≤ pl
  gm : sz h0 ≤ mp
  grq : sz h0 ≤ rq
  grp : sz h0 ≤ rpl
  f : Fr [] h0 h
section
variable {h0 h h' : Hp} {q pl mp rq rpl n : Nat} {L L' : List (Option S)} {nx nx' : Nat}
theorem St.fr0 (w : St h0 h q pl mp rq rpl n L nx) (k : Fr [] h h') : St h0 h' q pl mp rq rpl n L nx :=
  ⟨w.t.fr0 k, w.r.fr0 k, w.len, w.gq, w.gp, w.gm, w.grq, w.grp, w.f.trans k⟩
theorem St.later1 (w : St h0 h q pl mp rq rpl n L nx) {F : List Nat} (k : Fr F h h') (hF : F ⊆ [q, pl, mp]) : Fr [] h0 h' := w.f.later (k.sub hF) (by
  intro x hx; simp only [List.mem_cons, List.not_mem_nil, or_false] at hx
  rcases hx with rfl | rfl | rfl
  · exact w.gq
  · exact w.gp
  · exact w.gm)
theorem St.ge1 (w : St h0 h q pl mp rq rpl n L nx) : ∀ x ∈ [q, pl, mp], sz h0 ≤ x := by
  intro x hx; simp only [List.mem_cons, List.not_mem_nil, or_false] at hx
  rcases hx with rfl | rfl | rfl
  · exact w.gq
  · exact w.gp
  · exact w.gm
theorem St.lt1 (w : St h0 h q pl mp rq rpl n L nx) : ∀ x ∈ [q, pl, mp], x < sz h := by
  intro x hx; simp only [List.mem_cons, List.not_mem_nil, or_false] at hx
  rcases hx with rfl | rfl | rfl
  · exact w.t.lq
  · exact w.t.lpl
  · exact w.t.lmp
/-- A call of the one, and behind it the same of the other. -/
theorem St.both {h2 : Hp} (w : St h0 h q pl mp rq rpl n L nx) (t' : TS h' q pl mp L' nx') (k : Fr [q, pl, mp] h h') (r' : RS h2 rq rpl L' nx') (k2 : Fr [rq, rpl] h' h2) (hl : L'.length = L.length) : St h0 h2 q pl mp rq rpl n L' nx' := by
  have r1 := w.r.apart w.t k
  refine ⟨t'.apartR r1 k2, r', hl.trans w.len, w.gq, w.gp, w.gm, w.grq, w.grp, (w.later1 k (by simp)).later k2 ?_⟩
  intro x hx; simp only [List.mem_cons, List.not_mem_nil, or_false] at hx
  rcases hx with rfl | rfl
  · exact w.grq
  · exact w.grp
end
theorem find_at {L : List (Option S)} (v p : Int) : (findL L v p = none ∧ atI L v p = -1) ∨ ∃ (k : Nat) (s : S), findL L v p = some s ∧ atI L v p = (k : Int) ∧ L[k]? = some (some s) ∧ s.is v p = true := by
  cases hat : atK L v p with
  | none => exact .inl ⟨by unfold findL; rw [hat], by unfold atI; rw [hat]⟩
  | some k =>
    obtain ⟨s, hs, hi⟩ := atK_some hat
    exact .inr ⟨k, s, by unfold findL; rw [hat]; simp only [hs, Option.getD_some], by unfold atI; rw [hat], hs, hi⟩
def Inv (h0 : Hp) (q pl mp n : Nat) (len : Nat) (r : Option Addr) (i : Int) (h : Hp) : Prop :=
  ∃ (k rq rpl : Nat) (L : List (Option S)) (nx : Nat), i = k ∧ k ≤ len ∧ r = some ⟨rq, 0, none⟩ ∧ St h0 h q pl mp rq rpl n L nx
def Mid (h0 : Hp) (q pl mp n : Nat) (r : Option Addr) (h : Hp) : Prop :=
  ∃ (rq rpl : Nat) (L : List (Option S)) (nx : Nat), r = some ⟨rq, 0, none⟩ ∧ St h0 h q pl mp rq rpl n L nx

set_option maxHeartbeats 4000000 in
theorem calls_law {h : Hp} (room : Int) {a : Option Addr} {c : Nat} {cs : List Cl} (g : rowAtK h a (encL Cl.cells cs)) (v p : Int) :
    CallsH Try.prog 4 [.int .i64 room, .slice a cs.length c, .int .i64 v, .int .i64 p] h fun v h' => v = .bool true ∧ Fr [] h h' := by
  refine calls_k fun R hR => ?_
  apply warderlaw09_TlbCalls.calls
  unfold warderlaw09_TlbCalls.P
  refine (alive_spec h).mono ?_
  rintro _ h1 ⟨rfl, f1⟩
  refine ⟨_, rfl, fun hn => (by cases hn), fun _ => ⟨fun _ => hR _ _ ⟨rfl, f1⟩, fun hn => ?_⟩⟩
  have hlen : cs.length ≤ 100 := by
    have h1 : (cs.length : Int) ≤ 100 := by simpa using hn
    omega
  refine (New_spec room).mono ?_
  rintro _ h2 ⟨f2, ⟨hn, rfl⟩ | ⟨hr1, hr2, rfl, w2⟩⟩
  · refine ⟨_, _, rfl, fun _ => False, ⟨fun _ => ⟨fun _ => hR _ _ ⟨rfl, f1.trans f2⟩, fun hx => (by cases hx)⟩, fun c1 => ⟨fun _ => ⟨fun _ => hR _ _ ⟨rfl, f1.trans f2⟩, fun hx => (by cases hx)⟩, fun c2 => ?_⟩⟩, fun _ hf => hf.elim⟩
    simp only [decide_eq_false_iff_not] at c1 c2
    omega
  refine ⟨_, _, rfl, fun h3 => h3 = h2, ⟨fun c1 => ?_, fun _ => ⟨fun c1 => ?_, fun _ => rfl⟩⟩, ?_⟩
  · simp only [decide_eq_true_eq] at c1; omega
  · simp only [decide_eq_true_eq] at c1; omega
  rintro h3 rfl
  refine ⟨fun h4 => h4 = h3, ⟨fun hn => (by cases hn), fun _ => ⟨fun hn => (by cases hn), fun _ => rfl⟩⟩, ?_⟩
  rintro h4 rfl
  refine (rNew_spec h4 hr1 hr2).mono ?_
  rintro _ h5 ⟨rq, rpl, rfl, r5, hq5, hp5, f5⟩
  have z1 := f1.size
  have z2 := f2.size
  have st5 : St h h5 (sz h1 + 2) (sz h1) (sz h1 + 1) rq rpl room.toNat (List.replicate room.toNat none) 0 := ⟨w2.fr0 f5, r5, by simp, by omega, by omega, by omega, by omega, by omega, (f1.trans f2).trans f5⟩
  clear r5 w2
  generalize sz h1 + 2 = q at *
  generalize sz h1 + 1 = mp at *
  generalize sz h1 = pl at *
  have g5 := g.fr st5.f (by simp)
  clear hq5 hp5 f5 f2 f1 z1 z2
  refine ⟨_, rfl, ?_⟩
  refine ⟨Inv h q pl mp room.toNat cs.length, fun _ i _ => cs.length - i.toNat, ⟨0, rq, rpl, _, _, rfl, by omega, rfl, st5⟩, ?_⟩
  clear st5 g5
  rintro r i h6 ⟨k, rq, rpl, L, nx, rfl, hk, rfl, st⟩
  refine ⟨fun hc => ?_, fun hc => hR _ _ ⟨rfl, st.f⟩⟩
  have hk : k < cs.length := by simpa using hc
  obtain ⟨x, hx⟩ : ∃ o, cs[k]? = some o := ⟨_, List.getElem?_eq_getElem hk⟩
  rw [wrapN hk (by omega)]
  simp only [Int.toNat_natCast]
  obtain ⟨b, o, rfl, e⟩ := encL_one Cl.len (g.fr st.f (by simp)) hx (by decide)
  refine ⟨by omega, by omega, _, _, rfl, x.s.vm, e 1 (by decide), x.s.pg, e 2 (by decide), x.s.fr, e 3 (by decide), x.s.wr, e 4 (by decide), x.s.ex, e 5 (by decide), ?_⟩
  refine put_local rfl (by decide) ?_
  intro h8 b8 f8 s8
  have st8 := st.fr0 f8
  have z6 := st.lt1
  obtain ⟨b', o', eb, e'⟩ := encL_one Cl.len (g.fr st8.f (by simp)) hx (by decide)
  cases eb
  have d0 : cellAt h8 (sz h6) 0 = some (.int .i64 x.s.vm) := (cellAt_of b8 0).trans rfl
  have d1 : cellAt h8 (sz h6) 1 = some (.int .i64 x.s.pg) := (cellAt_of b8 1).trans rfl
  have d2 : cellAt h8 (sz h6) 2 = some (.int .i64 x.s.fr) := (cellAt_of b8 2).trans rfl
  have d3 : cellAt h8 (sz h6) 3 = some (.bool x.s.wr) := (cellAt_of b8 3).trans rfl
  have d4 : cellAt h8 (sz h6) 4 = some (.bool x.s.ex) := (cellAt_of b8 4).trans rfl
  have pw : cellAt h8 b (o + k * 6) = some (.int .i64 x.what) := e' 0 (by decide)
  have out : sz h6 ∉ [q, pl, mp] := fun hm => by have := z6 _ hm; omega
  have sub : [pl, mp] ⊆ [q, pl, mp] := by simp
  have keep : ∀ {F : List Nat} {h' : Hp}, Fr F h8 h' → F ⊆ [q, pl, mp] → ∀ (j : Nat) (u : Value), cellAt h8 (sz h6) j = some u → cellAt h' (sz h6) j = some u := fun kf hF j u hu => kf.cell hu fun hm => out (hF hm)
  refine ⟨Mid h q pl mp room.toNat, ⟨by omega, by omega, _, _, rfl, _, pw, fun c0 => ?_, fun c0 => ⟨fun c1 => ?_, fun c1 => ⟨fun c2 => ?_, fun c2 => ⟨fun c3 => ?_, fun c3 => ⟨fun c4 => ?_, fun c4 => ⟨rq, rpl, L, nx, rfl, st8⟩⟩⟩⟩⟩⟩, ?_⟩
  · refine ⟨_, d0, _, d1, _, d2, _, d3, _, d4, ?_⟩
    refine (Fill_spec st8.t x.s).mono ?_
    rintro _ h9 ⟨rfl, w9, f9⟩
    refine ⟨rfl, _, keep f9 (by simp) 0 _ d0, _, keep f9 (by simp) 1 _ d1, _, keep f9 (by simp) 2 _ d2, _, keep f9 (by simp) 3 _ d3, _, keep f9 (by simp) 4 _ d4, ?_⟩
    refine (of_spec h9 x.s).mono ?_
    rintro _ h10 ⟨rfl, f10⟩
    refine ⟨_, _, _, _, _, _, rfl, ?_⟩
    have r10 := (st8.r.apart st8.t f9).fr0 f10
    refine (rFill_spec r10 x.s true).mono ?_
    rintro _ h11 ⟨rfl, r11, f11⟩
    exact ⟨rfl, rq, rpl, _, _, rfl, st8.both (w9.fr0 f10) (f9.trans (f10.mono (by simp))) r11 f11 (fillL_len _ _ _)⟩
  · refine ⟨_, d0, _, d1, _, d0, _, d1, ?_⟩
    refine (Drop_spec st8.t x.s.vm x.s.pg).mono ?_
    rintro _ h9 ⟨rfl, w9, f9⟩
    refine ⟨_, rfl, keep f9 sub 0 _ d0, keep f9 sub 1 _ d1, ?_⟩
    have r9 := st8.r.apart st8.t (f9.sub sub)
    refine (rDrop_spec r9 (.inl ⟨rfl, rfl⟩)).mono ?_
    rintro _ h10 ⟨rfl, r10, f10⟩
    refine ⟨_, rfl, fun hn => ?_, fun _ => ⟨rq, rpl, _, _, rfl, st8.both w9 (f9.sub sub) r10 (f10.sub (by simp)) (dropL_len _ _)⟩⟩
    exfalso
    have : decide (((dropN (S.is x.s.vm x.s.pg) L : Nat) : Int) > 0) = decide (0 < dropN (S.is x.s.vm x.s.pg) L) := decide_eq_decide.2 (by omega)
    rw [this] at hn
    simp [notIf] at hn
  · refine ⟨_, d0, _, d0, ?_⟩
    refine (DropAll_spec st8.t x.s.vm).mono ?_
    rintro _ h9 ⟨rfl, w9, f9⟩
    refine ⟨_, rfl, keep f9 sub 0 _ d0, ?_⟩
    have r9 := st8.r.apart st8.t (f9.sub sub)
    refine (rDrop_spec r9 (.inr (.inl ⟨rfl, rfl⟩))).mono ?_
    rintro _ h10 ⟨rfl, r10, f10⟩
    refine ⟨_, rfl, fun hn => ?_, fun _ => ⟨rq, rpl, _, _, rfl, st8.both w9 (f9.sub sub) r10 (f10.sub (by simp)) (dropL_len _ _)⟩⟩
    simp at hn
  · refine ⟨_, d2, _, d2, ?_⟩
    refine (DropFrame_spec st8.t x.s.fr).mono ?_
    rintro _ h9 ⟨rfl, w9, f9⟩
    refine ⟨_, rfl, keep f9 sub 2 _ d2, ?_⟩
    have r9 := st8.r.apart st8.t (f9.sub sub)
    refine (rDrop_spec r9 (.inr (.inr ⟨rfl, rfl⟩))).mono ?_
    rintro _ h10 ⟨rfl, r10, f10⟩
    refine ⟨_, rfl, fun hn => ?_, fun _ => ⟨rq, rpl, _, _, rfl, st8.both w9 (f9.sub sub) r10 (f10.sub (by simp)) (dropL_len _ _)⟩⟩
    simp at hn
  · refine (Clear_spec st8.t).mono ?_
    rintro _ h9 ⟨rfl, w9, f9⟩
    refine ⟨rfl, ?_⟩
    refine (rNew_spec h9 hr1 hr2).mono ?_
    rintro _ h10 ⟨rq', rpl', rfl, r10, g1, g2, f10⟩
    have fh := st8.later1 f9 (by simp)
    have z := fh.size
    refine ⟨_, rfl, rq', rpl', _, _, rfl, ⟨w9.fr0 f10, by rw [st8.len]; exact r10, by rw [List.length_replicate]; exact st8.len, st8.gq, st8.gp, st8.gm, by omega, by omega, fh.trans f10⟩⟩
  clear keep out pw d0 d1 d2 d3 d4 e e' b8 f8 s8 st8 st z6
  rintro r h20 ⟨rq, rpl, L, nx, rfl, st⟩
  refine (Find_spec st.t v p).mono ?_
  rintro _ h21 ⟨rfl, f21⟩
  refine ⟨_, _, _, _, _, _, rfl, ?_⟩
  refine put_local rfl (by decide) ?_
  intro h23 b23 f23 s23
  have st23 := (st.fr0 f21).fr0 f23
  refine (At_spec st23.r v p).mono ?_
  rintro _ h24 ⟨rfl, rfl⟩
  refine ⟨_, rfl, ?_⟩
  have next : ∀ (h26 : Hp), Fr [] h24 h26 → CallsH Try.prog 21 [.pointer (some ⟨q, 0, none⟩), .pointer (some ⟨rq, 0, none⟩)] h26 fun r111 h26 => ∃ same112 : Bool, r111 = .bool same112 ∧
      ((!same112) = true → (R (.bool false) h26)) ∧ ((!same112) = false → (Inv h q pl mp room.toNat cs.length (some ⟨rq, 0, none⟩) ((k + 1 : Nat) : Int) h26 ∧ cs.length - ((k + 1 : Nat) : Int).toNat < cs.length - (k : Int).toNat)) := by
    intro h26 f26
    have st26 := st23.fr0 f26
    refine (same_spec st26.t st26.r).mono ?_
    rintro _ h27 ⟨rfl, f27⟩
    exact ⟨_, rfl, fun hn => (by cases hn), fun _ => ⟨⟨k + 1, rq, rpl, L, nx, rfl, by omega, rfl, st26.fr0 f27⟩, decM hk⟩⟩
  rcases find_at (L := L) v p with ⟨e1, e2⟩ | ⟨j, s, e1, e2, e3, e4⟩
  · rw [e1] at b23 ⊢
    rw [e2]
    refine ⟨fun hn => absurd hn (by decide), fun _ => ⟨fun hn => (by cases hn), fun _ => ⟨fun _ => ?_, fun hn => (by cases hn)⟩⟩⟩
    refine ⟨0, (cellAt_of b23 0).trans rfl, 0, (cellAt_of b23 1).trans rfl, 0, (cellAt_of b23 2).trans rfl, false, (cellAt_of b23 3).trans rfl, false, (cellAt_of b23 4).trans rfl, fun hn => absurd hn (by decide), fun _ => ?_⟩
    exact next _ (Fr.refl _ _)
  · rw [e1] at b23 ⊢
    rw [e2]
    have hj : j < L.length := (List.getElem?_eq_some_iff.1 e3).1
    refine ⟨fun hn => ?_, fun _ => ⟨fun _ => ?_, fun hn => (by cases hn)⟩⟩
    · exfalso
      have : decide ((j : Int) ≥ 0) = true := decide_eq_true (by omega)
      rw [this] at hn
      simp [notIf] at hn
    refine ⟨s.vm, (cellAt_of b23 0).trans rfl, s.pg, (cellAt_of b23 1).trans rfl, s.fr, (cellAt_of b23 2).trans rfl, s.wr, (cellAt_of b23 3).trans rfl, s.ex, (cellAt_of b23 4).trans rfl, ?_⟩
    refine ⟨_, _, rfl, _, _, _, st23.r.row, by omega, by omega, _, _, rfl, s.vm, (st23.r.at e3 0 (by decide)).trans rfl, s.pg, (st23.r.at e3 1 (by decide)).trans rfl, s.fr, (st23.r.at e3 2 (by decide)).trans rfl, s.wr, (st23.r.at e3 3 (by decide)).trans rfl, s.ex, (st23.r.at e3 4 (by decide)).trans rfl, true, (st23.r.at e3 5 (by decide)).trans rfl, ?_⟩
    refine (of_spec h24 s).mono ?_
    rintro _ h25 ⟨rfl, f25⟩
    have r25 := st23.r.fr0 f25
    refine ⟨_, _, _, _, _, _, rfl, r25.row, (r25.at e3 0 (by decide)).trans rfl, (r25.at e3 1 (by decide)).trans rfl, (r25.at e3 2 (by decide)).trans rfl, (r25.at e3 3 (by decide)).trans rfl, (r25.at e3 4 (by decide)).trans rfl, (r25.at e3 5 (by decide)).trans rfl, fun hn => ?_, fun _ => ⟨fun hn => (by cases hn), fun _ => next _ f25⟩⟩
    simp [notIf] at hn
end Go.Proofs.Ytdcbapbpamekkaa
