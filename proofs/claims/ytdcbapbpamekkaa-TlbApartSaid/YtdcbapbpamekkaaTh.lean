import Derived.Test.YtdcbapbpamekkaaTg
namespace Go.Proofs.Ytdcbapbpamekkaa
open Go Go.Wd
set_option linter.unusedVariables false
set_option linter.unusedSimpArgs false

/-! ## what lasts -/
def Uq (L : List (Option S)) : Prop := ∀ (i j : Nat) (s t : S), L[i]? = some (some s) → L[j]? = some (some t) → s.vm = t.vm → s.pg = t.pg → i = j
theorem TS.uq {h : Hp} {q pl mp : Nat} {L : List (Option S)} {nx : Nat} (w : TS h q pl mp L nx) : Uq L := by
  obtain ⟨M, c, _, hI⟩ := w.hmp
  exact fun i j s t hi hj h1 h2 => hI.uniq hi hj h1 h2
def Las (L : List (Option S)) (F : S → Bool) : Prop := ∀ (i : Nat) (t : S), L[i]? = some (some t) → F t = true
theorem lst_other {t : S} {fine : Bool} {c : Cl} (hf : fine = true) (h0 : c.what = 0) (hk : ¬ (c.s.vm = t.vm ∧ c.s.pg = t.pg)) : lst t fine c = true := by
  unfold lst; rw [if_pos h0, if_neg hk]; exact hf
theorem lst_self {t : S} {fine : Bool} {c : Cl} (h0 : c.what = 0) (hs : c.s = t) : lst t fine c = true := by
  unfold lst; rw [if_pos h0, if_pos (by rw [hs]; exact ⟨rfl, rfl⟩)]; exact decide_eq_true hs
theorem las_fill {L : List (Option S)} {F : S → Bool} (u : Uq L) (w : Las L F) (nx : Nat) {c : Cl} (h0 : c.what = 0) : Las (fillL L nx c.s).1 fun t => lst t (F t) c := by
  intro i t ht
  unfold fillL at ht
  cases hat : atK L c.s.vm c.s.pg with
  | some k =>
    rw [hat] at ht
    simp only [List.getElem?_set] at ht
    by_cases e : k = i
    · rw [if_pos e] at ht
      split at ht
      · exact lst_self h0 (Option.some.inj (Option.some.inj ht))
      · cases ht
    · rw [if_neg e] at ht
      refine lst_other (w i t ht) h0 fun hk => ?_
      obtain ⟨s, hs, hi⟩ := atK_some hat
      have hi := S.is_iff.1 hi
      exact e (u k i s t hs ht (by rw [hi.1, hk.1]) (by rw [hi.2, hk.2]))
  | none =>
    rw [hat] at ht
    simp only [List.getElem?_set] at ht
    by_cases e : nx = i
    · rw [if_pos e] at ht
      split at ht
      · exact lst_self h0 (Option.some.inj (Option.some.inj ht))
      · cases ht
    · rw [if_neg e] at ht
      refine lst_other (w i t ht) h0 fun hk => ?_
      have := atK_none hat i t ht
      rw [S.is_iff.2 ⟨hk.1.symm, hk.2.symm⟩] at this
      cases this
theorem drop_at {f : S → Bool} {L : List (Option S)} {i : Nat} {t : S} (h : (dropL f L)[i]? = some (some t)) : L[i]? = some (some t) ∧ f t = false := by
  unfold dropL at h
  rw [List.getElem?_map] at h
  cases hL : L[i]? with
  | none => rw [hL] at h; cases h
  | some o =>
    rw [hL] at h
    cases o with
    | none => simp [gone] at h
    | some s =>
      simp only [Option.map_some, gone, Option.some.injEq] at h
      by_cases hf : f s = true
      · rw [if_pos hf] at h; cases h
      · rw [if_neg hf] at h
        cases h
        exact ⟨rfl, by simpa using hf⟩
theorem las_drop {L : List (Option S)} {F : S → Bool} (w : Las L F) {f : S → Bool} {c : Cl} (hc : ∀ t : S, f t = false → lst t true c = true) : Las (dropL f L) fun t => lst t (F t) c := by
  intro i t ht
  obtain ⟨h1, h2⟩ := drop_at ht
  show lst t (F t) c = true
  rw [w i t h1]
  exact hc t h2
theorem fill_at {L : List (Option S)} {nx : Nat} (hn : nx < L.length) (s : S) : ∃ i : Nat, (fillL L nx s).1[i]? = some (some s) := by
  unfold fillL
  cases hat : atK L s.vm s.pg with
  | some k =>
    obtain ⟨t, ht, _⟩ := atK_some hat
    exact ⟨k, by simp only; rw [List.getElem?_set, if_pos rfl, if_pos (List.getElem?_eq_some_iff.1 ht).1]⟩
  | none => exact ⟨nx, by simp only; rw [List.getElem?_set, if_pos rfl, if_pos hn]⟩
theorem find_uq {L : List (Option S)} (u : Uq L) {i : Nat} {s : S} (h : L[i]? = some (some s)) : findL L s.vm s.pg = some s := by
  rcases find_at (L := L) s.vm s.pg with ⟨e1, e2⟩ | ⟨k, t, e1, e2, e3, e4⟩
  · exfalso
    cases hat : atK L s.vm s.pg with
    | none =>
      have := atK_none hat i s h
      rw [S.is_iff.2 ⟨rfl, rfl⟩] at this
      cases this
    | some k => unfold atI at e2; rw [hat] at e2; simp only at e2; omega
  · have hi := S.is_iff.1 e4
    have := u k i t s e3 h hi.1 hi.2
    subst this
    rw [e3] at h
    cases h
    exact e1
theorem find_drop (L : List (Option S)) (v p : Int) : findL (dropL (S.is v p) L) v p = none := by
  rcases find_at (L := dropL (S.is v p) L) v p with ⟨e1, e2⟩ | ⟨k, t, e1, e2, e3, e4⟩
  · exact e1
  · rw [(drop_at e3).2] at e4; cases e4
theorem las_mem {L : List (Option S)} {F : S → Bool} (w : Las L F) : ∀ s ∈ L.filterMap id, F s = true := by
  intro s hs
  obtain ⟨o, ho, e⟩ := List.mem_filterMap.1 hs
  simp only [id] at e
  subst e
  obtain ⟨i, hi⟩ := List.mem_iff_getElem?.1 ho
  exact w i s hi
theorem row_take {α : Type} {f : α → List Value} {h : Hp} {a : Option Addr} {l : List α} (g : rowAtK h a (encL f l)) (j c m : Nat) : rowAtK h (sliceBase a 0 c m) (encL f (l.take j)) := by
  have e : encL f l = encL f (l.take j) ++ encL f (l.drop j) := by rw [← encL_append, List.take_append_drop]
  rcases g with g | ⟨b, o, rfl, g⟩
  · rw [e] at g
    exact .inl (List.append_eq_nil_iff.1 g).1
  · refine .inr ⟨b, o, ?_, fun k hk => ?_⟩
    · unfold sliceBase
      split
      · rfl
      · simp [Addr.add]
    · have := g k (by rw [e, List.length_append]; omega)
      rw [this, e, List.getElem?_append_left hk]

structure Sk (h0 h : Hp) (q pl mp n : Nat) (L : List (Option S)) (nx : Nat) : Prop where
  t : TS h q pl mp L nx
  len : L.length = n
  gq : sz h0 ≤ q
  gp : sz h0 ≤ pl
  gm : sz h0 ≤ mp
  f : Fr [] h0 h
section
variable {h0 h h' : Hp} {q pl mp n : Nat} {L L' : List (Option S)} {nx nx' : Nat}
theorem Sk.fr0 (w : Sk h0 h q pl mp n L nx) (k : Fr [] h h') : Sk h0 h' q pl mp n L nx := ⟨w.t.fr0 k, w.len, w.gq, w.gp, w.gm, w.f.trans k⟩
theorem Sk.later1 (w : Sk h0 h q pl mp n L nx) {F : List Nat} (k : Fr F h h') (hF : F ⊆ [q, pl, mp]) : Fr [] h0 h' := w.f.later (k.sub hF) (by
  intro x hx; simp only [List.mem_cons, List.not_mem_nil, or_false] at hx
  rcases hx with rfl | rfl | rfl
  · exact w.gq
  · exact w.gp
  · exact w.gm)
theorem Sk.lt1 (w : Sk h0 h q pl mp n L nx) : ∀ x ∈ [q, pl, mp], x < sz h := by
  intro x hx; simp only [List.mem_cons, List.not_mem_nil, or_false] at hx
  rcases hx with rfl | rfl | rfl
  · exact w.t.lq
  · exact w.t.lpl
  · exact w.t.lmp
theorem Sk.go (w : Sk h0 h q pl mp n L nx) (t' : TS h' q pl mp L' nx') {F : List Nat} (k : Fr F h h') (hF : F ⊆ [q, pl, mp]) (hl : L'.length = L.length) : Sk h0 h' q pl mp n L' nx' :=
  ⟨t', hl.trans w.len, w.gq, w.gp, w.gm, w.later1 k hF⟩
end
def InvK (h0 : Hp) (q pl mp n : Nat) (cs : List Cl) (i : Int) (h : Hp) : Prop :=
  ∃ (k : Nat) (L : List (Option S)) (nx : Nat), i = k ∧ k ≤ cs.length ∧ Sk h0 h q pl mp n L nx ∧ Las L fun t => (cs.take k).foldl (lst t) false
def MidK (h0 : Hp) (q pl mp n : Nat) (cs : List Cl) (k : Nat) (h : Hp) : Prop :=
  ∃ (L : List (Option S)) (nx : Nat), Sk h0 h q pl mp n L nx ∧ Las L fun t => (cs.take k).foldl (lst t) false

set_option maxHeartbeats 4000000 in
theorem keeps_law {h : Hp} (room : Int) {a : Option Addr} {c : Nat} {cs : List Cl} (g : rowAtK h a (encL Cl.cells cs)) (hcap : cs.length ≤ c) :
    CallsH Try.prog 5 [.int .i64 room, .slice a cs.length c] h fun v h' => v = .bool true ∧ Fr [] h h' := by
  refine calls_k fun R hR => ?_
  apply warderlaw09_TlbKeeps.calls
  unfold warderlaw09_TlbKeeps.P
  refine (alive_spec h).mono ?_
  rintro _ h1 ⟨rfl, f1⟩
  refine ⟨_, rfl, fun hn => (by cases hn), fun _ => ?_⟩
  refine ⟨fun h2 => h2 = h1 ∧ cs.length ≤ 60 ∧ 1 ≤ room ∧ room ≤ 64, ⟨fun _ => hR _ _ ⟨rfl, f1⟩, fun c1 => ⟨fun _ => hR _ _ ⟨rfl, f1⟩, fun c2 => ⟨fun _ => hR _ _ ⟨rfl, f1⟩, fun c3 => ⟨rfl, ?_, ?_, ?_⟩⟩⟩⟩, ?_⟩
  · simp only [decide_eq_false_iff_not] at c1; omega
  · simp only [decide_eq_false_iff_not] at c2; omega
  · simp only [decide_eq_false_iff_not] at c3; omega
  rintro h2 ⟨rfl, hlen, hr1, hr2⟩
  refine (New_spec room).mono ?_
  rintro _ h3 ⟨f2, ⟨hn, rfl⟩ | ⟨_, _, rfl, w3⟩⟩
  · omega
  refine ⟨_, _, rfl, fun h4 => h4 = h3, ⟨fun hn => (by cases hn), fun _ => ⟨fun hn => (by cases hn), fun _ => rfl⟩⟩, ?_⟩
  rintro h4 rfl
  have z1 := f1.size
  have st4 : Sk h h4 (sz h2 + 2) (sz h2) (sz h2 + 1) room.toNat (List.replicate room.toNat none) 0 := ⟨w3, by simp, by omega, by omega, by omega, f1.trans f2⟩
  clear w3 f2 f1 z1
  generalize sz h2 + 2 = q at *
  generalize sz h2 + 1 = mp at *
  generalize sz h2 = pl at *
  refine ⟨InvK h q pl mp room.toNat cs, fun i _ => cs.length - i.toNat, ⟨0, _, _, rfl, by omega, st4, fun i t ht => ?_⟩, ?_⟩
  · have := List.mem_of_getElem? ht
    simp at this
  clear st4
  rintro i h5 ⟨k, L, nx, rfl, hk, st, las⟩
  refine ⟨fun hc => ?_, fun hc => hR _ _ ⟨rfl, st.f⟩⟩
  have hk : k < cs.length := by simpa using hc
  obtain ⟨x, hx⟩ : ∃ o, cs[k]? = some o := ⟨_, List.getElem?_eq_getElem hk⟩
  rw [wrapN hk (by omega)]
  simp only [Int.toNat_natCast]
  obtain ⟨b, o, rfl, e⟩ := encL_one Cl.len (g.fr st.f (by simp)) hx (by decide)
  refine ⟨by omega, by omega, _, _, rfl, x.s.vm, e 1 (by decide), x.s.pg, e 2 (by decide), x.s.fr, e 3 (by decide), x.s.wr, e 4 (by decide), x.s.ex, e 5 (by decide), ?_⟩
  refine put_local rfl (by decide) ?_
  intro h7 b7 f7 s7
  have st7 := st.fr0 f7
  have z5 := st.lt1
  obtain ⟨b', o', eb, e'⟩ := encL_one Cl.len (g.fr st7.f (by simp)) hx (by decide)
  cases eb
  have d0 : cellAt h7 (sz h5) 0 = some (.int .i64 x.s.vm) := (cellAt_of b7 0).trans rfl
  have d1 : cellAt h7 (sz h5) 1 = some (.int .i64 x.s.pg) := (cellAt_of b7 1).trans rfl
  have d2 : cellAt h7 (sz h5) 2 = some (.int .i64 x.s.fr) := (cellAt_of b7 2).trans rfl
  have d3 : cellAt h7 (sz h5) 3 = some (.bool x.s.wr) := (cellAt_of b7 3).trans rfl
  have d4 : cellAt h7 (sz h5) 4 = some (.bool x.s.ex) := (cellAt_of b7 4).trans rfl
  have pw : cellAt h7 b (o + k * 6) = some (.int .i64 x.what) := e' 0 (by decide)
  have out : sz h5 ∉ [q, pl, mp] := fun hm => by have := z5 _ hm; omega
  have sub : [pl, mp] ⊆ [q, pl, mp] := by simp
  have keep : ∀ {F : List Nat} {h' : Hp}, Fr F h7 h' → F ⊆ [q, pl, mp] → ∀ (j : Nat) (u : Value), cellAt h7 (sz h5) j = some u → cellAt h' (sz h5) j = some u := fun kf hF j u hu => kf.cell hu fun hm => out (hF hm)
  have las' : ∀ {L' : List (Option S)}, (Las L' fun t => lst t ((cs.take k).foldl (lst t) false) x) → Las L' fun t => (cs.take (k + 1)).foldl (lst t) false := by
    intro L' hl i t ht
    show (cs.take (k + 1)).foldl (lst t) false = true
    rw [fold_step t cs hx]
    exact hl i t ht
  refine ⟨MidK h q pl mp room.toNat cs (k + 1), ⟨by omega, by omega, _, _, rfl, _, pw, fun c0 => ?_, fun c0 => ⟨fun c1 => ?_, fun c1 => ⟨fun c2 => ?_, fun c2 => ⟨fun c3 => ?_, fun c3 => ⟨fun c4 => ?_, fun c4 => ?_⟩⟩⟩⟩⟩, ?_⟩ <;> (try simp only [beq_iff_eq, beq_eq_false_iff_ne, ne_eq] at c0) <;> (try simp only [beq_iff_eq, beq_eq_false_iff_ne, ne_eq] at c1) <;> (try simp only [beq_iff_eq, beq_eq_false_iff_ne, ne_eq] at c2) <;> (try simp only [beq_iff_eq, beq_eq_false_iff_ne, ne_eq] at c3) <;> (try simp only [beq_iff_eq, beq_eq_false_iff_ne, ne_eq] at c4)
  · refine ⟨_, d0, _, d1, _, d2, _, d3, _, d4, ?_⟩
    refine (Fill_spec st7.t x.s).mono ?_
    rintro _ h8 ⟨rfl, w8, f8⟩
    refine ⟨rfl, _, keep f8 (by simp) 0 _ d0, _, keep f8 (by simp) 1 _ d1, ?_⟩
    have st8 := st7.go w8 f8 (by simp) (fillL_len _ _ _)
    have b8 := f8.at b7 out
    refine (Find_spec w8 x.s.vm x.s.pg).mono ?_
    rintro _ h9 ⟨rfl, f9⟩
    obtain ⟨i0, hi0⟩ := fill_at (L := L) st7.t.lt x.s
    rw [find_uq w8.uq hi0]
    refine ⟨_, _, _, _, _, _, rfl, ?_⟩
    refine put_local rfl (by decide) ?_
    intro h11 b11 f11 s11
    have b81 := (f9.trans f11).at b8 (by simp)
    refine ⟨fun hn => (by cases hn), fun _ => ?_⟩
    refine ⟨x.s.vm, (cellAt_of b11 0).trans rfl, x.s.pg, (cellAt_of b11 1).trans rfl, x.s.fr, (cellAt_of b11 2).trans rfl, x.s.wr, (cellAt_of b11 3).trans rfl, x.s.ex, (cellAt_of b11 4).trans rfl, x.s.vm, (cellAt_of b81 0).trans rfl, x.s.pg, (cellAt_of b81 1).trans rfl, x.s.fr, (cellAt_of b81 2).trans rfl, x.s.wr, (cellAt_of b81 3).trans rfl, x.s.ex, (cellAt_of b81 4).trans rfl, fun hn => ?_, fun _ => ?_⟩
    · rw [S.eq_iff] at hn; simp [notIf] at hn
    · exact ⟨_, _, (st8.fr0 f9).fr0 f11, las' (las_fill st.t.uq las nx c0)⟩
  · refine ⟨_, d0, _, d1, ?_⟩
    refine (Drop_spec st7.t x.s.vm x.s.pg).mono ?_
    rintro _ h8 ⟨rfl, w8, f8⟩
    refine ⟨_, rfl, _, keep f8 sub 0 _ d0, _, keep f8 sub 1 _ d1, ?_⟩
    have st8 := st7.go w8 f8 sub (dropL_len _ _)
    refine (Find_spec w8 x.s.vm x.s.pg).mono ?_
    rintro _ h9 ⟨rfl, f9⟩
    rw [find_drop]
    refine ⟨_, _, _, _, _, _, rfl, ?_⟩
    refine put_local rfl (by decide) ?_
    intro h11 b11 f11 s11
    refine ⟨fun hn => (by cases hn), fun _ => ⟨_, _, (st8.fr0 f9).fr0 f11, las' (las_drop las fun t ht => ?_)⟩⟩
    unfold lst
    rw [if_neg c0, if_pos c1, Bool.true_and]
    unfold S.is at ht
    cases hb : (x.s.vm == t.vm && x.s.pg == t.pg) with
    | false => rfl
    | true =>
      simp only [Bool.and_eq_true, beq_iff_eq] at hb
      rw [decide_eq_true hb.1.symm, decide_eq_true hb.2.symm] at ht
      cases ht
  · refine ⟨_, d0, ?_⟩
    refine (DropAll_spec st7.t x.s.vm).mono ?_
    rintro _ h8 ⟨rfl, w8, f8⟩
    refine ⟨_, rfl, _, _, st7.go w8 f8 sub (dropL_len _ _), las' (las_drop las fun t ht => ?_)⟩
    unfold lst
    rw [if_neg c0, if_neg c1, if_pos c2, Bool.true_and]
    simp only [beq_eq_false_iff_ne, ne_eq] at ht
    simpa using fun e => ht e.symm
  · refine ⟨_, d2, ?_⟩
    refine (DropFrame_spec st7.t x.s.fr).mono ?_
    rintro _ h8 ⟨rfl, w8, f8⟩
    refine ⟨_, rfl, _, _, st7.go w8 f8 sub (dropL_len _ _), las' (las_drop las fun t ht => ?_)⟩
    unfold lst
    rw [if_neg c0, if_neg c1, if_neg c2, if_pos c3, Bool.true_and]
    simp only [beq_eq_false_iff_ne, ne_eq] at ht
    simpa using fun e => ht e.symm
  · refine (Clear_spec st7.t).mono ?_
    rintro _ h8 ⟨rfl, w8, f8⟩
    refine ⟨rfl, _, _, st7.go w8 f8 (by simp) (by simp), fun i t ht => ?_⟩
    have := List.mem_of_getElem? ht
    simp at this
  · refine ⟨_, _, st7, las' fun i t ht => ?_⟩
    show lst t _ x = true
    rw [show (cs.take k).foldl (lst t) false = true from las i t ht]
    unfold lst
    rw [if_neg c0, if_neg c1, if_neg c2, if_neg c3, if_neg c4]
  clear keep out pw d0 d1 d2 d3 d4 e e' b7 f7 s7 st7 st z5 las' las
  rintro h19 ⟨L, nx, st, las⟩
  refine (List_spec st.t).mono ?_
  rintro _ h20 ⟨a2, c2, rfl, o20, fa, f20⟩
  have hle := filter_le L
  have hll := st.len
  have hpos := st.t.pos
  refine ⟨_, _, _, rfl, fun hn => ?_, fun _ => ⟨fun hn => (by cases hn), by omega, by omega, by omega, by omega, ?_⟩⟩
  · simp only [decide_eq_true_eq] at hn; omega
  have g20 := row_take (g.fr (st.f.trans f20) (by simp)) (k + 1) c 6
  have hl6 := lasting_spec (ca := c2) (cb := c) o20.row g20 (by omega) (by rw [List.length_take]; omega) (las_mem las)
  have e6 : (cs.take (k + 1)).length = k + 1 := by rw [List.length_take]; omega
  rw [e6] at hl6
  refine CallsH.mono (R := fun v h' => v = .bool true ∧ Fr [] h20 h') ?_ ?_
  · simpa using hl6
  · rintro _ h21 ⟨rfl, f21⟩
    exact ⟨_, rfl, fun hn => (by cases hn), fun _ => ⟨⟨k + 1, L, nx, rfl, by omega, (st.fr0 f20).fr0 f21, las⟩, decM hk⟩⟩
end Go.Proofs.Ytdcbapbpamekkaa
