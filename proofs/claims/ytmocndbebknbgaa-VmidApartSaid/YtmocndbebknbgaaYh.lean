import Derived.Test.YtmocndbebknbgaaYe
import Derived.Test.YtmocndbebknbgaaTd
namespace Go.Proofs.Ytmocndbebknbgaa
open Go Go.Wd
set_option linter.unusedVariables false
set_option linter.unusedSimpArgs false
set_option linter.unnecessarySimpa false

/-! ## what the TLB still holds is not free -/
def Tie (V : List Int) (L : List (Option S)) : Prop := ∀ s : S, some s ∈ L → ∃ (k : Nat) (x : Int), s.vm = (k : Int) + 1 ∧ V[k]? = some x ∧ x ≠ 0
theorem Tie.none (V : List Int) (n : Nat) : Tie V (List.replicate n Option.none) := fun s hs => by
  have := List.eq_of_mem_replicate hs
  cases this
theorem Tie.set {V : List Int} {L : List (Option S)} (w : Tie V L) (j : Nat) {y : Int} (hy : y ≠ 0) : Tie (V.set j y) L := by
  intro s hs
  obtain ⟨k, x, h1, h2, h3⟩ := w s hs
  by_cases c : j = k
  · subst c
    exact ⟨j, y, h1, by rw [List.getElem?_set, if_pos rfl, if_pos (List.getElem?_eq_some_iff.1 h2).1], hy⟩
  · exact ⟨k, x, h1, by rw [List.getElem?_set, if_neg c]; exact h2, h3⟩
theorem Tie.take {V : List Int} {L : List (Option S)} (w : Tie V L) : Tie (tkL V) L := by
  rcases tk_cases V with ⟨k, e0, e1, e2, e3, e4, e5⟩ | ⟨e0, e1, e3, e4, e5⟩
  · rw [e5]; exact w.set _ (by decide)
  · rw [e5]; exact w
theorem Tie.give {V : List Int} {L : List (Option S)} (w : Tie V L) (v : Int) : Tie (gvL V v) L := by
  unfold gvL
  split
  · exact w.set _ (by decide)
  · exact w
theorem Tie.fresh {V : List Int} {L : List (Option S)} (w : Tie V L) (h : tkE V = 0) : (∀ s : S, some s ∈ L → s.vm ≠ tkA V) ∧ ∃ k : Nat, tkA V = (k : Int) + 1 ∧ (tkL V)[k]? = some 1 := by
  rcases tk_cases V with ⟨k, e0, e1, e2, e3, e4, e5⟩ | ⟨e0, e1, e3, e4, e5⟩
  · refine ⟨fun s hs e => ?_, k, e3, by rw [e5, List.getElem?_set, if_pos rfl, if_pos (List.getElem?_eq_some_iff.1 e1).1]⟩
    obtain ⟨i, x, h1, h2, h3⟩ := w s hs
    obtain rfl : i = k := by omega
    rw [e1] at h2
    cases h2
    exact h3 rfl
  · rw [e4] at h
    split at h <;> cases h
theorem tk_fail {V : List Int} (h : tkE V ≠ 0) : tkA V = 0 := by
  rcases tk_cases V with ⟨k, e0, e1, e2, e3, e4, e5⟩ | ⟨e0, e1, e3, e4, e5⟩
  · exact absurd e4 h
  · exact e3
theorem Tie.fill {V : List Int} {L : List (Option S)} (w : Tie V L) (nx : Nat) {s : S} (hs : ∃ (k : Nat) (x : Int), s.vm = (k : Int) + 1 ∧ V[k]? = some x ∧ x ≠ 0) : Tie V (fillL L nx s).1 := by
  have key : ∀ k, Tie V (L.set k (some s)) := by
    intro k t ht
    rcases List.mem_or_eq_of_mem_set ht with h1 | h1
    · exact w t h1
    · cases h1; exact hs
  unfold fillL
  split <;> exact key _
structure Ap (h0 h : Hp) (q sb tq pl mp : Nat) (V : List Int) (L : List (Option S)) (nx : Nat) : Prop where
  t : PS h 54 q sb V
  u : TS h tq pl mp L nx
  ne : q ∉ [tq, pl, mp] ∧ sb ∉ [tq, pl, mp]
  g : sz h0 ≤ sb ∧ ∀ x ∈ [tq, pl, mp], sz h0 ≤ x
  f : Fr [] h0 h
  tie : Tie V L
section
variable {h0 h h' : Hp} {q sb tq pl mp nx nx' : Nat} {V V' : List Int} {L L' : List (Option S)}
theorem Ap.fr0 (w : Ap h0 h q sb tq pl mp V L nx) (k : Fr [] h h') : Ap h0 h' q sb tq pl mp V L nx := ⟨w.t.fr0 k, w.u.fr0 k, w.ne, w.g, w.f.trans k, w.tie⟩
theorem Ap.pool (w : Ap h0 h q sb tq pl mp V L nx) (t' : PS h' 54 q sb V') (k : Fr [sb] h h') (ti : Tie V' L) : Ap h0 h' q sb tq pl mp V' L nx := by
  have n2 := w.ne.2
  simp only [List.mem_cons, List.not_mem_nil, or_false, not_or] at n2
  refine ⟨t', w.u.fr k ?_ ?_ ?_ ?_, w.ne, w.g, w.f.later k (by simpa using w.g.1), ti⟩
  · simpa using fun e => n2.1 e.symm
  · simpa using fun e => n2.2.1 e.symm
  · simpa using fun e => n2.2.2 e.symm
  · intro x hx T l hb
    obtain rfl : x = sb := by simpa using hx
    rw [w.t.hs] at hb
    cases hb
    decide
theorem Ap.tlb (w : Ap h0 h q sb tq pl mp V L nx) (u' : TS h' tq pl mp L' nx') (k : Fr [tq, pl, mp] h h') (ti : Tie V L') : Ap h0 h' q sb tq pl mp V L' nx' :=
  ⟨w.t.fr k w.ne.1 w.ne.2, u', w.ne, w.g, w.f.later k w.g.2, ti⟩
end
set_option maxHeartbeats 4000000 in
theorem apart_law {h : Hp} (most : Int) {a : Option Addr} {c : Nat} {cs : List Cl} (g : rowAtK h a (encL Cl.cells cs)) :
    CallsH Try.prog 6 [.int .i64 most, .slice a cs.length c] h fun v h' => v = .bool true ∧ Fr [] h h' := by
  refine calls_k fun R hR => ?_
  apply warderlaw13_VmidApart.calls
  unfold warderlaw13_VmidApart.P
  refine (alive_spec h).mono ?_
  rintro _ h1 ⟨rfl, f1⟩
  refine ⟨_, rfl, fun hn => (by cases hn), fun _ => ?_⟩
  refine ⟨fun h2 => h2 = h1 ∧ cs.length ≤ 100 ∧ 1 ≤ most ∧ most ≤ 255, ⟨fun _ => hR _ _ ⟨rfl, f1⟩, fun c1 => ⟨fun _ => hR _ _ ⟨rfl, f1⟩, fun c2 => ⟨fun _ => hR _ _ ⟨rfl, f1⟩, fun c3 => ⟨rfl, ?_, ?_, ?_⟩⟩⟩⟩, ?_⟩
  · simp only [decide_eq_false_iff_not] at c1; omega
  · simp only [decide_eq_false_iff_not] at c2; omega
  · simp only [decide_eq_false_iff_not] at c3; omega
  rintro h2 ⟨hh, hlen, hr1, hr2⟩
  rw [hh]; clear hh h2
  refine (New_spec most).mono ?_
  rintro _ h3 ⟨f2, ⟨hn, rfl⟩ | ⟨_, _, rfl, w3, s3⟩⟩
  · omega
  refine ⟨_, _, rfl, ?_⟩
  refine (TNew_spec 16).mono ?_
  rintro _ h4 ⟨f3, ⟨hn, rfl⟩ | ⟨_, _, rfl, w4⟩⟩
  · omega
  refine ⟨_, _, rfl, fun h5 => h5 = h4, ⟨fun hn => (by cases hn), fun _ => ⟨fun hn => (by cases hn), fun _ => ⟨fun hn => (by cases hn), fun _ => ⟨fun hn => (by cases hn), fun _ => rfl⟩⟩⟩⟩, ?_⟩
  rintro h5 hh
  rw [hh]; clear hh h5
  have z1 := f1.size
  have st : Ap h h4 (sz h1 + 1) (sz h1) (sz h3 + 2) (sz h3) (sz h3 + 1) (List.replicate most.toNat 0) (List.replicate (16 : Int).toNat none) 0 := ⟨w3.fr0 f3, w4, by simp; omega, ⟨z1, by simp; omega⟩, (f1.trans f2).trans f3, Tie.none _ _⟩
  clear w3 w4 f3 f2 f1 z1 s3
  generalize sz h3 + 2 = tq at *
  generalize sz h3 + 1 = mp at *
  generalize sz h3 = pl at *
  generalize sz h1 + 1 = q at *
  generalize sz h1 = sb at *
  refine ⟨fun i h6 => ∃ (k : Nat) (V : List Int) (L : List (Option S)) (nx : Nat), i = k ∧ k ≤ cs.length ∧ Ap h h6 q sb tq pl mp V L nx, fun i _ => cs.length - i.toNat, ⟨0, _, _, _, rfl, by omega, st⟩, ?_⟩
  clear st
  rintro i h6 ⟨k, V, L, nx, rfl, hk, st⟩
  refine ⟨fun hc => ?_, fun hc => hR _ _ ⟨rfl, st.f⟩⟩
  have hk : k < cs.length := by simpa using hc
  obtain ⟨x, hx⟩ : ∃ o, cs[k]? = some o := ⟨_, List.getElem?_eq_getElem hk⟩
  rw [wrapN hk (by omega)]
  simp only [Int.toNat_natCast]
  obtain ⟨b, o, rfl, e⟩ := encL_one Cl.len (g.fr st.f (by simp)) hx (by decide)
  refine ⟨by omega, by omega, _, _, rfl, x.what, e 0 (by decide), fun c0 => ?_, fun c0 => ⟨fun c1 => ?_, fun c1 => ⟨fun c2 => ?_, fun c2 => ⟨⟨k + 1, V, L, nx, rfl, by omega, st⟩, decM hk⟩⟩⟩⟩
  · refine (Take_spec st.t).mono ?_
    rintro _ h7 ⟨rfl, w7, f7⟩
    have st7 := st.pool w7 f7 st.tie.take
    refine ⟨_, _, rfl, fun c1 => ?_, fun c1 => ?_⟩
    · have c1 : tkE V ≠ 0 := by simpa using c1
      rw [tk_fail c1]
      exact ⟨fun hn => (by cases hn), fun _ => ⟨⟨k + 1, _, L, nx, rfl, by omega, st7⟩, decM hk⟩⟩
    have c1 : tkE V = 0 := by simpa using c1
    obtain ⟨t1, j, t2, t3⟩ := st.tie.fresh c1
    refine (List_spec st7.u).mono ?_
    rintro _ h8 ⟨la, lc, rfl, o8, fa8, f8⟩
    have hrow := o8.row
    have hpos := st7.u.pos
    have hle : (L.filterMap id).length ≤ L.length := List.length_filterMap_le _ _
    have st8 := st7.fr0 f8
    refine ⟨_, _, _, rfl, ?_⟩
    refine ⟨fun i h9 => ∃ n : Nat, i = n ∧ n ≤ (L.filterMap id).length ∧ h9 = h8, fun i _ => (L.filterMap id).length - i.toNat, ⟨0, rfl, by omega, rfl⟩, ?_⟩
    rintro i h9 ⟨n, rfl, hn, hh⟩
    rw [hh]; clear hh h9
    refine ⟨fun hc => ?_, fun hc => ?_⟩
    · have hn : n < (L.filterMap id).length := by simpa using hc
      obtain ⟨s, hs⟩ : ∃ o, (L.filterMap id)[n]? = some o := ⟨_, List.getElem?_eq_getElem hn⟩
      rw [wrapN hn (by omega)]
      obtain ⟨b2, o2, eb2, e2⟩ := encL_one S.len hrow hs (by decide)
      have hm : some s ∈ L := by
        obtain ⟨y, hy, e⟩ := List.mem_filterMap.1 (List.mem_of_getElem? hs)
        obtain rfl : y = some s := e
        exact hy
      have hne := t1 s hm
      refine ⟨by omega, by omega, _, _, eb2, s.vm, by rw [Int.toNat_natCast]; exact e2 0 (by decide), fun c3 => ?_, fun _ => ⟨⟨n + 1, rfl, by omega, rfl⟩, decM hn⟩⟩
      have c3 : s.vm = tkA V := by simpa using c3
      exact absurd c3 hne
    · refine (Fill_spec st8.u ⟨tkA V, bandV .i64 k 15, k, false, false⟩).mono ?_
      rintro _ h10 ⟨rfl, w10, f10⟩
      exact ⟨rfl, ⟨k + 1, _, _, _, rfl, by omega, st8.tlb w10 f10 (st8.tie.fill nx ⟨j, 1, t2, t3, by decide⟩)⟩, decM hk⟩
  · refine ⟨by omega, by omega, _, _, rfl, x.n, e 1 (by decide), ?_⟩
    refine (Give_spec st.t x.n).mono ?_
    rintro _ h7 ⟨rfl, w7, f7⟩
    exact ⟨_, rfl, ⟨k + 1, _, L, nx, rfl, by omega, st.pool w7 f7 (st.tie.give _)⟩, decM hk⟩
  · refine (Drop_spec st.t).mono ?_
    rintro _ h7 ⟨rfl, w7, f7⟩
    refine ⟨_, rfl, ?_⟩
    have n2 := st.ne.2
    simp only [List.mem_cons, List.not_mem_nil, or_false, not_or] at n2
    have u7 : TS h7 tq pl mp L nx := st.u.fr f7 (by simpa using fun e => n2.1 e.symm) (by simpa using fun e => n2.2.1 e.symm) (by simpa using fun e => n2.2.2 e.symm) (by
      intro x hx T l hb
      obtain rfl : x = sb := by simpa using hx
      rw [st.t.hs] at hb
      cases hb
      decide)
    refine (Clear_spec u7).mono ?_
    rintro _ h8 ⟨rfl, w8, f8⟩
    exact ⟨rfl, ⟨k + 1, _, _, _, rfl, by omega, ⟨w7.fr f8 st.ne.1 st.ne.2, w8, st.ne, st.g, (st.f.later f7 (by simpa using st.g.1)).later f8 st.g.2, Tie.none _ _⟩⟩, decM hk⟩
end Go.Proofs.Ytmocndbebknbgaa
