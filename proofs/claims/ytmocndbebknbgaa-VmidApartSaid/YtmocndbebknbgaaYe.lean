import Derived.Test.YtmocndbebknbgaaYd
namespace Go.Proofs.Ytmocndbebknbgaa
open Go Go.Wd
set_option linter.unusedVariables false
set_option linter.unusedSimpArgs false
set_option linter.unnecessarySimpa false

set_option maxRecDepth 4000 in
theorem alive_spec (h : Hp) : CallsH Try.prog 7 [] h fun v h' => v = .bool true ∧ Fr [] h h' := by
  refine calls_k fun R hR => ?_
  apply warderlaw13_alive.calls
  unfold warderlaw13_alive.P
  refine (New_spec 1).mono ?_
  rintro v h1 ⟨f1, ⟨hn, _⟩ | ⟨_, _, rfl, w1, s1⟩⟩
  · omega
  refine ⟨_, _, rfl, ?_⟩
  refine ⟨fun h2 => h2 = h1, ⟨fun hn => by simp at hn, fun _ => ⟨fun hn => by simp [notIf] at hn, fun _ => rfl⟩⟩, ?_⟩
  rintro h2 hh
  rw [hh]; clear hh h2
  have lt : sz h < sz h1 := by omega
  refine (Take_spec w1).mono ?_
  rintro _ h3 ⟨rfl, w3, f3⟩
  refine ⟨_, _, rfl, ?_⟩
  refine (Take_spec w3).mono ?_
  rintro _ h4 ⟨rfl, w4, f4⟩
  refine ⟨_, _, rfl, ?_⟩
  refine (Give_spec w4 1).mono ?_
  rintro _ h5 ⟨rfl, w5, f5⟩
  refine ⟨_, rfl, ?_⟩
  refine (Take_spec w5).mono ?_
  rintro _ h6 ⟨rfl, w6, f6⟩
  refine ⟨_, _, rfl, ?_⟩
  refine (Drop_spec w6).mono ?_
  rintro _ h7 ⟨rfl, w7, f7⟩
  refine ⟨_, rfl, ?_⟩
  refine (Take_spec w7).mono ?_
  rintro _ h8 ⟨rfl, w8, f8⟩
  refine ⟨_, _, rfl, ?_⟩
  have f18 : Fr [] h h8 := f1.later (((((f3.trans f4).trans f5).trans f6).trans f7).trans f8) (by simp)
  clear f3 f4 f5 f6 f7 f8 w1 w3 w4 w5 w6 w7
  replace w8 : PS h8 54 (sz h + 1) (sz h) [1] := w8
  refine ⟨fun _ => ⟨fun _ => ⟨fun _ => ⟨fun _ => ⟨fun _ => ⟨fun _ => ⟨fun _ => ⟨fun _ => ?_, fun hn => absurd hn (by decide)⟩, fun hn => absurd hn (by decide)⟩, fun hn => absurd hn (by decide)⟩, fun hn => absurd hn (by decide)⟩, fun hn => absurd hn (by decide)⟩, fun hn => absurd hn (by decide)⟩, fun hn => absurd hn (by decide)⟩, fun hn => absurd hn (by decide)⟩
  refine (State_spec w8 1).mono ?_
  rintro _ h9 ⟨rfl, hh⟩
  rw [hh]; clear hh h9
  refine ⟨_, rfl, fun _ => ?_, fun hn => absurd hn (by decide)⟩
  refine (State_spec w8 2).mono ?_
  rintro _ h9 ⟨rfl, hh⟩
  rw [hh]; clear hh h9
  refine ⟨_, rfl, fun _ => ?_, fun hn => absurd hn (by decide)⟩
  refine (Taken_spec (by decide) w8.hq w8.hs).mono ?_
  rintro _ h11 ⟨a, c, rfl, r11, f11⟩
  refine ⟨_, _, _, rfl, ?_⟩
  intro h12 e12
  have b12 : bk h12 (sz h11) = some (blk 3 [.int .i64 1]) := by rw [e12]; exact new_at _ _
  have f12 : Fr [] h11 h12 := by rw [e12]; exact Fr.new _ _ _
  have hp : posL [1] 1 ([1] : List Int).length = [1] := by decide
  rw [hp] at r11 ⊢
  have g2 : rowAtK h12 (some ⟨sz h11, 0, none⟩) (encL iN [1]) := .inr ⟨_, 0, rfl, readAt_of b12 0 _ (by rfl)⟩
  refine (SameInts_spec (l := [1]) (r11.fr f12 (by simp)) g2 (by decide)).mono ?_
  rintro _ h13 ⟨rfl, hh⟩
  rw [hh]
  exact ⟨_, rfl, hR _ _ ⟨rfl, (f18.trans f11).trans f12⟩⟩
structure Cl where
  what : Int
  n : Int
def Cl.cells (c : Cl) : List Value := [.int .i64 c.what, .int .i64 c.n]
theorem Cl.len (c : Cl) : c.cells.length = 2 := rfl
structure St (h0 h : Hp) (q sb q2 sb2 n : Nat) (L : List Int) : Prop where
  t : PS h 54 q sb L
  r : PS h 38 q2 sb2 L
  len : L.length = n
  ne : q ≠ sb2 ∧ sb ≠ q2 ∧ sb ≠ sb2 ∧ q ≠ q2
  g : sz h0 ≤ q ∧ sz h0 ≤ sb ∧ sz h0 ≤ q2 ∧ sz h0 ≤ sb2
  f : Fr [] h0 h
theorem St.fr0 {h0 h h' : Hp} {q sb q2 sb2 n : Nat} {L : List Int} (w : St h0 h q sb q2 sb2 n L) (k : Fr [] h h') : St h0 h' q sb q2 sb2 n L := ⟨w.t.fr0 k, w.r.fr0 k, w.len, w.ne, w.g, w.f.trans k⟩
theorem St.both {h0 h h1 h2 : Hp} {q sb q2 sb2 n : Nat} {L L' : List Int} (w : St h0 h q sb q2 sb2 n L) (t' : PS h1 54 q sb L') (k : Fr [sb] h h1) (r' : PS h2 38 q2 sb2 L') (k2 : Fr [sb2] h1 h2) (hl : L'.length = L.length) : St h0 h2 q sb q2 sb2 n L' :=
  ⟨t'.fr k2 (by simpa using w.ne.1) (by simpa using w.ne.2.2.1), r', hl.trans w.len, w.ne, w.g, (w.f.later k (by simpa using w.g.2.1)).later k2 (by simpa using w.g.2.2.2)⟩
theorem St.mid {h0 h h1 : Hp} {q sb q2 sb2 n : Nat} {L : List Int} (w : St h0 h q sb q2 sb2 n L) (k : Fr [sb] h h1) : PS h1 38 q2 sb2 L := w.r.fr k (by simpa using fun e => w.ne.2.1 e.symm) (by simpa using fun e => w.ne.2.2.1 e.symm)
theorem tk_len (L : List Int) : (tkL L).length = L.length := by unfold tkL; split <;> simp
theorem gv_len (L : List Int) (v : Int) : (gvL L v).length = L.length := by unfold gvL; split <;> simp
set_option maxHeartbeats 4000000 in
theorem calls_law {h : Hp} (most : Int) {a : Option Addr} {c : Nat} {cs : List Cl} (g : rowAtK h a (encL Cl.cells cs)) (v : Int) :
    CallsH Try.prog 3 [.int .i64 most, .slice a cs.length c, .int .i64 v] h fun v h' => v = .bool true ∧ Fr [] h h' := by
  refine calls_k fun R hR => ?_
  apply warderlaw13_VmidCalls.calls
  unfold warderlaw13_VmidCalls.P
  refine (alive_spec h).mono ?_
  rintro _ h1 ⟨rfl, f1⟩
  refine ⟨_, rfl, fun hn => (by cases hn), fun _ => ⟨fun _ => hR _ _ ⟨rfl, f1⟩, fun hn => ?_⟩⟩
  have hlen : cs.length ≤ 300 := by
    have h1 : (cs.length : Int) ≤ 300 := by simpa using hn
    omega
  refine (New_spec most).mono ?_
  rintro _ h2 ⟨f2, ⟨hn, rfl⟩ | ⟨hr1, hr2, rfl, w2, s2⟩⟩
  · refine ⟨_, _, rfl, fun _ => False, ⟨fun _ => ⟨fun _ => hR _ _ ⟨rfl, f1.trans f2⟩, fun hx => (by cases hx)⟩, fun c1 => ⟨fun _ => ⟨fun _ => hR _ _ ⟨rfl, f1.trans f2⟩, fun hx => (by cases hx)⟩, fun c2 => ?_⟩⟩, fun _ hf => hf.elim⟩
    simp only [decide_eq_false_iff_not] at c1 c2
    omega
  refine ⟨_, _, rfl, fun h3 => h3 = h2, ⟨fun c1 => ?_, fun _ => ⟨fun c1 => ?_, fun _ => rfl⟩⟩, ?_⟩
  · simp only [decide_eq_true_eq] at c1; omega
  · simp only [decide_eq_true_eq] at c1; omega
  rintro h3 hh
  rw [hh]; clear hh h3
  refine ⟨fun h4 => h4 = h2, ⟨fun hn => (by cases hn), fun _ => ⟨fun hn => (by cases hn), fun _ => rfl⟩⟩, ?_⟩
  rintro h4 hh
  rw [hh]; clear hh h4
  refine (rNew_spec hr1 hr2).mono ?_
  rintro _ h5 ⟨rfl, r5, f5, s5⟩
  have z1 := f1.size
  have st5 : St h h5 (sz h1 + 1) (sz h1) (sz h2 + 1) (sz h2) most.toNat (List.replicate most.toNat 0) := ⟨w2.fr0 f5, r5, by simp, by omega, by omega, (f1.trans f2).trans f5⟩
  clear r5 w2 f5 f2 f1 s5 s2 z1
  generalize sz h1 + 1 = q at *
  generalize sz h1 = sb at *
  generalize sz h2 + 1 = q2 at *
  generalize sz h2 = sb2 at *
  refine ⟨_, rfl, ?_⟩
  refine ⟨fun i h6 => ∃ (k : Nat) (L : List Int), i = k ∧ k ≤ cs.length ∧ St h h6 q sb q2 sb2 most.toNat L, fun i _ => cs.length - i.toNat, ⟨0, _, rfl, by omega, st5⟩, ?_⟩
  clear st5
  rintro i h6 ⟨k, L, rfl, hk, st⟩
  refine ⟨fun hc => ?_, fun hc => hR _ _ ⟨rfl, st.f⟩⟩
  have hk : k < cs.length := by simpa using hc
  obtain ⟨x, hx⟩ : ∃ o, cs[k]? = some o := ⟨_, List.getElem?_eq_getElem hk⟩
  rw [wrapN hk (by omega)]
  simp only [Int.toNat_natCast]
  obtain ⟨b, o, rfl, e⟩ := encL_one Cl.len (g.fr st.f (by simp)) hx (by decide)
  have e1 : ∀ {h7 : Hp}, Fr [] h h7 → cellAt h7 b (o + k * 2 + 1) = some (.int .i64 x.n) := by
    intro h7 f7
    obtain ⟨b', o', eb, e'⟩ := encL_one Cl.len (g.fr f7 (by simp)) hx (by decide)
    cases eb
    exact e' 1 (by decide)
  refine ⟨fun h13 => ∃ L, St h h13 q sb q2 sb2 most.toNat L, ⟨by omega, by omega, _, _, rfl, x.what, e 0 (by decide), fun c0 => ?_, fun c0 => ⟨fun c1 => ?_, fun c1 => ⟨fun c2 => ?_, fun c2 => ⟨L, st⟩⟩⟩⟩, ?_⟩
  · refine (Take_spec st.t).mono ?_
    rintro _ h7 ⟨rfl, w7, f7⟩
    refine ⟨_, _, rfl, ?_⟩
    refine (rTake_spec (st.mid f7)).mono ?_
    rintro _ h8 ⟨rfl, r8, f8⟩
    exact ⟨_, _, rfl, fun hn => by simp at hn, fun _ => ⟨fun hn => by simp at hn, fun _ => ⟨_, st.both w7 f7 r8 f8 (tk_len L)⟩⟩⟩
  · refine ⟨by omega, by omega, _, _, rfl, _, e1 st.f, by omega, by omega, _, _, rfl, _, e1 st.f, ?_⟩
    refine (Give_spec st.t x.n).mono ?_
    rintro _ h7 ⟨rfl, w7, f7⟩
    refine ⟨_, rfl, e1 (st.f.later f7 (by simpa using st.g.2.1)), ?_⟩
    refine (rGive_spec (st.mid f7) x.n).mono ?_
    rintro _ h8 ⟨rfl, r8, f8⟩
    exact ⟨_, rfl, fun hn => by simp at hn, fun _ => ⟨_, st.both w7 f7 r8 f8 (gv_len L _)⟩⟩
  · refine (Drop_spec st.t).mono ?_
    rintro _ h7 ⟨rfl, w7, f7⟩
    refine ⟨_, rfl, ?_⟩
    refine (rDrop_spec (st.mid f7)).mono ?_
    rintro _ h8 ⟨rfl, r8, f8⟩
    exact ⟨_, rfl, fun hn => by simp at hn, fun _ => ⟨_, st.both w7 f7 r8 f8 (drL_len L _)⟩⟩
  clear e e1 st c hx
  rintro h13 ⟨L, st⟩
  have hl := st.len
  refine ⟨fun want h15 => want = stO L v ∧ h15 = h13, ⟨fun x h14 => h14 = h13 ∧ (x = true ↔ 1 ≤ v ∧ v ≤ most), ⟨fun c1 => ⟨rfl, ?_⟩, fun c1 => ⟨rfl, ?_⟩⟩, ?_⟩, ?_⟩
  · have c1 : v ≥ 1 := of_decide_eq_true c1
    simp only [decide_eq_true_eq]
    omega
  · have c1 : ¬ v ≥ 1 := by simpa using c1
    constructor
    · intro hn; cases hn
    · intro hn; omega
  · rintro y h14 ⟨hh, hy⟩
    rw [hh]; clear hh h14
    rcases st_cases L v with ⟨c1, e⟩ | ⟨j, x, rfl, hj, hx, e⟩
    · refine ⟨fun ht => ?_, fun _ => ⟨e.symm, rfl⟩⟩
      have := hy.1 ht
      omega
    · refine ⟨fun ht => ?_, fun hf => ?_⟩
      · rw [wrapM hj (by have := st.t.len; omega)]
        exact ⟨_, _, rfl, _, _, _, st.r.row, by omega, by omega, _, _, rfl, x, st.r.cell hx, e.symm, rfl⟩
      · have := hy.2 ⟨by omega, by omega⟩
        rw [this] at hf; cases hf
  rintro want h15 ⟨hw, hh⟩
  rw [hw, hh]; clear hw hh want h15
  intro h16 e16
  have b16 : bk h16 (sz h13) = some (blk 3 []) := by rw [e16]; exact new_at _ _
  have f16 : Fr [] h13 h16 := by rw [e16]; exact Fr.new _ _ _
  clear e16
  have hlen' := st.t.len
  refine ⟨fun ta tl tc i h17 => ∃ k : Nat, i = k ∧ k ≤ L.length ∧ tl = (posL L 1 k).length ∧ Go.Wd.Own h17 3 1 ta tl tc (encL iN (posL L 1 k)) ∧ (∀ x ∈ foot ta, sz h13 ≤ x) ∧ Fr [] h13 h17, fun _ _ _ i _ => L.length - i.toNat,
    ⟨0, rfl, by omega, rfl, ⟨rfl, .inr ⟨_, [], rfl, b16, rfl, Nat.le_refl _⟩⟩, by simp [foot], f16⟩, ?_⟩
  clear b16 f16
  rintro ta tl tc i h17 ⟨j, rfl, hj, rfl, ow, fo, f17⟩
  have st17 := st.fr0 f17
  have hpl := pos_le L 1 j
  refine ⟨fun hc => ?_, fun hc => ?_⟩
  · have hj : j < L.length := by
      have : (j : Int) < most := of_decide_eq_true hc
      omega
    obtain ⟨x, hx⟩ : ∃ o, L[j]? = some o := ⟨_, List.getElem?_eq_getElem hj⟩
    rw [wrapN hj (by omega)]
    refine ⟨_, _, rfl, _, _, _, st17.r.row, by omega, by omega, _, _, rfl, x, st17.r.cell hx, fun c1 => ?_, fun c1 => ?_⟩
    · have c1 : x = 1 := by simpa using c1
      intro h18 e18
      refine append_new (h0 := h13) (F := []) ow rfl f17 (fun y hy => .inr (fo y hy)) rfl rfl e18 (by omega) (by omega) ?_
      intro a' c' h19 o19 f19 fa19 _ _
      have e1 : posL L 1 (j + 1) = posL L 1 j ++ [((j : Int) + 1)] := by rw [pos_next, if_pos (by rw [hx, c1])]
      refine ⟨⟨j + 1, rfl, by omega, by rw [e1]; simp, ?_, fun y hy => (fa19 y hy).resolve_left (by simp), f19⟩, decM hj⟩
      rw [e1, encL_append]
      have e2 : encL iN [((j : Int) + 1)] = [.int .i64 ((j + 1 : Nat) : Int)] := by show [Value.int .i64 ((j : Int) + 1)] = _; rw [show (j : Int) + 1 = ((j + 1 : Nat) : Int) by omega]
      rw [e2]
      exact o19
    · have c1 : ¬ x = 1 := by simpa using c1
      have e1 : posL L 1 (j + 1) = posL L 1 j := by rw [pos_next, if_neg (by rw [hx]; simpa using c1), List.append_nil]
      exact ⟨⟨j + 1, rfl, by omega, by rw [e1], by rw [e1]; exact ow, fo, f17⟩, decM hj⟩
  · have hj : j = L.length := by
      have : ¬ (j : Int) < most := by simpa using hc
      omega
    subst hj
    refine (State_spec st17.t v).mono ?_
    rintro _ h20 ⟨rfl, hh⟩
    rw [hh]; clear hh h20
    refine ⟨_, rfl, fun hn => by simp at hn, fun _ => ?_⟩
    refine (Taken_spec (by omega) st17.t.hq st17.t.hs).mono ?_
    rintro _ h21 ⟨a2, c2, rfl, r21, f21⟩
    refine ⟨_, _, _, rfl, ?_⟩
    refine (SameInts_spec r21 ((ow.fr f21 (by simp)).row) (by omega)).mono ?_
    rintro _ h22 ⟨rfl, hh⟩
    rw [hh]
    exact ⟨_, rfl, fun hn => (by cases hn), fun _ => ⟨⟨k + 1, L, rfl, by omega, st17.fr0 f21⟩, decM hk⟩⟩
theorem rows_c {rows : List (List Value)} (hw : ∀ r ∈ rows, wfCells [.int .i64, .int .i64] r) : ∃ l : List Cl, rows.length = l.length ∧ rows.flatten = encL Cl.cells l := by
  obtain ⟨l, h1, h2, _⟩ := rows_enc (f := Cl.cells) (ok := fun _ => True) (rows := rows) (fun r hr => by
    obtain ⟨v1, r, rfl, h1, h⟩ := wfCells_cons (hw r hr)
    obtain ⟨v2, r, rfl, h2, h⟩ := wfCells_cons h
    obtain rfl := wfCells_nil h
    obtain ⟨b1, rfl, _, _⟩ := wfInt h1
    obtain ⟨b2, rfl, _, _⟩ := wfInt h2
    exact ⟨⟨b1, b2⟩, rfl, trivial⟩)
  exact ⟨l, h1, h2⟩
theorem rows_n {rows : List (List Value)} (hw : ∀ r ∈ rows, wfCells [.int .i64] r) : ∃ l : List Int, rows.length = l.length ∧ rows.flatten = encL iN l := by
  obtain ⟨l, h1, h2, _⟩ := rows_enc (f := iN) (ok := fun _ => True) (rows := rows) (fun r hr => by
    obtain ⟨v1, r, rfl, h1, h⟩ := wfCells_cons (hw r hr)
    obtain rfl := wfCells_nil h
    obtain ⟨b, rfl, b1, b2⟩ := wfInt h1
    exact ⟨b, rfl, trivial⟩)
  exact ⟨l, h1, h2⟩
end Go.Proofs.Ytmocndbebknbgaa
