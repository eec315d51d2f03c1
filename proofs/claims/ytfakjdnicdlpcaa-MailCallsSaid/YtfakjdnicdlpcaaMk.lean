import Derived.Test.YtfakjdnicdlpcaaMj
namespace Go.Proofs.Ytfakjdnicdlpcaa
open Go Go.Wd
set_option linter.unusedVariables false
set_option linter.unusedSimpArgs false
set_option linter.unnecessarySimpa false

structure Cl where
  what : Int
  fr : Int
  to : Int
  v : Int
def Cl.cells (c : Cl) : List Value := [.int .i64 c.what, .int .i64 c.fr, .int .i64 c.to, .int .u32 c.v]
theorem Cl.len (c : Cl) : c.cells.length = 4 := rfl
theorem local_46 {h7 : Hp} {x y : Int} {K : Hp → Prop} (hK : ∀ h9, bk h9 (sz h7) = some (blk 46 [.int .i64 x, .int .u32 y]) → Fr [] h7 h9 → K h9) :
    ∀ h8 : Hp, h8 = new h7 (blk 46 [.int .i64 0, .int .u32 0]) → truly true ∧ ∃ T17 : TypeId, ∃ l18 : List Value, bk h8 (sz h7) = some (blk T17 l18) ∧ 0 + 2 ≤ l18.length ∧ ∀ h9 : Hp, h9 = upd h8 (sz h7) T17 (writeAt l18 0 [.int .i64 x, .int .u32 y]) → K h9 := by
  intro h8 e8
  have b8 : bk h8 (sz h7) = some (blk 46 [.int .i64 0, .int .u32 0]) := by rw [e8]; exact new_at _ _
  have f8 : Fr [] h7 h8 := by rw [e8]; exact Fr.new _ _ _
  refine ⟨truly_rfl, _, _, b8, by simp, ?_⟩
  intro h9 e9
  have e9 : h9 = upd h8 (sz h7) 46 [.int .i64 x, .int .u32 y] := e9
  exact hK h9 (by rw [e9]; exact upd_same b8 _ _) (by rw [e9]; exact f8.later (Fr.upd (F := [sz h7]) (by simp) _ _ _) (by simp))
theorem local_30 {h7 : Hp} {a b c d : Int} {K : Hp → Prop} (hK : ∀ h9, bk h9 (sz h7) = some (blk 30 [.int .i64 a, .int .i64 b, .int .i64 c, .int .u32 d]) → Fr [] h7 h9 → K h9) :
    ∀ h8 : Hp, h8 = new h7 (blk 30 [.int .i64 0, .int .i64 0, .int .i64 0, .int .u32 0]) → truly true ∧ ∃ T17 : TypeId, ∃ l18 : List Value, bk h8 (sz h7) = some (blk T17 l18) ∧ 0 + 4 ≤ l18.length ∧ ∀ h9 : Hp, h9 = upd h8 (sz h7) T17 (writeAt l18 0 [.int .i64 a, .int .i64 b, .int .i64 c, .int .u32 d]) → K h9 := by
  intro h8 e8
  have b8 : bk h8 (sz h7) = some (blk 30 [.int .i64 0, .int .i64 0, .int .i64 0, .int .u32 0]) := by rw [e8]; exact new_at _ _
  have f8 : Fr [] h7 h8 := by rw [e8]; exact Fr.new _ _ _
  refine ⟨truly_rfl, _, _, b8, by simp, ?_⟩
  intro h9 e9
  have e9 : h9 = upd h8 (sz h7) 30 [.int .i64 a, .int .i64 b, .int .i64 c, .int .u32 d] := e9
  exact hK h9 (by rw [e9]; exact upd_same b8 _ _) (by rw [e9]; exact f8.later (Fr.upd (F := [sz h7]) (by simp) _ _ _) (by simp))
theorem bx_le {h0 h : Hp} {q : Nat} {A : List (Option Nat)} {B : List (Option (List Lt))} (w : MA h0 h q A B) (n : Int) : ∀ L, bxB B n = some L → L.length ≤ 8 := by
  intro L hL
  rcases ma_cases w n with ⟨e, h1, h2⟩ | ⟨k, hk, rfl, _, ⟨_, h1, _, h2⟩ | ⟨r, L', s, rc, _, h1, _, h2, _, h3, _⟩⟩
  · rw [h2] at hL; cases hL
  · rw [h2] at hL; cases hL
  · rw [h2] at hL; cases hL; exact h3
/-- One box of the document's laid anew. -/
theorem RB.lay {h0 h : Hp} {q b : Nat} {D : List Bx} {B : List (Option (List Lt))} (w : RB h0 h q b D B) (gh : sz h0 ≤ sz h) {k : Nat} {d : Bx} (hd : D[k + 2]? = some d) (o : Bool) (x' : Option (List Lt)) (ho : o = x'.isSome) (hx : x'.getD [] = []) {h' : Hp}
    (e : h' = upd h b 35 (writeAt (encL Bx.cells D) (0 + ((k : Int) + 2).toNat * 2) [.bool o, .slice none 0 0])) : (∃ D', RB h0 h' q b D' (B.set k x')) ∧ FrR h0 h h' := by
  have hk := (List.getElem?_eq_some_iff.1 hd).1
  rw [show ((k : Int) + 2).toNat = k + 2 by omega, Nat.zero_add] at e
  have e' : h' = upd h b 35 (encL Bx.cells (D.set (k + 2) ⟨o, none, 0, 0⟩)) := e.trans (by rw [← encL_set Bx.len D (k + 2) ⟨o, none, 0, 0⟩ hk]; rfl)
  have fr : Fr [b] h h' := by rw [e']; exact Fr.upd (by simp) _ _ _
  have key := w.put (x' := x') (F := [b]) (d' := ⟨o, none, 0, 0⟩) hd fr (fun z hz => .inl (by simpa using hz)) (by rw [e']; exact upd_same w.hb _ _) ho (by rw [hx]; rfl) (by rw [hx]; exact Own.nil _ _ _) (by simp [foot]) gh
  exact ⟨⟨_, key.1⟩, key.2⟩
theorem some_isG {B : List (Option (List Lt))} {n : Int} {L : List Lt} (h : bxB B n = some L) : isG n := by
  unfold bxB at h
  split at h
  · assumption
  · cases h
set_option maxHeartbeats 8000000 in
theorem calls_law {h : Hp} {a : Option Addr} {c : Nat} {cs : List Cl} (g : rowAtK h a (encL Cl.cells cs)) (who : Int) :
    CallsH Try.prog 3 [.slice a cs.length c, .int .i64 who] h fun v h' => v = .bool true ∧ Fr [] h h' := by
  refine calls_k fun R hR => ?_
  apply warderlaw22_MailCalls.calls
  unfold warderlaw22_MailCalls.P
  refine (alive_spec h).mono ?_
  rintro _ h1 ⟨rfl, f1⟩
  refine ⟨_, rfl, fun hn => (by cases hn), fun _ => ⟨fun _ => hR _ _ ⟨rfl, f1⟩, fun hn => ?_⟩⟩
  have hlen : cs.length ≤ 200 := by
    have : ¬ (cs.length : Int) > 200 := by simpa using hn
    omega
  refine (New_spec f1).mono ?_
  rintro _ h2 ⟨rfl, w2, f2⟩
  refine ⟨_, rfl, ?_⟩
  generalize sz h1 = q at *
  refine (rNew_spec (h0 := h) w2.f.size).mono ?_
  rintro _ h3 ⟨q2, b2, D3, rfl, r3, f3⟩
  refine ⟨_, rfl, ?_⟩
  refine ⟨fun i h4 => ∃ (k : Nat) (A : List (Option Nat)) (B : List (Option (List Lt))) (D : List Bx), i = k ∧ k ≤ cs.length ∧ MA h h4 q A B ∧ RB h h4 q2 b2 D B, fun i _ => cs.length - i.toNat, ⟨0, _, _, _, rfl, by omega, w2.fr0 f3, r3⟩, ?_⟩
  clear w2 f2 f3 r3 f1
  rintro i h4 ⟨k, A, B, D, rfl, hk, w4, r4⟩
  refine ⟨fun hc => ?_, fun hc => hR _ _ ⟨rfl, w4.f⟩⟩
  have hk : k < cs.length := by simpa using hc
  obtain ⟨x, hx⟩ : ∃ o, cs[k]? = some o := ⟨_, List.getElem?_eq_getElem hk⟩
  rw [wrapN hk (by omega)]
  obtain ⟨b, o, e1, e2⟩ := encL_one Cl.len (g.fr w4.f (by simp)) hx (by decide)
  obtain ⟨what, fr, to, v⟩ := x
  refine ⟨by omega, by omega, b, o, e1, what, by rw [Int.toNat_natCast]; exact e2 0 (by decide), fr, by rw [Int.toNat_natCast]; exact e2 1 (by decide), to, by rw [Int.toNat_natCast]; exact e2 2 (by decide), v, by rw [Int.toNat_natCast]; exact e2 3 (by decide), local_30 fun h7 b7 f7 => ?_⟩
  clear e1 e2 hx hc
  have w7 := w4.fr0 f7
  have r7 := r4.fr0 f7
  clear w4 r4 f7
  generalize sz h4 = lc at *
  have ce : ∀ {h9 : Hp}, bk h9 lc = some (blk 30 [.int .i64 what, .int .i64 fr, .int .i64 to, .int .u32 v]) → cellAt h9 lc 1 = some (.int .i64 fr) ∧ cellAt h9 lc 2 = some (.int .i64 to) ∧ cellAt h9 lc 3 = some (.int .u32 v) := fun hb => ⟨(cellAt_of hb 1).trans rfl, (cellAt_of hb 2).trans rfl, (cellAt_of hb 3).trans rfl⟩
  obtain ⟨c1, c2, c3⟩ := ce b7
  refine ⟨to, c2, ?_⟩
  refine (rGuest_spec to).mono ?_
  rintro _ h8 ⟨rfl, hh⟩
  rw [hh]; clear hh h8
  have gh := w7.f.size
  refine ⟨_, rfl, fun h25 => ∃ (A : List (Option Nat)) (B : List (Option (List Lt))) (D : List Bx), MA h h25 q A B ∧ RB h h25 q2 b2 D B, ⟨what, (cellAt_of b7 0).trans rfl, fun _ => ?_, fun _ => ⟨fun _ => ?_, fun _ => ⟨fun _ => ?_, fun _ => ⟨fun _ => ?_, fun _ => ⟨A, B, D, w7, r7⟩⟩⟩⟩⟩, ?_⟩
  · refine ⟨fun y h8 => h8 = h7 ∧ y = (bxB B to).isSome, ⟨fun gt => ?_, fun gt => ?_⟩, ?_⟩
    · obtain ⟨j, d, x, hj, rfl, hd, hx, hbx, e1, e2, e3⟩ := rb_cases r7 (of_decide_eq_true gt)
      obtain ⟨k1, k2⟩ := r7.cell hd
      exact ⟨_, _, rfl, _, _, _, r7.row, _, c2, by omega, by omega, _, _, rfl, d.op, k1, rfl, by rw [e1, hbx]⟩
    · have e : bxB B to = none := if_neg (of_decide_eq_false gt)
      exact ⟨rfl, by rw [e]; rfl⟩
    rintro y h8 ⟨hh, rfl⟩
    rw [hh]; clear hh h8
    refine ⟨fun hs => ?_, fun hs => ⟨fun gt => ?_, fun gt => ?_⟩⟩
    · refine ⟨_, c2, ?_⟩
      refine (Open_spec w7 to).mono ?_
      rintro _ h9 ⟨rfl, ⟨A9, w9⟩, m9⟩
      obtain ⟨L, hL⟩ := Option.isSome_iff_exists.1 hs
      have o1 : opE B to = 13 := by unfold opE; rw [if_pos (some_isG hL), hL]
      have o2 : opB B to = B := by unfold opB; rw [if_pos (some_isG hL), hL]
      rw [o2] at w9
      rw [o1]
      exact ⟨_, rfl, fun hn => (by cases hn), fun _ => ⟨_, _, _, w9, r7.frM m9⟩⟩
    · have gt := of_decide_eq_true gt
      obtain ⟨j, d, x, hj, rfl, hd, hx, hbx, e1, e2, e3⟩ := rb_cases r7 gt
      have hnone : bxB B ((j : Int) + 2) = none := by simpa using hs
      have k4 := encL_length Bx.len D
      rw [r7.ld] at k4
      refine ⟨_, _, rfl, _, _, _, r7.row, _, c2, by omega, by omega, _, _, rfl, truly_rfl, _, _, r7.hb, by omega, ?_⟩
      intro h10 e10
      obtain ⟨⟨D', r10⟩, fr10⟩ := r7.lay gh hd true (some []) rfl rfl e10
      refine ⟨_, (ce (fr10.at b7 (by decide) (by decide))).2.1, ?_⟩
      have w10 := w7.frR fr10
      refine (Open_spec w10 _).mono ?_
      rintro _ h9 ⟨rfl, ⟨A9, w9⟩, m9⟩
      obtain ⟨o1, o2⟩ := op_new gt hnone
      rw [o2, setB_k] at w9
      rw [o1]
      exact ⟨_, rfl, fun hn => (by cases hn), fun _ => ⟨_, _, _, w9, r10.frM m9⟩⟩
    · have gt := of_decide_eq_false gt
      refine ⟨_, c2, ?_⟩
      refine (Open_spec w7 to).mono ?_
      rintro _ h9 ⟨rfl, ⟨A9, w9⟩, m9⟩
      have o1 : opE B to = 11 := if_neg gt
      have o2 : opB B to = B := if_neg gt
      rw [o2] at w9
      rw [o1]
      exact ⟨_, rfl, fun hn => (by cases hn), fun _ => ⟨_, _, _, w9, r7.frM m9⟩⟩
  · refine ⟨fun y h8 => h8 = h7 ∧ y = (bxB B to).isSome, ⟨fun gt => ?_, fun gt => ?_⟩, ?_⟩
    · obtain ⟨j, d, x, hj, rfl, hd, hx, hbx, e1, e2, e3⟩ := rb_cases r7 (of_decide_eq_true gt)
      obtain ⟨k1, k2⟩ := r7.cell hd
      exact ⟨_, _, rfl, _, _, _, r7.row, _, c2, by omega, by omega, _, _, rfl, d.op, k1, rfl, by rw [e1, hbx]⟩
    · have e : bxB B to = none := if_neg (of_decide_eq_false gt)
      exact ⟨rfl, by rw [e]; rfl⟩
    rintro y h8 ⟨hh, rfl⟩
    rw [hh]; clear hh h8
    refine ⟨fun hs => ?_, fun hs => ?_⟩
    · obtain ⟨L, hL⟩ := Option.isSome_iff_exists.1 hs
      obtain ⟨j, d, x, hj, rfl, hd, hx, hbx, e1, e2, e3⟩ := rb_cases r7 (some_isG hL)
      rw [hL] at hbx
      subst hbx
      obtain ⟨k1, k2⟩ := r7.cell hd
      have k4 := encL_length Bx.len D
      rw [r7.ld] at k4
      refine ⟨_, _, rfl, _, _, _, r7.row, _, c2, by omega, by omega, _, _, rfl, d.a, d.l, d.c, k2, _, _, rfl, _, _, _, r7.row, _, c2, by omega, by omega, _, _, rfl, truly_rfl, _, _, r7.hb, by omega, ?_⟩
      intro h10 e10
      obtain ⟨⟨D', r10⟩, fr10⟩ := r7.lay gh hd false none rfl rfl e10
      refine ⟨_, (ce (fr10.at b7 (by decide) (by decide))).2.1, ?_⟩
      have w10 := w7.frR fr10
      refine (Shut_spec w10 _).mono ?_
      rintro _ h9 ⟨rfl, ⟨A9, w9⟩, m9⟩
      obtain ⟨s1, s2⟩ := sh_some hL
      rw [s2, setB_k] at w9
      have e2 : d.l = L.length := e2
      rw [s1, e2]
      exact ⟨_, rfl, fun hn => by simp at hn, fun _ => ⟨_, _, _, w9, r10.frM m9⟩⟩
    · have hnone : bxB B to = none := by simpa using hs
      refine ⟨_, c2, ?_⟩
      refine (Shut_spec w7 to).mono ?_
      rintro _ h9 ⟨rfl, ⟨A9, w9⟩, m9⟩
      have s1 : shN B to = -1 := by unfold shN; rw [hnone]
      have s2 : shB B to = B := by unfold shB; rw [hnone]
      rw [s2] at w9
      rw [s1]
      exact ⟨_, rfl, fun hn => (by cases hn), fun _ => ⟨_, _, _, w9, r7.frM m9⟩⟩
  · refine ⟨_, c1, _, c2, _, c3, _, c1, _, c2, _, c3, ?_⟩
    refine (Send_spec w7 fr to v).mono ?_
    rintro _ h9 ⟨rfl, ⟨A9, w9⟩, m9⟩
    obtain ⟨c1', c2', c3'⟩ := ce (m9.2 _ _ _ b7 (by decide))
    refine ⟨_, rfl, c1', c2', c3', ?_⟩
    refine (rSend_spec (r7.frM m9) w9.f.size fr to v).mono ?_
    rintro _ h10 ⟨rfl, ⟨D10, r10⟩, fr10⟩
    exact ⟨_, rfl, fun hn => by simp at hn, fun _ => ⟨_, _, _, w9.frR fr10, r10⟩⟩
  · refine ⟨_, c2, ?_⟩
    refine (Receive_spec w7 to).mono ?_
    rintro _ h9 ⟨rfl, ⟨A9, w9⟩, m9⟩
    refine ⟨_, _, _, rfl, local_lt fun h10 b10 f10 => ?_⟩
    have m10 := m9.trans (FrM.of f10)
    refine ⟨_, (ce (m10.2 _ _ _ b7 (by decide))).2.1, ?_⟩
    have w10 := w9.fr0 f10
    refine (rReceive_spec (r7.frM m10) w10.f.size to (bx_le w7 to)).mono ?_
    rintro _ h11 ⟨rfl, ⟨D11, r11⟩, fr11⟩
    refine ⟨_, _, _, rfl, local_46 fun h12 b12 f12 => ?_⟩
    have b10' := f12.at (fr11.at b10 (by decide) (by decide)) (by simp)
    refine ⟨fun hn => by simp at hn, fun _ => ⟨_, (cellAt_of b10' 0).trans rfl, _, (cellAt_of b12 0).trans rfl, fun hn => by simp at hn, fun _ => ⟨_, (cellAt_of b10' 1).trans rfl, _, (cellAt_of b12 1).trans rfl, fun hn => by simp at hn, fun _ => ⟨_, _, _, (w10.frR fr11).fr0 f12, r11.fr0 f12⟩⟩⟩⟩
  clear c1 c2 c3 ce b7 w7 r7 gh
  clear A B D
  rintro h25 ⟨A, B, D, w, r⟩
  refine ⟨fun n op h27 => h27 = h25 ∧ n = (((bxB B who).getD []).length : Nat) ∧ op = (bxB B who).isSome, ?_, ?_⟩
  · refine (rGuest_spec who).mono ?_
    rintro _ h26 ⟨rfl, hh⟩
    rw [hh]; clear hh h26
    refine ⟨_, rfl, fun gt => ?_, fun gt => ?_⟩
    · obtain ⟨j, d, x, hj, rfl, hd, hx, hbx, e1, e2, e3⟩ := rb_cases r (of_decide_eq_true gt)
      obtain ⟨k1, k2⟩ := r.cell hd
      exact ⟨_, _, rfl, _, _, _, r.row, by omega, by omega, _, _, rfl, d.a, d.l, d.c, k2, _, _, rfl, _, _, _, r.row, by omega, by omega, _, _, rfl, d.op, k1, rfl, by rw [e2, hbx], by rw [e1, hbx]⟩
    · have e : bxB B who = none := if_neg (of_decide_eq_false gt)
      exact ⟨rfl, by rw [e]; rfl, by rw [e]; rfl⟩
  rintro n op h27 ⟨hh, rfl, rfl⟩
  rw [hh]; clear hh h27
  refine (Len_spec w who).mono ?_
  rintro _ h28 ⟨rfl, hh⟩
  rw [hh]; clear hh h28
  refine ⟨_, rfl, fun hn => by simp at hn, fun _ => ?_⟩
  refine (IsOpen_spec w who).mono ?_
  rintro _ h28 ⟨rfl, hh⟩
  rw [hh]; clear hh h28
  exact ⟨_, rfl, fun hn => by simp [notIf] at hn, fun _ => ⟨⟨k + 1, _, _, _, rfl, by omega, w, r⟩, decM hk⟩⟩
theorem rows_c {rows : List (List Value)} (hw : ∀ r ∈ rows, wfCells [.int .i64, .int .i64, .int .i64, .int .u32] r) : ∃ l : List Cl, rows.length = l.length ∧ rows.flatten = encL Cl.cells l := by
  obtain ⟨l, h1, h2, _⟩ := rows_enc (f := Cl.cells) (ok := fun _ => True) (rows := rows) (fun r hr => by
    obtain ⟨v1, r, rfl, h1, h⟩ := wfCells_cons (hw r hr)
    obtain ⟨v2, r, rfl, h2, h⟩ := wfCells_cons h
    obtain ⟨v3, r, rfl, h3, h⟩ := wfCells_cons h
    obtain ⟨v4, r, rfl, h4, h⟩ := wfCells_cons h
    obtain rfl := wfCells_nil h
    obtain ⟨b1, rfl, _, _⟩ := wfInt h1
    obtain ⟨b2, rfl, _, _⟩ := wfInt h2
    obtain ⟨b3, rfl, _, _⟩ := wfInt h3
    obtain ⟨b4, rfl, _, _⟩ := wfInt h4
    exact ⟨⟨b1, b2, b3, b4⟩, rfl, trivial⟩)
  exact ⟨l, h1, h2⟩
end Go.Proofs.Ytfakjdnicdlpcaa
