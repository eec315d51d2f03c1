import Derived.Test.YtmldiibfmhkgjaaSq
import Derived.Test.YtmldiibfmhkgjaaWdRow
namespace Go.Proofs.Ytmldiibfmhkgjaa
open Go Go.Wd
set_option linter.unusedVariables false
set_option linter.unusedSimpArgs false
set_option linter.unnecessarySimpa false

theorem wf_call {r : List Value} (h : wfCells [.int .i64, .int .i64, .int .i64, .bool, .bool] r) : ∃ c : Cl, c.cells = r := by
  obtain ⟨v1, r, rfl, h1, h⟩ := wfCells_cons h
  obtain ⟨v2, r, rfl, h2, h⟩ := wfCells_cons h
  obtain ⟨v3, r, rfl, h3, h⟩ := wfCells_cons h
  obtain ⟨v4, r, rfl, h4, h⟩ := wfCells_cons h
  obtain ⟨v5, r, rfl, h5, h⟩ := wfCells_cons h
  obtain rfl := wfCells_nil h
  obtain ⟨b1, rfl, _⟩ := wfInt h1
  obtain ⟨b2, rfl, _⟩ := wfInt h2
  obtain ⟨b3, rfl, _⟩ := wfInt h3
  obtain ⟨b4, rfl⟩ := wfBool h4
  obtain ⟨b5, rfl⟩ := wfBool h5
  exact ⟨⟨b1, b2, b3, b4, b5⟩, rfl⟩
theorem rows_c {rows : List (List Value)} (hw : ∀ r ∈ rows, wfCells [.int .i64, .int .i64, .int .i64, .bool, .bool] r) : ∃ l : List Cl, rows.length = l.length ∧ rows.flatten = encL Cl.cells l := by
  obtain ⟨l, h1, h2, _⟩ := rows_enc (f := Cl.cells) (ok := fun _ => True) (rows := rows) (fun r hr => by
    obtain ⟨c, hc⟩ := wf_call (hw r hr)
    exact ⟨c, hc.symm, trivial⟩)
  exact ⟨l, h1, h2⟩
theorem find_drop (L : List (Option S)) (v p : Int) : findL (dropL (fun t => t.vm == v) L) v p = none := by
  unfold findL
  cases h : atK (dropL (fun t => t.vm == v) L) v p with
  | none => rfl
  | some k =>
    obtain ⟨s, h1, h2⟩ := atK_some h
    rw [S.is_iff] at h2
    unfold dropL at h1
    rw [List.getElem?_map] at h1
    cases hx : L[k]? with
    | none => rw [hx] at h1; cases h1
    | some o =>
      rw [hx] at h1
      cases o with
      | none => cases h1
      | some t =>
        simp only [Option.map_some, gone] at h1
        by_cases hc : (t.vm == v) = true
        · rw [if_pos hc] at h1; cases h1
        · rw [if_neg hc] at h1
          simp only [Option.some.injEq] at h1
          subst h1
          exact absurd (by rw [h2.1]; simp) hc
theorem row_call {h : Hp} {a : Option Addr} {L : List Cl} (r : rowAtK h a (encL Cl.cells L)) {k : Nat} {c : Cl} (hx : L[k]? = some c) {K : Nat → Nat → Int → Int → Int → Bool → Bool → Prop}
    (hK : ∀ b o, K b o c.what c.page c.frame c.w c.x) :
    ∃ b : Nat, ∃ o : Nat, a = some ⟨b, o, none⟩ ∧ ∃ x1 : Int, cellAt h b (o + (k : Int).toNat * 5 + 0) = some (.int .i64 x1) ∧ ∃ x2 : Int, cellAt h b (o + (k : Int).toNat * 5 + 1) = some (.int .i64 x2) ∧ ∃ x3 : Int, cellAt h b (o + (k : Int).toNat * 5 + 2) = some (.int .i64 x3) ∧
      ∃ x4 : Bool, cellAt h b (o + (k : Int).toNat * 5 + 3) = some (.bool x4) ∧ ∃ x5 : Bool, cellAt h b (o + (k : Int).toNat * 5 + 4) = some (.bool x5) ∧ K b o x1 x2 x3 x4 x5 := by
  obtain ⟨b, o, rfl, e⟩ := encL_one Cl.len r hx (by decide)
  rw [Int.toNat_natCast]
  exact ⟨b, o, rfl, _, (e 0 (by decide)).trans rfl, _, (e 1 (by decide)).trans rfl, _, (e 2 (by decide)).trans rfl, _, (e 3 (by decide)).trans rfl, _, (e 4 (by decide)).trans rfl, hK b o⟩
section
variable {h0 h : Hp} {b : Nat} {y : Lay} {s : Sp} {A : Ab} {T : Nat → Nat} {n K : Nat}
theorem Liv.tl (l : Liv s A T n K) (TL : List (Option S)) (nx : Nat) : Liv { s with TL := TL, nx := nx } A T n K :=
  ⟨⟨l.inv.hn, l.inv.bl, l.inv.ll, l.inv.fw, l.inv.sw, l.inv.bb, l.inv.pb, l.inv.ro, l.inv.to, l.inv.tt⟩, l.ne, l.de, l.n, l.vm, l.c0, l.c1⟩
/-- The calls, one behind the other. -/
theorem do_loop (w : Wo h0 h b y s) (l : Liv s A T n K) {a : Option Addr} {calls : List Cl} (hl : calls.length ≤ 24) (row : rowAtK h0 a (encL Cl.cells calls)) {rest : Hp → Prop}
    (hrest : ∀ h5 s' A' T', Wo h0 h5 b y s' → Liv s' A' T' n K → rest h5) :
    ∃ I7 : Int → Hp → Prop, ∃ m8 : Int → Hp → Nat, I7 0 h ∧ ∀ i9 : Int, ∀ h5 : Hp, I7 i9 h5 → ((decide (i9 < ((calls.length : Nat) : Int))) = true →
  (∃ b10 : Nat, ∃ o11 : Nat, (some ⟨b, 0, none⟩ : Option Addr) = some ⟨b10, o11, none⟩ ∧ ∃ Space12 : Option Addr, cellAt h5 b10 (o11 + 3) = some (.pointer Space12) ∧ (0 : Int) ≤ i9 ∧ i9 < ((calls.length : Nat) : Int) ∧ ∃ b13 : Nat, ∃ o14 : Nat, (a : Option Addr) = some ⟨b13, o14, none⟩ ∧
  ∃ x15 : Int, cellAt h5 b13 (o14 + i9.toNat * 5 + 0) = some (.int .i64 x15) ∧ ∃ x16 : Int, cellAt h5 b13 (o14 + i9.toNat * 5 + 1) = some (.int .i64 x16) ∧ ∃ x17 : Int, cellAt h5 b13 (o14 + i9.toNat * 5 + 2) = some (.int .i64 x17) ∧
  ∃ x18 : Bool, cellAt h5 b13 (o14 + i9.toNat * 5 + 3) = some (.bool x18) ∧ ∃ x19 : Bool, cellAt h5 b13 (o14 + i9.toNat * 5 + 4) = some (.bool x19) ∧ CallsH Try.prog 12 [.pointer Space12, .agg #[.int .i64 x15, .int .i64 x16, .int .i64 x17, .bool x18, .bool x19]] h5 fun r20 h6 => ∃ Do21 : Int, r20 = .int .i64 Do21 ∧
  I7 (IntKind.wrap .i64 (i9 + 1)) h6 ∧ m8 (IntKind.wrap .i64 (i9 + 1)) h6 < m8 i9 h5)) ∧ ((decide (i9 < ((calls.length : Nat) : Int))) = false → rest h5) := by
  refine ⟨fun i h5 => ∃ (j : Nat) (s' : Sp) (A' : Ab) (T' : Nat → Nat), i = (j : Int) ∧ j ≤ calls.length ∧ Wo h0 h5 b y s' ∧ Liv s' A' T' n K, fun i _ => calls.length - i.toNat, ⟨0, s, A, T, rfl, by omega, w, l⟩, ?_⟩
  rintro i h5 ⟨j, s1, A1, T1, rfl, hj, w1, l1⟩
  refine ⟨fun c => ?_, fun c => hrest _ _ _ _ w1 l1⟩
  have hj1 : j < calls.length := lt_cast c
  obtain ⟨cl, hcl⟩ : ∃ cl, calls[j]? = some cl := ⟨_, List.getElem?_eq_getElem hj1⟩
  refine ⟨_, _, rfl, _, w1.csp, by omega, by omega, ?_⟩
  refine row_call (row.fr w1.fr (by simp)) hcl (fun b o => ?_)
  refine (Do_spec w1.sp l1.hv cl).mono ?_
  rintro v h6 ⟨e, s2, rfl, p2, f2, r2⟩
  obtain ⟨_, _, _, T2, l2⟩ := l1.step r2
  refine ⟨_, rfl, ?_, ?_⟩
  · rw [wrapN hj1 (by omega)]
    exact ⟨j + 1, s2, _, T2, rfl, hj1, w1.go p2 (.ofF f2), l2⟩
  · rw [wrapN hj1 (by omega)]
    exact decM hj1
end
/-- The value that a law hands on is its own variable. -/
theorem Gone_walk {h : Hp} (n a : Int) {ra : Option Addr} {calls : List Cl} {rc : Nat} (row : rowAtK h ra (encL Cl.cells calls)) (last : Cl) :
    CallsH Try.prog 8 [.int .i64 n, .int .i64 a, .slice ra calls.length rc, .agg ⟨last.cells⟩] h fun v h' => v = .bool true ∧ Fr [] h h' := by
  refine calls_k fun R hR => ?_
  apply warderlaw11_StageGone.calls
  unfold warderlaw11_StageGone.P
  intro h1 e1
  have k1 : bk h1 (sz h) = some (blk 24 last.cells) := by rw [e1]; exact new_at _ _
  have f1 : Fr [] h h1 := by rw [e1]; exact Fr.new _ _ _
  have lt1 := lt_of_bk k1
  clear e1
  refine alive_spec.mono ?_
  rintro v h2 ⟨rfl, f2⟩
  refine ⟨_, rfl, fun c => (by cases c), fun _ => ?_⟩
  refine (great_spec n a _ _ _).mono ?_
  rintro v h3 ⟨rfl, hh⟩
  rw [hh]; clear hh h3
  refine ⟨_, rfl, fun c => hR _ _ ⟨rfl, f1.trans f2⟩, fun c => ?_⟩
  obtain ⟨m, k, rfl, rfl, hm1, hm, hk, hl⟩ := great_no11 c
  refine (Begin_spec hm1 hm hk).mono ?_
  rintro v h4 ⟨b, y, s, rfl, w4, i4⟩
  have k2 := f2.at k1 (by simp)
  have w4 := w4.back f2
  refine ⟨_, rfl, fun c => absurd c (by simp [notIf]), fun _ => ?_⟩
  refine do_loop w4 i4.lv hl (row.fr f1 (by simp)) ?_
  intro h5 s1 A T w5 l5
  refine ⟨_, _, rfl, _, w5.ctlb, ?_⟩
  refine (TFill_spec w5.sp.g.t ⟨7, 9, 0, false, false⟩).mono ?_
  rintro v h7 ⟨rfl, t7, f7⟩
  have w7 := w5.go (w5.sp.tw f7 t7) (FrL.of f7 (by simp [Lay.F]))
  have l7 := l5.tl (tfillL s1.TL s1.nx ⟨7, 9, 0, false, false⟩).1 (tfillL s1.TL s1.nx ⟨7, 9, 0, false, false⟩).2
  refine ⟨rfl, _, _, rfl, _, w7.csp, ?_⟩
  refine (Destroy_spec w7.sp l7.inv l7.de).mono ?_
  generalize ({ s1 with TL := (tfillL s1.TL s1.nx ⟨7, 9, 0, false, false⟩).1, nx := (tfillL s1.TL s1.nx ⟨7, 9, 0, false, false⟩).2 } : Sp) = s2 at *
  obtain ⟨hc1, hc0⟩ := all_given l7.inv
  generalize tbA A T 64 ++ [(s2.root : Int)] = fs at *
  rintro v h8 ⟨rfl, p8, f8⟩
  have w8 := w7.go p8 f8
  have k8 := w8.fr.at k1 (by simp)
  refine ⟨rfl, _, _, rfl, _, w8.csp, ?_⟩
  refine ⟨_, (cellAt_of k8 0).trans rfl, _, (cellAt_of k8 1).trans rfl, _, (cellAt_of k8 2).trans rfl, _, (cellAt_of k8 3).trans rfl, _, (cellAt_of k8 4).trans rfl, ?_⟩
  refine (Do_spec (A := A) (T := T) w8.sp (fun hd => absurd (show true = false from hd) (by decide)) last).mono ?_
  rintro v h9 ⟨e, s3, rfl, p9, f9, r9⟩
  have w9 := w8.go p9 (.ofF f9)
  rcases r9 with ⟨_, rfl, hs3⟩ | ⟨hd, _⟩
  rotate_left
  · exact absurd (show true = false from hd) (by decide)
  have hs3 : s3 = s2.gone fs := hs3
  subst hs3
  refine ⟨_, rfl, _, _, rfl, _, w9.csp, ?_⟩
  refine (Destroy_dead w9.sp rfl).mono ?_
  rintro v h10 ⟨rfl, hh⟩
  rw [hh]; clear hh h10
  refine ⟨rfl, _, _, rfl, _, w9.ctlb, ?_⟩
  refine (TFind_spec w9.sp.g.t 7 9).mono ?_
  have hvm : s2.vmid = 7 := l7.vm
  have hfind : findL (s2.gone fs).TL 7 9 = none := by
    show findL (dropL (fun t => t.vm == s2.vmid) s2.TL) 7 9 = none
    rw [hvm]; exact find_drop _ _ _
  rw [hfind]
  rintro v h11 ⟨rfl, f11⟩
  have w11 := w9.fr0 f11
  refine ⟨_, _, _, _, _, _, rfl, ?_⟩
  refine put_local rfl (by decide) ?_
  intro h13 k13 f13 _
  have w13 := w11.fr0 f13
  have kk := w13.fr.at k1 (by simp)
  refine ⟨fun is h20 => is = false ∧ Wo h1 h20 b y (s2.gone fs), ?_, ?_⟩
  · refine ⟨_, _, rfl, _, w13.csp, _, (cellAt_of kk 1).trans rfl, ?_, ?_⟩
    · refine (SLook_dead w13.sp rfl _).mono ?_
      rintro v h14 ⟨rfl, f14⟩
      refine ⟨_, _, _, _, _, _, rfl, ?_⟩
      intro h15 e15
      have f15 : Fr [] h14 h15 := by rw [e15]; exact Fr.new _ _ _
      have k15 : bk h15 (sz h14) = some (blk 54 noEnt.cells) := by rw [e15]; exact new_at _ _
      clear e15
      have w15 := (w13.fr0 f14).fr0 f15
      have kk := w15.fr.at k1 (by simp)
      refine ⟨w15.csp, (cellAt_of kk 1).trans rfl, truly_rfl, _, _, k15, by decide, ?_⟩
      intro h16 e16
      exact ⟨rfl, (w13.fr0 f14).fr0 (f15.later (by rw [e16]; exact Fr.upd (F := [sz h14]) (by simp) _ _ _) (by simp))⟩
    · intro h17 e17
      have f17 : Fr [] h13 h17 := by rw [e17]; exact Fr.new _ _ _
      have k17 : bk h17 (sz h13) = some (blk 54 noEnt.cells) := by rw [e17]; exact new_at _ _
      clear e17
      have w17 := w13.fr0 f17
      have kk := w17.fr.at k1 (by simp)
      refine ⟨w17.csp, (cellAt_of kk 1).trans rfl, ?_⟩
      refine (SLook_dead w17.sp rfl _).mono ?_
      rintro v h18 ⟨rfl, f18⟩
      refine ⟨_, _, _, _, _, _, rfl, truly_rfl, _, _, f18.at k17 (by simp), by decide, ?_⟩
      intro h19 e19
      exact ⟨rfl, w13.fr0 ((f17.trans f18).later (by rw [e19]; exact Fr.upd (F := [sz h13]) (by simp) _ _ _) (by simp))⟩
  rintro is h20 ⟨rfl, w20⟩
  have yes : ∀ {P Q : Prop} {t : Bool}, t = true → P → (t = true → P) ∧ (t = false → Q) := fun ht hp => ⟨fun _ => hp, fun c => by rw [ht] at c; cases c⟩
  refine yes rfl (yes rfl (yes rfl ⟨_, _, rfl, _, w20.cfr, ?_⟩))
  refine (Count_spec w20.sp.g.f 1).mono ?_
  have l1 := l7.c1
  have l0 := l7.c0
  rw [show (s2.gone fs).L.count 1 = 0 by show (gvAll s2.L fs).count 1 = 0; omega]
  rintro v h21 ⟨rfl, hh⟩
  rw [hh]; clear hh h21
  refine ⟨_, rfl, yes rfl ⟨_, _, rfl, _, w20.cfr, ?_⟩⟩
  refine (Count_spec w20.sp.g.f 0).mono ?_
  rw [show (s2.gone fs).L.count 0 = m - k by show (gvAll s2.L fs).count 0 = m - k; omega]
  rintro v h22 ⟨rfl, hh⟩
  rw [hh]; clear hh h22
  have hwr : IntKind.wrap .i64 ((m : Int) - (k : Int)) = ((m - k : Nat) : Int) := by rw [wrap_i64 (by omega) (by omega)]; omega
  rw [hwr]
  refine ⟨_, rfl, yes (by simp) ⟨_, _, rfl, _, w20.csp, ?_⟩⟩
  refine (SPages_dead w20.sp rfl).mono ?_
  rintro v h23 ⟨rfl, hh⟩
  rw [hh]; clear hh h23
  refine ⟨_, _, _, rfl, yes rfl ⟨_, _, rfl, _, w20.csp, ?_⟩⟩
  refine (Log_spec w20.sp (Nat.zero_le _)).mono ?_
  rintro v h24 ⟨la, lc, rfl, _, _, f24⟩
  have w24 := w20.fr0 f24
  refine ⟨_, _, _, rfl, yes rfl ⟨_, _, rfl, _, w24.csp, ?_⟩⟩
  refine (Tables_dead w24.sp rfl).mono ?_
  rintro v h25 ⟨rfl, hh⟩
  rw [hh]; clear hh h25
  exact ⟨_, rfl, hR _ _ ⟨rfl, f1.trans w24.fr⟩⟩
end Go.Proofs.Ytmldiibfmhkgjaa
