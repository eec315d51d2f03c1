import Derived.Test.YtmldiibfmhkgjaaHd
namespace Go.Proofs.Ytmldiibfmhkgjaa
open Go Go.Wd
set_option linter.unusedVariables false
set_option linter.unusedSimpArgs false
set_option linter.unnecessarySimpa false

theorem pages_pos {P : Nat → Bool} {j : Nat} (hj : P j = true) : ∀ m, j < m → (pagesL P m)[(pagesL P j).length]? = some (j : Int)
  | 0, h => by omega
  | m + 1, h => by
    rw [pages_next]
    by_cases e : j = m
    · subst e
      rw [if_pos hj, List.getElem?_append_right (Nat.le_refl _), Nat.sub_self]; rfl
    · have ih := pages_pos hj m (by omega)
      rw [List.getElem?_append_left (List.getElem?_eq_some_iff.1 ih).1]
      exact ih
theorem look_b {A : Ab} {p : Nat} {z : Pg} {b : Bool} (h : lookN A p = some (z, b)) : b = (knd (A (p / 64)) == 1) := by
  unfold lookN at h
  cases hA : A (p / 64) with
  | no => rw [hA] at h; cases h
  | bl f w x => rw [hA] at h; simp at h; rw [h.2]; rfl
  | tb g =>
    rw [hA] at h
    cases hg : g (p % 64) with
    | none => simp [hg] at h
    | some r => simp [hg] at h; rw [h.2]; rfl
theorem same_spec {h0 h : Hp} {b : Nat} {y : Lay} {s : Sp} {A : Ab} {T : Nat → Nat} {n n' K K' q pb fb : Nat} (w : Wo h0 h b y s) (l : Liv s A T n K) (d : DS h q pb fb n' A K') :
    CallsH Try.prog 20 [.pointer (some ⟨b, 0, none⟩), .pointer (some ⟨q, 0, none⟩)] h fun v h' => v = .bool true ∧ Fr [] h h' := by
  refine calls_k fun R hR => ?_
  apply warderlaw11_same.calls
  unfold warderlaw11_same.P
  refine ⟨_, w.csp, ?_⟩
  refine (SPages_spec w.sp l.inv l.de).mono ?_
  have hpos := fun {j : Nat} (hj : pgP A j = true) (hlt : j < 4096) => pages_pos (P := pgP A) hj 4096 hlt
  rw [psL_def] at hpos
  have hend := psL_def A
  rw [psL_def]
  rintro v h1 ⟨la, lc, rfl, rl1, _, f1⟩
  have w1 := w.fr0 f1
  have d1 := d.fr0 f1
  refine ⟨_, _, _, rfl, ?_⟩
  refine ⟨fun k p h2 => ∃ j : Nat, p = (j : Int) ∧ j ≤ 4096 ∧ k = (((pagesL (pgP A) j).length : Nat) : Int) ∧ Fr [] h1 h2, fun _ p _ => 4096 - p.toNat, ⟨0, rfl, by omega, rfl, Fr.refl _ _⟩, ?_⟩
  rintro k p h2 ⟨j, rfl, hj4, rfl, f2⟩
  have w2 := w1.fr0 f2
  have d2 := d1.fr0 f2
  have rl2 := rl1.fr f2 (by simp)
  obtain ⟨⟨PL, FL, rl, rel⟩, hle, hK, hn1⟩ := d2
  refine ⟨fun c => ?_, fun c => ?_⟩
  · have hj : j < 4096 := lt_cast (n := 4096) c
    have hpg := rel.pg j hj
    have hnx := pages_next (pgP A) j
    have hln := pages_len (pgP A) j
    have hw1 : IntKind.wrap .i64 ((j : Int) + 1) = ((j + 1 : Nat) : Int) := wrapN hj (by omega)
    have hdec : 4096 - ((j + 1 : Nat) : Int).toNat < 4096 - ((j : Nat) : Int).toNat := decM hj
    rw [hw1]
    refine ⟨_, _, _, rl.cp, by omega, by omega, _, _, rfl, _, (rl.page hpg 1 (by decide)).trans rfl, fun ct => ?_, fun ct => ?_⟩
    · rw [rpO_t, lkT_is] at ct
      rw [if_neg (by rw [not_t ct]; decide), List.append_nil] at hnx
      exact ⟨⟨j + 1, rfl, hj, by rw [hnx], f2⟩, hdec⟩
    · rw [rpO_t, lkT_is] at ct
      have hP := not_f ct
      rw [if_pos hP] at hnx
      have hat := hpos hP hj
      have hlt : (pagesL (pgP A) j).length < (psL A).length := (List.getElem?_eq_some_iff.1 hat).1
      obtain ⟨lb, lo, rfl, cl⟩ := rowN_cell rl2 hat
      obtain ⟨z, hz⟩ : ∃ z, lkT A j = some z := by
        have := lkT_is A j
        rw [hP] at this
        exact Option.isSome_iff_exists.1 this
      obtain ⟨bb, hlk⟩ := look_lkT hz
      have hbb := look_b hlk
      rw [hz] at hpg
      refine ⟨fun h3 => h3 = h2, ⟨fun c => ?_, fun _ => ⟨by omega, by omega, _, _, rfl, _, cl, fun c => by simp at c, fun _ => rfl⟩⟩, ?_⟩
      · simp only [decide_eq_true_eq] at c; omega
      rintro h3 hh
      rw [hh]; clear hh h3
      refine ⟨_, w2.csp, ?_⟩
      refine (SLook_spec w2.sp l.inv l.de (j : Int)).mono ?_
      rw [lookA_nat hj, hlk]
      rintro v h4 ⟨rfl, f4⟩
      refine ⟨_, _, _, _, _, _, rfl, ?_⟩
      refine put_ent (lkE (some (z, bb))) ?_
      intro h6 k6 f6 _
      have f26 := f4.trans f6
      have r6 := rl.fr0 f26
      have no : ∀ {P Q : Prop} {t : Bool}, t = false → P → (t = true → Q) ∧ (t = false → P) := fun ht hp => ⟨fun c => (by rw [ht] at c; cases c), fun _ => hp⟩
      have hi64 : j / 64 < 64 := (p_idx hj).1
      have hwk : IntKind.wrap .i64 ((((pagesL (pgP A) j).length : Nat) : Int) + 1) = (((pagesL (pgP A) j).length + 1 : Nat) : Int) := by rw [wrap_i64 (by omega) (by omega)]; omega
      rw [hwk, tdiv64 hj]
      refine no rfl ⟨_, (cellAt_of k6 4).trans rfl, _, _, _, r6.cp, by omega, by omega, _, _, rfl, _, (r6.page hpg 0 (by decide)).trans rfl, no (by simp [lkE, rpO]) ⟨_, (cellAt_of k6 1).trans rfl, _, _, _, r6.cp, by omega, by omega, _, _, rfl, _, (r6.page hpg 2 (by decide)).trans rfl, no (by simp [lkE, rpO, notIf]) ⟨_, (cellAt_of k6 2).trans rfl, _, _, _, r6.cp, by omega, by omega, _, _, rfl, _, (r6.page hpg 3 (by decide)).trans rfl, no (by simp [lkE, rpO, notIf]) ⟨_, (cellAt_of k6 3).trans rfl, _, _, _, r6.cf, by decide, by omega, by omega, _, _, rfl, _, r6.first (rel.fi _ hi64), no ?_ ?_⟩⟩⟩⟩
      · show notIf false (bb == (knd (A (j / 64)) == 1)) = false
        rw [← hbb]
        simp [notIf]
      · exact ⟨⟨j + 1, rfl, hj, by rw [hnx, List.length_append]; rfl, f2.trans f26⟩, hdec⟩
  · have hj : j = 4096 := Nat.le_antisymm hj4 (ge_cast (n := 4096) c)
    rw [hj, hend]
    refine ⟨fun _ => ⟨_, w2.csp, ?_⟩, fun c => by simp at c⟩
    refine (Tables_spec w2.sp l.inv l.de).mono ?_
    rintro v h7 ⟨rfl, f7⟩
    have w7 := w2.fr0 f7
    have d7 : DS h7 q pb fb n' A K' := (d1.fr0 f2).fr0 f7
    have hnT := nT_le A
    have hwt : IntKind.wrap .i64 (((nT A : Nat) : Int) + 1) = ((nT A + 1 : Nat) : Int) := by rw [wrap_i64 (by omega) (by omega)]; omega
    refine ⟨_, rfl, ?_⟩
    refine (RTables_spec d7).mono ?_
    rintro v h8 ⟨rfl, hh⟩
    rw [hh]; clear hh h8
    refine ⟨_, rfl, fun _ => ⟨_, w7.cfr, ?_⟩, fun c => by rw [hwt] at c; simp at c⟩
    refine (Count_spec w7.sp.g.f 1).mono ?_
    rw [l.c1]
    rintro v h9 ⟨rfl, hh⟩
    rw [hh]; clear hh h9
    refine ⟨_, rfl, ?_⟩
    refine (RTables_spec d7).mono ?_
    rintro v h10 ⟨rfl, hh⟩
    rw [hh]; clear hh h10
    refine ⟨_, rfl, hR _ _ ⟨?_, (f1.trans f2).trans f7⟩⟩
    rw [hwt]; simp
/-- A world stays, where blocks behind it are written. -/
theorem Wo.apart {h0 h h' : Hp} {b z : Nat} {y : Lay} {s : Sp} {F : List Nat} (w : Wo h0 h b y s) (f : Fr F h h') (hF : ∀ x ∈ F, z ≤ x) (hy : (∀ x ∈ y.F, x < z) ∧ y.mq < z ∧ b < z) (h0z : sz h0 ≤ z)
    (ht : ∀ x ∈ F, ∀ t, ty h x = some t → t ≠ 71 ∧ t ≠ 64) : Wo h0 h' b y s := by
  obtain ⟨hyF, hmq, hb⟩ := hy
  have out : ∀ {x : Nat}, x < z → x ∉ F := fun hx hm => by have := hF _ hm; omega
  have oF : ∀ {x : Nat}, x ∈ y.F → x ∉ F := fun hx => out (hyF _ hx)
  obtain ⟨la, lc, e, o, zz⟩ := w.sp.hs
  have g := w.sp.g
  refine ⟨f.at w.wb (out hb), ⟨⟨la, lc, f.at e (oF (by simp [Lay.F])), o.fr f (fun x hx hm => (ht x hm 71 (own_ty o x hx)).1 rfl), zz.fr f⟩, g.m.fr f (out hmq) (oF (by simp [Lay.F])), g.f.fr f (oF (by simp [Lay.F])) (oF (by simp [Lay.F])), g.t.fr f (oF (by simp [Lay.F])) (oF (by simp [Lay.F])) (oF (by simp [Lay.F])) (fun x hx T l hb => (ht x hx T (ty_of hb)).2)⟩, w.F, w.lb, w.z, w.fr.later f (fun x hx => Nat.le_trans h0z (hF x hx))⟩
theorem Calls_walk {h : Hp} (n a : Int) {ra : Option Addr} {calls : List Cl} {rc : Nat} (row : rowAtK h ra (encL Cl.cells calls)) :
    CallsH Try.prog 4 [.int .i64 n, .int .i64 a, .slice ra calls.length rc] h fun v h' => v = .bool true ∧ Fr [] h h' := by
  refine calls_k fun R hR => ?_
  apply warderlaw11_StageCalls.calls
  unfold warderlaw11_StageCalls.P
  refine alive_spec.mono ?_
  rintro v h2 ⟨rfl, f2⟩
  refine ⟨_, rfl, fun c => (by cases c), fun _ => ?_⟩
  refine (great_spec n a _ _ _).mono ?_
  rintro v h3 ⟨rfl, hh⟩
  rw [hh]; clear hh h3
  refine ⟨_, rfl, fun _ => hR _ _ ⟨rfl, f2⟩, fun cg => ?_⟩
  obtain ⟨m, k, rfl, rfl, hm1, hm, hk, hl⟩ := great_no11 cg
  refine (Begin_spec hm1 hm hk).mono ?_
  rintro v h3 ⟨b, y, s, rfl, w3, i3⟩
  have w3 := w3.back f2
  have ltF := w3.sp.ltF
  have ltm := ty_lt w3.sp.g.ty_mq
  have ltb := lt_of_bk w3.wb
  refine ⟨_, rfl, fun c => absurd c (by simp [notIf]), fun _ => ?_⟩
  have hwr : IntKind.wrap .i64 ((IntKind.wrap .i64 ((m : Int) - (k : Int))) - 1) = ((m - k - 1 : Nat) : Int) := by
    rw [wrap_i64 (n := (m : Int) - (k : Int)) (by omega) (by omega), wrap_i64 (by omega) (by omega)]; omega
  rw [hwr]
  refine (RNew_spec (n := m) (K := m - k - 1) (by omega) (by omega)).mono ?_
  rintro v h4 ⟨q, pb, fb, rfl, d4, f4, hq, hpb, hfb⟩
  have w4 := w3.fr0 f4
  have hRF : ∀ x ∈ RF q pb fb, sz h3 ≤ x := by
    intro x hx
    simp only [RF, List.mem_cons, List.not_mem_nil, or_false] at hx
    rcases hx with rfl | rfl | rfl <;> assumption
  refine ⟨_, rfl, ?_⟩
  refine ⟨fun i h5 => ∃ (j : Nat) (s : Sp) (A : Ab) (T : Nat → Nat), i = (j : Int) ∧ j ≤ calls.length ∧ Wo h h5 b y s ∧ Liv s A T m (m - k - 1) ∧ DS h5 q pb fb m A (m - k - 1), fun i _ => calls.length - i.toNat, ⟨0, s, A0, _, rfl, by omega, w4, i3.lv, d4⟩, ?_⟩
  rintro i h5 ⟨j, s, A, T, rfl, hj, w5, l5, d5⟩
  refine ⟨fun c => ?_, fun c => hR _ _ ⟨rfl, w5.fr⟩⟩
  have hj1 : j < calls.length := lt_cast c
  obtain ⟨cl, hcl⟩ : ∃ cl, calls[j]? = some cl := ⟨_, List.getElem?_eq_getElem hj1⟩
  refine ⟨_, _, rfl, _, w5.csp, by omega, by omega, ?_⟩
  have row5 := row.fr w5.fr (by simp)
  refine row_call row5 hcl (fun b' o' => ?_)
  refine ⟨by omega, by omega, ?_⟩
  obtain ⟨cb, co, hra, ec⟩ := encL_one Cl.len row5 hcl (by decide)
  refine ⟨cb, co, hra, ?_⟩
  have cell := fun (x : Nat) (hx : x < 5) => ec x hx
  rw [Int.toNat_natCast]
  refine ⟨_, (cell 0 (by decide)).trans rfl, _, (cell 1 (by decide)).trans rfl, _, (cell 2 (by decide)).trans rfl, _, (cell 3 (by decide)).trans rfl, _, (cell 4 (by decide)).trans rfl, ?_⟩
  refine (Do_spec w5.sp l5.hv cl).mono ?_
  rintro v h6 ⟨e, s6, rfl, p6, f6, r6⟩
  have w6 := w5.go p6 (.ofF f6)
  obtain ⟨he, _, _, T6, l6⟩ := l5.step r6
  have row6 := row.fr w6.fr (by simp)
  have cell6 : ∀ x, x < 5 → cellAt h6 cb (co + j * 5 + x) = cl.cells[x]? := by
    obtain ⟨cb', co', hra', ec'⟩ := encL_one Cl.len row6 hcl (by decide)
    rw [hra] at hra'
    cases hra'
    exact ec'
  have hnF : ∀ x ∈ RF q pb fb, x ∉ y.F := fun x hx hm => by have := hRF x hx; have := ltF x hm; omega
  have d6 := d5.fr f6 ⟨hnF q (by simp [RF]), hnF pb (by simp [RF]), hnF fb (by simp [RF])⟩
  rw [l5.n, l5.freeK] at he l6
  refine ⟨_, rfl, (cell6 0 (by decide)).trans rfl, (cell6 1 (by decide)).trans rfl, (cell6 2 (by decide)).trans rfl, (cell6 3 (by decide)).trans rfl, (cell6 4 (by decide)).trans rfl, ?_⟩
  have hf : ∀ p, p < 4096 → ∀ z, lkT A p = some z → z.f ≤ 2000 := fun p hp z hz => by
    obtain ⟨hi, hk⟩ := p_idx hp
    have h1 := tab_lt l5.inv hi hk hz
    have h2 := l5.inv.hn
    omega
  refine (doRef_spec d6 hf cl).mono ?_
  rintro v h7 ⟨rfl, d7, f7⟩
  have ht : ∀ x ∈ RF q pb fb, ∀ t, ty h6 x = some t → t ≠ 71 ∧ t ≠ 64 := by
    obtain ⟨⟨PL, FL, rl, _⟩, _⟩ := d6
    intro x hx t hxt
    simp only [RF, List.mem_cons, List.not_mem_nil, or_false] at hx
    rcases hx with rfl | rfl | rfl
    · rw [rl.t1] at hxt; cases hxt; decide
    · rw [rl.t2] at hxt; cases hxt; decide
    · rw [rl.t3] at hxt; cases hxt; decide
  have w7 := w6.apart f7 hRF ⟨ltF, ltm, ltb⟩ w3.fr.size ht
  refine ⟨_, rfl, fun c1 => by rw [he] at c1; simp at c1, fun _ => ?_⟩
  refine (same_spec w7 l6 d7).mono ?_
  rintro v h8 ⟨rfl, f8⟩
  refine ⟨_, rfl, fun c1 => (by cases c1), fun _ => ?_⟩
  rw [wrapN hj1 (by omega)]
  exact ⟨⟨j + 1, s6, _, T6, rfl, hj1, w7.fr0 f8, l6, d7.fr0 f8⟩, decM hj1⟩
end Go.Proofs.Ytmldiibfmhkgjaa
