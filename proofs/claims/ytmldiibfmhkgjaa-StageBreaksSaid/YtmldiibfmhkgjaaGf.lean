import Derived.Test.YtmldiibfmhkgjaaGe
namespace Go.Proofs.Ytmldiibfmhkgjaa
open Go Go.Wd
set_option linter.unusedVariables false
set_option linter.unusedSimpArgs false
set_option linter.unnecessarySimpa false

theorem inv_new {n : Nat} {B : List Nat} {L : List Int} {TL : List (Option S)} {nx r : Nat} {vm : Int} (hn : 1 ≤ n ∧ n ≤ 1024) (bl : B.length = n * 256) (ll : L.length = n) (hr : L[r]? = some 0) :
    Inv ⟨n, zeroF B r, L.set r 1, TL, nx, vm, r, false, []⟩ A0 (fun _ => 0) := by
  have hrl := own_lt hr ll
  refine ⟨hn, ?_, ?_, ?_, fun i _ g hg => (by cases hg), fun i _ f x y hg => (by cases hg), fun i _ g hg => (by cases hg), set_own2 hr, fun i _ hc => (by cases hc), fun i _ k _ _ hc => (by cases hc)⟩
  · show (zeroF B r).length = n * 256
    rw [zeroF_len bl hrl, bl]
  · show (List.set _ r 1).length = n
    rw [List.length_set, ll]
  · intro i hi
    show wA (zeroF B r) r i = _
    rw [wA_zero bl hrl hi, if_pos rfl]; rfl
theorem ne_zero : NE A0 := fun i _ g hg => by cases hg
theorem wrap_diff {m k : Nat} (hm : m ≤ 300) (hk : k < m) : IntKind.wrap .i64 ((m : Int) - (k : Int)) = ((m - k : Nat) : Int) := by rw [wrap_i64 (by omega) (by omega)]; omega
theorem posOf_le {o : Int} {L : List Int} {n : Nat} (h : L.length = n) (hn : n ≤ 1024) : (posOf o L).length ≤ 1000000 := by
  rw [posOf_length]
  have := List.count_le_length (a := o) (l := L)
  omega
/-- A world, and another space in it. -/
structure Dw (h0 h : Hp) (b : Nat) (y : Lay) (s : Sp) (A : Ab) (T : Nat → Nat) (y2 : Lay) (s2 : Sp) (A2 : Ab) (T2 : Nat → Nat) : Prop where
  w : Wo h0 h b y s
  d : Duo h y s A T y2 s2 A2 T2
  q2 : sz h0 ≤ y2.q
section
variable {h0 h h' : Hp} {b : Nat} {y y2 : Lay} {s s' s2 : Sp} {A A2 : Ab} {T T2 : Nat → Nat}
theorem Dw.F2 (w : Dw h0 h b y s A T y2 s2 A2 T2) : ∀ x ∈ y2.F, sz h0 ≤ x := by
  intro x hx
  obtain ⟨_, a, c, e, f, g, i⟩ := w.d.yy
  have hF := w.w.F
  simp only [Lay.F, List.mem_cons, List.not_mem_nil, or_false, a, c, e, f, g, i] at hx
  rcases hx with rfl | hx
  · exact w.q2
  · refine hF x ?_
    simp only [Lay.F, List.mem_cons, List.not_mem_nil, or_false]
    exact .inr hx
theorem Dw.fr0 (w : Dw h0 h b y s A T y2 s2 A2 T2) (f : Fr [] h h') : Dw h0 h' b y s A T y2 s2 A2 T2 := ⟨w.w.fr0 f, w.d.fr0 f, w.q2⟩
/-- The world's own space is called. -/
theorem Dw.step (w : Dw h0 h b y s A T y2 s2 A2 T2) {op : Int × Ab} {e : Int} (p' : SP h' y s') (f : Fr y.F h h') (r : Res s A T op e s') : ∃ T', Done { s with lg := [] } A T s' op.2 ∧ Dw h0 h' b y s' op.2 T' y2 (s2.onto s') A2 T2 := by
  obtain ⟨T', dn, d'⟩ := w.d.step p' f r
  exact ⟨T', dn, w.w.go p' (.ofF f), d', w.q2⟩
/-- The other one is called. -/
theorem Dw.step2 (w : Dw h0 h b y s A T y2 s2 A2 T2) {op : Int × Ab} {e : Int} (p' : SP h' y2 s') (f : Fr y2.F h h') (r : Res s2 A2 T2 op e s') : ∃ T', Dw h0 h' b y (s.onto s') A T y2 s' op.2 T' := by
  obtain ⟨T', dn, d'⟩ := w.d.swap.step p' f r
  have d'' := d'.swap
  have hF2 := w.F2
  refine ⟨T', ⟨⟨f.at w.w.wb (w.d.p2.out (ty_of w.w.wb) (by decide)), d''.p, w.w.F, w.w.lb, w.w.z, w.w.fr.later f hF2⟩, d'', w.q2⟩⟩
theorem New_duo {n K away : Nat} (w : Wo h0 h b y s) (i : Ini n away s) (hf : nT A0 < n - away - 1) :
    CallsH Try.prog 35 [.pointer (some ⟨y.mq, 0, none⟩), .pointer (some ⟨y.fq, 0, none⟩), .pointer (some ⟨y.tq, 0, none⟩), .int .i64 9] h fun v h' =>
      ∃ (s' : Sp) (y2 : Lay) (s2 : Sp), v = .tuple #[.pointer (some ⟨y2.q, 0, none⟩), .int .i64 0] ∧ Dw h0 h' b y s' A0 (fun _ => 0) y2 s2 A0 (fun _ => 0) := by
  have l := i.lv
  have v := l.inv
  have h0m : (0 : Int) ∈ s.L := of_decide_eq_true (l.free hf)
  refine (New_spec w.sp.g.m w.sp.g.f w.sp.g.t (vm := 9) (by decide) v.ll h0m (z := sz h) (Nat.le_refl _)).mono ?_
  rintro x h' ⟨r, rfl, hr, p2, f2⟩
  obtain ⟨y2, hy2⟩ : ∃ y2 : Lay, y2 = ⟨sz h + 2, y.mq, y.mb, y.fq, y.fo, y.tq, y.pl, y.mp, sz h⟩ := ⟨_, rfl⟩
  rw [← hy2] at p2 f2
  have hz : y2.z = sz h := by rw [hy2]
  have hq2 : y2.q = sz h + 2 := by rw [hy2]
  have ff : Fr y2.F h h' := ⟨f2.size, fun x hx hn => f2.keep x hx hn (.inr (by rw [hz]; exact hx))⟩
  have out2 : ∀ x, x < sz h → (x = y.q ∨ x ∉ y.F) → x ∉ y2.F := by
    intro x hx hc hm
    rw [hy2] at hm
    simp only [Lay.F, List.mem_cons, List.not_mem_nil, or_false] at hm
    rcases hc with rfl | hc
    · have t := w.sp.ty_q
      rcases hm with hm | hm | hm | hm | hm | hm | hm
      · omega
      · exact ty_ne t w.sp.g.ty_mb (by decide) hm
      · exact ty_ne t w.sp.g.ty_fq (by decide) hm
      · exact ty_ne t w.sp.g.ty_fo (by decide) hm
      · exact ty_ne t w.sp.g.ty_tq (by decide) hm
      · exact ty_ne t w.sp.g.ty_pl (by decide) hm
      · exact ty_ne t w.sp.g.ty_mp (by decide) hm
    · refine hc ?_
      simp only [Lay.F, List.mem_cons, List.not_mem_nil, or_false]
      rcases hm with hm | hm
      · omega
      · exact .inr hm
  have hne : ∀ f, OwnF s A0 (fun _ => 0) f → f ≠ r := fun f hf e => by
    have := hf.one v
    rw [e, hr] at this; cases this
  have hrl := own_lt hr v.ll
  have g2 := p2.g
  have sp' : SP h' y { s with B := zeroF s.B r, L := s.L.set r 1 } := by
    obtain ⟨la, lc, e, o, z⟩ := w.sp.hs
    refine ⟨⟨la, lc, ff.at e (out2 _ w.sp.lq (.inl rfl)), o.fr ff (fun x hx => out2 _ (ty_lt (own_ty o x hx)) (.inr (w.sp.out (own_ty o x hx) (by decide)))), z.fr ff⟩, ?_⟩
    rw [hy2] at g2
    exact ⟨g2.m, g2.f, g2.t⟩
  have hF2 : ∀ x ∈ y2.F, sz h0 ≤ x := by
    intro x hx
    have hF := w.F
    have := w.fr.size
    rw [hy2] at hx
    simp only [Lay.F, List.mem_cons, List.not_mem_nil, or_false] at hx
    rcases hx with rfl | hx
    · omega
    · refine hF x ?_
      simp only [Lay.F, List.mem_cons, List.not_mem_nil, or_false]
      exact .inr hx
  have hfree : Fr [] h0 h' := w.fr.later ff hF2
  have hone : ∀ f, OwnF s A0 (fun _ => 0) f → (s.L.set r 1)[f]? = some 1 := fun f hf => by
    rw [List.getElem?_set, if_neg (fun e => hne f hf e.symm)]; exact hf.one v
  refine ⟨_, y2, _, by rw [hq2], ⟨⟨ff.at w.wb (out2 _ (lt_of_bk w.wb) (.inr w.nb)), sp', w.F, w.lb, w.z, hfree⟩, ⟨sp', p2, ?_, inv_new v.hn v.bl v.ll hr, ne_zero, ne_zero, l.de, rfl, rfl, rfl, ?_, ?_, ?_⟩, ?_⟩⟩
  · refine v.foreign rfl rfl ?_ ?_ ?_ hone
    · exact zeroF_len v.bl hrl
    · exact List.length_set
    · intro f hf k hk
      show wA (zeroF s.B r) f k = _
      rw [wA_zero v.bl hrl hk, if_neg (hne f hf)]
  · intro e
    have := w.sp.lq
    omega
  · rw [hy2]; exact ⟨rfl, rfl, rfl, rfl, rfl, rfl, rfl⟩
  · intro f hf hf2
    have hf : OwnF s A0 (fun _ => 0) f := hf
    rcases hf2 with hf2 | ⟨i, _, hc, _⟩
    · exact hne f hf hf2
    · cases hc
  · rw [hq2]; have := w.fr.size; omega
end
theorem Own_walk {h : Hp} (n a : Int) {ra : Option Addr} {calls : List Cl} {rc : Nat} (row : rowAtK h ra (encL Cl.cells calls)) {oa : Option Addr} {other : List Cl} {oc : Nat} (orow : rowAtK h oa (encL Cl.cells other)) :
    CallsH Try.prog 7 [.int .i64 n, .int .i64 a, .slice ra calls.length rc, .slice oa other.length oc] h fun v h' => v = .bool true ∧ Fr [] h h' := by
  refine calls_k fun R hR => ?_
  apply warderlaw11_StageOwn.calls
  unfold warderlaw11_StageOwn.P
  refine alive_spec.mono ?_
  rintro v h2 ⟨rfl, f2⟩
  refine ⟨_, rfl, fun c => (by cases c), fun _ => ?_⟩
  refine ⟨fun h' => h' = h2 ∧ ∃ m k : Nat, n = m ∧ a = k ∧ 1 ≤ m ∧ m ≤ 300 ∧ k < m ∧ calls.length ≤ 24 ∧ other.length ≤ 24 ∧ 2 ≤ m - k, ?_, ?_⟩
  · refine (great_spec n a _ _ _).mono ?_
    rintro v h3 ⟨rfl, hh⟩
    rw [hh]; clear hh h3
    refine ⟨_, rfl, fun _ => hR _ _ ⟨rfl, f2⟩, fun cg => ⟨fun _ => hR _ _ ⟨rfl, f2⟩, fun co => ?_⟩⟩
    obtain ⟨m, k, rfl, rfl, hm1, hm, hk, hl⟩ := great_no11 cg
    rw [wrap_diff hm hk]
    refine ⟨fun _ => hR _ _ ⟨rfl, f2⟩, fun cd => ⟨rfl, m, k, rfl, rfl, hm1, hm, hk, hl, ?_, ?_⟩⟩
    · simp only [decide_eq_false_iff_not] at co; omega
    · simp only [decide_eq_false_iff_not] at cd; omega
  rintro h3 ⟨hh, m, k, rfl, rfl, hm1, hm, hk, hl, hol, hmk⟩
  rw [hh]; clear hh h3
  refine (Begin_spec hm1 hm hk).mono ?_
  rintro v h4 ⟨b, y, s, rfl, w4, i4⟩
  have w4 := w4.back f2
  refine ⟨_, rfl, fun c => absurd c (by simp [notIf]), fun _ => ?_⟩
  refine ⟨_, _, rfl, _, w4.cmem, _, _, rfl, _, w4.cfr, _, _, rfl, _, w4.ctlb, ?_⟩
  refine (New_duo (K := 0) w4 i4 (by rw [nT_zero]; omega)).mono ?_
  rintro v h5 ⟨s1, y2, s2, rfl, w5⟩
  refine ⟨_, _, rfl, fun h' => h' = h5, ⟨fun c => absurd c (by decide), fun _ => ⟨fun c => absurd c (by simp [notIf]), fun _ => rfl⟩⟩, ?_⟩
  rintro h6 hh
  rw [hh]; clear hh h6
  -- the other one's calls
  refine ⟨fun i h7 => ∃ (j : Nat) (s1 s2 : Sp) (A A2 : Ab) (T T2 : Nat → Nat), i = (j : Int) ∧ j ≤ other.length ∧ Dw h h7 b y s1 A T y2 s2 A2 T2, fun i _ => other.length - i.toNat, ⟨0, _, _, _, _, _, _, rfl, by omega, w5⟩, ?_⟩
  rintro i h7 ⟨j, s1, s2, A, A2, T, T2, rfl, hj, w7⟩
  refine ⟨fun c => ?_, fun c => ?_⟩
  · have hj1 : j < other.length := lt_cast c
    obtain ⟨cl, hcl⟩ : ∃ cl, other[j]? = some cl := ⟨_, List.getElem?_eq_getElem hj1⟩
    refine ⟨by omega, by omega, ?_⟩
    refine row_call (orow.fr w7.w.fr (by simp)) hcl (fun b o => ?_)
    refine (Do_spec w7.d.p2 (fun _ => ⟨w7.d.v2, w7.d.ne2⟩) cl).mono ?_
    rintro v h8 ⟨e, s3, rfl, p8, f8, r8⟩
    obtain ⟨T', w8⟩ := w7.step2 p8 f8 r8
    refine ⟨_, rfl, ?_, ?_⟩
    · rw [wrapN hj1 (by omega)]
      exact ⟨j + 1, _, _, _, _, _, _, rfl, hj1, w8⟩
    · rw [wrapN hj1 (by omega)]
      exact decM hj1
  refine (SPages_spec w7.d.p2 w7.d.v2 w7.d.de2).mono ?_
  rw [psL_def]
  rintro v h9 ⟨pa, pc, rfl, rp9, fp9, f9⟩
  have w9 := w7.fr0 f9
  have hps := psL_len A2
  have l7 := w7.w.sp.ltF
  have opa : ∀ x ∈ foot pa, x ∉ y.F := fun x hx hm => by have := (fp9 x hx).1; have := l7 x hm; omega
  refine ⟨_, _, _, rfl, ?_⟩
  -- the world's own calls
  refine ⟨fun i h10 => ∃ (j : Nat) (s1 s2 : Sp) (A : Ab) (T : Nat → Nat), i = (j : Int) ∧ j ≤ calls.length ∧ Dw h h10 b y s1 A T y2 s2 A2 T2 ∧ rowAtK h10 pa (encL iN (psL A2)), fun i _ => calls.length - i.toNat, ⟨0, _, _, _, _, rfl, by omega, w9, rp9⟩, ?_⟩
  rintro i h10 ⟨j, t1, t2, B1, V, rfl, hj, w10, rp10⟩
  refine ⟨fun c => ?_, fun c => ?_⟩
  rotate_left
  · refine (SPages_spec w10.d.p2 w10.d.v2 w10.d.de2).mono ?_
    rw [psL_def]
    rintro v h19 ⟨qa, qc, rfl, rq19, _, f19⟩
    refine ⟨_, _, _, rfl, ?_⟩
    refine (Same_spec (A := psL A2) (B := psL A2) (rp10.fr f19 (by simp)) rq19 (by omega)).mono ?_
    rintro v h20 ⟨rfl, hh⟩
    rw [hh]; clear hh h20
    rw [decide_eq_true (rfl : psL A2 = psL A2)]
    exact ⟨_, rfl, hR _ _ ⟨rfl, (w10.fr0 f19).w.fr⟩⟩
  have hj1 : j < calls.length := lt_cast c
  obtain ⟨cl, hcl⟩ : ∃ cl, calls[j]? = some cl := ⟨_, List.getElem?_eq_getElem hj1⟩
  have lF := w10.w.sp.ltF
  refine ⟨_, _, rfl, _, w10.w.cmem, ?_⟩
  refine (Clone_spec w10.w.sp.g.m).mono ?_
  rintro v h11 ⟨cq, cb, rfl, m11, hq, hb, f11⟩
  have w11 := w10.fr0 f11
  refine ⟨_, rfl, _, _, rfl, _, w11.w.cfr, ?_⟩
  refine (List_spec w11.w.sp.g.f 2).mono ?_
  rintro v h12 ⟨aw, ac, rfl, ra12, fa12, f12⟩
  have w12 := w11.fr0 f12
  have m12 := m11.fr f12 (by simp) (by simp)
  have g12 := f11.trans f12
  refine ⟨_, _, _, rfl, _, _, rfl, _, w12.w.csp, by omega, by omega, ?_⟩
  refine row_call (row.fr w12.w.fr (by simp)) hcl (fun b' o' => ?_)
  refine (Do_spec w12.w.sp (fun _ => ⟨w12.d.v, w12.d.ne⟩) cl).mono ?_
  rintro v h13 ⟨e, t3, rfl, p13, f13, r13⟩
  obtain ⟨V', dn, w13⟩ := w12.step p13 f13 r13
  have oaw : ∀ x ∈ foot aw, x ∉ y.F := fun x hx hm => by have := (fa12 x hx).1; have := lF x hm; have := f11.size; omega
  have m13 := m12.fr f13 (fun hm => by have := lF _ hm; omega) (fun hm => by have := lF _ hm; omega)
  have ra13 := ra12.fr f13 oaw
  have rp13 := (rp10.fr g12 (by simp)).fr f13 opa
  have hn3 : t3.n = t1.n := dn.flds.1
  refine ⟨_, rfl, _, _, rfl, _, w13.w.cmem, ?_⟩
  have md : MS h13 y.mq y.mb t1.n t3.B := by rw [← hn3]; exact w13.w.sp.g.m
  refine (Differ_spec md m13).mono ?_
  rintro v h14 ⟨da, dc, rfl, rd14, _, f14⟩
  have w14 := w13.fr0 f14
  have hdl := diffs_len t1.n t3.B t1.B
  have hn1 := w10.d.v.hn
  have byt1 := w10.w.sp.g.m.byt
  have byt3 := w13.w.sp.g.m.byt
  have touched : ∀ {f : Nat}, f < t1.n → frameOf t3.B f ≠ frameOf t1.B f → ownerOf t3.L (f : Int) = 0 ∨ ownerOf t3.L (f : Int) = 1 := fun hf hne => dn.touched w10.d.v.nil byt1 byt3 hf hne
  have away : posOf 2 t3.L = posOf 2 t1.L := dn.away w10.d.v.nil
  have hpl := posOf_le (o := 2) w10.d.v.ll hn1.2
  refine ⟨_, _, _, rfl, ?_⟩
  refine ⟨fun k h15 => ∃ l : Nat, k = (l : Int) ∧ l ≤ (diffs t1.n t3.B t1.B).length ∧ h15 = h14, fun k _ => (diffs t1.n t3.B t1.B).length - k.toNat, ⟨0, rfl, by omega, rfl⟩, ?_⟩
  rintro k h15 ⟨l, rfl, hl2, hh⟩
  rw [hh]; clear hh h15
  refine ⟨fun c => ?_, fun c => ?_⟩
  · have hl1 : l < (diffs t1.n t3.B t1.B).length := lt_cast c
    obtain ⟨x, hx⟩ : ∃ x, (diffs t1.n t3.B t1.B)[l]? = some x := ⟨_, List.getElem?_eq_getElem hl1⟩
    obtain ⟨f, rfl, hf, hne⟩ := diff_mem hx
    obtain ⟨db, d0, rfl, cx⟩ := rowN_cell rd14 hx
    refine ⟨_, _, rfl, _, w14.w.cfr, by omega, by omega, _, _, rfl, _, cx, ?_⟩
    refine (Owner_spec w14.w.sp.g.f (f : Int)).mono ?_
    rintro v h16 ⟨rfl, hh⟩
    rw [hh]; clear hh h16
    have step : (∃ l' : Nat, IntKind.wrap .i64 ((l : Int) + 1) = (l' : Int) ∧ l' ≤ (diffs t1.n t3.B t1.B).length ∧ h14 = h14) ∧ (diffs t1.n t3.B t1.B).length - (IntKind.wrap .i64 ((l : Int) + 1)).toNat < (diffs t1.n t3.B t1.B).length - ((l : Nat) : Int).toNat := by
      rw [wrapN hl1 (by omega)]
      exact ⟨⟨l + 1, rfl, hl1, rfl⟩, decM hl1⟩
    refine ⟨_, rfl, fun c1 => ⟨fun c0 => ?_, fun _ => step⟩, fun _ => step⟩
    rcases touched hf hne with ho | ho
    · rw [ho] at c0; simp at c0
    · rw [ho] at c1; simp at c1
  · refine ⟨_, _, rfl, _, w14.w.cfr, ?_⟩
    refine (List_spec w14.w.sp.g.f 2).mono ?_
    rw [away]
    rintro v h17 ⟨bw, bc, rfl, rb17, _, f17⟩
    refine ⟨_, _, _, rfl, ?_⟩
    refine (Same_spec (A := posOf 2 t1.L) (B := posOf 2 t1.L) ((ra13.fr f14 (by simp)).fr f17 (by simp)) rb17 hpl).mono ?_
    rintro v h18 ⟨rfl, hh⟩
    rw [hh]; clear hh h18
    rw [decide_eq_true (rfl : posOf 2 t1.L = posOf 2 t1.L)]
    refine ⟨_, rfl, fun c => (by cases c), fun _ => ?_⟩
    rw [wrapN hj1 (by omega)]
    exact ⟨⟨j + 1, _, _, _, _, rfl, hj1, w14.fr0 f17, (rp13.fr f14 (by simp)).fr f17 (by simp)⟩, decM hj1⟩
end Go.Proofs.Ytmldiibfmhkgjaa
