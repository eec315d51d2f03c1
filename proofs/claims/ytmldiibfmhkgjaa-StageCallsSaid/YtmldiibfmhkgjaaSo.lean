import Derived.Test.YtmldiibfmhkgjaaSn
namespace Go.Proofs.Ytmldiibfmhkgjaa
open Go Go.Wd
set_option linter.unusedVariables false
set_option linter.unusedSimpArgs false
set_option linter.unnecessarySimpa false

/-! ## a world -/
structure Wo (h0 h : Hp) (b : Nat) (y : Lay) (s : Sp) : Prop where
  wb : bk h b = some (blk 36 [.pointer (some ⟨y.mq, 0, none⟩), .pointer (some ⟨y.fq, 0, none⟩), .pointer (some ⟨y.tq, 0, none⟩), .pointer (some ⟨y.q, 0, none⟩)])
  sp : SP h y s
  F : ∀ x ∈ y.F, sz h0 ≤ x
  lb : sz h0 ≤ b
  z : sz h0 ≤ y.z
  fr : Fr [] h0 h
section
variable {h0 h h' : Hp} {b : Nat} {y : Lay} {s s' : Sp} {A : Ab} {T : Nat → Nat}
theorem Wo.nb (w : Wo h0 h b y s) : b ∉ y.F := w.sp.out (ty_of w.wb) (by decide)
theorem Wo.go (w : Wo h0 h b y s) (sp : SP h' y s') (f : FrL y h h') : Wo h0 h' b y s' :=
  ⟨f.at w.wb w.nb (by decide), sp, w.F, w.lb, w.z, FrL.old w.fr f w.z w.F⟩
theorem Wo.fr0 (w : Wo h0 h b y s) (f : Fr [] h h') : Wo h0 h' b y s := w.go (w.sp.fr0 f) (FrL.of0 f)
theorem Wo.back {h1 : Hp} (w : Wo h1 h b y s) (f : Fr [] h0 h1) : Wo h0 h b y s :=
  ⟨w.wb, w.sp, fun x hx => Nat.le_trans f.size (w.F x hx), Nat.le_trans f.size w.lb, Nat.le_trans f.size w.z, f.trans w.fr⟩
theorem Wo.cmem (w : Wo h0 h b y s) : cellAt h b 0 = some (.pointer (some ⟨y.mq, 0, none⟩)) := (cellAt_of w.wb 0).trans rfl
theorem Wo.cfr (w : Wo h0 h b y s) : cellAt h b (0 + 1) = some (.pointer (some ⟨y.fq, 0, none⟩)) := (cellAt_of w.wb 1).trans rfl
theorem Wo.ctlb (w : Wo h0 h b y s) : cellAt h b (0 + 2) = some (.pointer (some ⟨y.tq, 0, none⟩)) := (cellAt_of w.wb 2).trans rfl
theorem Wo.csp (w : Wo h0 h b y s) : cellAt h b (0 + 3) = some (.pointer (some ⟨y.q, 0, none⟩)) := (cellAt_of w.wb 3).trans rfl
theorem Done.flds {A' : Ab} (d : Done s A T s' A') : s'.n = s.n ∧ s'.vmid = s.vmid ∧ s'.root = s.root ∧ s'.dead = s.dead ∧ s'.nx = s.nx := by
  obtain ⟨tk, s1, tr, hs⟩ := d.tr
  rcases hs with rfl | ⟨_, i, _, _, rfl⟩
  · exact ⟨tr.n, tr.vm, tr.rt, tr.de, tr.nx⟩
  · exact ⟨tr.n, tr.vm, tr.rt, tr.de, tr.nx⟩
/-- A space that lives, alone. -/
structure Liv (s : Sp) (A : Ab) (T : Nat → Nat) (n K : Nat) : Prop where
  inv : Inv s A T
  ne : NE A
  de : s.dead = false
  n : s.n = n
  vm : s.vmid = 7
  c0 : s.L.count 0 + nT A = K
  c1 : s.L.count 1 = nT A + 1
theorem Liv.hv {n K : Nat} (l : Liv s A T n K) : s.dead = false → Inv s A T ∧ NE A := fun _ => ⟨l.inv, l.ne⟩
theorem Liv.step {n K : Nat} (l : Liv s A T n K) {op : Int × Ab} {e : Int} (r : Res s A T op e s') : e = op.1 ∧ Done { s with lg := [] } A T s' op.2 ∧ (e ≠ 0 → s' = { s with lg := [] }) ∧ ∃ T', Liv s' op.2 T' n K := by
  rcases r with ⟨hd, _⟩ | ⟨hd, he, d, hb⟩
  · exact absurd (l.de.symm.trans hd) (by decide)
  obtain ⟨T', v', _⟩ := d.inv
  obtain ⟨f1, f2, f3, f4, f5⟩ := d.flds
  refine ⟨he, d, hb, T', v', d.ne, f4.trans l.de, f1.trans l.n, f2.trans l.vm, ?_, ?_⟩
  · have := d.c0; have := l.c0
    show s'.L.count 0 + _ = _
    have h1 : s'.L.count 0 + nT op.2 = s.L.count 0 + nT A := d.c0
    omega
  · have h1 : s'.L.count 1 + nT A = s.L.count 1 + nT op.2 := d.c1
    have := l.c1
    omega
theorem Liv.free {n K : Nat} (l : Liv s A T n K) (h : nT A < K) : freeB s = true := by
  have := l.c0
  exact decide_eq_true (List.count_pos_iff.1 (by omega))
theorem Liv.freeK {n K : Nat} (l : Liv s A T n K) : freeB s = decide (nT A < K) := by
  have h0 := l.c0
  by_cases h : nT A < K
  · rw [l.free h, decide_eq_true h]
  · rw [decide_eq_false h]
    exact decide_eq_false (fun hm => by have := List.count_pos_iff.2 hm; omega)
theorem Liv.nil {n K : Nat} (l : Liv s A T n K) : Liv { s with lg := [] } A T n K := ⟨l.inv.nil, l.ne, l.de, l.n, l.vm, l.c0, l.c1⟩
end
def A0 : Ab := fun _ => .no
theorem nT_zero : nT A0 = 0 := by decide
/-! ## the beginning -/
theorem take_cases' (L : List Int) {o : Int} (ho : isSome o = true) : (takeE 1 L o = 15 ∧ takeL 1 L o = L ∧ (0 : Int) ∉ L) ∨ ∃ t : Nat, L[t]? = some 0 ∧ takeE 1 L o = 0 ∧ takeL 1 L o = L.set t o := by
  rcases least (takeP 1 L) L.length with hno | ⟨i, hi, hp, hno⟩
  · left
    have hall : ∀ j, takeP 1 L j = false := fun j => (Nat.lt_or_ge j L.length).elim (hno j) (fun hj => by
      unfold takeP
      rw [decide_eq_false (by omega)]; rfl)
    obtain ⟨a, b, c⟩ := take_full (n := 1) (L := L) (o := o) ho (takeI_none hall)
    refine ⟨a, c, fun hm => ?_⟩
    obtain ⟨j, hj, hx⟩ := List.getElem_of_mem hm
    have h1 := hno j hj
    have h2 : takeP 1 L j = true := by
      unfold takeP
      rw [(free_cases (by omega)).2 (fun k hk => ?_), decide_eq_true (by omega)]; rfl
      rw [show j * 1 + k = j by omega, List.getElem?_eq_getElem hj, hx]
    rw [h2] at h1; cases h1
  · right
    have hi' := takeI_at hi hp hno
    obtain ⟨a, b, c⟩ := take_some (n := 1) (L := L) (o := o) ho hi'
    rw [Nat.mul_one] at b c
    refine ⟨i, ?_, a, ?_⟩
    · unfold takeP at hp
      rw [Bool.and_eq_true, decide_eq_true_eq] at hp
      have := (free_cases hp.1).1 hp.2 0 (by omega)
      simpa using this
    · rw [c, ← setRun_next (a := i) (k := 0) (by omega), setRun_zero]; rfl
structure Tk2 (n j : Nat) (L : List Int) : Prop where
  len : L.length = n
  all : ∀ x ∈ L, x = 0 ∨ x = 2
  c0 : L.count 0 + j = n
theorem Tk2.next {n j : Nat} {L : List Int} (w : Tk2 n j L) (hj : j < n) : Tk2 n (j + 1) (takeL 1 L 2) := by
  rcases take_cases' L (o := 2) rfl with ⟨_, _, h0⟩ | ⟨t, ht, _, hL⟩
  · have := List.count_eq_zero.2 h0
    have := w.c0
    omega
  · rw [hL]
    have hc := count_set ht 2 0
    have h0 := w.c0
    simp at hc
    refine ⟨by rw [List.length_set]; exact w.len, fun x hx => ?_, by omega⟩
    rcases List.mem_or_eq_of_mem_set hx with hx | rfl
    · exact w.all x hx
    · exact .inr rfl
theorem Tk2.last {n : Nat} {L : List Int} (w : Tk2 n n L) : L = List.replicate n 2 := by
  rw [List.eq_replicate_iff]
  refine ⟨w.len, fun x hx => ?_⟩
  rcases w.all x hx with rfl | h
  · have := List.count_pos_iff.2 hx
    have := w.c0
    omega
  · exact h
theorem give_next {n j : Nat} (hj : j < n) : moveL (List.replicate j (0 : Int) ++ List.replicate (n - j) 2) (j : Int) 2 0 = List.replicate (j + 1) 0 ++ List.replicate (n - (j + 1)) 2 := by
  have hx : (List.replicate j (0 : Int) ++ List.replicate (n - j) 2)[j]? = some 2 := by
    rw [List.getElem?_append_right (by simp)]
    simp [List.getElem?_replicate]; omega
  have e : moveE (List.replicate j (0 : Int) ++ List.replicate (n - j) 2) (j : Int) 2 = 0 := by
    unfold moveE
    rw [there_nat (by simp; omega), ownerOf_nat hx]; rfl
  unfold moveL
  rw [if_pos e, Int.toNat_natCast, List.set_append, if_neg (by simp), List.length_replicate, Nat.sub_self]
  obtain ⟨m, hm⟩ : ∃ m, n - j = m + 1 := ⟨n - j - 1, by omega⟩
  rw [hm, show n - (j + 1) = m by omega, List.replicate_succ, List.set_cons_zero, List.replicate_succ', List.append_assoc]; rfl
structure Ini (n away : Nat) (s : Sp) : Prop where
  lv : Liv s A0 (fun _ => 0) n (n - away - 1)
  lg : s.lg = []
  TL : s.TL = List.replicate 8 none
  nx : s.nx = 0
theorem Begin_spec {h : Hp} {n away : Nat} (hn1 : 1 ≤ n) (hn : n ≤ 300) (ha : away < n) :
    CallsH Try.prog 11 [.int .i64 (n : Int), .int .i64 (away : Int)] h fun v h' => ∃ (b : Nat) (y : Lay) (s : Sp), v = .pointer (some ⟨b, 0, none⟩) ∧ Wo h h' b y s ∧ Ini n away s := by
  refine calls_k fun R hR => ?_
  apply warderlaw11_Begin.calls
  unfold warderlaw11_Begin.P
  refine (new_spec hn1 (by omega)).mono ?_
  rintro v h1 ⟨rfl, m1, f1, s1⟩
  refine ⟨_, _, rfl, ?_⟩
  refine (Fnew_spec hn1 (by omega)).mono ?_
  rintro v h2 ⟨rfl, t2, f2, s2⟩
  refine ⟨_, _, rfl, ?_⟩
  refine (TNew_spec 8).mono ?_
  rintro v h3 ⟨f3, hc⟩
  rcases hc with ⟨hc, _⟩ | ⟨_, _, rfl, t3⟩
  · exact absurd (by decide) hc
  refine ⟨_, _, rfl, fun h' => h' = h3, ?_, ?_⟩
  · refine ⟨fun c => absurd c (by decide), fun _ => ⟨fun c => absurd c (by decide), fun _ => ⟨fun c => absurd c (by decide), fun _ => ⟨fun c => absurd c (by simp [notIf]), fun _ => ⟨fun c => absurd c (by simp [notIf]), fun _ => ⟨fun c => absurd c (by simp [notIf]), fun _ => rfl⟩⟩⟩⟩⟩⟩
  rintro h4 hh
  rw [hh]; clear hh h4
  have m3 := (m1.fr f2 (by simp) (by simp)).fr f3 (by simp) (by simp)
  have w3 := t2.fr f3 (by simp) (by simp)
  have g3 := (f1.trans f2).trans f3
  generalize hmq : sz h + 1 = mq at *
  obtain ⟨mb, hmb⟩ : ∃ x, x = sz h := ⟨_, rfl⟩
  rw [← hmb] at m1 m3
  generalize hfq : sz h1 + 1 = fq at *
  generalize hfo : sz h1 = fo at *
  generalize htq : sz h2 + 2 = tq at *
  generalize hpl : sz h2 = pl at *
  generalize hmp : pl + 1 = mp at *
  have hT8 : List.replicate (8 : Int).toNat (none : Option S) = List.replicate 8 none := rfl
  rw [hT8] at t3
  have other : ∀ {L : List Int} {h5 h6 : Hp}, Fr [fq, fo] h5 h6 → FTS h5 fq fo L → MS h5 mq mb n (List.replicate (n * 256) 0) → TS h5 tq pl mp (List.replicate 8 none) 0 → MS h6 mq mb n (List.replicate (n * 256) 0) ∧ TS h6 tq pl mp (List.replicate 8 none) 0 := by
    intro L h5 h6 f t m tt
    have y0 : SG h5 ⟨0, mq, mb, fq, fo, tq, pl, mp, 0⟩ ⟨n, List.replicate (n * 256) 0, L, List.replicate 8 none, 0, 0, 0, false, []⟩ := ⟨m, t, tt⟩
    have e1 := y0.ty_fq
    have e2 := y0.ty_fo
    have ne : ∀ {b t : Nat}, ty h5 b = some t → t ≠ 118 → t ≠ 3 → b ∉ [fq, fo] := fun hb ht ht' => by
      simp only [List.mem_cons, List.not_mem_nil, or_false, not_or]; exact ⟨ty_ne hb e1 ht, ty_ne hb e2 ht'⟩
    refine ⟨m.fr f (ne y0.ty_mq (by decide) (by decide)) (ne y0.ty_mb (by decide) (by decide)), tt.fr f (ne y0.ty_tq (by decide) (by decide)) (ne y0.ty_pl (by decide) (by decide)) (ne y0.ty_mp (by decide) (by decide)) ?_⟩
    intro x hx T l hb
    simp only [List.mem_cons, List.not_mem_nil, or_false] at hx
    have := ty_of hb
    rcases hx with rfl | rfl
    · rw [show ty h5 x = some 118 from e1] at this; cases this; decide
    · rw [show ty h5 x = some 3 from e2] at this; cases this; decide
  have lfq : sz h ≤ fq ∧ sz h ≤ fo := by have := f1.size; omega
  refine ⟨fun i h5 => ∃ (j : Nat) (L : List Int), i = (j : Int) ∧ j ≤ n ∧ FTS h5 fq fo L ∧ Tk2 n j L ∧ MS h5 mq mb n (List.replicate (n * 256) 0) ∧ TS h5 tq pl mp (List.replicate 8 none) 0 ∧ Fr [] h h5, fun i _ => n - i.toNat, ⟨0, _, rfl, by omega, w3, ⟨List.length_replicate, fun x hx => .inl (by rw [List.mem_replicate] at hx; exact hx.2), by simp⟩, m3, t3, g3⟩, ?_⟩
  rintro i h5 ⟨j, L, rfl, hj, w5, k5, m5, t5, g5⟩
  refine ⟨fun c => ?_, fun c => ?_⟩
  · have hj1 : j < n := lt_cast c
    refine (Take_spec w5 2).mono ?_
    rintro v h6 ⟨rfl, w6, f6⟩
    obtain ⟨m6, t6⟩ := other f6 w5 m5 t5
    refine ⟨_, _, rfl, ?_, ?_⟩
    · rw [wrapN hj1 (by omega)]
      exact ⟨j + 1, _, rfl, hj1, w6, k5.next hj1, m6, t6, g5.later f6 (by simp; omega)⟩
    · rw [wrapN hj1 (by omega)]
      exact decM hj1
  have hj1 : j = n := Nat.le_antisymm hj (ge_cast c)
  subst hj1
  have hL := k5.last
  rw [hL] at w5
  clear hL k5
  have hwr : IntKind.wrap .i64 ((j : Int) - (away : Int)) = ((j - away : Nat) : Int) := by rw [wrap_i64 (by omega) (by omega)]; omega
  rw [hwr]
  refine ⟨fun i h7 => ∃ k : Nat, i = (k : Int) ∧ k ≤ j - away ∧ FTS h7 fq fo (List.replicate k 0 ++ List.replicate (j - k) 2) ∧ MS h7 mq mb j (List.replicate (j * 256) 0) ∧ TS h7 tq pl mp (List.replicate 8 none) 0 ∧ Fr [] h h7, fun i _ => (j - away) - i.toNat, ⟨0, rfl, by omega, by simpa using w5, m5, t5, g5⟩, ?_⟩
  rintro i h7 ⟨k, rfl, hk, w7, m7, t7, g7⟩
  refine ⟨fun c => ?_, fun c => ?_⟩
  · have hk1 : k < j - away := lt_cast c
    refine (Give_spec w7 2 (k : Int)).mono ?_
    rintro v h8 ⟨rfl, w8, f8⟩
    obtain ⟨m8, t8⟩ := other f8 w7 m7 t7
    rw [give_next (by omega)] at w8
    refine ⟨_, rfl, ?_, ?_⟩
    · rw [wrapN hk1 (by omega)]
      exact ⟨k + 1, rfl, hk1, w8, m8, t8, g7.later f8 (by simp; omega)⟩
    · rw [wrapN hk1 (by omega)]
      exact decM hk1
  have hk1 : k = j - away := Nat.le_antisymm hk (ge_cast c)
  subst hk1
  have haw : j - (j - away) = away := by omega
  rw [haw] at w7
  have hmem : (0 : Int) ∈ List.replicate (j - away) (0 : Int) ++ List.replicate away 2 := by
    rw [List.mem_append]; left; rw [List.mem_replicate]; exact ⟨by omega, rfl⟩
  have hlen : (List.replicate (j - away) (0 : Int) ++ List.replicate away 2).length = j := by simp; omega
  refine (New_spec m7 w7 t7 (vm := 7) (by decide) hlen hmem (z := sz h) g7.size).mono ?_
  rintro v h9 ⟨r, rfl, hr, w9, f9⟩
  refine ⟨_, _, rfl, fun c => absurd c (by decide), fun _ => ⟨fun c => absurd c (by simp [notIf]), fun _ => ?_⟩⟩
  intro h10 e10
  have k10 : bk h10 (sz h9) = some (blk 36 [.pointer (some ⟨mq, 0, none⟩), .pointer (some ⟨fq, 0, none⟩), .pointer (some ⟨tq, 0, none⟩), .pointer (some ⟨sz h7 + 2, 0, none⟩)]) := by rw [e10]; exact new_at _ _
  have f10 : Fr [] h9 h10 := by rw [e10]; exact Fr.new _ _ _
  clear e10
  have hrl := own_lt hr hlen
  have hF : ∀ x ∈ (⟨sz h7 + 2, mq, mb, fq, fo, tq, pl, mp, sz h⟩ : Lay).F, sz h ≤ x := by
    intro x hx
    have := f1.size
    have := f2.size
    have := g7.size
    simp only [Lay.F, List.mem_cons, List.not_mem_nil, or_false] at hx
    omega
  have fo9 : Fr [] h h9 := FrL.old g7 f9 (Nat.le_refl _) hF
  refine hR _ _ ⟨sz h9, ⟨sz h7 + 2, mq, mb, fq, fo, tq, pl, mp, sz h⟩, _, rfl, ⟨k10, w9.fr0 f10, hF, fo9.size, Nat.le_refl _, fo9.trans f10⟩, ⟨⟨?_, ?_, rfl, rfl, rfl, ?_, ?_⟩, rfl, rfl, rfl⟩⟩
  · refine ⟨⟨hn1, by show j ≤ 1024; omega⟩, ?_, ?_, ?_, fun i _ g hg => (by cases hg), fun i _ f x y hg => (by cases hg), fun i _ g hg => (by cases hg), set_own2 hr, fun i _ hc => (by cases hc), fun i _ k _ _ hc => (by cases hc)⟩
    · show (zeroF (List.replicate (j * 256) 0) r).length = j * 256
      rw [zeroF_len (n := j) List.length_replicate hrl, List.length_replicate]
    · show (List.set _ r 1).length = j
      rw [List.length_set, hlen]
    · intro i hi
      show wA (zeroF (List.replicate (j * 256) 0) r) r i = _
      rw [wA_zero (n := j) List.length_replicate hrl hi, if_pos rfl]; rfl
  · intro i _ g hg
    cases hg
  · show (List.set _ r 1).count 0 + nT A0 = _
    have := (count_take hr).2
    rw [nT_zero]
    rw [List.count_append, List.count_replicate, List.count_replicate, if_pos (show ((0 : Int) == 0) = true from rfl), if_neg (show ¬ ((2 : Int) == 0) = true by decide)] at this
    show List.count 0 (List.set (List.replicate (j - away) 0 ++ List.replicate away 2) r 1) + 0 = j - away - 1
    omega
  · show (List.set _ r 1).count 1 = _
    have := (count_take hr).1
    rw [this, nT_zero]
    simp [List.count_replicate]
def greatB11 (n a : Int) (l : Nat) : Bool := decide (n < 1) || decide (n > 300) || decide (a < 0) || decide (a ≥ n) || decide (((l : Nat) : Int) > 24)
theorem great_spec {h : Hp} (n a : Int) (la : Option Addr) (l c : Nat) : CallsH Try.prog 10 [.int .i64 n, .int .i64 a, .slice la l c] h fun v h' => v = .bool (greatB11 n a l) ∧ h' = h := by
  apply warderlaw11_great.calls
  unfold warderlaw11_great.P greatB11
  refine ⟨fun c => ⟨by rw [c]; rfl, rfl⟩, fun c1 => ⟨fun c => ⟨by rw [c1, c]; rfl, rfl⟩, fun c2 => ⟨fun c => ⟨by rw [c1, c2, c]; rfl, rfl⟩, fun c3 => ⟨fun c => ⟨by rw [c1, c2, c3, c]; rfl, rfl⟩, fun c4 => ⟨by rw [c1, c2, c3, c4]; rfl, rfl⟩⟩⟩⟩⟩
theorem great_no11 {n a : Int} {l : Nat} (h : greatB11 n a l = false) : ∃ m k : Nat, n = m ∧ a = k ∧ 1 ≤ m ∧ m ≤ 300 ∧ k < m ∧ l ≤ 24 := by
  unfold greatB11 at h
  simp only [Bool.or_eq_false_iff, decide_eq_false_iff_not] at h
  exact ⟨n.toNat, a.toNat, by omega, by omega, by omega, by omega, by omega, by omega⟩
end Go.Proofs.Ytmldiibfmhkgjaa
