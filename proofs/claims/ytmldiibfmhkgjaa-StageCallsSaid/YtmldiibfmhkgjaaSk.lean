import Derived.Test.YtmldiibfmhkgjaaSj
namespace Go.Proofs.Ytmldiibfmhkgjaa
open Go Go.Wd
set_option linter.unusedVariables false
set_option linter.unusedSimpArgs false
set_option linter.unnecessarySimpa false

section
variable {h : Hp} {y : Lay} {s0 s1 : Sp} {A : Ab} {T T1 : Nat → Nat} {i : Nat}
theorem Split1_spec {v0 v1 : Nat} {p : Int} (w : SP h y s0) (v : Inv s0 A T) (ne : NE A) (hlg : s0.lg = [])
    (c0 : bk h v0 = some (blk 3 [.int .i64 p])) (c1 : bk h v1 = some (blk 34 (ptrTo y))) :
    CallsX Try.prog 72 [.pointer (some ⟨v0, 0, none⟩), .pointer (some ⟨v1, 0, none⟩)] h
      (fun r h' => r = .tuple #[] ∧ ∃ s', SP h' y s' ∧ FrL y h h' ∧ Outp s0 A T (opSplit A (freeB s0) p) 0 s')
      (fun r h' => ∃ e, r = refusal e ∧ SP h' y s0 ∧ FrL y h h' ∧ Outp s0 A T (opSplit A (freeB s0) p) e s0) := by
  refine stage_Space_Split_1.calls _ _ _ _ _ _ _ ?_
  unfold stage_Space_Split_1.P
  have hrn := v.rlt
  have hn := v.hn
  have hroot : s0.root < 65536 := by omega
  refine ⟨_, (cellAt_of c0 0).trans rfl, ?_⟩
  refine (index_spec p).mono ?_
  rintro r h1 ⟨rfl, hh⟩
  rw [hh]; clear hh h1
  refine ⟨_, rfl, ?_⟩
  refine (need_spec _ _).mono ?_ ?_
  rotate_left
  · rintro r h3 ⟨hf, rfl, hh⟩
    rw [hh]; clear hh h3
    exact ⟨11, rfl, w, FrL.refl _ _, Outp.bad hlg v ne (by unfold opSplit; rw [hf]; rfl)⟩
  rintro r h2 ⟨ok, rfl, hh⟩
  rw [hh]; clear hh h2
  obtain ⟨i, rfl, hi⟩ := isIn_nat ok
  have hop : opSplit A (freeB s0) (i : Int) = match A i with
    | .bl f w x => if freeB s0 then (0, fset A i (.tb (tabOf (.bl f w x)))) else (15, A)
    | _ => (12, A) := by
    unfold opSplit
    rw [ok, Int.toNat_natCast]; rfl
  refine ⟨rfl, _, (cellAt_of c1 0).trans rfl, _, (cellAt_of c0 0).trans rfl, ?_⟩
  refine (first_spec' w hroot hi).mono ?_
  rintro r h4 ⟨rfl, f4⟩
  rw [v.word1 hi]
  refine ⟨_, _, _, _, _, _, rfl, ?_⟩
  refine put_ent (fsE (A i) (T i)) ?_
  intro h6 k6 f6 s6
  have w6 := (w.fr0 f4).fr0 f6
  have g6 := f4.trans f6
  refine ⟨_, (cellAt_of k6 3).trans rfl, ?_⟩
  refine (need_spec _ _).mono ?_ ?_
  rotate_left
  · rintro r h7 ⟨hf, rfl, hh⟩
    rw [hh]; clear hh h7
    refine ⟨12, rfl, w6, FrL.of0 g6, Outp.bad hlg v ne ?_⟩
    rw [hop]
    cases hA : A i with
    | no => rfl
    | bl f x z => rw [hA] at hf; cases hf
    | tb g => rfl
  rintro r h7 ⟨hb, rfl, hh⟩
  rw [hh]; clear hh h7
  obtain ⟨f, x, z, hA⟩ : ∃ f x z, A i = .bl f x z := by
    cases hA : A i with
    | no => rw [hA] at hb; cases hb
    | bl f x z => exact ⟨f, x, z, rfl⟩
    | tb g => rw [hA] at hb; cases hb
  refine ⟨rfl, _, (cellAt_of (g6.at c1 (by simp)) 0).trans rfl, _, (cellAt_of (g6.at c0 (by simp)) 0).trans rfl, ?_⟩
  refine (split_spec w6 v hlg hi hA).mono ?_ ?_
  · rintro r h9 ⟨rfl, s1, T1, w9, m, f9⟩
    refine ⟨rfl, rfl, s1, w9, (FrL.of0 g6).trans f9, ?_⟩
    rcases m.tr with ⟨_, ha, _⟩ | ⟨t, tr, ha⟩
    · rw [hA] at ha; cases ha
    have hfree : freeB s0 = true := decide_eq_true (List.mem_of_getElem? (tr.t0 t rfl))
    rw [hop, hA, hfree]
    refine ⟨rfl, ?_, fun hc => absurd rfl hc⟩
    have hmi := m.inv
    rw [hA] at hmi
    have hnt := nT_fset A hi (.tb (tabOf (.bl f x z)))
    rw [ha, show (Fst.tb (tabOf (.bl f x z))).isT = true from rfl] at hnt
    simp at hnt
    have hct := count_take (tr.t0 t rfl)
    have hL : s1.L = s0.L.set t 1 := tr.L
    refine ⟨⟨T1, hmi, m.frames hi⟩, fun j hj g hg => ?_, ⟨_, _, tr, .inl rfl⟩, by rw [hL]; show _ + nT A = _ + nT (fset A i _); omega, by rw [hL]; show _ + nT (fset A i _) = _ + nT A; omega, Nat.le_trans m.lg (by decide)⟩
    have hg : fset A i (.tb (tabOf (.bl f x z))) j = .tb g := hg
    by_cases e : j = i
    · rw [e, fset_same] at hg
      cases hg
      exact ⟨0, by decide, by simp [tabOf]⟩
    · rw [fset_ne e] at hg; exact ne j hj g hg
  · rintro r h9 ⟨h0, rfl, w9, f9⟩
    have hfree : freeB s0 = false := decide_eq_false h0
    exact ⟨15, rfl, w9, (FrL.of0 g6).trans f9, Outp.bad hlg v ne (by rw [hop, hA, hfree]; rfl)⟩
/-- The pages of a table, as those of a block. -/
def goodP (g : Nat → Option Pg) (l : Nat) : Prop := ∃ p, g 0 = some p ∧ g l = some ⟨p.f + l, p.w, p.x⟩
theorem whole_bad {g : Nat → Option Pg} {l : Nat} (hl : l < 64) (h : ¬ goodP g l) : wholeB g = none := by
  unfold wholeB
  cases h0 : g 0 with
  | none => rfl
  | some p =>
    have : ((List.range 64).all fun k => decide (g k = some ⟨p.f + k, p.w, p.x⟩)) = false := by
      rw [List.all_eq_false]
      exact ⟨l, List.mem_range.2 hl, fun hc => h ⟨p, h0, of_decide_eq_true hc⟩⟩
    show (if (((List.range 64).all fun k => decide (g k = some ⟨p.f + k, p.w, p.x⟩)) && _) then _ else _) = _
    rw [this]; rfl
theorem whole_good {g : Nat → Option Pg} {p : Pg} (h0 : g 0 = some p) (h : ∀ l, l < 64 → goodP g l) : wholeB g = if p.f % 64 == 0 then some p else none := by
  have : ((List.range 64).all fun k => decide (g k = some ⟨p.f + k, p.w, p.x⟩)) = true := by
    rw [List.all_eq_true]
    intro k hk
    obtain ⟨q, h1, h2⟩ := h k (List.mem_range.1 hk)
    rw [h0] at h1; cases h1
    exact decide_eq_true h2
  unfold wholeB
  rw [h0]
  show (if (((List.range 64).all fun k => decide (g k = some ⟨p.f + k, p.w, p.x⟩)) && _) then _ else _) = _
  rw [this]; rfl
theorem wrap_sub {f k : Nat} (hf : f ≤ 70000) (hk : k < 64) : IntKind.wrap .i64 ((f : Int) - (k : Int)) = (f : Int) - (k : Int) := wrap_i64 (by omega) (by omega)
theorem same_f {f g k : Nat} (h : (f : Int) - (k : Int) = (g : Int)) : f = g + k := by omega
theorem same_f' {g k : Nat} : ((g + k : Nat) : Int) - (k : Int) = (g : Int) := by omega
theorem whole_spec (w : SP h y s0) {t : Nat} (ht : t < 65536) {g : Nat → Option Pg} (hg : ∀ k, k < 64 → dec (s0.word (t * 256 + 4 * k)) = pgE (g k)) (hf : ∀ k, k < 64 → ∀ p, g k = some p → p.f < s0.n) (hn : s0.n ≤ 1024) :
    CallsH Try.prog 76 [.pointer (some ⟨y.q, 0, none⟩), .int .i64 (t : Int)] h fun v h' => ∃ (e : Ent) (b : Bool), v = .tuple #[.agg ⟨e.cells⟩, .bool b] ∧ ((b = false ∧ wholeB g = none) ∨ (b = true ∧ ∃ p, wholeB g = some p ∧ e = fsE (.bl p.f p.w p.x) 0)) ∧ Fr [] h h' := by
  refine calls_k fun R hR => ?_
  apply stage_Space_whole.calls
  unfold stage_Space_whole.P
  intro h1 e1
  have k1 : bk h1 (sz h) = some (blk 54 noEnt.cells) := by rw [e1]; exact new_at _ _
  have f1 : Fr [] h h1 := by rw [e1]; exact Fr.new _ _ _
  have s1 : sz h1 = sz h + 1 := by rw [e1]; exact sz_new _ _
  clear e1
  have w1 := w.fr0 f1
  refine (at_spec' (i := 0) ht (by decide)).mono ?_
  rintro r h2 ⟨rfl, hh⟩
  rw [hh]; clear hh h2
  refine ⟨_, rfl, ?_⟩
  refine (read_spec' w1 (addr_lt ht (by decide))).mono ?_
  rintro r h3 ⟨rfl, f3⟩
  rw [hg 0 (by decide)]
  refine ⟨_, _, _, _, _, rfl, ?_⟩
  refine put_ent (pgE (g 0)) ?_
  intro h5 k5 f5 s5
  have w5 := (w1.fr0 f3).fr0 f5
  have f15 := f3.trans f5
  have g5 := f1.trans f15
  have r5 := f15.at k1 (by simp)
  have sz3 := f3.size
  refine ⟨fun k h6 => ∃ j : Nat, k = (j : Int) ∧ j ≤ 64 ∧ (∀ l, l < j → goodP g l) ∧ Fr [] h h6 ∧ bk h6 (sz h) = some (blk 54 noEnt.cells) ∧ bk h6 (sz h3) = some (blk 54 (pgE (g 0)).cells), fun k _ => 64 - k.toNat, ⟨0, rfl, by decide, fun l hl => absurd hl (Nat.not_lt_zero l), g5, r5, k5⟩, ?_⟩
  rintro k h6 ⟨j, rfl, hj64, hgood, g6, r6, k6⟩
  have w6 := w.fr0 g6
  refine ⟨fun c => ?_, fun c => ?_⟩
  · have hj : j < 64 := lt_cast (n := 64) c
    refine (at_spec' ht hj).mono ?_
    rintro r h7 ⟨rfl, hh⟩
    rw [hh]; clear hh h7
    refine ⟨_, rfl, ?_⟩
    refine (read_spec' w6 (addr_lt ht hj)).mono ?_
    rintro r h8 ⟨rfl, f8⟩
    rw [hg j hj]
    refine ⟨_, _, _, _, _, rfl, ?_⟩
    refine put_ent (pgE (g j)) ?_
    intro h10 k10 f10 s10
    have f610 := f8.trans f10
    have r10 := f610.at r6 (by simp)
    have m10 := f610.at k6 (by simp)
    have lr6 := lt_of_bk r6
    have lk6 := lt_of_bk k6
    have sz8 := f8.size
    refine ⟨_, (cellAt_of k10 4).trans rfl, truly_rfl, _, _, k10, Nat.le_of_ble_eq_true rfl, ?_⟩
    intro h11 e11
    have f11 : Fr [sz h8] h10 h11 := by rw [e11]; exact Fr.upd (by simp) _ _ _
    have k11 : bk h11 (sz h8) = some (blk 54 (Ent.mk (pgE (g j)).v (pgE (g j)).w (pgE (g j)).x (pgE (g j)).b (IntKind.wrap .i64 ((pgE (g j)).f - (j : Int)))).cells) := by rw [e11]; exact upd_same k10 _ _
    have r11 := f11.at r10 (by simp only [List.mem_singleton]; omega)
    have m11 := f11.at m10 (by simp only [List.mem_singleton]; omega)
    have g11 : Fr [] h h11 := (g6.trans f610).later f11 (fun x hx => by simp only [List.mem_singleton] at hx; rw [hx]; exact (g6.trans f8).size)
    have lr11 := lt_of_bk r11
    have fail : ¬ goodP g j → ∀ h12, h12 = upd h11 (sz h) 54 noEnt.cells → R (.tuple #[.agg ⟨noEnt.cells⟩, .bool false]) h12 := fun hb h12 e12 => by
      refine hR _ _ ⟨noEnt, false, rfl, .inl ⟨rfl, whole_bad hj hb⟩, ?_⟩
      rw [e12]
      exact g11.later (Fr.upd (F := [sz h]) (by simp) _ _ _) (by simp)
    refine ⟨_, (cellAt_of k11 0).trans rfl, fun c => ?_, fun c => ?_⟩
    · refine Ent.ret r11 rfl _ _ _ _ _ ?_
      refine fail ?_ _ rfl
      rintro ⟨p, h0, hp⟩
      rw [hp] at c; cases c
    · obtain ⟨q, hq⟩ : ∃ q, g j = some q := by
        cases hq : g j with
        | none => rw [hq] at c; cases c
        | some q => exact ⟨q, rfl⟩
      rw [hq] at k11
      have hqf := hf j hj q hq
      rw [show (pgE (some q)).f = (q.f : Int) from rfl, wrap_sub (by omega) hj] at k11
      refine Ent.rd0 _ k11 ?_
      refine Ent.rd0 _ m11 ?_
      refine ⟨fun c => ?_, fun c => ?_⟩
      · refine Ent.ret r11 rfl _ _ _ _ _ ?_
        refine fail ?_ _ rfl
        rintro ⟨p, h0, hp⟩
        rw [hq] at hp
        cases hp
        rw [h0] at c
        have hs := same_f' (g := p.f) (k := j)
        simp [notIf, pgE, hs] at c
      · rw [wrap_next hj]
        refine ⟨⟨j + 1, rfl, hj, fun l hl => ?_, g11, r11, m11⟩, dec64 hj⟩
        by_cases e : l = j
        · rw [e]
          obtain ⟨p, h0⟩ : ∃ p, g 0 = some p := by
            cases h0 : g 0 with
            | none =>
              rw [h0] at c
              simp [notIf, pgE, noEnt] at c
            | some p => exact ⟨p, rfl⟩
          rw [h0] at c
          simp [notIf, pgE] at c
          obtain ⟨c1, c2, c3⟩ := c
          refine ⟨p, h0, ?_⟩
          rw [hq]
          obtain ⟨qf, qw, qx⟩ := q
          simp only at c1 c2 c3
          rw [c1, c2, same_f c3]
        · exact hgood l (by omega)
  · have hj : j = 64 := Nat.le_antisymm hj64 (ge_cast (n := 64) c)
    subst hj
    obtain ⟨p, h0, _⟩ := hgood 0 (by decide)
    have hw := whole_good h0 hgood
    rw [h0] at k6
    refine ⟨truly_rfl, _, _, k6, Nat.le_of_ble_eq_true rfl, ?_⟩
    intro h14 e14
    have f14 : Fr [sz h3] h6 h14 := by rw [e14]; exact Fr.upd (by simp) _ _ _
    have k14 : bk h14 (sz h3) = some (blk 54 (fsE (.bl p.f p.w p.x) 0).cells) := by rw [e14]; exact upd_same k6 _ _
    have r14 := f14.at r6 (by simp only [List.mem_singleton]; omega)
    refine Ent.rd0 _ k14 ?_
    refine ⟨_, (cellAt_of k14 4).trans rfl, by decide, truly_rfl, _, _, r14, Nat.le_of_ble_eq_true rfl, ?_⟩
    intro h15 e15
    have f15 : Fr [sz h] h14 h15 := by rw [e15]; exact Fr.upd (by simp) _ _ _
    have r15 : bk h15 (sz h) = some (blk 54 (fsE (.bl p.f p.w p.x) 0).cells) := by rw [e15]; exact upd_same r14 _ _
    have k15 := f15.at k14 (by simp only [List.mem_singleton]; omega)
    refine ⟨(cellAt_of k15 4).trans rfl, ?_⟩
    refine Ent.rd0 _ r15 ?_
    rw [show (fsE (.bl p.f p.w p.x) 0).f = (p.f : Int) from rfl, mod_beq]
    have g15 : Fr [] h h15 := (g6.later f14 (by simp; omega)).later f15 (by simp)
    refine hR _ _ ⟨fsE (.bl p.f p.w p.x) 0, _, rfl, ?_, g15⟩
    cases hm : (p.f % 64 == 0) with
    | true => rw [hm] at hw; exact .inr ⟨rfl, p, hw, rfl⟩
    | false => rw [hm] at hw; exact .inl ⟨rfl, hw⟩
theorem Merge1_spec {v0 v1 : Nat} {p : Int} (w : SP h y s0) (v : Inv s0 A T) (ne : NE A) (hlg : s0.lg = [])
    (c0 : bk h v0 = some (blk 3 [.int .i64 p])) (c1 : bk h v1 = some (blk 34 (ptrTo y))) (o1 : v1 ∉ y.F) :
    CallsX Try.prog 75 [.pointer (some ⟨v0, 0, none⟩), .pointer (some ⟨v1, 0, none⟩)] h
      (fun r h' => r = .tuple #[] ∧ ∃ s', SP h' y s' ∧ FrL y h h' ∧ Outp s0 A T (opMerge A p) 0 s')
      (fun r h' => ∃ e, r = refusal e ∧ SP h' y s0 ∧ FrL y h h' ∧ Outp s0 A T (opMerge A p) e s0) := by
  refine stage_Space_Merge_1.calls _ _ _ _ _ _ _ ?_
  unfold stage_Space_Merge_1.P
  have hrn := v.rlt
  have hn := v.hn
  have hroot : s0.root < 65536 := by omega
  refine ⟨_, (cellAt_of c0 0).trans rfl, ?_⟩
  refine (index_spec p).mono ?_
  rintro r h1 ⟨rfl, hh⟩
  rw [hh]; clear hh h1
  refine ⟨_, rfl, ?_⟩
  refine (need_spec _ _).mono ?_ ?_
  rotate_left
  · rintro r h3 ⟨hf, rfl, hh⟩
    rw [hh]; clear hh h3
    exact ⟨11, rfl, w, FrL.refl _ _, Outp.bad hlg v ne (by unfold opMerge; rw [hf]; rfl)⟩
  rintro r h2 ⟨ok, rfl, hh⟩
  rw [hh]; clear hh h2
  obtain ⟨i, rfl, hi⟩ := isIn_nat ok
  have hop : opMerge A (i : Int) = match A i with
    | .tb g => (match wholeB g with
      | some p => (0, fset A i (.bl p.f p.w p.x))
      | none => (20, A))
    | _ => (12, A) := by
    unfold opMerge
    rw [ok, Int.toNat_natCast]; rfl
  refine ⟨rfl, _, (cellAt_of c1 0).trans rfl, _, (cellAt_of c0 0).trans rfl, ?_⟩
  refine (first_spec' w hroot hi).mono ?_
  rintro r h4 ⟨rfl, f4⟩
  rw [v.word1 hi]
  refine ⟨_, _, _, _, _, _, rfl, ?_⟩
  refine put_ent (fsE (A i) (T i)) ?_
  intro h6 k6 f6 s6
  have w4 := w.fr0 f4
  have w6 := w4.fr0 f6
  have g6 := f4.trans f6
  have l4 := w4.ltF
  have out : sz h4 ∉ y.F := fun hm => by have := l4 _ hm; omega
  refine ⟨fun h' => h' = h6 ∧ (A i).isT = true, ?_, ?_⟩
  · refine ⟨_, (cellAt_of k6 0).trans rfl, fun c => ?_, fun c => ?_⟩
    · refine ⟨_, (cellAt_of k6 3).trans rfl, ?_⟩
      refine (need_spec _ _).mono ?_ ?_
      · rintro r h7 ⟨hb, rfl, hh⟩
        refine ⟨rfl, hh, ?_⟩
        cases hA : A i with
        | no => rw [hA] at c; cases c
        | bl f x z => rw [hA] at hb; cases hb
        | tb g => rfl
      · rintro r h7 ⟨hb, rfl, hh⟩
        rw [hh]; clear hh h7
        refine ⟨12, rfl, w6, FrL.of0 g6, Outp.bad hlg v ne ?_⟩
        rw [hop]
        cases hA : A i with
        | no => rfl
        | bl f x z => rfl
        | tb g => rw [hA] at hb; cases hb
    · refine (need_spec _ _).mono ?_ ?_
      · rintro r h7 ⟨hb, _⟩
        cases hb
      · rintro r h7 ⟨hb, rfl, hh⟩
        rw [hh]; clear hh h7
        refine ⟨12, rfl, w6, FrL.of0 g6, Outp.bad hlg v ne ?_⟩
        rw [hop]
        cases hA : A i with
        | no => rfl
        | bl f x z => rfl
        | tb g => rw [hA] at c; cases c
  rintro h11 ⟨hh, hT⟩
  rw [hh]; clear hh h11
  obtain ⟨g, hA⟩ := isT_tb hT
  rw [hA] at k6
  have htn := v.tlt hi hT
  have ht16 : T i < 65536 := by omega
  refine ⟨_, (cellAt_of (g6.at c1 (by simp)) 0).trans rfl, _, (cellAt_of k6 4).trans rfl, ?_⟩
  refine (whole_spec w6 (t := T i) ht16 (g := g) (fun k hk => by rw [word_at htn hk]; exact v.sec_e hi hA hk) (fun k hk p hp => v.pb i hi g hA k hk p hp) hn.2).mono ?_
  rintro r h12 ⟨e, b, rfl, hb, f12⟩
  refine ⟨_, _, _, _, _, _, rfl, ?_⟩
  refine put_ent e ?_
  intro h14 k14 f14 s14
  have w14 := (w6.fr0 f12).fr0 f14
  have g614 := f12.trans f14
  have g14 := g6.trans g614
  have k614 := g614.at k6 (by simp)
  refine (need_spec _ _).mono ?_ ?_
  rotate_left
  · rintro r h15 ⟨hno, rfl, hh⟩
    rw [hh]; clear hh h15
    refine ⟨20, rfl, w14, FrL.of0 g14, Outp.bad hlg v ne ?_⟩
    rcases hb with ⟨_, hw⟩ | ⟨hb, _⟩
    · rw [hop, hA]
      show (match wholeB g with | some p => _ | none => _) = _
      rw [hw]
    · rw [hb] at hno; cases hno
  rintro r h15 ⟨hyes, rfl, hh⟩
  rw [hh]; clear hh h15
  obtain ⟨q, hw, rfl⟩ : ∃ p, wholeB g = some p ∧ e = fsE (.bl p.f p.w p.x) 0 := by
    rcases hb with ⟨hb, _⟩ | ⟨_, hb⟩
    · rw [hb] at hyes; cases hyes
    · exact hb
  refine ⟨rfl, _, (cellAt_of (g14.at c1 (by simp)) 0).trans rfl, ?_⟩
  refine Ent.rd0 _ k14 ?_
  refine (change_spec w14 (addr_lt (by omega) hi) (fsE (.bl q.f q.w q.x) 0) (by rw [hlg]; decide)).mono ?_
  rintro r h17 ⟨rfl, w17, f17⟩
  have x17 : FrL y h h17 := (FrL.of0 g14).trans f17
  refine ⟨rfl, _, (cellAt_of (x17.at c1 o1 (by decide)) 0).trans rfl, _, _, rfl, _, w17.frames, _, (cellAt_of (f17.at k614 out (by decide)) 4).trans rfl, ?_⟩
  refine (Give_spec w17.g.f 1 _).mono ?_
  rintro r h18 ⟨rfl, t18, f18⟩
  have hL := (change_fields s0 (s0.root * 256 + 4 * i) (fsE (.bl q.f q.w q.x) 0)).2.1
  have w18 := w17.fw f18 t18
  rw [show (fsE (.tb g) (T i)).f = ((T i : Nat) : Int) from rfl, give_set (by rw [hL]; exact (v.to i hi hT).1), hL] at w18
  refine ⟨_, rfl, rfl, _, w18, x17.trans (FrL.of f18 (by simp [Lay.F])), ?_⟩
  have hop2 : opMerge A (i : Int) = (0, fset A i (.bl q.f q.w q.x)) := by
    rw [hop, hA]
    show (match wholeB g with | some p => _ | none => _) = _
    rw [hw]
  rw [hop2]
  refine ⟨rfl, ?_, fun hc => absurd rfl hc⟩
  have v' : Inv s0 (fset A i (.tb g)) T := by rw [← hA, fset_id]; exact v
  refine done_give v ne hi hT v' rfl (fun _ _ => rfl) (by rw [hlg]; decide) (Tr.start hlg) (a := .bl q.f q.w q.x) rfl ?_
  intro f x z hc
  cases hc
  have h0 : g 0 = some q ∧ q.f % 64 = 0 ∧ ∀ l, l < 64 → goodP g l := by
    have hgood : ∀ l, l < 64 → goodP g l := fun l hl => by
      refine Classical.byContradiction fun hc => ?_
      rw [whole_bad hl hc] at hw; cases hw
    obtain ⟨p, h0, _⟩ := hgood 0 (by decide)
    have := whole_good h0 hgood
    rw [this] at hw
    cases hm : (p.f % 64 == 0) with
    | true => rw [hm] at hw; simp at hw; subst hw; exact ⟨h0, by simpa using hm, hgood⟩
    | false => rw [hm] at hw; simp at hw
  obtain ⟨h00, hm, hgood⟩ := h0
  obtain ⟨p, hp0, hp⟩ := hgood 63 (by decide)
  rw [h00] at hp0
  cases hp0
  have := v.pb i hi g hA 63 (by decide) _ hp
  exact ⟨hm, by simp only at this; omega⟩
end
end Go.Proofs.Ytmldiibfmhkgjaa
