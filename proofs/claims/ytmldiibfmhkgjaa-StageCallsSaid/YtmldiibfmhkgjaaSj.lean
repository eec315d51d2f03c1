import Derived.Test.YtmldiibfmhkgjaaSi
namespace Go.Proofs.Ytmldiibfmhkgjaa
open Go Go.Wd
set_option linter.unusedVariables false
set_option linter.unusedSimpArgs false
set_option linter.unnecessarySimpa false

section
variable {h : Hp} {y : Lay} {s0 s1 : Sp} {A : Ab} {T T1 : Nat → Nat} {i : Nat}
theorem and_bad {a b : Bool} (h : a = false ∨ b = false) : (a && b) = false := by cases a <;> cases b <;> simp_all
/-- A new, empty table. -/
theorem mid_empty (v : Inv s0 A T) (hlg : s0.lg = []) (hi : i < 64) (hA : A i = .no) {t : Nat} (ht : s0.L[t]? = some 0) :
    Mid s0 A T i ((s0.take t).change (s0.root * 256 + 4 * i) ⟨true, false, false, false, (t : Int)⟩) (fset T i t) := by
  refine mid_new v hi (by rw [hA]; rfl) (Tr.take hlg v.bl v.ll ht) ?_ ?_ (by show s0.lg.length ≤ _; rw [hlg]; decide)
  · intro u k hk
    show wA (zeroF s0.B t) u k = _
    rw [wA_zero v.bl (own_lt ht v.ll) hk, hA]; rfl
  · intro k hk p hp
    rw [hA] at hp; cases hp
theorem Map1_spec {v0 v1 v2 v3 v4 : Nat} {p f : Int} {pw px : Bool} (w : SP h y s0) (v : Inv s0 A T) (ne : NE A) (hlg : s0.lg = []) (hd : s0.dead = false)
    (c0 : bk h v0 = some (blk 3 [.int .i64 p])) (c1 : bk h v1 = some (blk 34 (ptrTo y))) (c2 : bk h v2 = some (blk 3 [.int .i64 f])) (c3 : bk h v3 = some (blk 4 [.bool pw])) (c4 : bk h v4 = some (blk 4 [.bool px])) (o0 : v0 ∉ y.F) (o1 : v1 ∉ y.F) (o2 : v2 ∉ y.F) (o3 : v3 ∉ y.F) (o4 : v4 ∉ y.F) :
    CallsX Try.prog 49 [.pointer (some ⟨v0, 0, none⟩), .pointer (some ⟨v1, 0, none⟩), .pointer (some ⟨v2, 0, none⟩), .pointer (some ⟨v3, 0, none⟩), .pointer (some ⟨v4, 0, none⟩)] h
      (fun r h' => r = .tuple #[] ∧ ∃ s', SP h' y s' ∧ FrL y h h' ∧ Outp s0 A T (opMap A s0.n (freeB s0) p f pw px) 0 s')
      (fun r h' => ∃ e, r = refusal e ∧ SP h' y s0 ∧ FrL y h h' ∧ Outp s0 A T (opMap A s0.n (freeB s0) p f pw px) e s0) := by
  refine stage_Space_Map_1.calls _ _ _ _ _ _ _ _ _ _ _ _ _ ?_
  unfold stage_Space_Map_1.P
  have hrn := v.rlt
  have hn := v.hn
  have hroot : s0.root < 65536 := by omega
  refine ⟨fun h' => h' = h ∧ isIn 4096 p = true ∧ isIn s0.n f = true, ?_, ?_⟩
  · refine ⟨_, (cellAt_of c0 0).trans rfl, ?_⟩
    refine (page_spec p).mono ?_
    rintro r h1 ⟨rfl, hh⟩
    rw [hh]; clear hh h1
    have bad : (isIn 4096 p = false ∨ isIn s0.n f = false) → opMap A s0.n (freeB s0) p f pw px = (11, A) := fun hb => by
      unfold opMap
      rw [and_bad hb]; rfl
    refine ⟨_, rfl, fun ok => ?_, fun no => ?_⟩
    · refine ⟨_, (cellAt_of c1 0).trans rfl, _, (cellAt_of c2 0).trans rfl, ?_⟩
      refine (frame_spec w f).mono ?_
      rintro r h2 ⟨rfl, hh⟩
      rw [hh]; clear hh h2
      refine ⟨_, rfl, ?_⟩
      refine (need_spec _ _).mono ?_ ?_
      · rintro r h3 ⟨hf, rfl, hh⟩
        exact ⟨rfl, hh, ok, hf⟩
      · rintro r h3 ⟨hf, rfl, hh⟩
        rw [hh]; clear hh h3
        exact ⟨11, rfl, w, FrL.refl _ _, Outp.bad hlg v ne (bad (.inr hf))⟩
    · refine (need_spec _ _).mono ?_ ?_
      · rintro r h3 ⟨hf, _⟩
        cases hf
      · rintro r h3 ⟨hf, rfl, hh⟩
        rw [hh]; clear hh h3
        exact ⟨11, rfl, w, FrL.refl _ _, Outp.bad hlg v ne (bad (.inl no))⟩
  rintro h7 ⟨hh, okp, okf⟩
  rw [hh]; clear hh h7
  obtain ⟨k, rfl, hk⟩ := in_page okp
  obtain ⟨fn, rfl, hfn⟩ := isIn_nat okf
  obtain ⟨hi, hj⟩ := p_idx hk
  refine ⟨_, (cellAt_of c1 0).trans rfl, _, (cellAt_of c0 0).trans rfl, ?_⟩
  refine (SLook_spec w v hd (k : Int)).mono ?_
  rintro r h8 ⟨rfl, f8⟩
  refine ⟨_, _, _, _, _, _, rfl, ?_⟩
  refine put_ent (lkE (lookA A (k : Int))) ?_
  intro h10 k10 f10 s10
  have w10 := (w.fr0 f8).fr0 f10
  have g10 := f8.trans f10
  refine (need_spec _ _).mono ?_ ?_
  rotate_left
  · rintro r h11 ⟨hno, rfl, hh⟩
    rw [hh]; clear hh h11
    refine ⟨13, rfl, w10, FrL.of0 g10, Outp.bad hlg v ne ?_⟩
    have hl : (lookA A (k : Int)).isSome = true := by simpa using hno
    unfold opMap
    rw [okp, okf, hl]; rfl
  rintro r h11 ⟨hno, rfl, hh⟩
  rw [hh]; clear hh h11
  have hl : (lookA A (k : Int)).isSome = false := by simpa using hno
  have hlk : lookA A (k : Int) = lookN A k := lookA_nat hk
  have hop : opMap A s0.n (freeB s0) (k : Int) (fn : Int) pw px = if (A (k / 64)).isT || freeB s0 then (0, fset A (k / 64) (.tb (fset (tabOf (A (k / 64))) (k % 64) (some ⟨fn, pw, px⟩)))) else (15, A) := by
    unfold opMap
    rw [okp, okf, hl, Int.toNat_natCast, Int.toNat_natCast]; rfl
  refine ⟨rfl, _, (cellAt_of (g10.at c1 (by simp)) 0).trans rfl, _, (cellAt_of (g10.at c0 (by simp)) 0).trans rfl, by decide, ?_⟩
  rw [tdiv64 hk]
  refine (first_spec' w10 hroot hi).mono ?_
  rintro r h13 ⟨rfl, f13⟩
  rw [v.word1 hi]
  refine ⟨_, _, _, _, _, _, rfl, ?_⟩
  refine put_ent (fsE (A (k / 64)) (T (k / 64))) ?_
  intro h15 k15 f15 s15
  have w13 := w10.fr0 f13
  have w15 := w13.fr0 f15
  have g15 := (g10.trans f13).trans f15
  have l13 := w13.ltF
  have out : sz h13 ∉ y.F := fun hm => by have := l13 _ hm; omega
  have x15 : FrL y h h15 := FrL.of0 g15
  refine ⟨fun h' => ∃ (s1 : Sp) (T1 : Nat → Nat) (e : Ent), SP h' y s1 ∧ Mid s0 A T (k / 64) s1 T1 ∧ FrL y h h' ∧ bk h' (sz h13) = some (blk 54 e.cells) ∧ e.f = ((T1 (k / 64) : Nat) : Int) ∧ ((A (k / 64)).isT || freeB s0) = true, ?_, ?_⟩
  · refine ⟨_, (cellAt_of k15 0).trans rfl, fun c => ?_, fun c => ?_⟩
    · have hA : A (k / 64) = .no := by
        cases hA : A (k / 64) with
        | no => rfl
        | bl f x z => rw [hA] at c; cases c
        | tb g => rw [hA] at c; cases c
      have hnT : (A (k / 64)).isT = false := by rw [hA]; rfl
      refine ⟨_, (cellAt_of (g15.at c1 (by simp)) 0).trans rfl, ?_⟩
      refine (table_spec w15 v.ll).mono ?_ ?_
      · rintro r h16 ⟨t, ht, rfl, w16, f16⟩
        have k16 := f16.at k15 out (by decide)
        have htn := own_lt ht v.ll
        refine ⟨_, rfl, truly_rfl, _, _, k16, Nat.le_of_ble_eq_true rfl, ?_⟩
        intro h18 e18
        have f18 : Fr [sz h13] h16 h18 := by rw [e18]; exact Fr.upd (by simp) _ _ _
        have k18 : bk h18 (sz h13) = some (blk 54 (Ent.mk true false false false (t : Int)).cells) := by rw [e18]; exact upd_same k16 _ _
        have w18 : SP h18 y (s0.take t) := by
          obtain ⟨la, lc, a, o, z⟩ := w16.hs
          have hne : ∀ {b t : Nat}, ty h16 b = some t → t ≠ 54 → b ∉ [sz h13] := fun hb ht => by simp only [List.mem_singleton]; exact ty_ne hb (ty_of k16) ht
          exact ⟨⟨la, lc, f18.at a (hne (ty_of a) (by decide)), o.fr f18 (fun x hx => hne (own_ty o x hx) (by decide)), z.fr f18⟩, w16.g.fr f18 (fun z hz t ht => by simp only [List.mem_singleton] at hz; rw [hz, ty_of k16] at ht; cases ht; decide)⟩
        have x18 : FrL y h h18 := (x15.trans f16).later f18 (fun x hx => .inr (by simp only [List.mem_singleton] at hx; rw [hx]; exact (g10.trans f13).size))
        refine ⟨_, (cellAt_of (x18.at c1 o1 (by decide)) 0).trans rfl, ?_⟩
        refine Ent.rd0 _ k18 ?_
        refine (change_spec w18 (addr_lt hroot hi) ⟨true, false, false, false, (t : Int)⟩ (by show s0.lg.length ≤ _; rw [hlg]; decide)).mono ?_
        rintro r h19 ⟨rfl, w19, f19⟩
        have hfree : freeB s0 = true := decide_eq_true (List.mem_of_getElem? ht)
        refine ⟨rfl, _, _, _, w19, mid_empty v hlg hi hA ht, x18.trans f19, f19.at k18 out (by decide), by rw [fset_same], by rw [hfree, hnT]; rfl⟩
      · rintro r h16 ⟨h0, rfl, w16, f16⟩
        have hfree : freeB s0 = false := decide_eq_false h0
        refine ⟨15, rfl, w16, x15.trans f16, Outp.bad hlg v ne ?_⟩
        rw [hop, hnT, hfree]; rfl
    · obtain ⟨g, hA⟩ : ∃ g, A (k / 64) = .tb g := by
        cases hA : A (k / 64) with
        | no => rw [hA] at c; cases c
        | bl f x z => rw [hlk] at hl; unfold lookN at hl; rw [hA] at hl; cases hl
        | tb g => exact ⟨g, rfl⟩
      exact ⟨s0, T, _, w15, Mid.self v hlg hi hA, x15, k15, by rw [hA]; rfl, by rw [hA]; rfl⟩
  · rintro h20 ⟨s1, T1, e, w20, m, x20, k20, he, hgo⟩
    have hT1 : ((fset A (k / 64) (.tb (tabOf (A (k / 64))))) (k / 64)).isT = true := by rw [fset_same]; rfl
    have ht1 : T1 (k / 64) < 65536 := by
      have h1 := m.inv.tlt hi hT1
      have h2 := m.inv.hn
      omega
    have hlg1 := m.lg
    refine ⟨_, (cellAt_of (x20.at c1 o1 (by decide)) 0).trans rfl, _, (cellAt_of k20 4).trans rfl, _, (cellAt_of (x20.at c0 o0 (by decide)) 0).trans rfl, by decide, _, (cellAt_of (x20.at c3 o3 (by decide)) 0).trans rfl, _, (cellAt_of (x20.at c4 o4 (by decide)) 0).trans rfl, _, (cellAt_of (x20.at c2 o2 (by decide)) 0).trans rfl, ?_⟩
    rw [he, tmod64]
    refine (at_spec' ht1 hj).mono ?_
    rintro r h21 ⟨rfl, hh⟩
    rw [hh]; clear hh h21
    refine ⟨_, rfl, (cellAt_of (x20.at c1 o1 (by decide)) 0).trans rfl, (cellAt_of (x20.at c3 o3 (by decide)) 0).trans rfl, (cellAt_of (x20.at c4 o4 (by decide)) 0).trans rfl, (cellAt_of (x20.at c2 o2 (by decide)) 0).trans rfl, ?_⟩
    refine (change_spec w20 (addr_lt ht1 hj) (pgE (some ⟨fn, pw, px⟩)) (by omega)).mono ?_
    rintro r h22 ⟨rfl, w22, f22⟩
    refine ⟨rfl, rfl, _, w22, x20.trans f22, ?_⟩
    rw [hop, if_pos hgo]
    exact ⟨rfl, m.done v ne hi hj (some ⟨fn, pw, px⟩) (fun p hp => by cases hp; exact hfn) ⟨k % 64, hj, by rw [fset_same]; simp⟩, fun hc => absurd rfl hc⟩
/-- A first entry becomes a block. -/
theorem done_block (v : Inv s0 A T) (ne : NE A) (hlg : s0.lg = []) (hi : i < 64) (hA : A i = .no) {f : Nat} {x z : Bool} (hb : f % 64 = 0 ∧ f + 64 ≤ s0.n) :
    Done s0 A T (s0.change (s0.root * 256 + 4 * i) (fsE (.bl f x z) 0)) (fset A i (.bl f x z)) := by
  have hz := v.zv hi
  have hnT : (A i).isT = false := by rw [hA]; rfl
  obtain ⟨f1, f2, f3, f4⟩ := change_fields s0 (s0.root * 256 + 4 * i) (fsE (.bl f x z) 0)
  have hc := fun {u j : Nat} (hj : j < 64) => change_wA v.bl v.rlt hi (fsE (.bl f x z) 0) hz (u := u) hj
  have hnt := nT_fset A hi (.bl f x z)
  rw [hnT, show (Fst.bl f x z).isT = false from rfl] at hnt
  have hTr : Tr s0 A T none (s0.change (s0.root * 256 + 4 * i) (fsE (.bl f x z) 0)) := (Tr.start hlg).change v.bl v.rlt hi (.inl rfl) _ hz
  refine ⟨⟨fset T i (T i), ?_, ?_⟩, ?_, ⟨none, _, hTr, .inl rfl⟩, by rw [f2]; simp at hnt; omega, by rw [f2]; simp at hnt; omega, by have := change_lg s0 (s0.root * 256 + 4 * i) (fsE (.bl f x z) 0); rw [hlg] at this; exact Nat.le_trans this (by decide)⟩
  · refine v.first hi (.bl f x z) (T i) f1 f3 f4 (by rw [f2]) ?_ ?_ (fun g h => by cases h) ?_ (fun g h => by cases h) (by rw [f2]; exact v.ro) (fun j hj _ hjT => by rw [f2]; exact (v.to j hj hjT).1) (fun h => by cases h)
    · intro j hj
      rw [hc hj]
      by_cases e : j = i
      · rw [if_pos ⟨rfl, e⟩, if_pos e]; rfl
      · rw [if_neg (fun h => e h.2), if_neg e]
    · intro j hj hji hjT k hk
      rw [hc hk, if_neg (fun h => (v.to j hj hjT).2 h.1)]
    · intro f' x' z' hh
      cases hh
      exact hb
  · intro j hj hjt
    by_cases e : j = i
    · rw [e, fset_same] at hjt; cases hjt
    · rw [fset_ne e] at hjt ⊢
      exact .inr (.inl ⟨j, hj, hjt, rfl⟩)
  · intro j hj g' hg'
    by_cases e : j = i
    · rw [e, fset_same] at hg'; cases hg'
    · rw [fset_ne e] at hg'; exact ne j hj g' hg'
theorem wrap63 {f : Nat} (hf : f ≤ 2000) : IntKind.wrap .i64 (IntKind.wrap .i64 ((f : Int) + 64) - 1) = (f : Int) + 63 := by
  rw [wrap_i64 (n := (f : Int) + 64) (by omega) (by omega), wrap_i64 (by omega) (by omega)]; omega
theorem in63 {n f : Nat} (h : isIn n ((f : Int) + 63) = true) : f + 64 ≤ n := by
  simp only [isIn, Bool.and_eq_true, decide_eq_true_eq] at h; omega
theorem mod_beq (f : Nat) : (Int.tmod (f : Int) 64 == 0) = (f % 64 == 0) := by
  rw [tmod64]
  cases h : (f % 64 == 0) with
  | true => rw [eq_of_beq h]; rfl
  | false =>
    have h : ¬ f % 64 = 0 := by simpa using h
    have : ¬ ((f % 64 : Nat) : Int) = 0 := by omega
    simpa using this
theorem Run1_spec {v0 v1 v2 v3 v4 : Nat} {p f : Int} {pw px : Bool} (w : SP h y s0) (v : Inv s0 A T) (ne : NE A) (hlg : s0.lg = [])
    (c0 : bk h v0 = some (blk 3 [.int .i64 p])) (c1 : bk h v1 = some (blk 34 (ptrTo y))) (c2 : bk h v2 = some (blk 3 [.int .i64 f])) (c3 : bk h v3 = some (blk 4 [.bool pw])) (c4 : bk h v4 = some (blk 4 [.bool px])) :
    CallsX Try.prog 93 [.pointer (some ⟨v0, 0, none⟩), .pointer (some ⟨v1, 0, none⟩), .pointer (some ⟨v2, 0, none⟩), .pointer (some ⟨v3, 0, none⟩), .pointer (some ⟨v4, 0, none⟩)] h
      (fun r h' => r = .tuple #[] ∧ ∃ s', SP h' y s' ∧ FrL y h h' ∧ Outp s0 A T (opRun A s0.n p f pw px) 0 s')
      (fun r h' => ∃ e, r = refusal e ∧ SP h' y s0 ∧ FrL y h h' ∧ Outp s0 A T (opRun A s0.n p f pw px) e s0) := by
  refine stage_Space_MapRun_1.calls _ _ _ _ _ _ _ _ _ _ _ _ _ ?_
  unfold stage_Space_MapRun_1.P
  have hrn := v.rlt
  have hn := v.hn
  have hroot : s0.root < 65536 := by omega
  have bad : (isIn 64 p && isIn s0.n f && (f.toNat % 64 == 0) && isIn s0.n (f + 63)) = false → opRun A s0.n p f pw px = (11, A) := fun hb => by
    unfold opRun
    rw [hb]; rfl
  refine ⟨fun h' => h' = h ∧ (isIn 64 p && isIn s0.n f && (f.toNat % 64 == 0) && isIn s0.n (f + 63)) = true, ?_, ?_⟩
  · have fail : (isIn 64 p && isIn s0.n f && (f.toNat % 64 == 0) && isIn s0.n (f + 63)) = false → CallsX Try.prog 50 [.bool false, .int .i64 11] h (fun r3 h' => r3 = .tuple #[] ∧ (h' = h ∧ (isIn 64 p && isIn s0.n f && (f.toNat % 64 == 0) && isIn s0.n (f + 63)) = true))
        (fun r h' => ∃ e, r = refusal e ∧ SP h' y s0 ∧ FrL y h h' ∧ Outp s0 A T (opRun A s0.n p f pw px) e s0) := fun hb => by
      refine (need_spec _ _).mono ?_ ?_
      · rintro r h3 ⟨hf, _⟩
        cases hf
      · rintro r h3 ⟨hf, rfl, hh⟩
        rw [hh]; clear hh h3
        exact ⟨11, rfl, w, FrL.refl _ _, Outp.bad hlg v ne (bad hb)⟩
    refine ⟨_, (cellAt_of c0 0).trans rfl, ?_⟩
    refine (index_spec p).mono ?_
    rintro r h1 ⟨rfl, hh⟩
    rw [hh]; clear hh h1
    refine ⟨_, rfl, fun ok => ?_, fun no => ?_⟩
    rotate_left
    · exact fail (by rw [no]; rfl)
    refine ⟨_, (cellAt_of c1 0).trans rfl, _, (cellAt_of c2 0).trans rfl, ?_⟩
    refine (frame_spec w f).mono ?_
    rintro r h2 ⟨rfl, hh⟩
    rw [hh]; clear hh h2
    refine ⟨_, rfl, fun ok2 => ?_, fun no => ?_⟩
    rotate_left
    · exact fail (by rw [ok, no]; rfl)
    obtain ⟨fn, rfl, hfn⟩ := isIn_nat ok2
    rw [Int.toNat_natCast] at *
    refine ⟨_, (cellAt_of c2 0).trans rfl, by decide, ?_⟩
    rw [mod_beq]
    refine ⟨fun ok3 => ?_, fun no => ?_⟩
    rotate_left
    · exact fail (by rw [ok, ok2, no]; rfl)
    refine ⟨_, (cellAt_of c1 0).trans rfl, _, (cellAt_of c2 0).trans rfl, ?_⟩
    rw [wrap63 (by omega)]
    refine (frame_spec w _).mono ?_
    rintro r h2 ⟨rfl, hh⟩
    rw [hh]; clear hh h2
    refine ⟨_, rfl, ?_⟩
    refine (need_spec _ _).mono ?_ ?_
    · rintro r h3 ⟨hf, rfl, hh⟩
      exact ⟨rfl, hh, by rw [ok, ok2, ok3, hf]; rfl⟩
    · rintro r h3 ⟨hf, rfl, hh⟩
      rw [hh]; clear hh h3
      exact ⟨11, rfl, w, FrL.refl _ _, Outp.bad hlg v ne (bad (by rw [ok, ok2, ok3, hf]; rfl))⟩
  rintro h7 ⟨hh, hall⟩
  rw [hh]; clear hh h7
  have hop : opRun A s0.n p f pw px = match A p.toNat with
    | .no => (0, fset A p.toNat (.bl f.toNat pw px))
    | _ => (13, A) := by
    unfold opRun
    rw [hall]; rfl
  rw [Bool.and_eq_true, Bool.and_eq_true, Bool.and_eq_true] at hall
  obtain ⟨⟨⟨ok1, ok2⟩, ok3⟩, ok4⟩ := hall
  obtain ⟨fn, rfl, hfn⟩ := isIn_nat ok2
  obtain ⟨i, rfl, hi⟩ := isIn_nat ok1
  rw [Int.toNat_natCast] at *
  have hb : fn % 64 = 0 ∧ fn + 64 ≤ s0.n := ⟨eq_of_beq ok3, in63 ok4⟩
  refine ⟨_, (cellAt_of c1 0).trans rfl, _, (cellAt_of c0 0).trans rfl, ?_⟩
  refine (first_spec' w hroot hi).mono ?_
  rintro r h13 ⟨rfl, f13⟩
  rw [v.word1 hi]
  refine ⟨_, _, _, _, _, _, rfl, ?_⟩
  refine put_ent (fsE (A i) (T i)) ?_
  intro h15 k15 f15 s15
  have w15 := (w.fr0 f13).fr0 f15
  have g15 := f13.trans f15
  refine ⟨_, (cellAt_of k15 0).trans rfl, ?_⟩
  refine (need_spec _ _).mono ?_ ?_
  · rintro r h16 ⟨hv, rfl, hh⟩
    rw [hh]; clear hh h16
    have hA : A i = .no := by
      cases hA : A i with
      | no => rfl
      | bl f x z => rw [hA] at hv; cases hv
      | tb g => rw [hA] at hv; cases hv
    refine ⟨rfl, _, (cellAt_of (g15.at c1 (by simp)) 0).trans rfl, _, (cellAt_of (g15.at c3 (by simp)) 0).trans rfl, _, (cellAt_of (g15.at c4 (by simp)) 0).trans rfl, _, (cellAt_of (g15.at c2 (by simp)) 0).trans rfl, ?_⟩
    refine (change_spec w15 (addr_lt hroot hi) (fsE (.bl fn pw px) 0) (by rw [hlg]; decide)).mono ?_
    rintro r h18 ⟨rfl, w18, f18⟩
    refine ⟨rfl, rfl, _, w18, (FrL.of0 g15).trans f18, ?_⟩
    rw [hop, hA]
    exact ⟨rfl, done_block v ne hlg hi hA hb, fun hc => absurd rfl hc⟩
  · rintro r h16 ⟨hv, rfl, hh⟩
    rw [hh]; clear hh h16
    refine ⟨13, rfl, w15, FrL.of0 g15, Outp.bad hlg v ne ?_⟩
    rw [hop]
    cases hA : A i with
    | no => rw [hA] at hv; cases hv
    | bl f x z => rfl
    | tb g => rfl
end
end Go.Proofs.Ytmldiibfmhkgjaa
