import Derived.Test.YtmldiibfmhkgjaaSh
namespace Go.Proofs.Ytmldiibfmhkgjaa
open Go Go.Wd
set_option linter.unusedVariables false
set_option linter.unusedSimpArgs false
set_option linter.unnecessarySimpa false

/-! ## the calls, in plain terms -/
def opMap (A : Ab) (n : Nat) (free : Bool) (p f : Int) (w x : Bool) : Int × Ab :=
  if isIn 4096 p && isIn n f then
    if (lookA A p).isSome then (13, A)
    else if (A (p.toNat / 64)).isT || free then (0, fset A (p.toNat / 64) (.tb (fset (tabOf (A (p.toNat / 64))) (p.toNat % 64) (some ⟨f.toNat, w, x⟩)))) else (15, A)
  else (11, A)
def opUnmap (A : Ab) (free : Bool) (p : Int) : Int × Ab :=
  if subE A free p = 0 then (0, fset A (p.toNat / 64) (if emp (fset (tabOf (A (p.toNat / 64))) (p.toNat % 64) none) then .no else .tb (fset (tabOf (A (p.toNat / 64))) (p.toNat % 64) none)))
  else (subE A free p, A)
def opProt (A : Ab) (free : Bool) (p : Int) (w x : Bool) : Int × Ab :=
  if subE A free p = 0 then (0, fset A (p.toNat / 64) (.tb (fset (tabOf (A (p.toNat / 64))) (p.toNat % 64) ((tabOf (A (p.toNat / 64)) (p.toNat % 64)).map fun q => ⟨q.f, w, x⟩))))
  else (subE A free p, A)
def opRun (A : Ab) (n : Nat) (i f : Int) (w x : Bool) : Int × Ab :=
  if isIn 64 i && isIn n f && (f.toNat % 64 == 0) && isIn n (f + 63) then
    match A i.toNat with
    | .no => (0, fset A i.toNat (.bl f.toNat w x))
    | _ => (13, A)
  else (11, A)
def opSplit (A : Ab) (free : Bool) (i : Int) : Int × Ab :=
  if isIn 64 i then
    match A i.toNat with
    | .bl f w x => if free then (0, fset A i.toNat (.tb (tabOf (.bl f w x)))) else (15, A)
    | _ => (12, A)
  else (11, A)
def wholeB (g : Nat → Option Pg) : Option Pg := match g 0 with
  | none => none
  | some p => if ((List.range 64).all fun k => decide (g k = some ⟨p.f + k, p.w, p.x⟩)) && (p.f % 64 == 0) then some p else none
def opMerge (A : Ab) (i : Int) : Int × Ab :=
  if isIn 64 i then
    match A i.toNat with
    | .tb g => (match wholeB g with
      | some p => (0, fset A i.toNat (.bl p.f p.w p.x))
      | none => (20, A))
    | _ => (12, A)
  else (11, A)
/-- What a call comes to. -/
def Outp (s0 : Sp) (A : Ab) (T : Nat → Nat) (op : Int × Ab) (e : Int) (s' : Sp) : Prop := e = op.1 ∧ Done s0 A T s' op.2 ∧ (e ≠ 0 → s' = s0)
theorem Outp.bad {s0 : Sp} {A : Ab} {T : Nat → Nat} (hlg : s0.lg = []) (v : Inv s0 A T) (ne : NE A) {op : Int × Ab} {e : Int} (h : op = (e, A)) : Outp s0 A T op e s0 := by
  rw [h]; exact ⟨rfl, Done.same hlg v ne, fun _ => rfl⟩
section
variable {s0 s1 s2 : Sp} {A : Ab} {T T1 T2 : Nat → Nat} {i : Nat}
theorem tab_look {k : Nat} (h : (lookN A k).isSome = true) : ∃ q, tabOf (A (k / 64)) (k % 64) = some q := by
  unfold lookN at h
  cases hA : A (k / 64) with
  | no => rw [hA] at h; cases h
  | bl f w x => exact ⟨_, rfl⟩
  | tb g =>
    rw [hA] at h
    cases hg : g (k % 64) with
    | none => simp [hg] at h
    | some q => exact ⟨q, hg⟩
theorem tab_lt (v : Inv s0 A T) (hi : i < 64) {k : Nat} (hk : k < 64) {q : Pg} (h : tabOf (A i) k = some q) : q.f < s0.n := by
  cases hA : A i with
  | no => rw [hA] at h; cases h
  | bl f w x =>
    rw [hA] at h
    simp only [tabOf, Option.some.injEq] at h
    have := v.bb i hi f w x hA
    subst h
    show f + k < s0.n
    omega
  | tb g => rw [hA] at h; exact v.pb i hi g hA k hk q h
/-- A table is given back. -/
theorem done_give (v : Inv s0 A T) (ne : NE A) (hi : i < 64) (hT : (A i).isT = true) {g : Nat → Option Pg} (v2 : Inv s2 (fset A i (.tb g)) T2) (ht : T2 i = T i) (hoth : ∀ j, j ≠ i → T2 j = T j) (hlg2 : s2.lg.length ≤ 2000) (tr : Tr s0 A T none s2) {a : Fst} (ha : a.isT = false)
    (hb : ∀ f x y, a = .bl f x y → f % 64 = 0 ∧ f + 64 ≤ s0.n) :
    Done s0 A T { s2.change (s0.root * 256 + 4 * i) (fsE a 0) with L := s2.L.set (T i) 0 } (fset A i a) := by
  have hr := tr.rt
  have hn := tr.n
  have hL : s2.L = s0.L := tr.L
  have hrn : s0.root < s2.n := by rw [hn]; exact v.rlt
  have hz := v2.zv hi
  rw [hr] at hz
  obtain ⟨f1, f2, f3, f4⟩ := change_fields s2 (s0.root * 256 + 4 * i) (fsE a 0)
  have hc := fun {u j : Nat} (hj : j < 64) => change_wA v2.bl hrn hi (fsE a 0) hz (u := u) hj
  have ho := v.to i hi hT
  have hnT := nT_fset A hi a
  rw [hT, ha] at hnT
  have hea : fsE a (T2 i) = fsE a 0 := by cases a with
    | no => rfl
    | bl f x y => rfl
    | tb g => cases ha
  have hset : ∀ u, u ≠ T i → (s2.L.set (T i) 0)[u]? = s0.L[u]? := fun u hu => by rw [List.getElem?_set, if_neg (fun e => hu e.symm), hL]
  have hTj : ∀ j, j < 64 → j ≠ i → (A j).isT = true → (fset A i (.tb g) j).isT = true := fun j _ hj h => by rw [fset_ne hj]; exact h
  have hjT : ∀ j, j < 64 → j ≠ i → (fset A i (.tb g) j).isT = true → (A j).isT = true := fun j _ hj h => by rw [fset_ne hj] at h; exact h
  have hii : (fset A i (.tb g) i).isT = true := by rw [fset_same]; rfl
  have hTr : Tr s0 A T none (s2.change (s0.root * 256 + 4 * i) (fsE a 0)) := tr.change v.bl v.rlt hi (.inl rfl) _ hz
  have hwT : ∀ j, j < 64 → (fset A i (.tb g) j).isT = true → T2 j ≠ s0.root := fun j hj h => by have := (v2.to j hj h).2; rw [hr] at this; exact this
  refine ⟨⟨fset T2 i (T2 i), ?_, ?_⟩, ?_, ⟨none, _, hTr, .inr ⟨rfl, i, hi, hT, by rw [f2]⟩⟩, ?_, ?_, by show (s2.change (s0.root * 256 + 4 * i) (fsE a 0)).lg.length ≤ 5000; have := change_lg s2 (s0.root * 256 + 4 * i) (fsE a 0); omega⟩
  · have := v2.first hi a (T2 i) (s' := { s2.change (s0.root * 256 + 4 * i) (fsE a 0) with L := s2.L.set (T i) 0 }) f1 f3 f4 (by show (s2.L.set (T i) 0).length = _; rw [List.length_set])
      (fun j hj => by
        rw [hr]
        show wA (s2.change (s0.root * 256 + 4 * i) (fsE a 0)).B s0.root j = _
        rw [hc hj, hea]
        by_cases e : j = i
        · rw [if_pos ⟨rfl, e⟩, if_pos e]
        · rw [if_neg (fun h => e h.2), if_neg e])
      (fun j hj hji hjT k hk => by
        show wA (s2.change (s0.root * 256 + 4 * i) (fsE a 0)).B (T2 j) k = _
        rw [hc hk, if_neg (fun h => hwT j hj hjT h.1)])
      (fun g' hg' => by rw [hg'] at ha; cases ha) (by rw [hn]; exact hb) (fun g' hg' => by rw [hg'] at ha; cases ha)
      (by
        rw [hr]
        show (s2.L.set (T i) 0)[s0.root]? = _
        rw [hset _ (fun e => ho.2 e.symm)]; exact v.ro)
      (fun j hj hji hjT' => by
        show (s2.L.set (T i) 0)[T2 j]? = _
        have h2 := v2.tt j hj i hi hji hjT' hii
        rw [ht] at h2
        rw [hset _ h2, ← hL]
        exact (v2.to j hj hjT').1)
      (fun h => by rw [ha] at h; cases h)
    rwa [fset_twice] at this
  · intro j hj hjt
    by_cases e : j = i
    · rw [e, fset_same, ha] at hjt; cases hjt
    · rw [fset_ne e] at hjt ⊢
      rw [hoth j e]
      exact .inr (.inl ⟨j, hj, hjt, rfl⟩)
  · intro j hj g' hg'
    by_cases e : j = i
    · rw [e, fset_same] at hg'; rw [hg'] at ha; cases ha
    · rw [fset_ne e] at hg'; exact ne j hj g' hg'
  · show (s2.L.set (T i) 0).count 1 + _ = _
    rw [hL]
    have := (count_give ho.1).1
    simp at hnT
    omega
  · show (s2.L.set (T i) 0).count 0 + _ = _
    rw [hL]
    have := (count_give ho.1).2
    simp at hnT
    omega
variable {h : Hp} {y : Lay}
def ptrTo (y : Lay) : List Value := [.pointer (some ⟨y.q, 0, none⟩)]
theorem SP.cell_at (w : SP h y s0) {G : List Nat} {h' : Hp} {c T : Nat} {l : List Value} (k : FrL y h h') (hc : bk h c = some (blk T l)) (ho : c ∉ y.F) (hT : T ≠ 71) : bk h' c = some (blk T l) := k.at hc ho hT
theorem Unmap1_spec {v0 v1 : Nat} {p : Int} (w : SP h y s0) (v : Inv s0 A T) (ne : NE A) (hlg : s0.lg = []) (hd : s0.dead = false)
    (c0 : bk h v0 = some (blk 34 (ptrTo y))) (c1 : bk h v1 = some (blk 3 [.int .i64 p])) (o0 : v0 ∉ y.F) (o1 : v1 ∉ y.F) :
    CallsX Try.prog 60 [.pointer (some ⟨v0, 0, none⟩), .pointer (some ⟨v1, 0, none⟩)] h
      (fun r h' => r = .tuple #[] ∧ ∃ s', SP h' y s' ∧ FrL y h h' ∧ Outp s0 A T (opUnmap A (freeB s0) p) 0 s')
      (fun r h' => ∃ e, r = refusal e ∧ SP h' y s0 ∧ FrL y h h' ∧ Outp s0 A T (opUnmap A (freeB s0) p) e s0) := by
  refine stage_Space_Unmap_1.calls _ _ _ _ _ _ _ ?_
  unfold stage_Space_Unmap_1.P
  refine ⟨_, (cellAt_of c0 0).trans rfl, _, (cellAt_of c0 0).trans rfl, _, (cellAt_of c1 0).trans rfl, ?_⟩
  refine (inner_spec w v hlg hd p).mono ?_ ?_
  rotate_left
  · rintro r h' ⟨e, rfl, he, hs, w', f'⟩
    refine ⟨e, rfl, w', f', Outp.bad hlg v ne ?_⟩
    unfold opUnmap
    rw [hs, if_neg he]
  rintro r h1 ⟨k, s1, T1, rfl, hk, rfl, hs, hlk, w1, m, f1⟩
  obtain ⟨hi, hj⟩ := p_idx hk
  refine ⟨_, rfl, (cellAt_of (f1.at c0 o0 (by decide)) 0).trans rfl, ?_⟩
  have hT1 : ((fset A (k / 64) (.tb (tabOf (A (k / 64))))) (k / 64)).isT = true := by rw [fset_same]; rfl
  have ht1 : T1 (k / 64) < 65536 := by
    have h1 := m.inv.tlt hi hT1
    have h2 := m.inv.hn
    omega
  have hlg1 := m.lg
  refine (change_spec w1 (addr_lt ht1 hj) noEnt (by omega)).mono ?_
  rintro r h3 ⟨rfl, w3, f3⟩
  have f13 := f1.trans f3
  refine ⟨rfl, _, (cellAt_of (f13.at c0 o0 (by decide)) 0).trans rfl, _, (cellAt_of (f13.at c1 o1 (by decide)) 0).trans rfl, by decide, ?_⟩
  rw [tdiv64 hk]
  obtain ⟨v3, tr3⟩ := m.page v hi hj none (fun p hp => by cases hp)
  have hl3 := change_lg s1 (T1 (k / 64) * 256 + 4 * (k % 64)) noEnt
  refine (clear_spec w3 v3 (by show (s1.change (T1 (k / 64) * 256 + 4 * (k % 64)) noEnt).lg.length ≤ _; omega) hi (fset_same _ _ _)).mono ?_
  rintro r h4 ⟨rfl, w4, f4⟩
  refine ⟨rfl, rfl, _, w4, f13.trans f4, ?_⟩
  have hop : opUnmap A (freeB s0) (k : Int) = (0, fset A (k / 64) (if emp (fset (tabOf (A (k / 64))) (k % 64) none) then .no else .tb (fset (tabOf (A (k / 64))) (k % 64) none))) := by
    unfold opUnmap
    rw [if_pos hs, Int.toNat_natCast]
  rw [hop]
  refine ⟨rfl, ?_, fun hc => absurd rfl hc⟩
  by_cases he : emp (fset (tabOf (A (k / 64))) (k % 64) none) = true
  · rw [if_pos he, if_pos he]
    rcases tr3 with ⟨tr, hT, ht⟩ | ⟨t, tr, hT⟩
    · have hr3 : (s1.change (T1 (k / 64) * 256 + 4 * (k % 64)) noEnt).root = s0.root := tr.rt
      have tr : Tr s0 A T none (s1.change (T1 (k / 64) * 256 + 4 * (k % 64)) noEnt) := tr
      have v3 : Inv (s1.change (T1 (k / 64) * 256 + 4 * (k % 64)) noEnt) _ _ := v3
      have hl4 : (s1.change (T1 (k / 64) * 256 + 4 * (k % 64)) noEnt).lg.length ≤ 2000 := by have : (s1.change (T1 (k / 64) * 256 + 4 * (k % 64)) noEnt).lg.length ≤ s1.lg.length + 3 := hl3; omega
      generalize s1.change (T1 (k / 64) * 256 + 4 * (k % 64)) noEnt = s3 at *
      have := done_give v ne hi hT v3 ht m.oth hl4 tr (a := .no) rfl (fun f x y hc => by cases hc)
      unfold Sp.clr
      rw [hr3, ht]
      exact this
    · exfalso
      have hlk : (lookN A k).isSome = true := by rw [← lookA_nat hk]; exact hlk
      cases hA : A (k / 64) with
      | no =>
        unfold lookN at hlk
        rw [hA] at hlk
        cases hlk
      | tb g => rw [hA] at hT; cases hT
      | bl f x z =>
        rw [hA] at he
        have h1 := emp_iff.1 he (if k % 64 = 0 then 1 else 0) (by split <;> omega)
        rw [fset_ne (by split <;> omega)] at h1
        cases h1
  · rw [if_neg he, if_neg he]
    exact m.done v ne hi hj none (fun p hp => by cases hp) (emp_no (Bool.eq_false_iff.2 he))
theorem Protect1_spec {v0 v1 v2 v3 : Nat} {p : Int} {pw px : Bool} (w : SP h y s0) (v : Inv s0 A T) (ne : NE A) (hlg : s0.lg = []) (hd : s0.dead = false)
    (c0 : bk h v0 = some (blk 34 (ptrTo y))) (c1 : bk h v1 = some (blk 3 [.int .i64 p])) (c2 : bk h v2 = some (blk 4 [.bool pw])) (c3 : bk h v3 = some (blk 4 [.bool px])) (o0 : v0 ∉ y.F) (o1 : v1 ∉ y.F) (o2 : v2 ∉ y.F) (o3 : v3 ∉ y.F) :
    CallsX Try.prog 77 [.pointer (some ⟨v0, 0, none⟩), .pointer (some ⟨v1, 0, none⟩), .pointer (some ⟨v2, 0, none⟩), .pointer (some ⟨v3, 0, none⟩)] h
      (fun r h' => r = .tuple #[] ∧ ∃ s', SP h' y s' ∧ FrL y h h' ∧ Outp s0 A T (opProt A (freeB s0) p pw px) 0 s')
      (fun r h' => ∃ e, r = refusal e ∧ SP h' y s0 ∧ FrL y h h' ∧ Outp s0 A T (opProt A (freeB s0) p pw px) e s0) := by
  refine stage_Space_Protect_1.calls _ _ _ _ _ _ _ _ _ _ _ ?_
  unfold stage_Space_Protect_1.P
  refine ⟨_, (cellAt_of c0 0).trans rfl, _, (cellAt_of c1 0).trans rfl, ?_⟩
  refine (inner_spec w v hlg hd p).mono ?_ ?_
  rotate_left
  · rintro r h' ⟨e, rfl, he, hs, w', f'⟩
    refine ⟨e, rfl, w', f', Outp.bad hlg v ne ?_⟩
    unfold opProt
    rw [hs, if_neg he]
  rintro r h1 ⟨k, s1, T1, rfl, hk, rfl, hs, hlk, w1, m, f1⟩
  obtain ⟨hi, hj⟩ := p_idx hk
  refine ⟨_, rfl, _, (cellAt_of (f1.at c0 o0 (by decide)) 0).trans rfl, ?_⟩
  have hT1 : ((fset A (k / 64) (.tb (tabOf (A (k / 64))))) (k / 64)).isT = true := by rw [fset_same]; rfl
  have htn := m.inv.tlt hi hT1
  have ht1 : T1 (k / 64) < 65536 := by
    have h2 := m.inv.hn
    omega
  have hlg1 := m.lg
  have hlk : (lookN A k).isSome = true := by rw [← lookA_nat hk]; exact hlk
  obtain ⟨q, hq⟩ := tab_look hlk
  have hqn := tab_lt v hi hj hq
  refine (read_spec' w1 (addr_lt ht1 hj)).mono ?_
  rintro r h3 ⟨rfl, f3⟩
  have he : dec (s1.word (T1 (k / 64) * 256 + 4 * (k % 64))) = pgE (some q) := by
    rw [word_at htn hj, ← hq]
    exact m.inv.sec_e hi (fset_same _ _ _) hj
  rw [he]
  refine ⟨_, _, _, _, _, rfl, ?_⟩
  refine put_ent (pgE (some q)) ?_
  intro h5 k5 f5 s5
  have w3 := w1.fr0 f3
  have w5 := w3.fr0 f5
  have g5 : FrL y h h5 := (f1.trans (FrL.of0 f3)).trans (FrL.of0 f5)
  refine ⟨_, (cellAt_of (g5.at c2 o2 (by decide)) 0).trans rfl, _, (cellAt_of (g5.at c3 o3 (by decide)) 0).trans rfl, truly_rfl, _, _, k5, Nat.le_of_ble_eq_true rfl, ?_⟩
  intro h6 e6
  have l3 := w3.ltF
  have out : sz h3 ∉ y.F := fun hm => by have := l3 _ hm; omega
  have f6 : Fr [sz h3] h5 h6 := by rw [e6]; exact Fr.upd (by simp) _ _ _
  have k6 : bk h6 (sz h3) = some (blk 54 (pgE (some ⟨q.f, pw, q.x⟩)).cells) := by rw [e6]; exact upd_same k5 _ _
  have hne3 : v3 ≠ sz h3 := fun e => by
    have := lt_of_bk ((f1.trans (FrL.of0 f3)).at c3 o3 (by decide))
    omega
  have c36 := f6.at (g5.at c3 o3 (by decide)) (by simpa using hne3)
  refine ⟨(cellAt_of c36 0).trans rfl, truly_rfl, _, _, k6, Nat.le_of_ble_eq_true rfl, ?_⟩
  intro h7 e7
  have f7 : Fr [sz h3] h6 h7 := by rw [e7]; exact Fr.upd (by simp) _ _ _
  have k7 : bk h7 (sz h3) = some (blk 54 (pgE (some ⟨q.f, pw, px⟩)).cells) := by rw [e7]; exact upd_same k6 _ _
  have f37 : Fr [] h3 h7 := (f5.later f6 (by simp)).later f7 (by simp)
  have w7 := w3.fr0 f37
  have g7 : FrL y h h7 := (f1.trans (FrL.of0 f3)).trans (FrL.of0 f37)
  refine ⟨_, (cellAt_of (g7.at c0 o0 (by decide)) 0).trans rfl, ?_⟩
  refine Ent.rd0 _ k7 ?_
  refine (change_spec w7 (addr_lt ht1 hj) (pgE (some ⟨q.f, pw, px⟩)) (by omega)).mono ?_
  rintro r h8 ⟨rfl, w8, f8⟩
  refine ⟨rfl, rfl, _, w8, g7.trans f8, ?_⟩
  have hop : opProt A (freeB s0) (k : Int) pw px = (0, fset A (k / 64) (.tb (fset (tabOf (A (k / 64))) (k % 64) (some ⟨q.f, pw, px⟩)))) := by
    unfold opProt
    rw [if_pos hs, Int.toNat_natCast, hq]; rfl
  rw [hop]
  exact ⟨rfl, m.done v ne hi hj (some ⟨q.f, pw, px⟩) (fun p hp => by cases hp; exact hqn) ⟨k % 64, hj, by rw [fset_same]; simp⟩, fun hc => absurd rfl hc⟩
end
end Go.Proofs.Ytmldiibfmhkgjaa
