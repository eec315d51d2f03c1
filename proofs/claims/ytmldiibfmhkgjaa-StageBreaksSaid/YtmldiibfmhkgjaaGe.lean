import Derived.Test.YtmldiibfmhkgjaaGd
namespace Go.Proofs.Ytmldiibfmhkgjaa
open Go Go.Wd
set_option linter.unusedVariables false
set_option linter.unusedSimpArgs false
set_option linter.unnecessarySimpa false

/-! ## two spaces -/
def OwnF (s : Sp) (A : Ab) (T : Nat → Nat) (f : Nat) : Prop := f = s.root ∨ ∃ i, i < 64 ∧ (A i).isT = true ∧ f = T i
section
variable {s s' s2 : Sp} {A A' A2 : Ab} {T T' T2 : Nat → Nat}
theorem OwnF.one (v : Inv s A T) {f : Nat} (h : OwnF s A T f) : s.L[f]? = some 1 := by
  rcases h with rfl | ⟨i, hi, hT, rfl⟩
  · exact v.ro
  · exact (v.to i hi hT).1
/-- What another one does leaves a space as it is. -/
theorem Inv.foreign (v : Inv s A T) (hn : s'.n = s.n) (hr : s'.root = s.root) (hb : s'.B.length = s.B.length) (hl : s'.L.length = s.L.length)
    (hw : ∀ f, OwnF s A T f → ∀ k, k < 64 → wA s'.B f k = wA s.B f k) (hL : ∀ f, OwnF s A T f → s'.L[f]? = some 1) : Inv s' A T := by
  refine ⟨by rw [hn]; exact v.hn, by rw [hb, hn]; exact v.bl, by rw [hl, hn]; exact v.ll, fun i hi => ?_, fun i hi g hg k hk => ?_, by rw [hn]; exact v.bb, by rw [hn]; exact v.pb, ?_, fun i hi hT => ⟨?_, ?_⟩, v.tt⟩
  · rw [hr, hw _ (.inl rfl) i hi]; exact v.fw i hi
  · rw [hw _ (.inr ⟨i, hi, by rw [hg]; rfl, rfl⟩) k hk]; exact v.sw i hi g hg k hk
  · rw [hr]; exact hL _ (.inl rfl)
  · exact hL _ (.inr ⟨i, hi, hT, rfl⟩)
  · rw [hr]; exact (v.to i hi hT).2
/-- Owners behind a call. -/
theorem Done.own (d : Done s A T s' A') (v : Inv s A T) : s'.L.length = s.L.length ∧ (∀ (f : Nat) (x : Int), s'.L[f]? = some x → x = 0 ∨ x = 1 ∨ s.L[f]? = some x) ∧ (∀ (f : Nat) (x : Int), s.L[f]? = some x → x ≠ 0 → ¬ OwnF s A T f → s'.L[f]? = some x) := by
  obtain ⟨tk, s1, tr, hs⟩ := d.tr
  have h1 : s1.L.length = s.L.length ∧ (∀ (f : Nat) (x : Int), s1.L[f]? = some x → x = 0 ∨ x = 1 ∨ s.L[f]? = some x) ∧ (∀ (f : Nat) (x : Int), s.L[f]? = some x → x ≠ 0 → s1.L[f]? = some x) := by
    rw [tr.L]
    cases tk with
    | none => exact ⟨rfl, fun f x h => .inr (.inr h), fun f x h _ => h⟩
    | some t =>
      have ht := tr.t0 t rfl
      refine ⟨List.length_set, fun f x h => ?_, fun f x h h0 => ?_⟩
      · have h : (s.L.set t 1)[f]? = some x := h
        rw [List.getElem?_set] at h
        split at h
        · split at h
          · cases h; exact .inr (.inl rfl)
          · cases h
        · exact .inr (.inr h)
      · show (s.L.set t 1)[f]? = some x
        rw [List.getElem?_set, if_neg]
        · exact h
        · intro e; rw [e, h] at ht; cases ht; exact h0 rfl
  rcases hs with rfl | ⟨_, i, hi, hT, rfl⟩
  · exact ⟨h1.1, h1.2.1, fun f x h h0 _ => h1.2.2 f x h h0⟩
  · refine ⟨by show (s1.L.set (T i) 0).length = _; rw [List.length_set]; exact h1.1, fun f x h => ?_, fun f x h h0 hm => ?_⟩
    · have h : (s1.L.set (T i) 0)[f]? = some x := h
      rw [List.getElem?_set] at h
      split at h
      · split at h
        · cases h; exact .inl rfl
        · cases h
      · exact h1.2.1 f x h
    · show (s1.L.set (T i) 0)[f]? = some x
      rw [List.getElem?_set, if_neg (fun e => hm (.inr ⟨i, hi, hT, e.symm⟩))]
      exact h1.2.2 f x h h0
theorem Done.words (d : Done s A T s' A') {f : Nat} (h0 : s.L[f]? ≠ some 0) (hm : ¬ OwnF s A T f) {k : Nat} (hk : k < 64) : wA s'.B f k = wA s.B f k := by
  obtain ⟨tk, s1, tr, hs⟩ := d.tr
  have e : s'.B = s1.B := by rcases hs with rfl | ⟨_, i, _, _, rfl⟩ <;> rfl
  rw [e]
  exact tr.keep f (fun e => hm (.inl e)) (fun i hi hT e => hm (.inr ⟨i, hi, hT, e⟩)) h0 k hk
theorem Done.len (d : Done s A T s' A') : s'.B.length = s.B.length := by
  obtain ⟨tk, s1, tr, hs⟩ := d.tr
  rcases hs with rfl | ⟨_, i, _, _, rfl⟩
  · exact tr.len
  · exact tr.len
/-! ## frames that differ -/
theorem le4_inj {A B : List Nat} (ha : Byt A) (hb : Byt B) {p q : Nat} (h : leN A p 4 = leN B q 4) : ∀ i, i < 4 → A.getD (p + i) 0 = B.getD (q + i) 0 := by
  have a0 := getD_lt ha (p + 0)
  have a1 := getD_lt ha (p + 1)
  have a2 := getD_lt ha (p + 2)
  have a3 := getD_lt ha (p + 3)
  have b0 := getD_lt hb (q + 0)
  have b1 := getD_lt hb (q + 1)
  have b2 := getD_lt hb (q + 2)
  have b3 := getD_lt hb (q + 3)
  simp only [leN, Nat.reduceMul, Nat.reducePow] at h
  intro i hi
  have : i = 0 ∨ i = 1 ∨ i = 2 ∨ i = 3 := by omega
  rcases this with rfl | rfl | rfl | rfl <;> omega
theorem frame_words {A B : List Nat} {n f : Nat} (ha : Byt A) (hb : Byt B) (la : A.length = n * 256) (lb : B.length = n * 256) (hf : f < n) (h : ∀ k, k < 64 → wA A f k = wA B f k) : frameOf A f = frameOf B f := by
  apply List.ext_getElem?
  intro j
  by_cases hj : j < 256
  · rw [frameOf_at hj, frameOf_at hj]
    have := le4_inj ha hb (h (j / 4) (by omega)) (j % 4) (by omega)
    have e : f * 256 + 4 * (j / 4) + j % 4 = f * 256 + j := by omega
    rw [e, List.getD_eq_getElem?_getD, List.getD_eq_getElem?_getD, List.getElem?_eq_getElem (by omega), List.getElem?_eq_getElem (by omega)] at this
    rw [List.getElem?_eq_getElem (by omega), List.getElem?_eq_getElem (by omega)]
    simpa using this
  · rw [List.getElem?_eq_none (by rw [frameOf_len la hf]; omega), List.getElem?_eq_none (by rw [frameOf_len lb hf]; omega)]
theorem diff_mem {n : Nat} {B D : List Nat} {j : Nat} {x : Int} (h : (diffs n B D)[j]? = some x) : ∃ f : Nat, x = f ∧ f < n ∧ frameOf B f ≠ frameOf D f := by
  have hm := List.mem_of_getElem? h
  unfold diffs at hm
  rw [List.mem_map] at hm
  obtain ⟨p, hp, rfl⟩ := hm
  rw [List.mem_filter, List.mem_range] at hp
  refine ⟨p, rfl, hp.1, ?_⟩
  have := hp.2
  unfold diffP at this
  simpa using this
/-- A frame that a call changed is the monitor's, or nobody's. -/
theorem Done.touched (d : Done s A T s' A') (v : Inv s A T) (hb : Byt s.B) (hb' : Byt s'.B) {f : Nat} (hf : f < s.n) (h : frameOf s'.B f ≠ frameOf s.B f) : ownerOf s'.L (f : Int) = 0 ∨ ownerOf s'.L (f : Int) = 1 := by
  obtain ⟨o1, o2, o3⟩ := d.own v
  have hlt : f < s'.L.length := by rw [o1, v.ll]; exact hf
  obtain ⟨x, hx⟩ : ∃ x, s'.L[f]? = some x := ⟨_, List.getElem?_eq_getElem hlt⟩
  rw [ownerOf_nat hx]
  rcases o2 f x hx with h0 | h1 | hs
  · exact .inl h0
  · exact .inr h1
  · by_cases h0 : s.L[f]? = some 0
    · rw [h0] at hs; cases hs; exact .inl rfl
    · by_cases hm : OwnF s A T f
      · rw [hm.one v] at hs; cases hs; exact .inr rfl
      · exact absurd (frame_words hb' hb (by rw [d.len]; exact v.bl) v.bl hf (fun k hk => d.words h0 hm hk)) h
theorem posA_congr (o : Int) : ∀ (L L' : List Int) (k : Nat), L.length = L'.length → (∀ f : Nat, L[f]? = some o ↔ L'[f]? = some o) → posA o L k = posA o L' k
  | [], [], _, _, _ => rfl
  | [], _ :: _, _, h, _ => by simp at h
  | _ :: _, [], _, h, _ => by simp at h
  | x :: L, x' :: L', k, h, hh => by
    have h0 := hh 0
    simp only [List.getElem?_cons_zero, Option.some.injEq] at h0
    have ih := posA_congr o L L' (k + 1) (by simpa using h) (fun f => by have := hh (f + 1); simpa using this)
    simp only [posA]
    rw [ih]
    by_cases e : x = o
    · rw [if_pos e, if_pos (h0.1 e)]
    · rw [if_neg e, if_neg (fun e2 => e (h0.2 e2))]
theorem Done.away (d : Done s A T s' A') (v : Inv s A T) : posOf 2 s'.L = posOf 2 s.L := by
  obtain ⟨o1, o2, o3⟩ := d.own v
  refine posA_congr 2 _ _ _ o1 (fun f => ⟨fun h => ?_, fun h => ?_⟩)
  · rcases o2 f 2 h with h0 | h1 | hs
    · exact absurd h0 (by decide)
    · exact absurd h1 (by decide)
    · exact hs
  · exact o3 f 2 h (by decide) (fun hm => by rw [hm.one v] at h; cases h)
end
/-- A space's part of what two share. -/
def Sp.onto (s2 s : Sp) : Sp := { s2 with B := s.B, L := s.L, TL := s.TL, nx := s.nx }
structure Duo (h : Hp) (y : Lay) (s : Sp) (A : Ab) (T : Nat → Nat) (y2 : Lay) (s2 : Sp) (A2 : Ab) (T2 : Nat → Nat) : Prop where
  p : SP h y s
  p2 : SP h y2 s2
  v : Inv s A T
  v2 : Inv s2 A2 T2
  ne : NE A
  ne2 : NE A2
  de : s.dead = false
  de2 : s2.dead = false
  st : s2.onto s = s2
  n : s2.n = s.n
  q : y.q ≠ y2.q
  yy : y2.mq = y.mq ∧ y2.mb = y.mb ∧ y2.fq = y.fq ∧ y2.fo = y.fo ∧ y2.tq = y.tq ∧ y2.pl = y.pl ∧ y2.mp = y.mp
  ap : ∀ f, OwnF s A T f → OwnF s2 A2 T2 f → False
section
variable {h h' : Hp} {y y2 : Lay} {s s' s2 : Sp} {A A2 : Ab} {T T2 : Nat → Nat}
theorem Duo.swap (d : Duo h y s A T y2 s2 A2 T2) : Duo h y2 s2 A2 T2 y s A T := by
  refine ⟨d.p2, d.p, d.v2, d.v, d.ne2, d.ne, d.de2, d.de, ?_, d.n.symm, d.q.symm, ?_, fun f a b => d.ap f b a⟩
  · have := d.st
    unfold Sp.onto at this ⊢
    obtain ⟨n, B, L, TL, nx, vm, rt, de, lg⟩ := s
    obtain ⟨n2, B2, L2, TL2, nx2, vm2, rt2, de2, lg2⟩ := s2
    simp only [Sp.mk.injEq, true_and, and_true] at this ⊢
    exact ⟨this.1.symm, this.2.1.symm, this.2.2.1.symm, this.2.2.2.symm⟩
  · obtain ⟨a, b, c, e, f, g, i⟩ := d.yy
    exact ⟨a.symm, b.symm, c.symm, e.symm, f.symm, g.symm, i.symm⟩
theorem Duo.F2 (d : Duo h y s A T y2 s2 A2 T2) : y2.q ∉ y.F := by
  simp only [Lay.F, List.mem_cons, List.not_mem_nil, or_false, not_or]
  have t2 := d.p2.ty_q
  exact ⟨fun e => d.q e.symm, ty_ne t2 d.p.g.ty_mb (by decide), ty_ne t2 d.p.g.ty_fq (by decide), ty_ne t2 d.p.g.ty_fo (by decide), ty_ne t2 d.p.g.ty_tq (by decide), ty_ne t2 d.p.g.ty_pl (by decide), ty_ne t2 d.p.g.ty_mp (by decide)⟩
theorem Duo.fr0 (d : Duo h y s A T y2 s2 A2 T2) (f : Fr [] h h') : Duo h' y s A T y2 s2 A2 T2 :=
  ⟨d.p.fr0 f, d.p2.fr0 f, d.v, d.v2, d.ne, d.ne2, d.de, d.de2, d.st, d.n, d.q, d.yy, d.ap⟩
/-- The first one is called. -/
theorem Duo.step (d : Duo h y s A T y2 s2 A2 T2) {op : Int × Ab} {e : Int} (p' : SP h' y s') (f : Fr y.F h h') (r : Res s A T op e s') : ∃ T', Done { s with lg := [] } A T s' op.2 ∧ Duo h' y s' op.2 T' y2 (s2.onto s') A2 T2 := by
  rcases r with ⟨hd, _⟩ | ⟨hd, he, dn, hb⟩
  · exact absurd (d.de.symm.trans hd) (by decide)
  obtain ⟨T', v', hm⟩ := dn.inv
  obtain ⟨f1, f2, f3, f4, f5⟩ := dn.flds
  obtain ⟨o1, o2, o3⟩ := dn.own d.v.nil
  have hst := d.st
  have hsB : s2.B = s.B := by rw [← hst]; rfl
  have hsL : s2.L = s.L := by rw [← hst]; rfl
  have one2 : ∀ f, OwnF s2 A2 T2 f → s.L[f]? = some 1 := fun f hf => by rw [← hsL]; exact hf.one d.v2
  have noown : ∀ f, OwnF s2 A2 T2 f → ¬ OwnF { s with lg := [] } A T f := fun f hf ho => d.ap f ho hf
  refine ⟨T', dn, p', ?_, v', ?_, dn.ne, d.ne2, f4.trans d.de, d.de2, rfl, d.n.trans f1.symm, d.q, d.yy, ?_⟩
  · obtain ⟨la, lc, e2, o, z⟩ := d.p2.hs
    have hnf : ∀ x ∈ foot la, x ∉ y.F := fun x hx => d.p.out (own_ty o x hx) (by decide)
    have hc : (s2.onto s').cells y2 la s2.lg.length lc = s2.cells y2 la s2.lg.length lc := rfl
    refine ⟨⟨la, lc, ?_, o.fr f hnf, z.fr f⟩, ?_⟩
    · show bk h' y2.q = some (blk 89 ((s2.onto s').cells y2 la s2.lg.length lc))
      rw [hc]
      exact f.at e2 d.F2
    · obtain ⟨a, b, c, e, g, i, j⟩ := d.yy
      have g' := p'.g
      have hn : s2.n = s'.n := d.n.trans f1.symm
      exact ⟨by rw [a, b]; show MS h' y.mq y.mb s2.n s'.B; rw [hn]; exact g'.m, by rw [c, e]; exact g'.f, by rw [g, i, j]; exact g'.t⟩
  · refine d.v2.foreign rfl rfl ?_ ?_ ?_ ?_
    · show s'.B.length = s2.B.length
      rw [dn.len, hsB]
    · show s'.L.length = s2.L.length
      rw [o1, hsL]
    · intro g hg k hk
      show wA s'.B g k = wA s2.B g k
      rw [hsB]
      exact dn.words (s := { s with lg := [] }) (by show s.L[g]? ≠ some 0; rw [one2 g hg]; simp) (noown g hg) hk
    · intro g hg
      exact o3 g 1 (one2 g hg) (by decide) (noown g hg)
  · intro g hg hg2
    have hg2 : OwnF s2 A2 T2 g := hg2
    have h1 := one2 g hg2
    have hmine : Mine { s with lg := [] } A T g := by
      rcases hg with rfl | ⟨i, hi, hT, rfl⟩
      · exact .inl f3
      · exact hm i hi hT
    rcases hmine with hh | hh | hh
    · exact d.ap g (.inl hh) hg2
    · exact d.ap g (.inr hh) hg2
    · have hh : s.L[g]? = some 0 := hh
      rw [h1] at hh; cases hh
end
end Go.Proofs.Ytmldiibfmhkgjaa
