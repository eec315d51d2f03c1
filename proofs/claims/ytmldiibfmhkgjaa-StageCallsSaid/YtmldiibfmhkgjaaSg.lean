import Derived.Test.YtmldiibfmhkgjaaSf
namespace Go.Proofs.Ytmldiibfmhkgjaa
open Go Go.Wd
set_option linter.unusedVariables false
set_option linter.unusedSimpArgs false
set_option linter.unnecessarySimpa false

theorem set_own {L : List Int} {t u : Nat} (ht : L[t]? = some 0) (hu : L[u]? = some 1) : (L.set t 1)[u]? = some 1 := by
  rw [List.getElem?_set]
  split
  · rename_i e; rw [e, hu] at ht; cases ht
  · exact hu
theorem set_own2 {L : List Int} {t : Nat} (ht : L[t]? = some 0) : (L.set t 1)[t]? = some 1 := by
  rw [List.getElem?_set, if_pos rfl, if_pos (List.getElem?_eq_some_iff.1 ht).1]
theorem own_ne {L : List Int} {t u : Nat} (ht : L[t]? = some 0) (hu : L[u]? = some 1) : u ≠ t := by
  intro e; rw [e, ht] at hu; cases hu
section
variable {s0 s1 : Sp} {A : Ab} {T : Nat → Nat} {i : Nat}
/-- A new table is told by the first one. -/
theorem mid_new (w : Inv s0 A T) (hi : i < 64) (hA : (A i).isT = false) {t : Nat} (tr : Tr s0 A T (some t) s1)
    (hw : ∀ u v, v < 64 → wA s1.B u v = if u = t then encW (pgE (tabOf (A i) v)) else wA s0.B u v)
    (hb : ∀ k, k < 64 → ∀ p, tabOf (A i) k = some p → p.f < s0.n) (hl : s1.lg.length ≤ 900) :
    Mid s0 A T i (s1.change (s0.root * 256 + 4 * i) ⟨true, false, false, false, (t : Int)⟩) (fset T i t) := by
  have ht := tr.t0 t rfl
  have hL : s1.L = s0.L.set t 1 := tr.L
  have hrt := own_ne ht w.ro
  have hbl : s1.B.length = s1.n * 256 := by rw [tr.len, tr.n]; exact w.bl
  have hz : wA s1.B s0.root i = 0 ∨ (dec (wA s1.B s0.root i)).v = true := by rw [hw _ _ hi, if_neg hrt]; exact w.zv hi
  have hrn : s0.root < s1.n := by rw [tr.n]; exact w.rlt
  have hc := fun {u j : Nat} (hj : j < 64) => change_wA hbl hrn hi ⟨true, false, false, false, (t : Int)⟩ hz (u := u) hj
  obtain ⟨f1, f2, f3, f4⟩ := change_fields s1 (s0.root * 256 + 4 * i) ⟨true, false, false, false, (t : Int)⟩
  refine ⟨.inr ⟨t, tr.change w.bl w.rlt hi (.inl rfl) _ hz, hA⟩, ?_, .inr (.inr (by rw [fset_same]; exact ht)), fun j hj => fset_ne hj, by have := change_lg s1 (s0.root * 256 + 4 * i) ⟨true, false, false, false, (t : Int)⟩; omega⟩
  refine w.first hi (.tb (tabOf (A i))) t (f1.trans tr.n) (f3.trans tr.rt) (f4.trans tr.len) (by rw [f2, hL, List.length_set]) ?_ ?_ ?_ (fun f x y h => by cases h) ?_ ?_ ?_ ?_
  · intro j hj
    rw [hc hj]
    by_cases e : j = i
    · rw [if_pos ⟨rfl, e⟩, if_pos e]; rfl
    · rw [if_neg (fun h => e h.2), if_neg e, hw _ _ hj, if_neg hrt]
  · intro j hj hji hjT k hk
    have h1 := w.to j hj hjT
    rw [hc hk, if_neg (fun h => h1.2 h.1), hw _ _ hk, if_neg (own_ne ht h1.1)]
  · intro g hg k hk
    cases hg
    rw [hc hk, if_neg (fun h => hrt h.1.symm), hw _ _ hk, if_pos rfl]
  · intro g hg k hk p hp
    cases hg
    exact hb k hk p hp
  · rw [f2, hL]; exact set_own ht w.ro
  · intro j hj hji hjT
    rw [f2, hL]; exact set_own ht (w.to j hj hjT).1
  · intro _
    refine ⟨by rw [f2, hL]; exact set_own2 ht, fun e => hrt e.symm, fun j hj _ hjT => own_ne ht (w.to j hj hjT).1⟩
/-- So many entries of a block's table are put. -/
structure Spl (s0 : Sp) (A : Ab) (T : Nat → Nat) (t f : Nat) (x z : Bool) (j : Nat) (s1 : Sp) : Prop where
  tr : Tr s0 A T (some t) s1
  wd : ∀ u v, v < 64 → wA s1.B u v = if u = t then (if v < j then encW (pgE (some ⟨f + v, x, z⟩)) else 0) else wA s0.B u v
  lg : s1.lg.length = j
theorem Spl.start (w : Inv s0 A T) (hlg : s0.lg = []) {t : Nat} (ht : s0.L[t]? = some 0) (f : Nat) (x z : Bool) : Spl s0 A T t f x z 0 (s0.take t) := by
  refine ⟨Tr.take hlg w.bl w.ll ht, fun u v hv => ?_, by show s0.lg.length = 0; rw [hlg]; rfl⟩
  show wA (zeroF s0.B t) u v = _
  rw [wA_zero w.bl (own_lt ht w.ll) hv, if_neg (Nat.not_lt_zero v)]
theorem Spl.next (w : Inv s0 A T) {t f : Nat} {x z : Bool} {j : Nat} (p : Spl s0 A T t f x z j s1) (hj : j < 64) : Spl s0 A T t f x z (j + 1) (s1.put (t * 256 + 4 * j) (encW (pgE (some ⟨f + j, x, z⟩)))) := by
  have ht := p.tr.t0 t rfl
  have htn := own_lt ht w.ll
  have hbl : s1.B.length = s1.n * 256 := by rw [p.tr.len, p.tr.n]; exact w.bl
  have h0 : wA s1.B t j = 0 := by rw [p.wd _ _ hj, if_pos rfl, if_neg (Nat.lt_irrefl j)]
  refine ⟨p.tr.put w.bl htn hj (encW_lt _) (.inr (.inr ht)) (by rw [h0]; rfl), fun u v hv => ?_, ?_⟩
  · show wA (putW s1.n s1.B _ _) u v = _
    rw [wA_put hbl (encW_lt _) (by rw [p.tr.n]; exact htn) hj hv]
    by_cases e : u = t
    · rw [if_pos e]
      by_cases e2 : v = j
      · rw [if_pos ⟨e, e2⟩, e2, if_pos (Nat.lt_succ_self j)]
      · rw [if_neg (fun h => e2 h.2), p.wd _ _ hv, if_pos e]
        by_cases e3 : v < j
        · rw [if_pos e3, if_pos (Nat.lt_succ_of_lt e3)]
        · rw [if_neg e3, if_neg (by omega)]
    · rw [if_neg (fun h => e h.1), if_neg e, p.wd _ _ hv, if_neg e]
  · show (s1.lg ++ [_]).length = _
    rw [List.length_append, p.lg]; rfl
theorem wrap_add {f j : Nat} (hf : f ≤ 2000) (hj : j < 64) : IntKind.wrap .i64 ((f : Int) + (j : Int)) = ((f + j : Nat) : Int) := by rw [wrap_i64 (by omega) (by omega)]; omega
theorem addr_lt {t k : Nat} (ht : t < 65536) (hk : k < 64) : t * 256 + 4 * k < 4294967296 := by omega
theorem wrap_next {j : Nat} (hj : j < 64) : IntKind.wrap .i64 ((j : Int) + 1) = ((j + 1 : Nat) : Int) := by rw [wrap_i64 (by omega) (by omega)]; omega
theorem dec64 {j : Nat} (hj : j < 64) : 64 - ((j + 1 : Nat) : Int).toNat < 64 - (j : Int).toNat := by omega
theorem lt_cast {j n : Nat} (h : decide ((j : Int) < (n : Int)) = true) : j < n := by simpa using h
theorem ge_cast {j n : Nat} (h : decide ((j : Int) < (n : Int)) = false) : n ≤ j := by simpa using h
variable {h : Hp} {y : Lay}
theorem split_spec (w : SP h y s0) (v : Inv s0 A T) (hlg : s0.lg = []) (hi : i < 64) {f : Nat} {x z : Bool} (hA : A i = .bl f x z) :
    CallsX Try.prog 74 [.pointer (some ⟨y.q, 0, none⟩), .int .i64 (i : Int)] h (fun r h' => r = .tuple #[] ∧ ∃ s1 T1, SP h' y s1 ∧ Mid s0 A T i s1 T1 ∧ FrL y h h')
      (fun r h' => (0 : Int) ∉ s0.L ∧ r = refusal 15 ∧ SP h' y s0 ∧ FrL y h h') := by
  refine stage_Space_split.calls _ _ _ _ _ _ ?_
  unfold stage_Space_split.P
  have hrn := v.rlt
  have hn := v.hn
  have hroot : s0.root < 65536 := by omega
  refine (first_spec' w hroot hi).mono ?_
  rintro r h1 ⟨rfl, f1⟩
  have hnT : (A i).isT = false := by rw [hA]; rfl
  have he := v.word1 hi
  rw [hA] at he
  rw [he]
  refine ⟨_, _, _, _, _, _, rfl, ?_⟩
  refine put_ent (fsE (.bl f x z) (T i)) ?_
  intro h3 k3 f3 s3
  have w1 := w.fr0 f1
  have w3 := w1.fr0 f3
  have l1 := w1.ltF
  have hout : sz h1 ∉ y.F := fun hm => by have := l1 _ hm; omega
  have fx : FrL y h h3 := FrL.of0 (f1.trans f3)
  have hbb := v.bb i hi f x z hA
  refine (table_spec w3 v.ll).mono ?_ ?_
  · rintro r h4 ⟨t, ht, rfl, w4, f4⟩
    have htn := own_lt ht v.ll
    have ht16 : t < 65536 := by omega
    have k4 := f4.at k3 hout (by decide)
    refine ⟨_, rfl, ?_⟩
    refine ⟨fun k h6 => ∃ (j : Nat) (s1 : Sp), k = (j : Int) ∧ j ≤ 64 ∧ SP h6 y s1 ∧ Spl s0 A T t f x z j s1 ∧ FrL y h h6 ∧ bk h6 (sz h1) = some (blk 54 (fsE (.bl f x z) (T i)).cells), fun k _ => 64 - k.toNat, ?_, ?_⟩
    · exact ⟨0, _, rfl, by decide, w4, Spl.start v hlg ht f x z, fx.trans f4, k4⟩
    rintro k h6 ⟨j, s1, rfl, hj64, w6, p6, f6, k6⟩
    refine ⟨fun c => ?_, fun c => ?_⟩
    · have hj : j < 64 := lt_cast (n := 64) c
      refine ⟨_, (cellAt_of k6 1).trans rfl, _, (cellAt_of k6 2).trans rfl, _, (cellAt_of k6 4).trans rfl, ?_⟩
      rw [show (fsE (.bl f x z) (T i)).f = (f : Int) from rfl, wrap_add (by omega) hj]
      refine (encode_spec (pgE (some ⟨f + j, x, z⟩))).mono ?_
      rintro r h7 ⟨rfl, f7⟩
      rw [enc_int]
      refine ⟨_, _, rfl, ?_⟩
      refine (at_spec' ht16 hj).mono ?_
      rintro r h8 ⟨rfl, hh⟩
      rw [hh]; clear hh h8
      refine ⟨_, rfl, ?_⟩
      refine (put_spec (w6.fr0 f7) (addr_lt ht16 hj) (encW_lt _) (by rw [p6.lg]; omega)).mono ?_
      rintro r h9 ⟨rfl, w9, f9⟩
      refine ⟨rfl, ?_, ?_⟩
      · rw [wrap_next hj]
        exact ⟨j + 1, _, rfl, hj, w9, p6.next v hj, (f6.trans (FrL.of0 f7)).trans f9, ((FrL.of0 f7).trans f9).at k6 hout (by decide)⟩
      · rw [wrap_next hj]
        exact dec64 hj
    · have hj : j = 64 := Nat.le_antisymm hj64 (ge_cast (n := 64) c)
      subst hj
      refine (change_spec w6 (addr_lt hroot hi) ⟨true, false, false, false, (t : Int)⟩ (by rw [p6.lg]; decide)).mono ?_
      rintro r h10 ⟨rfl, w10, f10⟩
      refine ⟨rfl, rfl, _, _, w10, mid_new v hi hnT p6.tr ?_ ?_ (by rw [p6.lg]; decide), f6.trans f10⟩
      · intro u k hk
        rw [p6.wd u k hk, hA]
        by_cases e : u = t
        · rw [if_pos e, if_pos hk, if_pos e]; rfl
        · rw [if_neg e, if_neg e]
      · intro k hk p hp
        rw [hA] at hp
        simp only [tabOf, Option.some.injEq] at hp
        subst hp
        show f + k < s0.n
        omega
  · rintro r h4 ⟨h0, rfl, w4, f4⟩
    exact ⟨h0, rfl, w4, fx.trans f4⟩
end
end Go.Proofs.Ytmldiibfmhkgjaa
