import Derived.Test.YtmldiibfmhkgjaaSg
namespace Go.Proofs.Ytmldiibfmhkgjaa
open Go Go.Wd
set_option linter.unusedVariables false
set_option linter.unusedSimpArgs false
set_option linter.unnecessarySimpa false

def subE (A : Ab) (free : Bool) (p : Int) : Int := if !isIn 4096 p then 11 else match lookA A p with
  | none => 12
  | some (_, b) => if b && !free then 15 else 0
def freeB (s : Sp) : Bool := decide ((0 : Int) ∈ s.L)
def emp (g : Nat → Option Pg) : Bool := (List.range 64).all fun k => (g k).isNone
theorem emp_iff {g : Nat → Option Pg} : emp g = true ↔ ∀ k, k < 64 → g k = none := by
  unfold emp
  rw [List.all_eq_true]
  constructor
  · intro h k hk
    have := h k (List.mem_range.2 hk)
    simpa using this
  · intro h k hk
    rw [h k (List.mem_range.1 hk)]; rfl
theorem emp_no {g : Nat → Option Pg} (h : emp g = false) : ∃ k, k < 64 ∧ g k ≠ none := by
  unfold emp at h
  rw [List.all_eq_false] at h
  obtain ⟨k, hk, h⟩ := h
  refine ⟨k, List.mem_range.1 hk, fun e => h ?_⟩
  rw [e]; rfl
theorem tdiv64 {p : Nat} (hp : p < 4096) : IntKind.wrap .i64 (Int.tdiv (p : Int) 64) = ((p / 64 : Nat) : Int) := by
  rw [Int.tdiv_eq_ediv_of_nonneg (by omega), wrap_i64 (by omega) (by omega)]
  omega
theorem tmod64 (p : Nat) : Int.tmod (p : Int) 64 = ((p % 64 : Nat) : Int) := by
  rw [Int.tmod_eq_emod_of_nonneg (by omega)]
  omega
theorem give_set {L : List Int} {t : Nat} (h : L[t]? = some 1) : moveL L (t : Int) 1 0 = L.set t 0 := by
  have hl : t < L.length := (List.getElem?_eq_some_iff.1 h).1
  have e : moveE L (t : Int) 1 = 0 := by
    unfold moveE
    rw [there_nat hl, ownerOf_nat h]; rfl
  unfold moveL
  rw [if_pos e, Int.toNat_natCast]
theorem pg_zero {o : Option Pg} {n : Nat} (hn : n ≤ 1024) (h : ∀ p, o = some p → p.f < n) : encW (pgE o) = 0 ↔ o = none := by
  constructor
  · intro h0
    have := encW_dec (pg_ok hn h)
    rw [h0] at this
    cases o with
    | none => rfl
    | some p => exact absurd (show false = true from congrArg Ent.v this) (by decide)
  · rintro rfl; rfl
section
variable {h : Hp} {y : Lay} {s0 s : Sp} {A : Ab} {T : Nat → Nat}
theorem Mid.self (v : Inv s0 A T) (hlg : s0.lg = []) {i : Nat} (hi : i < 64) {g : Nat → Option Pg} (hA : A i = .tb g) : Mid s0 A T i s0 T := by
  have hT : (A i).isT = true := by rw [hA]; rfl
  refine ⟨.inl ⟨Tr.start hlg, hT, rfl, rfl⟩, ?_, .inr (.inl ⟨i, hi, hT, rfl⟩), fun _ _ => rfl, by rw [hlg]; decide⟩
  have : fset A i (.tb (tabOf (A i))) = A := by rw [show Fst.tb (tabOf (A i)) = A i by rw [hA]; rfl, fset_id]
  rw [this]; exact v
theorem in_page {p : Int} (h : isIn 4096 p = true) : ∃ k : Nat, p = k ∧ k < 4096 := isIn_nat h
theorem lookA_nat {k : Nat} (hk : k < 4096) : lookA A (k : Int) = lookN A k := by
  unfold lookA
  rw [if_pos (by omega), Int.toNat_natCast]
theorem inner_spec (w : SP h y s0) (v : Inv s0 A T) (hlg : s0.lg = []) (hd : s0.dead = false) (p : Int) :
    CallsX Try.prog 61 [.pointer (some ⟨y.q, 0, none⟩), .int .i64 p] h
      (fun r h' => ∃ (k : Nat) (s1 : Sp) (T1 : Nat → Nat), p = (k : Int) ∧ k < 4096 ∧ r = .int .u32 ((T1 (k / 64) * 256 + 4 * (k % 64) : Nat) : Int) ∧ subE A (freeB s0) p = 0 ∧ (lookA A p).isSome = true ∧ SP h' y s1 ∧ Mid s0 A T (k / 64) s1 T1 ∧ FrL y h h')
      (fun r h' => ∃ e, r = refusal e ∧ e ≠ 0 ∧ subE A (freeB s0) p = e ∧ SP h' y s0 ∧ FrL y h h') := by
  refine stage_Space_inner.calls _ _ _ _ _ _ ?_
  unfold stage_Space_inner.P
  have hrn := v.rlt
  have hn := v.hn
  have hroot : s0.root < 65536 := by omega
  refine (page_spec p).mono ?_
  rintro r h1 ⟨rfl, hh⟩
  rw [hh]; clear hh h1
  refine ⟨_, rfl, ?_⟩
  refine (need_spec _ _).mono ?_ ?_
  rotate_left
  · rintro r h1 ⟨hok, rfl, hh⟩
    rw [hh]; clear hh h1
    exact ⟨11, rfl, by decide, by unfold subE; rw [hok]; rfl, w, FrL.refl _ _⟩
  rintro r h1 ⟨hok, rfl, hh⟩
  rw [hh]; clear hh h1
  obtain ⟨k, rfl, hk⟩ := in_page hok
  obtain ⟨hi, hj⟩ := p_idx hk
  refine ⟨rfl, ?_⟩
  refine (SLook_spec w v hd (k : Int)).mono ?_
  rintro r h4 ⟨rfl, f4⟩
  refine ⟨_, _, _, _, _, _, rfl, ?_⟩
  refine put_ent (lkE (lookA A (k : Int))) ?_
  intro h6 k6 f6 s6
  have w6 := (w.fr0 f4).fr0 f6
  have f6 := f4.trans f6
  refine (need_spec _ _).mono ?_ ?_
  rotate_left
  · rintro r h7 ⟨hno, rfl, hh⟩
    rw [hh]; clear hh h7
    refine ⟨12, rfl, by decide, ?_, w6, FrL.of0 f6⟩
    unfold subE
    rw [hok]
    cases hl : lookA A (k : Int) with
    | none => rfl
    | some q => rw [hl] at hno; cases hno
  rintro r h7 ⟨hsome, rfl, hh⟩
  rw [hh]; clear hh h7
  refine ⟨rfl, ?_⟩
  have hlk : lookA A (k : Int) = lookN A k := lookA_nat hk
  refine ⟨fun h' => ∃ (s1 : Sp) (T1 : Nat → Nat), subE A (freeB s0) (k : Int) = 0 ∧ SP h' y s1 ∧ Mid s0 A T (k / 64) s1 T1 ∧ FrL y h h', ?_, ?_⟩
  · refine ⟨by decide, ?_⟩
    rw [tdiv64 hk]
    refine (first_spec' w6 hroot hi).mono ?_
    rintro r h9 ⟨rfl, f9⟩
    rw [v.word1 hi]
    refine ⟨_, _, _, _, _, _, rfl, ?_⟩
    refine put_ent (fsE (A (k / 64)) (T (k / 64))) ?_
    intro h11 k11 f11 s11
    have w11 := (w6.fr0 f9).fr0 f11
    have f11 := (f6.trans f9).trans f11
    refine ⟨_, (cellAt_of k11 3).trans rfl, fun c => ?_, fun c => ?_⟩
    · refine ⟨by decide, ?_⟩
      obtain ⟨f, x, z, hA⟩ : ∃ f x z, A (k / 64) = .bl f x z := by
        cases hA : A (k / 64) with
        | no => rw [hA] at c; cases c
        | bl f x z => exact ⟨f, x, z, rfl⟩
        | tb g => rw [hA] at c; cases c
      have hsub : subE A (freeB s0) (k : Int) = if freeB s0 then 0 else 15 := by
        unfold subE
        rw [hok, hlk]
        unfold lookN
        rw [hA]
        cases freeB s0 <;> rfl
      refine (split_spec w11 v hlg hi hA).mono ?_ ?_
      · rintro r h12 ⟨rfl, s1, T1, w12, m12, f12⟩
        refine ⟨rfl, s1, T1, ?_, w12, m12, (FrL.of0 f11).trans f12⟩
        have hfree : freeB s0 = true := by
          rcases m12.tr with ⟨_, ha, _⟩ | ⟨t, tr, _⟩
          · rw [hA] at ha; cases ha
          · exact decide_eq_true (List.mem_of_getElem? (tr.t0 t rfl))
        rw [hsub, hfree]; rfl
      · rintro r h12 ⟨h0, rfl, w12, f12⟩
        have hfree : freeB s0 = false := decide_eq_false h0
        exact ⟨15, rfl, by decide, by rw [hsub, hfree]; rfl, w12, (FrL.of0 f11).trans f12⟩
    · obtain ⟨g, hA⟩ : ∃ g, A (k / 64) = .tb g := by
        cases hA : A (k / 64) with
        | no => rw [hlk] at hsome; unfold lookN at hsome; rw [hA] at hsome; cases hsome
        | bl f x z => rw [hA] at c; cases c
        | tb g => exact ⟨g, rfl⟩
      refine ⟨s0, T, ?_, w11, Mid.self v hlg hi hA, FrL.of0 f11⟩
      unfold subE
      rw [hok, hlk]
      rw [hlk] at hsome
      unfold lookN at hsome ⊢
      rw [hA] at hsome ⊢
      cases hg : g (k % 64) with
      | none => simp [hg] at hsome
      | some q => simp [hg]
  · rintro h14 ⟨s1, T1, he, w14, m, f14⟩
    refine ⟨by decide, ?_⟩
    rw [tdiv64 hk]
    have hr1 : s1.root = s0.root := by rcases m.tr with ⟨tr, _⟩ | ⟨t, tr, _⟩ <;> exact tr.rt
    refine (first_spec' w14 (by rw [hr1]; exact hroot) hi).mono ?_
    rintro r h15 ⟨rfl, f15⟩
    have hw := m.inv.word1 hi
    rw [fset_same] at hw
    rw [hw]
    refine ⟨_, _, _, _, _, _, rfl, ?_⟩
    refine put_ent (fsE (.tb (tabOf (A (k / 64)))) (T1 (k / 64))) ?_
    intro h17 k17 f17 s17
    have w17 := (w14.fr0 f15).fr0 f17
    have f17 := (f14.trans (FrL.of0 f15)).trans (FrL.of0 f17)
    have ht1 : T1 (k / 64) < 65536 := by
      have h1 := m.inv.tlt hi (by rw [fset_same]; rfl)
      have h2 := m.inv.hn
      omega
    refine ⟨_, (cellAt_of k17 4).trans rfl, by decide, ?_⟩
    rw [tmod64]
    refine (at_spec' ht1 hj).mono ?_
    rintro r h18 ⟨rfl, hh⟩
    rw [hh]; clear hh h18
    exact ⟨_, rfl, k, s1, T1, rfl, hk, rfl, he, hsome, w17, m, f17⟩
/-- A table without pages is cleared up. -/
def Sp.clr (s : Sp) (i t : Nat) : Sp := { s.change (s.root * 256 + 4 * i) noEnt with L := s.L.set t 0 }
theorem Sp.clr_eq (s : Sp) (i t : Nat) : ({ s.change (s.root * 256 + 4 * i) noEnt with L := (s.change (s.root * 256 + 4 * i) noEnt).L.set t 0 } : Sp) = s.clr i t := by
  unfold Sp.clr
  rw [(change_fields s (s.root * 256 + 4 * i) noEnt).2.1]
theorem clear_spec (w : SP h y s) (v : Inv s A T) (hl : s.lg.length ≤ 10000) {i : Nat} (hi : i < 64) {g : Nat → Option Pg} (hA : A i = .tb g) :
    CallsH Try.prog 62 [.pointer (some ⟨y.q, 0, none⟩), .int .i64 (i : Int)] h fun r h' => r = .tuple #[] ∧ SP h' y (if emp g then s.clr i (T i) else s) ∧ FrL y h h' := by
  refine calls_k fun R hR => ?_
  apply stage_Space_clear.calls
  unfold stage_Space_clear.P
  have hrn := v.rlt
  have hn := v.hn
  have hT : (A i).isT = true := by rw [hA]; rfl
  have htn := v.tlt hi hT
  have hroot : s.root < 65536 := by omega
  have ht16 : T i < 65536 := by omega
  refine (first_spec' w hroot hi).mono ?_
  rintro r h1 ⟨rfl, f1⟩
  rw [v.word1 hi, hA]
  refine ⟨_, _, _, _, _, _, rfl, ?_⟩
  refine put_ent (fsE (.tb g) (T i)) ?_
  intro h3 k3 f3 s3
  have w1 := w.fr0 f1
  have w3 := w1.fr0 f3
  have l1 := w1.ltF
  have hout : sz h1 ∉ y.F := fun hm => by have := l1 _ hm; omega
  have fx : FrL y h h3 := FrL.of0 (f1.trans f3)
  refine ⟨fun k h6 => h6 = h3 ∧ ∃ (j : Nat), k = (j : Int) ∧ j ≤ 64 ∧ ∀ l, l < j → g l = none, fun k _ => 64 - k.toNat, ⟨rfl, 0, rfl, by decide, fun l hl => by omega⟩, ?_⟩
  rintro k h6 ⟨hh, j, rfl, hj64, hz⟩
  rw [hh]; clear hh h6
  refine ⟨fun c => ?_, fun c => ?_⟩
  · have hj : j < 64 := lt_cast (n := 64) c
    refine ⟨_, w3.mem, _, (cellAt_of k3 4).trans rfl, ?_⟩
    refine (at_spec' ht16 hj).mono ?_
    rintro r h5 ⟨rfl, hh⟩
    rw [hh]; clear hh h5
    refine ⟨_, rfl, w3.mem, ?_⟩
    refine (Word_spec w3.g.m (addr_lt ht16 hj)).mono ?_
    rintro r h5 ⟨rfl, hh⟩
    rw [hh]; clear hh h5
    rw [word_int, word_at htn hj, v.sw i hi g hA j hj]
    have hpz := pg_zero hn.2 (fun p hp => v.pb i hi g hA j hj p hp)
    refine ⟨_, _, rfl, fun c => ?_, fun c => ?_⟩
    · have hg : g j ≠ none := by
        intro e
        rw [hpz.2 e] at c
        simp at c
      have he : emp g = false := by
        cases he : emp g with
        | false => rfl
        | true => exact absurd (emp_iff.1 he j hj) hg
      rw [he] at hR
      exact hR _ _ ⟨rfl, w3, fx⟩
    · have hg : g j = none := by
        refine hpz.1 ?_
        have c := eq_of_beq (by simpa [bne] using c : ((((encW (pgE (g j))) : Nat) : Int) == 0) = true)
        omega
      rw [wrap_next hj]
      refine ⟨⟨rfl, j + 1, rfl, hj, fun l hl => ?_⟩, dec64 hj⟩
      by_cases e : l = j
      · rw [e]; exact hg
      · exact hz l (by omega)
  · have hj : j = 64 := Nat.le_antisymm hj64 (ge_cast (n := 64) c)
    subst hj
    have he : emp g = true := emp_iff.2 hz
    rw [he, if_pos rfl] at hR
    refine (change_spec w3 (addr_lt hroot hi) noEnt (by omega)).mono ?_
    rintro r h7 ⟨rfl, w7, f7⟩
    refine ⟨rfl, _, w7.frames, _, (cellAt_of (f7.at k3 hout (by decide)) 4).trans rfl, ?_⟩
    refine (Give_spec w7.g.f 1 _).mono ?_
    rintro r h8 ⟨rfl, t8, f8⟩
    have hL := (change_fields s (s.root * 256 + 4 * i) noEnt).2.1
    have hgv : moveL (s.change (s.root * 256 + 4 * i) noEnt).L ((T i : Nat) : Int) 1 0 = (s.change (s.root * 256 + 4 * i) noEnt).L.set (T i) 0 := give_set (by rw [hL]; exact (v.to i hi hT).1)
    have w8 := w7.fw f8 t8
    rw [show (fsE (.tb g) (T i)).f = ((T i : Nat) : Int) from rfl, hgv, Sp.clr_eq] at w8
    exact ⟨_, rfl, hR _ _ ⟨rfl, w8, (fx.trans f7).trans (FrL.of f8 (by simp [Lay.F]))⟩⟩
end
end Go.Proofs.Ytmldiibfmhkgjaa
