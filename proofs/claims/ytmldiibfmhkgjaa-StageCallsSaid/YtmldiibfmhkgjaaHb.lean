import Derived.Test.YtmldiibfmhkgjaaHa
namespace Go.Proofs.Ytmldiibfmhkgjaa
open Go Go.Wd
set_option linter.unusedVariables false
set_option linter.unusedSimpArgs false
set_option linter.unnecessarySimpa false

section
variable {h h' : Hp} {q pb fb n K : Nat} {A : Ab} {PL : List Rp} {FL : List Int}
theorem Rtake_spec (rl : RL h q pb fb n PL FL (K - nT A)) (rel : Rel A PL FL) (hle : nT A ≤ K) (hK : K ≤ 1000) {i : Nat} (hi : i < 64) (g : Nat → Option Pg) :
    CallsH Try.prog 104 [.pointer (some ⟨q, 0, none⟩), .int .i64 (i : Int)] h fun v h' =>
      (((A i).isT || decide (nT A < K)) = false ∧ v = .bool false ∧ h' = h) ∨ (((A i).isT || decide (nT A < K)) = true ∧ v = .bool true ∧ RL h' q pb fb n PL (FL.set i 2) (K - nT (fset A i (.tb g))) ∧ nT (fset A i (.tb g)) ≤ K ∧ Fr (RF q pb fb) h h') := by
  have hnt := nT_fset A hi (.tb g)
  rw [show (Fst.tb g).isT = true from rfl] at hnt
  refine (Rtable_spec rl rel.lf hi (rel.fi _ hi) (by omega)).mono ?_
  rintro v h4 (⟨hx, rfl, hh⟩ | ⟨hx, h0, rfl, hh⟩ | ⟨hx, hpos, rfl, r4, f4⟩)
  · have hT := (knd_T _).1 hx
    rw [hT] at hnt
    simp at hnt
    have hs := rel.fi _ hi
    rw [hx] at hs
    rw [hh, hT, set_same_at hs, hnt]
    exact .inr ⟨rfl, rfl, rl, hle, Fr.refl _ _⟩
  · have hT : (A i).isT = false := Bool.eq_false_iff.2 (fun e => hx ((knd_T _).2 e))
    rw [hT, decide_eq_false (by omega)]
    exact .inl ⟨rfl, rfl, hh⟩
  · have hT : (A i).isT = false := Bool.eq_false_iff.2 (fun e => hx ((knd_T _).2 e))
    rw [hT] at hnt
    simp at hnt
    rw [hT, decide_eq_true (by omega), hnt, show K - (nT A + 1) = K - nT A - 1 by omega]
    exact .inr ⟨rfl, rfl, r4, by omega, f4.mono (by simp [RF])⟩
theorem addr64 {i j : Nat} (hi : i < 64) (hj : j < 64) : IntKind.wrap .i64 ((IntKind.wrap .i64 (64 * (i : Int))) + (j : Int)) = ((64 * i + j : Nat) : Int) := by
  rw [wrap_i64 (n := 64 * (i : Int)) (by omega) (by omega), wrap_i64 (by omega) (by omega)]; omega
theorem mod_bne (f : Nat) : (Int.tmod (f : Int) 64 != 0) = !(f % 64 == 0) := by
  have := mod_beq f
  simp only [bne, this]
theorem RRun_spec (w : DS h q pb fb n A K) (p f : Int) (pw px : Bool) :
    CallsH Try.prog 64 [.pointer (some ⟨q, 0, none⟩), .int .i64 p, .int .i64 f, .bool pw, .bool px] h fun v h' => v = .int .i64 (opRun A n p f pw px).1 ∧ DS h' q pb fb n (opRun A n p f pw px).2 K ∧ Fr (RF q pb fb) h h' := by
  refine calls_k fun R hR => ?_
  apply warderref11_Space_MapRun.calls
  unfold warderref11_Space_MapRun.P
  obtain ⟨⟨PL, FL, rl, rel⟩, hle, hK, hn1⟩ := w
  have w : DS h q pb fb n A K := ⟨⟨PL, FL, rl, rel⟩, hle, hK, hn1⟩
  have bad : ∀ e : Int, opRun A n p f pw px = (e, A) → R (.int .i64 e) h := fun e he => hR _ _ ⟨by rw [he], by rw [he]; exact w, Fr.refl _ _⟩
  have bad11 : (isIn 64 p && isIn n f && (f.toNat % 64 == 0) && isIn n (f + 63)) = false → R (.int .i64 11) h := fun hb => bad 11 (by unfold opRun; rw [hb]; rfl)
  refine ⟨fun h' => h' = h ∧ (isIn 64 p && isIn n f && (f.toNat % 64 == 0) && isIn n (f + 63)) = true, ?_, ?_⟩
  · refine (span_spec _ _).mono ?_
    rintro v h1 ⟨rfl, hh⟩
    rw [hh]; clear hh h1
    refine ⟨_, rfl, fun c => bad11 ?_, fun c => ⟨_, rl.cn, ?_⟩⟩
    · have c : isIn 64 p = false := not_t c
      rw [c]; rfl
    have c1 : isIn 64 p = true := not_f c
    refine (span_spec _ _).mono ?_
    rintro v h1 ⟨rfl, hh⟩
    rw [hh]; clear hh h1
    refine ⟨_, rfl, fun c => bad11 ?_, fun c => ⟨by decide, ?_⟩⟩
    · have c : isIn n f = false := not_t c
      rw [c1, c]; rfl
    have c2 : isIn n f = true := not_f c
    obtain ⟨fn, rfl, hfn⟩ := isIn_nat c2
    rw [mod_bne]
    rw [Int.toNat_natCast] at bad11 ⊢
    refine ⟨fun c => bad11 ?_, fun c => ⟨_, rl.cn, ?_⟩⟩
    · rw [c1, c2, not_t c]; rfl
    have c3 := not_f c
    have hw : IntKind.wrap .i64 ((fn : Int) + 64) = (fn : Int) + 64 := wrap_i64 (by omega) (by omega)
    rw [hw]
    refine ⟨fun c => bad11 ?_, fun c => ⟨rfl, ?_⟩⟩
    · simp only [decide_eq_true_eq] at c
      have : isIn n ((fn : Int) + 63) = false := by simp [isIn]; omega
      rw [c1, c2, c3, this]; rfl
    · simp only [decide_eq_false_iff_not] at c
      have : isIn n ((fn : Int) + 63) = true := by simp [isIn]; omega
      rw [c1, c2, c3, this]; rfl
  rintro h3 ⟨hh, hall⟩
  rw [hh]; clear hh h3
  have hop : opRun A n p f pw px = match A p.toNat with
    | .no => (0, fset A p.toNat (.bl f.toNat pw px))
    | _ => (13, A) := by
    unfold opRun
    rw [hall]; rfl
  rw [Bool.and_eq_true, Bool.and_eq_true, Bool.and_eq_true] at hall
  obtain ⟨⟨⟨ok1, ok2⟩, ok3⟩, ok4⟩ := hall
  obtain ⟨fn, rfl, hfn⟩ := isIn_nat ok2
  obtain ⟨i, rfl, hi⟩ := isIn_nat ok1
  rw [Int.toNat_natCast] at *
  refine ⟨_, _, _, rl.cf, by omega, by omega, _, _, rfl, _, rl.first (rel.fi i hi), fun c => bad 13 ?_, fun c => ?_⟩
  · have c := bne_true c
    rw [hop]
    cases hA : A i with
    | no => rw [hA] at c; exact absurd rfl c
    | bl f x z => rfl
    | tb g => rfl
  have hA : A i = .no := (knd_no _).1 (bne_false c)
  rw [hA] at hop
  have hop : opRun A n (i : Int) (fn : Int) pw px = (0, fset A i (.bl fn pw px)) := hop
  refine ⟨_, _, _, rl.cf, by omega, by omega, _, _, rfl, ?_⟩
  have hfi := rl.setF (k := i) (by rw [rel.lf]; exact hi) 1 (K := fun h4 => ∃ I21 : Int → Hp → Prop, ∃ m22 : Int → Hp → Nat, I21 0 h4 ∧ ∀ i23 : Int, ∀ h5 : Hp, I21 i23 h5 →
  ((decide (i23 < 64)) = true → (∃ Pagesa24 : Option Addr, ∃ Pagesl25 : Nat, ∃ Pagesc26 : Nat, cellAt h5 q 0 = some (.slice Pagesa24 Pagesl25 Pagesc26) ∧ (0 : Int) ≤ (IntKind.wrap .i64 ((IntKind.wrap .i64 (64 * (i : Int))) + i23)) ∧
  (IntKind.wrap .i64 ((IntKind.wrap .i64 (64 * (i : Int))) + i23)) < ((Pagesl25 : Nat) : Int) ∧ ∃ b27 : Nat, ∃ o28 : Nat, (Pagesa24 : Option Addr) = some ⟨b27, o28, none⟩ ∧ truly true ∧ ∃ T29 : TypeId, ∃ l30 : List Value, bk h5 b27 = some (blk T29 l30) ∧
  (o28 + (IntKind.wrap .i64 ((IntKind.wrap .i64 (64 * (i : Int))) + i23)).toNat * 4) + 4 ≤ l30.length ∧ ∀ h6 : Hp, h6 = upd h5 b27 T29 (writeAt l30 (o28 + (IntKind.wrap .i64 ((IntKind.wrap .i64 (64 * (i : Int))) + i23)).toNat * 4) [.int .i64 (IntKind.wrap .i64 ((fn : Int) + i23)), .bool true, .bool pw, .bool px]) →
  I21 (IntKind.wrap .i64 (i23 + 1)) h6 ∧ m22 (IntKind.wrap .i64 (i23 + 1)) h6 < m22 i23 h5)) ∧ ((decide (i23 < 64)) = false → (R (.int .i64 0) h5))) ?_
  · exact hfi
  intro h4 r4 f4
  refine ⟨fun k h5 => ∃ (j : Nat) (PL' : List Rp), k = (j : Int) ∧ j ≤ 64 ∧ RL h5 q pb fb n PL' (FL.set i 1) (K - nT A) ∧ PL'.length = 4096 ∧ (∀ p, p < 4096 → PL'[p]? = some (rpO (if p / 64 = i then (if p % 64 < j then some ⟨fn + p % 64, pw, px⟩ else lkT A p) else lkT A p))) ∧ Fr (RF q pb fb) h h5, fun k _ => 64 - k.toNat,
    ⟨0, PL, rfl, by decide, r4, rel.lp, fun p hp => by rw [if_neg (Nat.not_lt_zero _), rel.pg p hp]; split <;> rfl, f4.mono (by simp [RF])⟩, ?_⟩
  rintro k h5 ⟨j, PL', rfl, hj64, r5, hl5, hp5, f5⟩
  refine ⟨fun c => ?_, fun c => ?_⟩
  · have hj : j < 64 := lt_cast (n := 64) c
    rw [addr64 hi hj, wrap_add (by omega) hj, wrap_next hj]
    refine ⟨_, _, _, r5.cp, by omega, by omega, _, _, rfl, ?_⟩
    refine r5.setP (k := 64 * i + j) (by rw [hl5]; omega) (rpO (some ⟨fn + j, pw, px⟩)) ?_
    intro h6 r6 f6
    refine ⟨⟨j + 1, _, rfl, hj, r6, by rw [List.length_set]; exact hl5, fun p hp => ?_, f5.trans (f6.mono (by simp [RF]))⟩, dec64 hj⟩
    rw [List.getElem?_set]
    by_cases e : 64 * i + j = p
    · rw [if_pos e, if_pos (by rw [hl5]; omega), if_pos (by omega), if_pos (by omega), show p % 64 = j by omega]
    · rw [if_neg e, hp5 p hp]
      by_cases e2 : p / 64 = i
      · rw [if_pos e2, if_pos e2]
        by_cases e3 : p % 64 < j
        · rw [if_pos e3, if_pos (by omega)]
        · rw [if_neg e3, if_neg (by omega)]
      · rw [if_neg e2, if_neg e2]
  · have hj : j = 64 := Nat.le_antisymm hj64 (ge_cast (n := 64) c)
    subst hj
    have hnt := nT_fset A hi (.bl fn pw px)
    rw [hA] at hnt
    simp [Fst.isT] at hnt
    refine hR _ _ ⟨by rw [hop], ?_, f5⟩
    rw [hop]
    refine ⟨⟨PL', FL.set i 1, ?_, ?_⟩, ?_, hK, hn1⟩
    · rw [show nT (0, fset A i (.bl fn pw px)).2 = nT A from hnt]; exact r5
    · exact rel.put hi (.bl fn pw px) hl5 (fun p hp => by
        rw [hp5 p hp]
        by_cases e2 : p / 64 = i
        · rw [if_pos e2, if_pos e2, if_pos (by omega)]; rfl
        · rw [if_neg e2, if_neg e2])
    · rw [show nT (0, fset A i (.bl fn pw px)).2 = nT A from hnt]; exact hle
theorem RSplit_spec (w : DS h q pb fb n A K) (p : Int) :
    CallsH Try.prog 67 [.pointer (some ⟨q, 0, none⟩), .int .i64 p] h fun v h' => v = .int .i64 (opSplit A (decide (nT A < K)) p).1 ∧ DS h' q pb fb n (opSplit A (decide (nT A < K)) p).2 K ∧ Fr (RF q pb fb) h h' := by
  refine calls_k fun R hR => ?_
  apply warderref11_Space_Split.calls
  unfold warderref11_Space_Split.P
  obtain ⟨⟨PL, FL, rl, rel⟩, hle, hK, hn1⟩ := w
  have w : DS h q pb fb n A K := ⟨⟨PL, FL, rl, rel⟩, hle, hK, hn1⟩
  have bad : ∀ e : Int, opSplit A (decide (nT A < K)) p = (e, A) → R (.int .i64 e) h := fun e he => hR _ _ ⟨by rw [he], by rw [he]; exact w, Fr.refl _ _⟩
  refine (span_spec _ _).mono ?_
  rintro v h1 ⟨rfl, hh⟩
  rw [hh]; clear hh h1
  refine ⟨_, rfl, fun c => bad 11 ?_, fun c => ?_⟩
  · have c : isIn 64 p = false := not_t c
    unfold opSplit; rw [c]; rfl
  have c1 : isIn 64 p = true := not_f c
  obtain ⟨i, rfl, hi⟩ := isIn_nat c1
  have hop : opSplit A (decide (nT A < K)) (i : Int) = match A i with
    | .bl f w x => if decide (nT A < K) then (0, fset A i (.tb (tabOf (.bl f w x)))) else (15, A)
    | _ => (12, A) := by
    unfold opSplit
    rw [c1, Int.toNat_natCast]; rfl
  refine ⟨_, _, _, rl.cf, by omega, by omega, _, _, rfl, _, rl.first (rel.fi i hi), fun c => bad 12 ?_, fun c => ?_⟩
  · have c := bne_true c
    rw [hop]
    cases hA : A i with
    | no => rfl
    | bl f x z => rw [hA] at c; exact absurd rfl c
    | tb g => rfl
  have c := bne_false c
  obtain ⟨f, x, z, hA⟩ : ∃ f x z, A i = .bl f x z := by
    cases hA : A i with
    | no => rw [hA] at c; cases c
    | bl f x z => exact ⟨f, x, z, rfl⟩
    | tb g => rw [hA] at c; cases c
  rw [hA] at hop
  have hT : (A i).isT = false := by rw [hA]; rfl
  refine (Rtake_spec rl rel hle hK hi (tabOf (.bl f x z))).mono ?_
  rw [hT]
  rintro v h2 (⟨hno, rfl, hh⟩ | ⟨hgo, rfl, r2, hle2, f2⟩)
  · rw [hh]; clear hh h2
    have hno : decide (nT A < K) = false := by simpa using hno
    exact ⟨_, rfl, fun _ => bad 15 (by rw [hop, hno]; rfl), fun c => (by cases c)⟩
  · have hgo : decide (nT A < K) = true := by simpa using hgo
    have hop : opSplit A (decide (nT A < K)) (i : Int) = (0, fset A i (.tb (tabOf (.bl f x z)))) := by rw [hop, hgo]; rfl
    refine ⟨_, rfl, fun c => (by cases c), fun _ => hR _ _ ⟨by rw [hop], ?_, f2⟩⟩
    rw [hop]
    refine ⟨⟨PL, FL.set i 2, r2, rel.put hi (.tb (tabOf (.bl f x z))) rel.lp (fun p hp => ?_)⟩, hle2, hK, hn1⟩
    rw [rel.pg p hp]
    by_cases e : p / 64 = i
    · rw [if_pos e]
      unfold lkT
      rw [e, hA]; rfl
    · rw [if_neg e]
theorem RTables_spec (w : DS h q pb fb n A K) : CallsH Try.prog 69 [.pointer (some ⟨q, 0, none⟩)] h fun v h' => v = .int .i64 ((nT A : Nat) : Int) ∧ h' = h := by
  refine calls_k fun R hR => ?_
  apply warderref11_Space_Tables.calls
  unfold warderref11_Space_Tables.P
  obtain ⟨⟨PL, FL, rl, rel⟩, hle, hK, hn1⟩ := w
  refine ⟨fun c k h1 => ∃ j : Nat, k = (j : Int) ∧ j ≤ 64 ∧ c = ((nTA A j : Nat) : Int) ∧ h1 = h, fun _ k _ => 64 - k.toNat, ⟨0, rfl, by decide, rfl, rfl⟩, ?_⟩
  rintro c k h1 ⟨j, rfl, hj64, rfl, hh⟩
  rw [hh]; clear hh h1
  refine ⟨fun c => ?_, fun c => ?_⟩
  · have hj : j < 64 := lt_cast (n := 64) c
    have hl := nTA_le A j
    rw [wrap_next hj]
    refine ⟨_, _, _, rl.cf, by omega, by omega, _, _, rfl, _, rl.first (rel.fi j hj), fun c => ?_, fun c => ?_⟩
    · have hT := (knd_T _).1 (beq_true c)
      refine ⟨⟨j + 1, rfl, hj, ?_, rfl⟩, dec64 hj⟩
      simp only [nTA]
      rw [if_pos hT, wrap_i64 (by omega) (by omega)]; rfl
    · have hT : ¬ (A j).isT = true := fun e => by rw [(knd_T _).2 e] at c; simp at c
      refine ⟨⟨j + 1, rfl, hj, ?_, rfl⟩, dec64 hj⟩
      simp only [nTA]
      rw [if_neg hT, Nat.add_zero]
  · have hj : j = 64 := Nat.le_antisymm hj64 (ge_cast (n := 64) c)
    subst hj
    exact hR _ _ ⟨rfl, rfl⟩
end
end Go.Proofs.Ytmldiibfmhkgjaa
