import Derived.Test.YtmldiibfmhkgjaaHb
namespace Go.Proofs.Ytmldiibfmhkgjaa
open Go Go.Wd
set_option linter.unusedVariables false
set_option linter.unusedSimpArgs false
set_option linter.unnecessarySimpa false

/-- What becomes of a page: none, or a page with these rights. -/
def toO (o : Option (Bool × Bool)) : Option Pg → Option Pg := fun q => match o with
  | none => none
  | some (w, x) => q.map fun q => ⟨q.f, w, x⟩
def toR : Option (Bool × Bool) → Rp
  | none => ⟨0, false, false, false⟩
  | some (w, x) => ⟨0, true, w, x⟩
def opC (A : Ab) (free : Bool) (p : Int) (o : Option (Bool × Bool)) : Int × Ab :=
  if subE A free p = 0 then (0, fset A (p.toNat / 64) (if emp (fset (tabOf (A (p.toNat / 64))) (p.toNat % 64) (toO o (tabOf (A (p.toNat / 64)) (p.toNat % 64)))) then .no else .tb (fset (tabOf (A (p.toNat / 64))) (p.toNat % 64) (toO o (tabOf (A (p.toNat / 64)) (p.toNat % 64))))))
  else (subE A free p, A)
theorem opC_unmap (A : Ab) (free : Bool) (p : Int) : opC A free p none = opUnmap A free p := rfl
theorem opC_prot (A : Ab) (free : Bool) (p : Int) (w x : Bool) : opC A free p (some (w, x)) = opProt A free p w x := by
  unfold opC opProt
  by_cases c : subE A free p = 0
  · rw [if_pos c, if_pos c]
    have hin : isIn 4096 p = true := by
      cases hi : isIn 4096 p with
      | true => rfl
      | false =>
        unfold subE at c
        rw [hi] at c
        exact absurd (show (11 : Int) = 0 from c) (by decide)
    have hsome : (lookA A p).isSome = true := by
      cases hl : (lookA A p).isSome with
      | true => rfl
      | false => exact absurd c (sub_none hl)
    obtain ⟨k, rfl, hk⟩ := isIn_nat hin
    rw [lookA_nat hk] at hsome
    obtain ⟨q, hq⟩ := tab_look hsome
    rw [Int.toNat_natCast, hq]
    have : emp (fset (tabOf (A (k / 64))) (k % 64) (toO (some (w, x)) (some q))) = false := by
      cases he : emp (fset (tabOf (A (k / 64))) (k % 64) (toO (some (w, x)) (some q))) with
      | false => rfl
      | true =>
        have := emp_iff.1 he (k % 64) (p_idx hk).2
        rw [fset_same] at this
        cases this
    rw [this, if_neg (by decide)]
    rfl
  · rw [if_neg c, if_neg c]
section
variable {h h' : Hp} {q pb fb n K : Nat} {A : Ab}
def anyT (g : Nat → Option Pg) (j : Nat) : Bool := (List.range j).any fun l => (g l).isSome
theorem anyT_next (g : Nat → Option Pg) (j : Nat) : anyT g (j + 1) = (anyT g j || (g j).isSome) := by
  unfold anyT
  rw [List.range_succ, List.any_append]; simp
theorem anyT_emp (g : Nat → Option Pg) : emp g = !anyT g 64 := by
  cases he : emp g with
  | true =>
    have := emp_iff.1 he
    have : anyT g 64 = false := by
      unfold anyT
      rw [List.any_eq_false]
      intro l hl
      rw [this l (List.mem_range.1 hl)]; simp
    rw [this]; rfl
  | false =>
    obtain ⟨l, hl, hg⟩ := emp_no he
    have : anyT g 64 = true := by
      unfold anyT
      rw [List.any_eq_true]
      exact ⟨l, List.mem_range.2 hl, by cases hx : g l with
        | none => exact absurd hx hg
        | some q => rfl⟩
    rw [this]; rfl
theorem addrI {k j : Nat} (hk : k < 4096) (hj : j < 64) : IntKind.wrap .i64 ((IntKind.wrap .i64 (((k / 64 : Nat) : Int) * 64)) + (j : Int)) = ((64 * (k / 64) + j : Nat) : Int) := by
  rw [wrap_i64 (n := ((k / 64 : Nat) : Int) * 64) (by omega) (by omega), wrap_i64 (by omega) (by omega)]; omega
theorem Rp.rd0 {h : Hp} {b T : Nat} (x : Rp) (hb : bk h b = some (blk T x.cells)) {K : Int → Bool → Bool → Bool → Prop} (hK : K x.f x.t x.w x.x) :
    ∃ a1 : Int, cellAt h b (0 + 0) = some (.int .i64 a1) ∧ ∃ a2 : Bool, cellAt h b (0 + 1) = some (.bool a2) ∧ ∃ a3 : Bool, cellAt h b (0 + 2) = some (.bool a3) ∧ ∃ a4 : Bool, cellAt h b (0 + 3) = some (.bool a4) ∧ K a1 a2 a3 a4 :=
  ⟨_, (cellAt_of hb 0).trans rfl, _, (cellAt_of hb 1).trans rfl, _, (cellAt_of hb 2).trans rfl, _, (cellAt_of hb 3).trans rfl, hK⟩
theorem Rchange_spec (w : DS h q pb fb n A K) (p : Int) (o : Option (Bool × Bool)) :
    CallsH Try.prog 105 [.pointer (some ⟨q, 0, none⟩), .int .i64 p, .agg ⟨(toR o).cells⟩] h fun v h' => v = .int .i64 (opC A (decide (nT A < K)) p o).1 ∧ DS h' q pb fb n (opC A (decide (nT A < K)) p o).2 K ∧ Fr (RF q pb fb) h h' := by
  refine calls_k fun R hR => ?_
  apply warderref11_Space_change.calls
  unfold warderref11_Space_change.P
  intro h1 e1
  have k1 : bk h1 (sz h) = some (blk 106 (toR o).cells) := by rw [e1]; exact new_at _ _
  have f1 : Fr [] h h1 := by rw [e1]; exact Fr.new _ _ _
  clear e1
  have lq := w.ex
  have w1 := w.fr0 f1
  obtain ⟨⟨PL, FL, rl, rel⟩, hle, hK, hn1⟩ := w1
  have w1 : DS h1 q pb fb n A K := ⟨⟨PL, FL, rl, rel⟩, hle, hK, hn1⟩
  obtain ⟨PL0, FL0, rl0, _⟩ := w.ex
  have lts : q < sz h ∧ pb < sz h ∧ fb < sz h := ⟨ty_lt rl0.t1, ty_lt rl0.t2, ty_lt rl0.t3⟩
  have fz : Fr (RF q pb fb) h h1 := f1.mono (by simp)
  have bad : ∀ e : Int, opC A (decide (nT A < K)) p o = (e, A) → R (.int .i64 e) h1 := fun e he => hR _ _ ⟨by rw [he], by rw [he]; exact w1, fz⟩
  have badS : ∀ e : Int, e ≠ 0 → subE A (decide (nT A < K)) p = e → R (.int .i64 e) h1 := fun e h0 he => bad e (by unfold opC; rw [he, if_neg h0])
  refine (span_spec _ _).mono ?_
  rintro v h2 ⟨rfl, hh⟩
  rw [hh]; clear hh h2
  refine ⟨_, rfl, fun c => badS 11 (by decide) ?_, fun c => ?_⟩
  · have c : isIn 4096 p = false := not_t c
    unfold subE; rw [c]; rfl
  have okp : isIn 4096 p = true := not_f c
  obtain ⟨k, rfl, hk⟩ := in_page okp
  obtain ⟨hi, hj⟩ := p_idx hk
  have hpg := rel.pg k hk
  refine ⟨_, _, _, rl.cp, by omega, by omega, _, _, rfl, _, (rl.page hpg 1 (by decide)).trans rfl, fun c => badS 12 (by decide) ?_, fun c => ⟨by decide, ?_⟩⟩
  · rw [rpO_t, lkT_is] at c
    have : lookN A k = none := by
      cases hl : lookN A k with
      | none => rfl
      | some r => have c : (!(lookN A k).isSome) = true := c; rw [hl] at c; cases c
    unfold subE
    rw [okp, lookA_nat hk, this]; rfl
  rw [rpO_t, lkT_is] at c
  have hsome : (lookN A k).isSome = true := not_f c
  obtain ⟨qq, hqq⟩ := tab_look hsome
  have hlk : lkT A k = some qq := hqq
  rw [hlk] at hpg
  have hsub : subE A (decide (nT A < K)) (k : Int) = if (A (k / 64)).isT || decide (nT A < K) then 0 else 15 := by
    unfold subE
    rw [okp, lookA_nat hk]
    unfold lookN at hsome ⊢
    cases hA : A (k / 64) with
    | no => rw [hA] at hsome; cases hsome
    | bl f w x => cases decide (nT A < K) <;> rfl
    | tb g =>
      rw [hA] at hsome
      cases hg : g (k % 64) with
      | none => simp [hg] at hsome
      | some r => simp [hg, Fst.isT]
  rw [tdiv64 hk]
  obtain ⟨g', hg'⟩ : ∃ g', g' = fset (tabOf (A (k / 64))) (k % 64) (toO o (tabOf (A (k / 64)) (k % 64))) := ⟨_, rfl⟩
  have hop : ((A (k / 64)).isT || decide (nT A < K)) = true → opC A (decide (nT A < K)) (k : Int) o = (0, fset A (k / 64) (if emp g' then .no else .tb g')) := fun hgo => by
    have h0 : subE A (decide (nT A < K)) (k : Int) = 0 := by rw [hsub, if_pos hgo]
    unfold opC
    rw [if_pos h0, Int.toNat_natCast, hg']
  refine (Rtake_spec rl rel hle hK hi g').mono ?_
  rintro v h3 (⟨hno, rfl, hh⟩ | ⟨hgo, rfl, r3, hle3, f3⟩)
  · rw [hh]; clear hh h3
    refine ⟨_, rfl, fun _ => badS 15 (by decide) (by rw [hsub, hno]; rfl), fun c => (by cases c)⟩
  have hop := hop hgo
  have hF : sz h ∉ RF q pb fb := by simp [RF]; omega
  have k3 := f3.at k1 hF
  have hg'k : toO o (tabOf (A (k / 64)) (k % 64)) = toO o (some qq) := by rw [hqq]
  refine ⟨_, rfl, fun c => (by cases c), fun _ => ?_⟩
  refine ⟨fun h5 => RL h5 q pb fb n PL (FL.set (k / 64) 2) (K - nT (fset A (k / 64) (.tb g'))) ∧ Fr (RF q pb fb) h h5 ∧ bk h5 (sz h) = some (blk 106 (rpO (toO o (some qq))).cells), ?_, ?_⟩
  · refine ⟨_, (cellAt_of k3 1).trans rfl, fun c => ?_, fun c => ?_⟩
    · refine ⟨_, _, _, r3.cp, by omega, by omega, _, _, rfl, _, (r3.page hpg 0 (by decide)).trans rfl, truly_rfl, _, _, k3, Nat.le_of_ble_eq_true rfl, ?_⟩
      intro h4 e4
      have f4 : Fr [sz h] h3 h4 := by rw [e4]; exact Fr.upd (by simp) _ _ _
      refine ⟨r3.fr f4 (by simp; omega), (fz.trans f3).later f4 (by simp), ?_⟩
      rw [e4]
      have e : writeAt (toR o).cells 0 [.int .i64 (rpO (some qq)).f] = (rpO (toO o (some qq))).cells := by
        cases o with
        | none => cases c
        | some wx => rfl
      rw [e]; exact upd_same k3 _ _
    · refine ⟨r3, fz.trans f3, ?_⟩
      have e : (toR o).cells = (rpO (toO o (some qq))).cells := by
        cases o with
        | none => rfl
        | some wx => cases c
      rw [← e]; exact k3
  rintro h5 ⟨r5, f5, k5⟩
  refine ⟨_, _, _, r5.cp, ?_⟩
  refine Rp.rd0 _ k5 ?_
  refine ⟨by omega, by omega, _, _, rfl, ?_⟩
  have hrel : Rel (fset A (k / 64) (.tb g')) (PL.set k (rpO (toO o (some qq)))) (FL.set (k / 64) 2) := rel.put hi (.tb g') (by rw [List.length_set]; exact rel.lp) (fun p hp => by
    have := rel.page_at hi hj (toO o (some qq)) p hp
    rw [show 64 * (k / 64) + k % 64 = k by omega] at this
    rw [this, hg', hg'k]; rfl)
  have hi64 := hi
  have body : ∀ h6, RL h6 q pb fb n (PL.set k (rpO (toO o (some qq)))) (FL.set (k / 64) 2) (K - nT (fset A (k / 64) (.tb g'))) → Fr (RF q pb fb) h h6 → ∃ I32 : Bool → Int → Hp → Prop, ∃ m33 : Bool → Int → Hp → Nat, I32 false 0 h6 ∧
  ∀ left34 : Bool, ∀ i35 : Int, ∀ h7 : Hp, I32 left34 i35 h7 → ((decide (i35 < 64)) = true → (((left34) = true → (I32 true (IntKind.wrap .i64 (i35 + 1)) h7 ∧ m33 true (IntKind.wrap .i64 (i35 + 1)) h7 < m33 left34 i35 h7)) ∧
  ((left34) = false → (∃ Pagesa36 : Option Addr, ∃ Pagesl37 : Nat, ∃ Pagesc38 : Nat, cellAt h7 q 0 = some (.slice Pagesa36 Pagesl37 Pagesc38) ∧ 64 ≠ (0 : Int) ∧ (0 : Int) ≤ (IntKind.wrap .i64 ((IntKind.wrap .i64 (((k / 64 : Nat) : Int) * 64)) + i35)) ∧
  (IntKind.wrap .i64 ((IntKind.wrap .i64 (((k / 64 : Nat) : Int) * 64)) + i35)) < ((Pagesl37 : Nat) : Int) ∧ ∃ b39 : Nat, ∃ o40 : Nat, (Pagesa36 : Option Addr) = some ⟨b39, o40, none⟩ ∧
  ∃ There41 : Bool, cellAt h7 b39 (o40 + (IntKind.wrap .i64 ((IntKind.wrap .i64 (((k / 64 : Nat) : Int) * 64)) + i35)).toNat * 4 + 1) = some (.bool There41) ∧ I32 There41 (IntKind.wrap .i64 (i35 + 1)) h7 ∧
  m33 There41 (IntKind.wrap .i64 (i35 + 1)) h7 < m33 left34 i35 h7)))) ∧ ((decide (i35 < 64)) = false → (((!left34) = true → (∃ Firstsa42 : Option Addr, ∃ Firstsl43 : Nat, ∃ Firstsc44 : Nat, cellAt h7 q (0 + 1) = some (.slice Firstsa42 Firstsl43 Firstsc44) ∧
  64 ≠ (0 : Int) ∧ (0 : Int) ≤ ((k / 64 : Nat) : Int) ∧ ((k / 64 : Nat) : Int) < ((Firstsl43 : Nat) : Int) ∧ ∃ b45 : Nat, ∃ o46 : Nat, (Firstsa42 : Option Addr) = some ⟨b45, o46, none⟩ ∧
  truly true ∧ ∃ T47 : TypeId, ∃ l48 : List Value, bk h7 b45 = some (blk T47 l48) ∧ (o46 + ((k / 64 : Nat) : Int).toNat * 1) + 1 ≤ l48.length ∧ ∀ h8 : Hp, h8 = upd h7 b45 T47 (writeAt l48 (o46 + ((k / 64 : Nat) : Int).toNat * 1) [.int .i64 0]) →
  ∃ Free49 : Int, cellAt h8 q (0 + 3) = some (.int .i64 Free49) ∧ truly true ∧ ∃ T50 : TypeId, ∃ l51 : List Value, bk h8 q = some (blk T50 l51) ∧ (0 + 3) + 1 ≤ l51.length ∧ ∀ h9 : Hp, h9 = upd h8 q T50 (writeAt l51 (0 + 3) [.int .i64 (IntKind.wrap .i64 (Free49 + 1))]) →
  R (.int .i64 0) h9)) ∧ ((!left34) = false → (R (.int .i64 0) h7)))) := by
    intro h6 r6 f6
    refine ⟨fun left i h7 => ∃ j : Nat, i = (j : Int) ∧ j ≤ 64 ∧ left = anyT g' j ∧ h7 = h6, fun _ i _ => 64 - i.toNat, ⟨0, rfl, by decide, rfl, rfl⟩, ?_⟩
    rintro left i h7 ⟨j, rfl, hj64, hleft, hh⟩
    rw [hh]; clear hh h7
    refine ⟨fun c => ?_, fun c => ?_⟩
    · have hjl : j < 64 := lt_cast (n := 64) c
      rw [addrI hk hjl, wrap_next hjl]
      have hpj := hrel.pg (64 * (k / 64) + j) (by omega)
      have hlj : lkT (fset A (k / 64) (.tb g')) (64 * (k / 64) + j) = g' j := by
        unfold lkT
        rw [show (64 * (k / 64) + j) / 64 = k / 64 by omega, fset_same, show (64 * (k / 64) + j) % 64 = j by omega]; rfl
      rw [hlj] at hpj
      refine ⟨fun cl => ⟨⟨j + 1, rfl, hjl, by rw [anyT_next, ← hleft, cl]; rfl, rfl⟩, dec64 hjl⟩, fun cl => ?_⟩
      refine ⟨_, _, _, r6.cp, by decide, by omega, by omega, _, _, rfl, _, (r6.page hpj 1 (by decide)).trans rfl, ⟨j + 1, rfl, hjl, by rw [anyT_next, ← hleft, cl, rpO_t]; rfl, rfl⟩, dec64 hjl⟩
    · have hjl : j = 64 := Nat.le_antisymm hj64 (ge_cast (n := 64) c)
      subst hjl
      have he := anyT_emp g'
      rw [← hleft] at he
      refine ⟨fun cl => ?_, fun cl => ?_⟩
      · rw [cl] at he
        rw [he, if_pos rfl] at hop
        refine ⟨_, _, _, r6.cf, by decide, by omega, by omega, _, _, rfl, ?_⟩
        refine r6.setF (by rw [hrel.lf]; exact hi) 0 ?_
        intro h8 r8 f8
        have hnt := nT_fset (fset A (k / 64) (.tb g')) hi .no
        rw [fset_same, fset_twice] at hnt
        simp [Fst.isT] at hnt
        refine ⟨_, r8.cfree, ?_⟩
        refine r8.setN (K - nT (fset A (k / 64) .no)) (by rw [wrap_i64 (by omega) (by omega)]; omega) ?_
        intro h9 r9 f9
        refine hR _ _ ⟨by rw [hop], ?_, (f6.trans (f8.mono (by simp [RF]))).trans (f9.mono (by simp [RF]))⟩
        rw [hop]
        refine ⟨⟨_, _, r9, ?_⟩, by show nT (fset A (k / 64) .no) ≤ K; omega, hK, hn1⟩
        have := hrel.put hi .no hrel.lp (fun p hp => by
          rw [hrel.pg p hp]
          by_cases e : p / 64 = k / 64
          · rw [if_pos e]
            unfold lkT
            rw [e, fset_same]
            show some (rpO (g' (p % 64))) = some (rpO none)
            rw [emp_iff.1 he (p % 64) (by omega)]
          · rw [if_neg e])
        rw [fset_twice] at this
        exact this
      · rw [cl] at he
        rw [he, if_neg (by decide)] at hop
        refine hR _ _ ⟨by rw [hop], ?_, f6⟩
        rw [hop]
        exact ⟨⟨_, _, r6, hrel⟩, hle3, hK, hn1⟩
  refine r5.setP (by rw [rel.lp]; exact hk) (rpO (toO o (some qq))) ?_
  intro h6 r6 f6
  exact body h6 r6 (f5.trans (f6.mono (by simp [RF])))
theorem RUnmap_spec (w : DS h q pb fb n A K) (p : Int) :
    CallsH Try.prog 65 [.pointer (some ⟨q, 0, none⟩), .int .i64 p] h fun v h' => v = .int .i64 (opUnmap A (decide (nT A < K)) p).1 ∧ DS h' q pb fb n (opUnmap A (decide (nT A < K)) p).2 K ∧ Fr (RF q pb fb) h h' := by
  apply warderref11_Space_Unmap.calls
  unfold warderref11_Space_Unmap.P
  refine (Rchange_spec w p none).mono ?_
  rw [opC_unmap]
  rintro v h1 ⟨rfl, h2, h3⟩
  exact ⟨_, rfl, rfl, h2, h3⟩
theorem RProt_spec (w : DS h q pb fb n A K) (p : Int) (pw px : Bool) :
    CallsH Try.prog 66 [.pointer (some ⟨q, 0, none⟩), .int .i64 p, .bool pw, .bool px] h fun v h' => v = .int .i64 (opProt A (decide (nT A < K)) p pw px).1 ∧ DS h' q pb fb n (opProt A (decide (nT A < K)) p pw px).2 K ∧ Fr (RF q pb fb) h h' := by
  apply warderref11_Space_Protect.calls
  unfold warderref11_Space_Protect.P
  refine (Rchange_spec w p (some (pw, px))).mono ?_
  rw [opC_prot]
  rintro v h1 ⟨rfl, h2, h3⟩
  exact ⟨_, rfl, rfl, h2, h3⟩
end
end Go.Proofs.Ytmldiibfmhkgjaa
