import Derived.Test.YtmldiibfmhkgjaaGb
namespace Go.Proofs.Ytmldiibfmhkgjaa
open Go Go.Wd
set_option linter.unusedVariables false
set_option linter.unusedSimpArgs false
set_option linter.unnecessarySimpa false

/-! ## frames and rights of pages -/
def lkT (A : Ab) (p : Nat) : Option Pg := tabOf (A (p / 64)) (p % 64)
theorem lkT_look (A : Ab) (p : Nat) : (lookN A p).map Prod.fst = lkT A p := by
  unfold lookN lkT
  cases hA : A (p / 64) with
  | no => rfl
  | bl f w x => rfl
  | tb g => cases hg : g (p % 64) <;> simp [tabOf, hg]
theorem look_lkT {A : Ab} {p : Nat} {q : Pg} (h : lkT A p = some q) : ∃ b, lookN A p = some (q, b) := by
  have := lkT_look A p
  rw [h] at this
  cases hl : lookN A p with
  | none => rw [hl] at this; cases this
  | some r =>
    rw [hl] at this
    simp only [Option.map_some, Option.some.injEq] at this
    exact ⟨r.2, by rw [← this]⟩
theorem lkT_is (A : Ab) (p : Nat) : (lkT A p).isSome = pgP A p := by
  unfold pgP
  rw [← lkT_look]
  cases lookN A p <;> rfl
/-- Two spaces tell the same pages, with the same frames and rights but of one. -/
structure Alike (A A' : Ab) (but : Int) : Prop where
  pg : ∀ p : Nat, p < 4096 → pgP A' p = pgP A p
  eq : ∀ p : Nat, p < 4096 → (p : Int) ≠ but → lkT A' p = lkT A p
theorem Alike.refl (A : Ab) (but : Int) : Alike A A but := ⟨fun _ _ => rfl, fun _ _ _ => rfl⟩
theorem Alike.of {A A' : Ab} {but : Int} (h : ∀ p : Nat, p < 4096 → lkT A' p = lkT A p) : Alike A A' but := ⟨fun p hp => by rw [← lkT_is, ← lkT_is, h p hp], fun p hp _ => h p hp⟩
theorem pages_mem {P : Nat → Bool} {k j : Nat} {x : Int} (h : (pagesL P k)[j]? = some x) : ∃ p : Nat, x = p ∧ p < k ∧ P p = true := by
  have hm := List.mem_of_getElem? h
  unfold pagesL at hm
  rw [List.mem_map] at hm
  obtain ⟨p, hp, rfl⟩ := hm
  rw [List.mem_filter, List.mem_range] at hp
  exact ⟨p, rfl, hp.1, hp.2⟩
def psL (A : Ab) : List Int := pagesL (pgP A) 4096
theorem psL_def (A : Ab) : pagesL (pgP A) 4096 = psL A := rfl
def oldL (A : Ab) : List Ent := (psL A).map fun p => lkE (lookA A p)
theorem oldL_len (A : Ab) : (oldL A).length = (psL A).length := by unfold oldL; rw [List.length_map]
theorem oldL_at {A : Ab} {j p : Nat} (h : (psL A)[j]? = some (p : Int)) (hp : p < 4096) : (oldL A)[j]? = some (lkE (lookN A p)) := by
  unfold oldL
  rw [List.getElem?_map, h]
  simp only [Option.map_some]
  rw [lookA_nat hp]
theorem psL_len (A : Ab) : (psL A).length ≤ 4096 := by
  unfold psL
  have := pages_len (pgP A) 4096
  exact this
section
variable {h0 h : Hp} {b : Nat} {y : Lay} {s : Sp} {A A' : Ab} {T : Nat → Nat}
/-- A look into a variable, in either order. -/
theorem look_orders {K : Hp → Prop} {x : Int} (w : Wo h0 h b y s) (v : Inv s A T) (hd : s.dead = false) (hK : ∀ h', Fr [] h h' → K h') {I : Nat → Nat → Bool → Hp → Prop}
    (hI : ∀ q h', bk h' q = some (blk 54 (lkE (lookA A x)).cells) → Fr [] h h' → I q 0 (lookA A x).isSome h') :
    (CallsH Try.prog 22 [.pointer (some ⟨y.q, 0, none⟩), .int .i64 x] h fun r17 h5 => ∃ Look18 : Bool, ∃ Look19 : Bool, ∃ Look20 : Bool, ∃ Look21 : Bool, ∃ Look22 : Int, ∃ Look23 : Bool, r17 = .tuple #[.agg #[.bool Look18, .bool Look19, .bool Look20, .bool Look21, .int .i64 Look22], .bool Look23] ∧
  ∀ h6 : Hp, h6 = new h5 (blk 54 [.bool false, .bool false, .bool false, .bool false, .int .i64 0]) → cellAt h6 b (0 + 3) = some (.pointer (some ⟨y.q, 0, none⟩)) ∧ K h6 ∧
  truly true ∧ ∃ T24 : TypeId, ∃ l25 : List Value, bk h6 (sz h5) = some (blk T24 l25) ∧ 0 + 5 ≤ l25.length ∧ ∀ h7 : Hp, h7 = upd h6 (sz h5) T24 (writeAt l25 0 [.bool Look18, .bool Look19, .bool Look20, .bool Look21, .int .i64 Look22]) →
  I (sz h5) 0 Look23 h7) ∧ (∀ h8 : Hp, h8 = new h (blk 54 [.bool false, .bool false, .bool false, .bool false, .int .i64 0]) → cellAt h8 b (0 + 3) = some (.pointer (some ⟨y.q, 0, none⟩)) ∧ K h8 ∧
  CallsH Try.prog 22 [.pointer (some ⟨y.q, 0, none⟩), .int .i64 x] h8 fun r26 h9 => ∃ Look27 : Bool, ∃ Look28 : Bool, ∃ Look29 : Bool, ∃ Look30 : Bool, ∃ Look31 : Int, ∃ Look32 : Bool, r26 = .tuple #[.agg #[.bool Look27, .bool Look28, .bool Look29, .bool Look30, .int .i64 Look31], .bool Look32] ∧
  truly true ∧ ∃ T33 : TypeId, ∃ l34 : List Value, bk h9 (sz h) = some (blk T33 l34) ∧ 0 + 5 ≤ l34.length ∧ ∀ h10 : Hp, h10 = upd h9 (sz h) T33 (writeAt l34 0 [.bool Look27, .bool Look28, .bool Look29, .bool Look30, .int .i64 Look31]) →
  I (sz h) 0 Look32 h10) := by
  refine ⟨?_, ?_⟩
  · refine (SLook_spec w.sp v hd x).mono ?_
    rintro r h5 ⟨rfl, f5⟩
    refine ⟨_, _, _, _, _, _, rfl, ?_⟩
    intro h6 e6
    have k6 : bk h6 (sz h5) = some (blk 54 noEnt.cells) := by rw [e6]; exact new_at _ _
    have f6 : Fr [] h5 h6 := by rw [e6]; exact Fr.new _ _ _
    clear e6
    have w6 := (w.fr0 f5).fr0 f6
    refine ⟨w6.csp, hK _ (f5.trans f6), truly_rfl, _, _, k6, Nat.le_of_ble_eq_true rfl, ?_⟩
    intro h7 e7
    exact hI _ _ (by rw [e7]; exact upd_same k6 _ _) ((f5.trans f6).later (by rw [e7]; exact Fr.upd (F := [sz h5]) (by simp) _ _ _) (by simpa using f5.size))
  · intro h8 e8
    have k8 : bk h8 (sz h) = some (blk 54 noEnt.cells) := by rw [e8]; exact new_at _ _
    have f8 : Fr [] h h8 := by rw [e8]; exact Fr.new _ _ _
    clear e8
    have w8 := w.fr0 f8
    refine ⟨w8.csp, hK _ f8, ?_⟩
    refine (SLook_spec w8.sp v hd x).mono ?_
    rintro r h9 ⟨rfl, f9⟩
    have k9 := f9.at k8 (by simp)
    refine ⟨_, _, _, _, _, _, rfl, truly_rfl, _, _, k9, Nat.le_of_ble_eq_true rfl, ?_⟩
    intro h10 e10
    exact hI _ _ (by rw [e10]; exact upd_same k9 _ _) ((f8.trans f9).later (by rw [e10]; exact Fr.upd (F := [sz h]) (by simp) _ _ _) (by simp))
theorem told_spec {but : Int} (w : Wo h0 h b y s) (v : Inv s A' T) (hd : s.dead = false) {la oa : Option Addr} {lc oc : Nat} (rl : rowAtK h la (encL iN (psL A))) (ro : rowAtK h oa (encL Ent.cells (oldL A))) (sm : Alike A A' but) :
    CallsH Try.prog 24 [.pointer (some ⟨b, 0, none⟩), .slice la (psL A).length lc, .slice oa (oldL A).length oc, .int .i64 but] h fun r h' => r = .bool true ∧ Fr [] h h' := by
  refine calls_k fun R hR => ?_
  apply warderlaw11_told.calls
  unfold warderlaw11_told.P
  have hps : pagesL (pgP A') 4096 = psL A := pages_cong 4096 sm.pg
  have hlen := psL_len A
  have holen := oldL_len A
  refine ⟨fun h' => Fr [] h h', ?_, ?_⟩
  · refine ⟨_, w.csp, ?_⟩
    refine (SPages_spec w.sp v hd).mono ?_
    rw [hps]
    rintro r h1 ⟨a, c, rfl, r1, _, f1⟩
    refine ⟨_, _, _, rfl, ?_⟩
    refine (Same_spec (A := psL A) (B := psL A) r1 (rl.fr f1 (by simp)) (by omega)).mono ?_
    rintro r h2 ⟨rfl, hh⟩
    rw [hh]; clear hh h2
    refine ⟨_, rfl, fun c => by simp at c, fun _ => ⟨fun c => ?_, fun _ => f1⟩⟩
    rw [holen] at c
    simp at c
  intro h3 f3
  have w3 := w.fr0 f3
  have hw : rowAtK h3 la (encL iN (psL A)) := rl.fr f3 (by simp)
  refine ⟨fun i h4 => ∃ j : Nat, i = (j : Int) ∧ j ≤ (psL A).length ∧ Fr [] h h4, fun i _ => (psL A).length - i.toNat, ⟨0, rfl, by omega, f3⟩, ?_⟩
  rintro i h4 ⟨j, rfl, hj, f4⟩
  refine ⟨fun c => ?_, fun c => hR _ _ ⟨rfl, f4⟩⟩
  have hj1 : j < (psL A).length := lt_cast c
  obtain ⟨x, hx⟩ : ∃ x, (psL A)[j]? = some x := ⟨_, List.getElem?_eq_getElem hj1⟩
  obtain ⟨p, rfl, hp, hpp⟩ := pages_mem hx
  have hold := oldL_at hx hp
  have w4 := w.fr0 f4
  obtain ⟨bl, ol, rfl, cl⟩ := rowN_cell (rl.fr f4 (by simp)) hx
  refine ⟨fun q o ok h11 => o = 0 ∧ ok = (lookA A' (p : Int)).isSome ∧ bk h11 q = some (blk 54 (lkE (lookA A' (p : Int))).cells) ∧ Fr [] h4 h11, ?_, ?_⟩
  · refine ⟨_, w4.csp, by omega, by omega, _, _, rfl, _, cl, ?_⟩
    refine look_orders (x := (p : Int)) (I := fun q o ok h11 => o = 0 ∧ ok = (lookA A' (p : Int)).isSome ∧ bk h11 q = some (blk 54 (lkE (lookA A' (p : Int))).cells) ∧ Fr [] h4 h11) (K := fun h' => cellAt h' bl (ol + ((j : Nat) : Int).toNat * 1) = some (.int .i64 (p : Int))) w4 v hd (fun h' f => f.cell cl (by simp)) ?_
    intro q h' hq f
    refine ⟨rfl, rfl, ?_, f⟩
    exact hq
  rintro q o ok h11 ⟨rfl, hok, hq, f11⟩
  rw [hok]; clear hok
  have hlk : lookA A' (p : Int) = lookN A' p := lookA_nat hp
  have hsome : (lookN A' p).isSome = true := by
    have := sm.pg p hp
    rw [hpp] at this
    exact this
  rw [hlk] at hq ⊢
  have f411 := f4.trans f11
  have step : (∃ j' : Nat, IntKind.wrap .i64 ((j : Int) + 1) = (j' : Int) ∧ j' ≤ (psL A).length ∧ Fr [] h h11) ∧ (psL A).length - (IntKind.wrap .i64 ((j : Int) + 1)).toNat < (psL A).length - ((j : Nat) : Int).toNat := by
    rw [wrapN hj1 (by omega)]
    exact ⟨⟨j + 1, rfl, hj1, f411⟩, decM hj1⟩
  refine ⟨fun c => (by rw [hsome] at c; cases c), fun _ => ⟨by omega, by omega, _, _, rfl, _, f11.cell cl (by simp), fun c => ?_, fun c => step⟩⟩
  have hne : (p : Int) ≠ but := by intro e; rw [e] at c; simp at c
  have hT := sm.eq p hp hne
  obtain ⟨qq, hqq⟩ : ∃ qq, lkT A' p = some qq := by
    have h1 := lkT_is A' p
    rw [sm.pg p hp, hpp] at h1
    exact Option.isSome_iff_exists.1 h1
  obtain ⟨b1, hl1⟩ := look_lkT hqq
  rw [hT] at hqq
  obtain ⟨b2, hl2⟩ := look_lkT hqq
  rw [hl1] at hq
  rw [hl2] at hold
  obtain ⟨bo, oo, rfl, eo⟩ := encL_one Ent.len (ro.fr f411 (by simp)) hold (by decide)
  have hjo : j < (oldL A).length := by rw [holen]; exact hj1
  have no : ∀ {P Q : Prop} {t : Bool}, t = false → P → (t = true → Q) ∧ (t = false → P) := fun ht hp => ⟨fun c => (by rw [ht] at c; cases c), fun _ => hp⟩
  refine ⟨_, (cellAt_of hq 4).trans rfl, by omega, by omega, _, _, rfl, _, by rw [Int.toNat_natCast]; exact (eo 4 (by decide)).trans rfl, no (by simp [lkE]) ?_⟩
  refine ⟨_, (cellAt_of hq 1).trans rfl, by omega, by omega, _, _, rfl, _, by rw [Int.toNat_natCast]; exact (eo 1 (by decide)).trans rfl, no (by simp [lkE, notIf]) ?_⟩
  exact ⟨_, (cellAt_of hq 2).trans rfl, by omega, by omega, _, _, rfl, _, by rw [Int.toNat_natCast]; exact (eo 2 (by decide)).trans rfl, no (by simp [lkE, notIf]) step⟩
end

/-! ## a block that is broken up, and merged -/
theorem split_bad {A : Ab} {free : Bool} {i : Int} (h : (opSplit A free i).1 ≠ 0) : (opSplit A free i).2 = A := by
  unfold opSplit at h ⊢
  split
  · rename_i c
    rw [if_pos c] at h
    split
    · rename_i f w x hA
      rw [hA] at h
      cases free with
      | true => exact absurd rfl h
      | false => rfl
    · rfl
  · rfl
theorem split_ok {A : Ab} {free : Bool} {i : Int} (h : (opSplit A free i).1 = 0) : ∃ (k f : Nat) (w x : Bool), i = k ∧ k < 64 ∧ A k = .bl f w x ∧ (opSplit A free i).2 = fset A k (.tb (tabOf (.bl f w x))) := by
  unfold opSplit at h ⊢
  by_cases c : isIn 64 i = true
  · rw [if_pos c] at h ⊢
    obtain ⟨k, rfl, hk⟩ := isIn_nat c
    rw [Int.toNat_natCast] at h ⊢
    cases hA : A k with
    | no => rw [hA] at h; exact absurd (show (12 : Int) = 0 from h) (by decide)
    | tb g => rw [hA] at h; exact absurd (show (12 : Int) = 0 from h) (by decide)
    | bl f w x =>
      rw [hA] at h
      refine ⟨k, f, w, x, rfl, hk, hA, ?_⟩
      by_cases hf : free = true
      · show (if free = true then _ else _ : Int × Ab).2 = _
        rw [if_pos hf]
      · have h : (if free = true then ((0 : Int), fset A k (.tb (tabOf (.bl f w x)))) else (15, A)).1 = 0 := h
        rw [if_neg hf] at h; exact absurd (show (15 : Int) = 0 from h) (by decide)
  · rw [if_neg c] at h; exact absurd (show (11 : Int) = 0 from h) (by decide)
theorem merge_split {A : Ab} {k f : Nat} {w x : Bool} (hk : k < 64) (hA : A k = .bl f w x) (hf : f % 64 = 0) : opMerge (fset A k (.tb (tabOf (.bl f w x)))) (k : Int) = (0, A) := by
  have hw : wholeB (tabOf (.bl f w x)) = some ⟨f, w, x⟩ := by
    rw [whole_good (g := tabOf (.bl f w x)) (p := ⟨f, w, x⟩) rfl (fun l _ => ⟨⟨f, w, x⟩, rfl, rfl⟩)]
    simp [hf]
  unfold opMerge
  rw [if_pos (in_nat hk), Int.toNat_natCast, fset_same]
  show (match wholeB (tabOf (.bl f w x)) with | some p => ((0 : Int), fset (fset A k (.tb (tabOf (.bl f w x)))) k (.bl p.f p.w p.x)) | none => (20, fset A k (.tb (tabOf (.bl f w x))))) = _
  rw [hw]
  show ((0 : Int), fset (fset A k (.tb (tabOf (.bl f w x)))) k (.bl f w x)) = _
  rw [fset_twice, ← hA, fset_id]
theorem split_alike {A : Ab} {k f : Nat} {w x : Bool} (hA : A k = .bl f w x) (but : Int) : Alike A (fset A k (.tb (tabOf (.bl f w x)))) but := by
  refine Alike.of (fun p _ => ?_)
  unfold lkT
  by_cases e : p / 64 = k
  · rw [e, fset_same, hA]; rfl
  · rw [fset_ne e]
theorem sub_none {A : Ab} {free : Bool} {p : Int} (h : (lookA A p).isSome = false) : subE A free p ≠ 0 := by
  unfold subE
  split
  · decide
  · cases hl : lookA A p with
    | none => simp
    | some q => rw [hl] at h; cases h
theorem prot_bad {A : Ab} {free : Bool} {p : Int} {w x : Bool} (h : (opProt A free p w x).1 ≠ 0) : (opProt A free p w x).2 = A := by
  unfold opProt at h ⊢
  split
  · rename_i c
    rw [if_pos c] at h; exact absurd rfl h
  · rfl
theorem prot_none {A : Ab} {free : Bool} {p : Int} {w x : Bool} (h : (lookA A p).isSome = false) : (opProt A free p w x).2 = A := by
  unfold opProt
  rw [if_neg (sub_none h)]
theorem prot_ok {A : Ab} {free : Bool} {p : Int} {w x : Bool} (h : (opProt A free p w x).1 = 0) : ∃ (k : Nat) (q : Pg), p = k ∧ k < 4096 ∧ lkT A k = some q ∧ lookN (opProt A free p w x).2 k = some (⟨q.f, w, x⟩, false) ∧ Alike A (opProt A free p w x).2 p := by
  unfold opProt at h ⊢
  by_cases c : subE A free p = 0
  · rw [if_pos c]
    have hin : isIn 4096 p = true := by
      cases hi : isIn 4096 p with
      | true => rfl
      | false =>
        unfold subE at c
        rw [hi] at c
        exact absurd (show (11 : Int) = 0 from c) (by decide)
    have hsome : (lookA A p).isSome = true := by
      cases hl : (lookA A p).isSome with
      | true => rfl
      | false => exact absurd c (sub_none hl)
    obtain ⟨k, rfl, hk⟩ := isIn_nat hin
    rw [lookA_nat hk] at hsome
    obtain ⟨q, hq⟩ := tab_look hsome
    refine ⟨k, q, rfl, hk, hq, ?_, ?_⟩
    · show lookN (fset A _ _) k = _
      rw [Int.toNat_natCast, look_set, fset_same, hq]; rfl
    · have hne : ∀ j, j < 4096 → lkT (fset A ((k : Int).toNat / 64) (.tb (fset (tabOf (A ((k : Int).toNat / 64))) ((k : Int).toNat % 64) ((tabOf (A ((k : Int).toNat / 64)) ((k : Int).toNat % 64)).map fun q => ⟨q.f, w, x⟩)))) j = if j = k then some ⟨q.f, w, x⟩ else lkT A j := by
        intro j hj
        rw [Int.toNat_natCast, hq]
        unfold lkT
        by_cases e : j / 64 = k / 64
        · rw [e, fset_same]
          show fset (tabOf (A (k / 64))) (k % 64) (some ⟨q.f, w, x⟩) (j % 64) = _
          by_cases e2 : j % 64 = k % 64
          · rw [e2, fset_same, if_pos (by omega)]
          · rw [fset_ne e2, if_neg (fun h => e2 (by rw [h])), ]
        · rw [fset_ne e, if_neg (fun h => e (by rw [h]))]
      refine ⟨fun j hj => ?_, fun j hj hjk => ?_⟩
      · rw [← lkT_is, ← lkT_is]
        show (lkT (fset A _ _) j).isSome = _
        rw [hne j hj]
        by_cases e : j = k
        · rw [if_pos e, e]
          unfold lkT
          rw [hq]; rfl
        · rw [if_neg e]
      · show lkT (fset A _ _) j = _
        rw [hne j hj, if_neg (fun e => hjk (by rw [e]))]
  · rw [if_neg c] at h
    exact absurd h c
end Go.Proofs.Ytmldiibfmhkgjaa
