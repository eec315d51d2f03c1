import Derived.Test.YtmldiibfmhkgjaaGa
namespace Go.Proofs.Ytmldiibfmhkgjaa
open Go Go.Wd
set_option linter.unusedVariables false
set_option linter.unusedSimpArgs false
set_option linter.unnecessarySimpa false

theorem page_addr {k : Nat} (hk : k < 4096) : shlV .u32 (IntKind.wrap .u32 (k : Int)) 8 = ((k * 256 : Nat) : Int) := by
  rw [wrapn_u32 k (by omega)]
  have := shl32 (a := k) (n := 8) (by omega)
  rw [show ((8 : Nat) : Int) = (8 : Int) from rfl] at this
  rw [this]
  congr 1
  omega
theorem Hit.put {h h2 : Hp} {b : Nat} {T : TypeId} {l : List Value} (x : Hit) (hb : bk h b = some (blk T l)) (hl : l.length = 6) (e : h2 = upd h b T (writeAt l 0 [.int .i64 x.fault, .int .i64 x.reads, .int .i64 x.frame, .bool x.write, .bool x.exec, .bool x.block])) : bk h2 b = some (blk T x.cells) := by
  rw [e]
  have hw : writeAt l 0 [.int .i64 x.fault, .int .i64 x.reads, .int .i64 x.frame, .bool x.write, .bool x.exec, .bool x.block] = x.cells := by
    rw [writeAt_eq _ _ _ (by simp; omega)]
    simp [hl, Hit.cells]
  rw [hw]; exact upd_same hb _ _
theorem walk_orders {h0 hh : Hp} {b v k : Nat} {y : Lay} {s : Sp} {c : Cl} (w : Wo h0 hh b y s) (kk : bk hh v = some (blk 24 c.cells)) (hp : c.page = (k : Int)) (hk : k < 4096) {I : Nat → Nat → Hp → Prop}
    (hI : ∀ q h', bk h' q = some (blk 40 (walkOf s.n s.B s.root (k * 256) 0).cells) → Fr [] hh h' → I q 0 h') :
    (∃ b42 : Nat, ∃ o43 : Nat, (some ⟨b, 0, none⟩ : Option Addr) = some ⟨b42, o43, none⟩ ∧ ∃ Mem44 : Option Addr, cellAt hh b42 o43 = some (.pointer Mem44) ∧
  ∃ b45 : Nat, ∃ o46 : Nat, (some ⟨b, 0, none⟩ : Option Addr) = some ⟨b45, o46, none⟩ ∧ ∃ Space47 : Option Addr, cellAt hh b45 (o46 + 3) = some (.pointer Space47) ∧ ∃ Page48 : Int, cellAt hh v 1 = some (.int .i64 Page48) ∧
  (0 : Int) ≤ 8 ∧ (CallsH Try.prog 16 [.pointer Space47] hh fun r49 h10 => ∃ Root50 : Int, r49 = .int .i64 Root50 ∧ cellAt h10 b42 o43 = some (.pointer Mem44) ∧ cellAt h10 v 1 = some (.int .i64 Page48) ∧
  (CallsH Try.prog 15 [.pointer Mem44, .int .i64 Root50, .int .u32 (shlV .u32 (IntKind.wrap .u32 Page48) 8), .int .i64 0] h10 fun r51 h11 => ∃ Walk52 : Int, ∃ Walk53 : Int, ∃ Walk54 : Int, ∃ Walk55 : Bool, ∃ Walk56 : Bool, ∃ Walk57 : Bool, r51 = .agg #[.int .i64 Walk52, .int .i64 Walk53, .int .i64 Walk54, .bool Walk55, .bool Walk56, .bool Walk57] ∧
  ∀ h12 : Hp, h12 = new h11 (blk 40 [.int .i64 0, .int .i64 0, .int .i64 0, .bool false, .bool false, .bool false]) → cellAt h12 b42 o43 = some (.pointer Mem44) ∧ cellAt h12 b45 (o46 + 3) = some (.pointer Space47) ∧
  cellAt h12 v 1 = some (.int .i64 Page48) ∧ truly true ∧ ∃ T58 : TypeId, ∃ l59 : List Value, bk h12 (sz h11) = some (blk T58 l59) ∧ 0 + 6 ≤ l59.length ∧ ∀ h13 : Hp, h13 = upd h12 (sz h11) T58 (writeAt l59 0 [.int .i64 Walk52, .int .i64 Walk53, .int .i64 Walk54, .bool Walk55, .bool Walk56, .bool Walk57]) →
  I (sz h11) 0 h13) ∧ (∀ h14 : Hp, h14 = new h10 (blk 40 [.int .i64 0, .int .i64 0, .int .i64 0, .bool false, .bool false, .bool false]) → cellAt h14 b42 o43 = some (.pointer Mem44) ∧ cellAt h14 b45 (o46 + 3) = some (.pointer Space47) ∧
  cellAt h14 v 1 = some (.int .i64 Page48) ∧ CallsH Try.prog 15 [.pointer Mem44, .int .i64 Root50, .int .u32 (shlV .u32 (IntKind.wrap .u32 Page48) 8), .int .i64 0] h14 fun r60 h15 => ∃ Walk61 : Int, ∃ Walk62 : Int, ∃ Walk63 : Int, ∃ Walk64 : Bool, ∃ Walk65 : Bool, ∃ Walk66 : Bool, r60 = .agg #[.int .i64 Walk61, .int .i64 Walk62, .int .i64 Walk63, .bool Walk64, .bool Walk65, .bool Walk66] ∧
  truly true ∧ ∃ T67 : TypeId, ∃ l68 : List Value, bk h15 (sz h10) = some (blk T67 l68) ∧ 0 + 6 ≤ l68.length ∧ ∀ h16 : Hp, h16 = upd h15 (sz h10) T67 (writeAt l68 0 [.int .i64 Walk61, .int .i64 Walk62, .int .i64 Walk63, .bool Walk64, .bool Walk65, .bool Walk66]) →
  I (sz h10) 0 h16)) ∧ (∀ h17 : Hp, h17 = new hh (blk 40 [.int .i64 0, .int .i64 0, .int .i64 0, .bool false, .bool false, .bool false]) → cellAt h17 b42 o43 = some (.pointer Mem44) ∧ cellAt h17 b45 (o46 + 3) = some (.pointer Space47) ∧
  cellAt h17 v 1 = some (.int .i64 Page48) ∧ CallsH Try.prog 16 [.pointer Space47] h17 fun r69 h18 => ∃ Root70 : Int, r69 = .int .i64 Root70 ∧ cellAt h18 b42 o43 = some (.pointer Mem44) ∧ cellAt h18 v 1 = some (.int .i64 Page48) ∧
  CallsH Try.prog 15 [.pointer Mem44, .int .i64 Root70, .int .u32 (shlV .u32 (IntKind.wrap .u32 Page48) 8), .int .i64 0] h18 fun r71 h19 => ∃ Walk72 : Int, ∃ Walk73 : Int, ∃ Walk74 : Int, ∃ Walk75 : Bool, ∃ Walk76 : Bool, ∃ Walk77 : Bool, r71 = .agg #[.int .i64 Walk72, .int .i64 Walk73, .int .i64 Walk74, .bool Walk75, .bool Walk76, .bool Walk77] ∧
  truly true ∧ ∃ T78 : TypeId, ∃ l79 : List Value, bk h19 (sz hh) = some (blk T78 l79) ∧ 0 + 6 ≤ l79.length ∧ ∀ h20 : Hp, h20 = upd h19 (sz hh) T78 (writeAt l79 0 [.int .i64 Walk72, .int .i64 Walk73, .int .i64 Walk74, .bool Walk75, .bool Walk76, .bool Walk77]) →
  I (sz hh) 0 h20)) := by
  generalize hW : walkOf s.n s.B s.root (k * 256) 0 = W at hI
  have c1 : cellAt hh v 1 = some (.int .i64 (k : Int)) := by rw [← hp]; exact (cellAt_of kk 1).trans rfl
  have wm := w.cmem
  have ws := w.csp
  have hz : bk (new hh (blk 40 noHit.cells)) (sz hh) = some (blk 40 noHit.cells) := new_at _ _
  refine ⟨_, _, rfl, _, wm, _, _, rfl, _, ws, _, c1, by decide, ?_, ?_⟩
  · refine (Root_spec w.sp).mono ?_
    rintro r h10 ⟨rfl, e⟩
    rw [e]; clear e h10
    refine ⟨_, rfl, wm, c1, ?_, ?_⟩
    · rw [page_addr hk]
      refine (Walk_spec w.sp.g.m s.root (a := k * 256) (by omega) 0).mono ?_
      rw [hW]
      rintro r h11 ⟨rfl, f11⟩
      refine ⟨_, _, _, _, _, _, rfl, ?_⟩
      intro h12 e12
      have k12 : bk h12 (sz h11) = some (blk 40 noHit.cells) := by rw [e12]; exact new_at _ _
      have f12 : Fr [] h11 h12 := by rw [e12]; exact Fr.new _ _ _
      clear e12
      have g12 := f11.trans f12
      have w12 := w.fr0 g12
      refine ⟨w12.cmem, w12.csp, g12.cell c1 (by simp), truly_rfl, _, _, k12, Nat.le_of_ble_eq_true rfl, ?_⟩
      intro h13 e13
      refine hI _ _ (Hit.put W k12 rfl e13) (g12.later (by rw [e13]; exact Fr.upd (F := [sz h11]) (by simp) _ _ _) (by simpa using f11.size))
    · intro h14 e14
      have k14 : bk h14 (sz hh) = some (blk 40 noHit.cells) := by rw [e14]; exact new_at _ _
      have f14 : Fr [] hh h14 := by rw [e14]; exact Fr.new _ _ _
      clear e14
      have w14 := w.fr0 f14
      refine ⟨w14.cmem, w14.csp, f14.cell c1 (by simp), ?_⟩
      rw [page_addr hk]
      refine (Walk_spec w14.sp.g.m s.root (a := k * 256) (by omega) 0).mono ?_
      rw [hW]
      rintro r h15 ⟨rfl, f15⟩
      refine ⟨_, _, _, _, _, _, rfl, truly_rfl, _, _, f15.at k14 (by simp), Nat.le_of_ble_eq_true rfl, ?_⟩
      intro h16 e16
      exact hI _ _ (Hit.put W (f15.at k14 (by simp)) rfl e16) ((f14.trans f15).later (by rw [e16]; exact Fr.upd (F := [sz hh]) (by simp) _ _ _) (by simp))
  · intro h17 e17
    have k17 : bk h17 (sz hh) = some (blk 40 noHit.cells) := by rw [e17]; exact new_at _ _
    have f17 : Fr [] hh h17 := by rw [e17]; exact Fr.new _ _ _
    clear e17
    have w17 := w.fr0 f17
    refine ⟨w17.cmem, w17.csp, f17.cell c1 (by simp), ?_⟩
    refine (Root_spec w17.sp).mono ?_
    rintro r h18 ⟨rfl, e⟩
    rw [e]; clear e h18
    refine ⟨_, rfl, w17.cmem, f17.cell c1 (by simp), ?_⟩
    rw [page_addr hk]
    refine (Walk_spec w17.sp.g.m s.root (a := k * 256) (by omega) 0).mono ?_
    rw [hW]
    rintro r h19 ⟨rfl, f19⟩
    refine ⟨_, _, _, _, _, _, rfl, truly_rfl, _, _, f19.at k17 (by simp), Nat.le_of_ble_eq_true rfl, ?_⟩
    intro h20 e20
    exact hI _ _ (Hit.put W (f19.at k17 (by simp)) rfl e20) ((f17.trans f19).later (by rw [e20]; exact Fr.upd (F := [sz hh]) (by simp) _ _ _) (by simp))

/-! ## a page that is mapped, and unmapped -/
theorem map_cases {A : Ab} {n : Nat} {free : Bool} {p f : Int} {w x : Bool} (h : (opMap A n free p f w x).1 = 0) :
    ∃ k fn : Nat, p = k ∧ k < 4096 ∧ f = fn ∧ fn < n ∧ (lookN A k).isSome = false ∧ (opMap A n free p f w x).2 = fset A (k / 64) (.tb (fset (tabOf (A (k / 64))) (k % 64) (some ⟨fn, w, x⟩))) := by
  unfold opMap at h ⊢
  by_cases c : (isIn 4096 p && isIn n f) = true
  · rw [if_pos c] at h ⊢
    rw [Bool.and_eq_true] at c
    obtain ⟨k, rfl, hk⟩ := isIn_nat c.1
    obtain ⟨fn, rfl, hf⟩ := isIn_nat c.2
    refine ⟨k, fn, rfl, hk, rfl, hf, ?_⟩
    rw [lookA_nat hk] at h ⊢
    cases hl : (lookN A k).isSome with
    | true => rw [hl] at h; exact absurd (show (13 : Int) = 0 from h) (by decide)
    | false =>
      rw [hl] at h
      refine ⟨rfl, ?_⟩
      rw [if_neg (by decide)] at h ⊢
      by_cases c2 : ((A ((k : Int).toNat / 64)).isT || free) = true
      · rw [if_pos c2]
        rw [Int.toNat_natCast]; rfl
      · rw [if_neg c2] at h; exact absurd (show (15 : Int) = 0 from h) (by decide)
  · rw [if_neg c] at h; exact absurd (show (11 : Int) = 0 from h) (by decide)
theorem look_set {A : Ab} {k : Nat} {g : Nat → Option Pg} : lookN (fset A (k / 64) (.tb g)) k = (g (k % 64)).map fun q => (q, false) := by
  unfold lookN
  rw [fset_same]
theorem map_look {A : Ab} {n : Nat} {free : Bool} {p f : Int} {w x : Bool} (h : (opMap A n free p f w x).1 = 0) :
    ∃ k fn : Nat, p = k ∧ k < 4096 ∧ f = fn ∧ lookN (opMap A n free p f w x).2 k = some (⟨fn, w, x⟩, false) := by
  obtain ⟨k, fn, h1, h2, h3, _, _, h4⟩ := map_cases h
  refine ⟨k, fn, h1, h2, h3, ?_⟩
  rw [h4, look_set, fset_same]; rfl
theorem sub_look {A : Ab} {free : Bool} {k : Nat} (hk : k < 4096) {q : Pg} (h : lookN A k = some (q, false)) : subE A free (k : Int) = 0 := by
  unfold subE
  rw [in_nat hk, lookA_nat hk, h]; rfl
theorem unmap_map {A : Ab} (ne : NE A) {n : Nat} {free free' : Bool} {p f : Int} {w x : Bool} (h : (opMap A n free p f w x).1 = 0) :
    ∃ k : Nat, p = k ∧ k < 4096 ∧ (opUnmap (opMap A n free p f w x).2 free' p).1 = 0 ∧ lookN (opUnmap (opMap A n free p f w x).2 free' p).2 k = none ∧ nT (opUnmap (opMap A n free p f w x).2 free' p).2 = nT A := by
  obtain ⟨k, fn, rfl, hk, rfl, _, hno, h4⟩ := map_cases h
  obtain ⟨hi, hj⟩ := p_idx hk
  refine ⟨k, rfl, hk, ?_⟩
  rw [h4]
  generalize hB : fset A (k / 64) (.tb (fset (tabOf (A (k / 64))) (k % 64) (some ⟨fn, w, x⟩))) = B
  have hl : lookN B k = some (⟨fn, w, x⟩, false) := by rw [← hB, look_set, fset_same]; rfl
  have hs := sub_look (free := free') hk hl
  have hBi : tabOf (B (k / 64)) = fset (tabOf (A (k / 64))) (k % 64) (some ⟨fn, w, x⟩) := by rw [← hB, fset_same]; rfl
  have hop : opUnmap B free' (k : Int) = (0, fset B (k / 64) (if emp (fset (tabOf (A (k / 64))) (k % 64) none) then .no else .tb (fset (tabOf (A (k / 64))) (k % 64) none))) := by
    unfold opUnmap
    rw [if_pos hs, Int.toNat_natCast, hBi, fset_twice]
  rw [hop]
  refine ⟨rfl, ?_, ?_⟩
  · show lookN (fset B _ _) k = none
    unfold lookN
    rw [fset_same]
    split
    · rfl
    · rename_i e; split at e <;> cases e
    · rename_i g e
      split at e
      · cases e
      · cases e
        rw [fset_same]; rfl
  · show nT (fset B _ _) = nT A
    rw [← hB, fset_twice]
    have hnt := fun a => nT_fset A hi a
    cases hA : A (k / 64) with
    | no =>
      have he : emp (fset (tabOf .no) (k % 64) none) = true := emp_iff.2 (fun l _ => by unfold fset; split <;> rfl)
      rw [if_pos he]
      have := hnt .no
      rw [hA] at this
      simp at this
      exact this
    | bl f' w' x' => unfold lookN at hno; rw [hA] at hno; cases hno
    | tb g =>
      have hg : g (k % 64) = none := by
        unfold lookN at hno
        rw [hA] at hno
        cases hg : g (k % 64) with
        | none => rfl
        | some q => simp [hg] at hno
      have he : fset (tabOf (.tb g)) (k % 64) none = g := by
        have := fset_id g (k % 64)
        rw [hg] at this; exact this
      rw [he]
      have : emp g = false := by
        cases hem : emp g with
        | false => rfl
        | true =>
          obtain ⟨l, hl1, hl2⟩ := ne _ hi g hA
          exact absurd (emp_iff.1 hem l hl1) hl2
      rw [this, if_neg (by decide), ← hA, fset_id]
theorem Walks_walk {h : Hp} (n a : Int) {ra : Option Addr} {calls : List Cl} {rc : Nat} (row : rowAtK h ra (encL Cl.cells calls)) (c : Cl) :
    CallsH Try.prog 3 [.int .i64 n, .int .i64 a, .slice ra calls.length rc, .agg ⟨c.cells⟩] h fun v h' => v = .bool true ∧ Fr [] h h' := by
  refine calls_k fun R hR => ?_
  apply warderlaw11_StageWalks.calls
  unfold warderlaw11_StageWalks.P
  intro h1 e1
  have k1 : bk h1 (sz h) = some (blk 24 c.cells) := by rw [e1]; exact new_at _ _
  have f1 : Fr [] h h1 := by rw [e1]; exact Fr.new _ _ _
  clear e1
  refine alive_spec.mono ?_
  rintro v h2 ⟨rfl, f2⟩
  refine ⟨_, rfl, fun c => (by cases c), fun _ => ?_⟩
  refine (great_spec n a _ _ _).mono ?_
  rintro v h3 ⟨rfl, hh⟩
  rw [hh]; clear hh h3
  refine ⟨_, rfl, fun _ => hR _ _ ⟨rfl, f1.trans f2⟩, fun cg => ?_⟩
  obtain ⟨m, k, rfl, rfl, hm1, hm, hk, hl⟩ := great_no11 cg
  refine (Begin_spec hm1 hm hk).mono ?_
  rintro v h4 ⟨b, y, s, rfl, w4, i4⟩
  have w4 := w4.back f2
  refine ⟨_, rfl, fun c => absurd c (by simp [notIf]), fun _ => ?_⟩
  refine do_loop w4 i4.lv hl (row.fr f1 (by simp)) ?_
  intro h5 s1 A T w5 l5
  have cc := fun {h' : Hp} (f : Fr [] h1 h') => f.at k1 (by simp)
  refine ⟨_, _, rfl, _, w5.csp, ?_⟩
  refine (Tables_spec w5.sp l5.inv l5.de).mono ?_
  rintro v h7 ⟨rfl, f7⟩
  have w7 := w5.fr0 f7
  have k7 := cc w7.fr
  refine ⟨_, rfl, _, _, rfl, _, w7.csp, _, (cellAt_of k7 1).trans rfl, _, (cellAt_of k7 2).trans rfl, _, (cellAt_of k7 3).trans rfl, _, (cellAt_of k7 4).trans rfl, ?_⟩
  refine (Map_spec w7.sp l5.hv c.page c.frame c.w c.x).mono ?_
  rintro v h8 ⟨e, s2, rfl, p8, f8, r8⟩
  have w8 := w7.go p8 (.ofF f8)
  have k8 := cc w8.fr
  obtain ⟨he, _, hbad, T2, l8⟩ := l5.step r8
  refine ⟨_, rfl, fun c1 => ?_, fun c1 => ?_⟩
  · have he0 : e ≠ 0 := by intro h0; rw [h0] at c1; simp at c1
    have hs2 := hbad he0
    refine ⟨_, _, rfl, _, w8.csp, ?_⟩
    refine (Tables_spec w8.sp l8.inv l8.de).mono ?_
    rintro v h9 ⟨rfl, f9⟩
    have hnt : nT (opMap A s1.n (freeB s1) c.page c.frame c.w c.x).2 = nT A := by
      have e1 := l8.c0
      have e2 := l5.c0
      rw [hs2] at e1
      have e1 : s1.L.count 0 + nT (opMap A s1.n (freeB s1) c.page c.frame c.w c.x).2 = m - k - 1 := e1
      omega
    rw [hnt]
    exact ⟨_, rfl, hR _ _ ⟨by simp, f1.trans (w8.fr0 f9).fr⟩⟩
  have he0 : e = 0 := by simpa using c1
  rw [he0] at he
  obtain ⟨k', fn, hp, hk', hf, hlook⟩ := map_look he.symm
  obtain ⟨k2, hp2, _, hu1, hu2, hu3⟩ := unmap_map l5.ne (free' := freeB s2) he.symm
  have hkk : k2 = k' := by rw [hp] at hp2; omega
  subst hkk
  obtain ⟨r1, hw1⟩ := (walk_inv l8.inv hk').1 _ _ hlook
  refine ⟨fun q o h21 => o = 0 ∧ bk h21 q = some (blk 40 (walkOf s2.n s2.B s2.root (k2 * 256) 0).cells) ∧ Wo h1 h21 b y s2, ?_, ?_⟩
  · refine walk_orders (I := fun q o h21 => o = 0 ∧ bk h21 q = some (blk 40 (walkOf s2.n s2.B s2.root (k2 * 256) 0).cells) ∧ Wo h1 h21 b y s2) w8 k8 hp hk' ?_
    exact fun q h' hq f => ⟨rfl, hq, w8.fr0 f⟩
  rintro q o h21 ⟨rfl, hq, w21⟩
  rw [hw1] at hq
  have k21 := cc w21.fr
  have no : ∀ {P Q : Prop} {t : Bool}, t = false → P → (t = true → Q) ∧ (t = false → P) := fun ht hp => ⟨fun c => (by rw [ht] at c; cases c), fun _ => hp⟩
  refine ⟨fun h' => h' = h21, ?_, ?_⟩
  · refine ⟨_, (cellAt_of hq 0).trans rfl, no rfl ⟨_, (cellAt_of hq 2).trans rfl, _, (cellAt_of k21 2).trans rfl, no (by rw [hf]; simp) ⟨_, (cellAt_of hq 3).trans rfl, _, (cellAt_of k21 3).trans rfl, no (by simp [notIf]) ⟨_, (cellAt_of hq 4).trans rfl, _, (cellAt_of k21 4).trans rfl, no (by simp [notIf]) ⟨_, (cellAt_of hq 5).trans rfl, no rfl rfl⟩⟩⟩⟩⟩
  rintro h22 hh
  rw [hh]; clear hh h22
  refine ⟨_, _, rfl, _, w21.csp, _, (cellAt_of k21 1).trans rfl, ?_⟩
  refine (Unmap_spec w21.sp l8.hv c.page).mono ?_
  rintro v h23 ⟨e3, s3, rfl, p23, f23, r23⟩
  have w23 := w21.go p23 (.ofF f23)
  have k23 := cc w23.fr
  obtain ⟨he3, _, _, T3, l23⟩ := l8.step r23
  rw [hu1] at he3
  subst he3
  refine ⟨_, rfl, no rfl ?_⟩
  refine ⟨fun q o h35 => o = 0 ∧ bk h35 q = some (blk 40 (walkOf s3.n s3.B s3.root (k2 * 256) 0).cells) ∧ Wo h1 h35 b y s3, ?_, ?_⟩
  · refine walk_orders (I := fun q o h35 => o = 0 ∧ bk h35 q = some (blk 40 (walkOf s3.n s3.B s3.root (k2 * 256) 0).cells) ∧ Wo h1 h35 b y s3) w23 k23 hp hk' ?_
    exact fun q h' hq f => ⟨rfl, hq, w23.fr0 f⟩
  rintro q o h35 ⟨rfl, hq, w35⟩
  have hfault := (walk_inv l23.inv hk').2 hu2
  refine ⟨_, (cellAt_of hq 0).trans rfl, fun _ => ?_, fun c => absurd (by simpa using c) hfault⟩
  refine ⟨_, _, rfl, _, w35.csp, ?_⟩
  refine (Tables_spec w35.sp l23.inv l23.de).mono ?_
  rw [hu3]
  rintro v h36 ⟨rfl, f36⟩
  exact ⟨_, rfl, hR _ _ ⟨by simp, f1.trans (w35.fr0 f36).fr⟩⟩
end Go.Proofs.Ytmldiibfmhkgjaa
