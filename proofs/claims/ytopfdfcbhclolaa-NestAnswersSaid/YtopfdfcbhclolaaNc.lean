import Derived.Test.YtopfdfcbhclolaaNb
namespace Go.Proofs.Ytopfdfcbhclolaa
open Go Go.Wd
set_option linter.unusedVariables false
set_option linter.unusedSimpArgs false

theorem pageOf_spec {h : Hp} {a : Nat} (ha : a < 1048576) : CallsH Try.prog 51 [.int .u32 a] h fun v h' => v = .int .i64 ((a / 256 : Nat) : Int) ∧ h' = h := by
  apply entry_PageOf.calls
  unfold entry_PageOf.P
  refine (field_spec a 8 12 (by omega) (by omega) (by omega)).mono ?_
  rintro v h' ⟨rfl, rfl⟩
  refine ⟨_, rfl, ?_, rfl⟩
  congr 1
  rw [wrapS (by omega) (by omega)]
  omega
theorem offset_spec {h : Hp} {a : Nat} (ha : a < 4294967296) : CallsH Try.prog 53 [.int .u32 a] h fun v h' => v = .int .i64 ((a % 256 : Nat) : Int) ∧ h' = h := by
  apply entry_Offset.calls
  unfold entry_Offset.P
  refine (field_spec a 0 8 (by omega) (by omega) (by omega)).mono ?_
  rintro v h' ⟨rfl, rfl⟩
  refine ⟨_, rfl, ?_, rfl⟩
  congr 1
  rw [wrapS (by omega) (by omega)]
  omega
theorem both_spec {h : Hp} (a b : Ent) : CallsH Try.prog 55 [.agg ⟨a.cells⟩, .agg ⟨b.cells⟩] h fun v h' => v = .agg ⟨(both a b).cells⟩ ∧ Fr [] h h' := by
  refine calls_k fun R hR => ?_
  apply entry_Both.calls
  unfold entry_Both.P
  intro h1 e1
  have k1 : bk h1 (sz h) = some (blk 41 a.cells) := by rw [e1]; exact new_at _ _
  have f1 : Fr [] h h1 := by rw [e1]; exact Fr.new _ _ _
  have s1 : sz h1 = sz h + 1 := by rw [e1]; exact sz_new _ _
  clear e1
  intro h2 e2
  have k2 : bk h2 (sz h1) = some (blk 41 b.cells) := by rw [e2]; exact new_at _ _
  have f2 : Fr [] h1 h2 := by rw [e2]; exact Fr.new _ _ _
  have s2 : sz h2 = sz h1 + 1 := by rw [e2]; exact sz_new _ _
  clear e2
  intro h3 e3
  have k3 : bk h3 (sz h2) = some (blk 41 noEnt.cells) := by rw [e3]; exact new_at _ _
  have f3 : Fr [] h2 h3 := by rw [e3]; exact Fr.new _ _ _
  clear e3
  have k1 := (f2.trans f3).at k1 (by simp)
  have k2 := f3.at k2 (by simp)
  have fr := (f1.trans f2).trans f3
  have fin : ∀ (e : Ent) (T : TypeId), both a b = e → R (.agg #[.bool e.v, .bool e.w, .bool e.x, .bool e.b, .int .i64 e.f]) (upd h3 (sz h2) T (Ent.mk e.v e.w e.x e.b e.f).cells) := by
    intro e T he
    rw [he] at hR
    exact hR _ _ ⟨rfl, fr.later (Fr.upd (F := [sz h2]) (by simp) _ _ _) (by simp; omega)⟩
  have hb : both a b = if a.v && b.v then ⟨true, a.w && b.w, a.x && b.x, false, b.f⟩ else noEnt := rfl
  refine ⟨fun h6 => h6 = h3 ∧ a.v = true ∧ b.v = true, ⟨_, (cellAt_of k1 0).trans rfl, fun c => ?_, fun c => ⟨_, (cellAt_of k2 0).trans rfl, fun c2 => ?_, fun c2 => ⟨rfl, by simpa using c, by simpa using c2⟩⟩⟩, ?_⟩
  · have c : a.v = false := by simpa using c
    refine Ent.ret k3 rfl _ _ _ _ _ ?_
    exact fin noEnt _ (by rw [hb, c]; rfl)
  · have c2 : b.v = false := by simpa using c2
    refine Ent.ret k3 rfl _ _ _ _ _ ?_
    exact fin noEnt _ (by rw [hb, c2, Bool.and_false]; rfl)
  rintro h6 ⟨rfl, c1, c2⟩
  have hb := hb.trans (if_pos (by rw [c1, c2]; rfl))
  refine ⟨_, (cellAt_of k1 1).trans rfl, fun c3 => ⟨_, (cellAt_of k2 1).trans rfl, _, (cellAt_of k1 2).trans rfl, fun c4 => ⟨_, (cellAt_of k2 2).trans rfl, _, (cellAt_of k2 4).trans rfl, ?_⟩, fun c4 => ⟨_, (cellAt_of k2 4).trans rfl, ?_⟩⟩,
    fun c3 => ⟨_, (cellAt_of k1 2).trans rfl, fun c4 => ⟨_, (cellAt_of k2 2).trans rfl, _, (cellAt_of k2 4).trans rfl, ?_⟩, fun c4 => ⟨_, (cellAt_of k2 4).trans rfl, ?_⟩⟩⟩
  · refine Ent.ret k3 rfl _ _ _ _ _ ?_
    exact fin ⟨true, b.w, b.x, false, b.f⟩ _ (by rw [hb, c3, c4, Bool.true_and, Bool.true_and])
  · refine Ent.ret k3 rfl _ _ _ _ _ ?_
    exact fin ⟨true, b.w, false, false, b.f⟩ _ (by rw [hb, c3, c4, Bool.true_and, Bool.false_and])
  · refine Ent.ret k3 rfl _ _ _ _ _ ?_
    exact fin ⟨true, false, b.x, false, b.f⟩ _ (by rw [hb, c3, c4, Bool.true_and, Bool.false_and])
  · refine Ent.ret k3 rfl _ _ _ _ _ ?_
    exact fin ⟨true, false, false, false, b.f⟩ _ (by rw [hb, c3, c4, Bool.false_and, Bool.false_and])
def noTl : Tl := ⟨0, 0, 0, false, 0, 0, 0, false, false⟩
theorem Tl.ret {h : Hp} {b : Nat} {T : TypeId} {l0 : List Value} (hb : bk h b = some (blk T l0)) (hl : l0.length = 9) (x : Tl) {K : Int → Int → Int → Bool → Int → Int → Int → Bool → Bool → Hp → Prop} (hK : K x.st x.kd x.fa x.tb x.rd x.pg x.ad x.wr x.ex (upd h b T x.cells)) :
    truly true ∧ ∃ T1 : TypeId, ∃ l : List Value, bk h b = some (blk T1 l) ∧ 0 + 9 ≤ l.length ∧ ∀ h4 : Hp, h4 = upd h b T1 (writeAt l 0 [.int .i64 x.st, .int .i64 x.kd, .int .u32 x.fa, .bool x.tb, .int .i64 x.rd, .int .i64 x.pg, .int .u32 x.ad, .bool x.wr, .bool x.ex]) →
      ∃ a1 : Int, cellAt h4 b (0 + 0) = some (.int .i64 a1) ∧ ∃ a2 : Int, cellAt h4 b (0 + 1) = some (.int .i64 a2) ∧ ∃ a3 : Int, cellAt h4 b (0 + 2) = some (.int .u32 a3) ∧ ∃ a4 : Bool, cellAt h4 b (0 + 3) = some (.bool a4) ∧ ∃ a5 : Int, cellAt h4 b (0 + 4) = some (.int .i64 a5) ∧
      ∃ a6 : Int, cellAt h4 b (0 + 5) = some (.int .i64 a6) ∧ ∃ a7 : Int, cellAt h4 b (0 + 6) = some (.int .u32 a7) ∧ ∃ a8 : Bool, cellAt h4 b (0 + 7) = some (.bool a8) ∧ ∃ a9 : Bool, cellAt h4 b (0 + 8) = some (.bool a9) ∧ K a1 a2 a3 a4 a5 a6 a7 a8 a9 h4 := by
  refine ⟨rfl, T, l0, hb, by omega, ?_⟩
  rintro h4 rfl
  have hw : writeAt l0 0 [.int .i64 x.st, .int .i64 x.kd, .int .u32 x.fa, .bool x.tb, .int .i64 x.rd, .int .i64 x.pg, .int .u32 x.ad, .bool x.wr, .bool x.ex] = x.cells := by
    rw [writeAt_eq _ _ _ (by rw [hl]; exact Nat.le_refl _)]
    have : l0.drop (0 + 9) = [] := List.drop_eq_nil_of_le (by omega)
    simp only [List.take_zero, List.nil_append, List.length_cons, List.length_nil, Nat.zero_add, Nat.reduceAdd] at this ⊢
    rw [this, List.append_nil]; rfl
  rw [hw]
  exact ⟨_, (cell_upd hb _ _ _).trans rfl, _, (cell_upd hb _ _ _).trans rfl, _, (cell_upd hb _ _ _).trans rfl, _, (cell_upd hb _ _ _).trans rfl, _, (cell_upd hb _ _ _).trans rfl, _, (cell_upd hb _ _ _).trans rfl, _, (cell_upd hb _ _ _).trans rfl, _, (cell_upd hb _ _ _).trans rfl, _, (cell_upd hb _ _ _).trans rfl, hK⟩
theorem Tl.rd' {h : Hp} {b : Nat} {T : TypeId} (x : Tl) (hb : bk h b = some (blk T x.cells)) {K : Int → Int → Int → Bool → Int → Int → Int → Bool → Bool → Prop} (hK : K x.st x.kd x.fa x.tb x.rd x.pg x.ad x.wr x.ex) :
      ∃ a1 : Int, cellAt h b (0 + 0) = some (.int .i64 a1) ∧ ∃ a2 : Int, cellAt h b (0 + 1) = some (.int .i64 a2) ∧ ∃ a3 : Int, cellAt h b (0 + 2) = some (.int .u32 a3) ∧ ∃ a4 : Bool, cellAt h b (0 + 3) = some (.bool a4) ∧ ∃ a5 : Int, cellAt h b (0 + 4) = some (.int .i64 a5) ∧
      ∃ a6 : Int, cellAt h b (0 + 5) = some (.int .i64 a6) ∧ ∃ a7 : Int, cellAt h b (0 + 6) = some (.int .u32 a7) ∧ ∃ a8 : Bool, cellAt h b (0 + 7) = some (.bool a8) ∧ ∃ a9 : Bool, cellAt h b (0 + 8) = some (.bool a9) ∧ K a1 a2 a3 a4 a5 a6 a7 a8 a9 :=
  ⟨_, (cellAt_of hb _).trans rfl, _, (cellAt_of hb _).trans rfl, _, (cellAt_of hb _).trans rfl, _, (cellAt_of hb _).trans rfl, _, (cellAt_of hb _).trans rfl, _, (cellAt_of hb _).trans rfl, _, (cellAt_of hb _).trans rfl, _, (cellAt_of hb _).trans rfl, _, (cellAt_of hb _).trans rfl, hK⟩
/-- The page that the guest's tables tell. -/
theorem own_le {n : Nat} {B : List Nat} {tab : Int} {va root : Nat} {r r' : Int} {x : Ent × Int} (h : ownR n B tab va root r = .ok x r') : r ≤ r' ∧ r' ≤ r + 4 ∧ 0 ≤ x.2 ∧ x.2 < 70000 ∧ x.1.v = true := by
  unfold ownR at h
  cases hm : entR n B tab va ((root / 256 : Nat) : Int) (va / 16384 % 64) r with
  | bad st kd ad tb r1 => rw [hm] at h; cases h
  | ok e r1 =>
    rw [hm] at h
    have h1 := ent_le hm
    simp only [Rs.bind] at h
    split at h
    · cases h
    · rename_i hv
      split at h
      · cases h
        exact ⟨by omega, by omega, by simp only; omega, by simp only; omega, by simpa using hv⟩
      · cases hm2 : entR n B tab va e.f (va / 256 % 64) r1 with
        | bad st kd ad tb r1 => rw [hm2] at h; cases h
        | ok g r2 =>
          rw [hm2] at h
          have h2 := ent_le hm2
          simp only at h
          split at h
          · cases h
          · rename_i hv2
            cases h
            exact ⟨by omega, by omega, h2.2.2.1, by have := h2.2.2.2; simp only; omega, by simpa using hv2⟩
set_option maxHeartbeats 1000000 in
theorem told_spec {h : Hp} {q fb n : Nat} {B : List Nat} (ms : MS h q fb n B) {W : Nat} (hq : W ≠ q) (hfb : W ≠ fb) {tab : Int} {va : Nat} (hva : va < 4294967296) (w : WS h W q tab va 0) {root : Nat} (hroot : root < 4294967296) (acc : Int) :
    CallsX Try.prog 31 [.pointer (some ⟨W, 0, none⟩), .int .u32 root, .int .i64 acc] h (Good h W q tab va (toldR n B tab va root acc 0) fun x => .agg ⟨x.cells⟩) (Bad h W q tab va (toldR n B tab va root acc 0)) := by
  apply nest_walker_told.calls
  unfold nest_walker_told.P
  intro h1 e1
  have k1 : bk h1 (sz h) = some (blk 36 noTl.cells) := by rw [e1]; exact new_at _ _
  have f1 : Fr [] h h1 := by rw [e1]; exact Fr.new _ _ _
  have s1 : sz h1 = sz h + 1 := by rw [e1]; exact sz_new _ _
  clear e1
  have w1 := w.fr f1 (by simp)
  have lW := w.lt
  have hbd : ∀ {st kd : Int} {ad : Nat} {tb : Bool} {r' : Int}, toldR n B tab va root acc 0 = .bad st kd ad tb r' → ∀ {h' : Hp}, WS h' W q tab va r' → Fr [W] h1 h' → Bad h W q tab va (toldR n B tab va root acc 0) (flt st kd ad tb) h' := fun hm _ w' f' => ⟨_, _, _, _, _, hm, rfl, w', (f1.sub (by simp)).trans f'⟩
  refine ⟨_, (cellAt_of w1 2).trans rfl, ?_⟩
  refine (inside_spec _).mono ?_
  rintro v h2 ⟨rfl, hh⟩
  rw [hh]; clear hh h2
  refine ⟨_, rfl, ?_⟩
  refine (need_spec w1 _ 1).mono ?_ ?_
  rotate_left
  · rintro v h3 ⟨rfl, hv, rfl⟩
    have hv : ¬ va < 1048576 := by
      have : ¬ (va : Int) < 1048576 := by simpa using hv
      omega
    exact hbd (if_pos hv) w1 (Fr.refl _ _)
  rintro v h3 ⟨rfl, hv, hh⟩
  rw [hh]; clear hh h3
  have hv : va < 1048576 := by
    have : (va : Int) < 1048576 := by simpa using hv
    omega
  have hT : toldR n B tab va root acc 0 = if root = 0 then lastR n B tab va true true ((va / 256 : Nat) : Int) acc 0
    else (ownR n B tab va root 0).bind fun x r => if allows x.1 acc = false then .bad 1 4 va false r else if ¬ x.2 < 4096 then .bad 1 1 va false r else lastR n B tab va x.1.w x.1.x x.2 acc r := if_neg (by omega)
  refine ⟨rfl, ?_⟩
  refine put_local rfl (by decide) ?_
  intro h6 k6 f6 s6
  have w6 := w1.fr f6 (by simp)
  have r6 := f6.at k1 (by simp)
  refine ⟨_, (cellAt_of w6 2).trans rfl, ?_⟩
  refine (pageOf_spec hv).mono ?_
  rintro v h7 ⟨rfl, hh⟩
  rw [hh]; clear hh h7
  refine ⟨_, rfl, ?_⟩
  have ms6 := (ms.fr f1 (by simp) (by simp)).fr f6 (by simp) (by simp)
  refine ⟨fun page h16 => ∃ (g : Ent) (r : Int), bk h16 (sz h1) = some (blk 41 g.cells) ∧ g.v = true ∧ WS h16 W q tab va r ∧ 0 ≤ r ∧ r ≤ 4 ∧ 0 ≤ page ∧ page < 4096 ∧ Fr [W] h1 h16 ∧ toldR n B tab va root acc 0 = lastR n B tab va g.w g.x page acc r, ⟨fun c => ?_, fun c => ?_⟩, ?_⟩
  · have c : root ≠ 0 := by
      have : (root : Int) ≠ 0 := by simpa using c
      omega
    have hT := hT.trans (if_neg c)
    refine (own_spec ms6 hq hfb hva w6 (by omega) (by omega) hroot).mono ?_ ?_
    rotate_left
    · rintro v h8 ⟨st, kd, ad, tb, r', hm, rfl, w8, f8⟩
      exact hbd (hT.trans (Rs.bind_bad hm _)) w8 ((f6.sub (by simp)).trans f8)
    rintro v h8 ⟨⟨g, page⟩, r8, hm, rfl, w8, f8⟩
    have hT := hT.trans (Rs.bind_ok hm _)
    have hle := own_le hm
    simp only at hT hle
    have k8 := f8.at k6 (by simp; omega)
    refine ⟨_, _, _, _, _, _, rfl, truly_rfl, _, _, k8, by simp, ?_⟩
    intro h10 e10
    have hw : writeAt [.bool true, .bool true, .bool true, .bool false, .int .i64 0] 0 [.bool g.v, .bool g.w, .bool g.x, .bool g.b, .int .i64 g.f] = g.cells := rfl
    rw [hw] at e10
    have k10 : bk h10 (sz h1) = some (blk 41 g.cells) := by rw [e10]; exact upd_same k8 _ _
    have f10 : Fr [sz h1] h8 h10 := by rw [e10]; exact Fr.upd (by simp) _ _ _
    clear e10
    have w10 := w8.fr f10 (by simp; omega)
    have fr10 : Fr [W] h1 h10 := ((f6.sub (by simp)).trans f8).later f10 (by simp)
    refine Ent.rd (o := 0) g (fun j hj => by rw [Nat.zero_add]; exact cellAt_of k10 j) ?_
    refine (allows_spec g acc).mono ?_
    rintro v h11 ⟨rfl, f11⟩
    have w11 := w10.fr f11 (by simp)
    have fr11 : Fr [W] h1 h11 := fr10.trans (f11.sub (by simp))
    refine ⟨_, rfl, ?_⟩
    refine (need_spec w11 _ 4).mono ?_ ?_
    rotate_left
    · rintro v h12 ⟨rfl, ha, hh⟩
      rw [hh]
      exact hbd (hT.trans (if_pos ha)) w11 fr11
    rintro v h12 ⟨rfl, ha, hh⟩
    rw [hh]; clear hh h12
    have hT := hT.trans (if_neg (by rw [ha]; decide))
    refine ⟨rfl, ?_⟩
    refine (need_spec w11 _ 1).mono ?_ ?_
    rotate_left
    · rintro v h12 ⟨rfl, hp, hh⟩
      rw [hh]
      exact hbd (hT.trans (if_pos (by simpa using hp))) w11 fr11
    rintro v h12 ⟨rfl, hp, hh⟩
    rw [hh]; clear hh h12
    have hp : page < 4096 := by simpa using hp
    exact ⟨rfl, g, r8, f11.at k10 (by simp), hle.2.2.2.2, w11, by omega, by omega, hle.2.2.1, hp, fr11, hT.trans (if_neg (by omega))⟩
  · have c : root = 0 := by
      have : (root : Int) = 0 := by simpa using c
      omega
    exact ⟨⟨true, true, true, false, 0⟩, 0, k6, rfl, w6, by omega, by omega, by omega, by omega, f6.sub (by simp), hT.trans (if_pos c)⟩
  clear hT
  rintro page h16 ⟨g, r, k16, gv, w16, r0, r1, p0, p1, f16, hT⟩
  refine ⟨_, (cellAt_of w16 2).trans rfl, ?_⟩
  refine (offset_spec hva).mono ?_
  rintro v h17 ⟨rfl, hh⟩
  rw [hh]; clear hh h17
  refine ⟨_, rfl, ?_⟩
  refine (join_spec page ((va % 256 : Nat) : Int)).mono ?_
  rintro v h18 ⟨rfl, hh⟩
  rw [hh]; clear hh h18
  have hj : joinV page ((va % 256 : Nat) : Int) = ((page.toNat * 256 + va % 256 : Nat) : Int) := by
    unfold joinV joinOk
    rw [decide_eq_true p0, decide_eq_true p1, decide_eq_true (by omega : (0 : Int) ≤ ((va % 256 : Nat) : Int)), decide_eq_true (by omega : ((va % 256 : Nat) : Int) < 256)]
    simp only [Bool.and_self, if_true]
    omega
  rw [hj]
  refine ⟨_, _, rfl, ?_⟩
  have hlast : lastR n B tab va g.w g.x page acc r = (thruR n B tab (page.toNat * 256 + va % 256) acc false r).bind fun H r => .ok ⟨0, 0, 0, false, r, page, adr H.frame (page.toNat * 256 + va % 256), g.w && H.write, g.x && H.exec⟩ r := rfl
  have hT := hT.trans hlast
  clear hlast
  have hip : page.toNat * 256 + va % 256 < 4294967296 := by omega
  generalize page.toNat * 256 + va % 256 = ipa at *
  have ms16 := (ms.fr f1 (by simp) (by simp)).fr f16 (by simpa using Ne.symm hq) (by simpa using Ne.symm hfb)
  refine (through_spec ms16 w16 r0 (by omega) hip acc false).mono ?_ ?_
  rotate_left
  · rintro v h19 ⟨st, kd, ad, tb, r', hm, rfl, w19, f19⟩
    exact hbd (hT.trans (Rs.bind_bad hm _)) w19 (f16.trans f19)
  rintro v h19 ⟨H, r19, hm, rfl, w19, f19⟩
  have hT := hT.trans (Rs.bind_ok hm _)
  obtain ⟨t1, t2, t3, t4, _⟩ := thru_le hm
  refine ⟨_, _, _, _, _, _, rfl, ?_⟩
  have k19 := f19.at k16 (by simp; omega)
  have fr19 : Fr [W] h1 h19 := f16.trans f19
  have z19 := lt_of_bk k19
  refine put_local rfl (by decide) ?_
  intro h22 k22 f22 s22
  have k22' := f22.at k19 (by simp)
  have w22 := w19.fr f22 (by simp)
  refine Ent.rd (o := 0) g (fun j hj => by rw [Nat.zero_add]; exact cellAt_of k22' j) ?_
  refine ⟨_, (cellAt_of k22 3).trans rfl, _, (cellAt_of k22 4).trans rfl, ?_⟩
  refine (both_spec g ⟨true, H.write, H.exec, false, 0⟩).mono ?_
  rintro v h23 ⟨rfl, f23⟩
  have hbo : both g ⟨true, H.write, H.exec, false, 0⟩ = ⟨true, g.w && H.write, g.x && H.exec, false, 0⟩ := if_pos (by rw [gv]; rfl)
  rw [hbo]
  refine ⟨_, _, _, _, _, rfl, truly_rfl, _, _, f23.at k22' (by simp), by simp [Ent.len], ?_⟩
  intro h24 e24
  have hw : writeAt g.cells 0 [.bool true, .bool (g.w && H.write), .bool (g.x && H.exec), .bool false, .int .i64 0] = (Ent.mk true (g.w && H.write) (g.x && H.exec) false 0).cells := rfl
  simp only at e24
  rw [hw] at e24
  have k24 : bk h24 (sz h1) = some (blk 41 (Ent.mk true (g.w && H.write) (g.x && H.exec) false 0).cells) := by rw [e24]; exact upd_same (f23.at k22' (by simp)) _ _
  have f24 : Fr [sz h1] h23 h24 := by rw [e24]; exact Fr.upd (by simp) _ _ _
  clear e24
  have w24 := (w22.fr f23 (by simp)).fr f24 (by simp; omega)
  have k24h := f24.at (f23.at k22 (by simp)) (by simp; omega)
  have fr24 : Fr [W] h1 h24 := (fr19.trans ((f22.trans f23).sub (by simp))).later f24 (by simp)
  refine ⟨_, (cellAt_of w24 3).trans rfl, ?_⟩
  refine Hit.rd (o := 0) H (fun j hj => by rw [Nat.zero_add]; exact cellAt_of k24h j) ?_
  refine ⟨_, (cellAt_of k24 1).trans rfl, _, (cellAt_of k24 2).trans rfl, ?_⟩
  refine (addr_spec H ipa t3 t4 ms.hi).mono ?_
  rintro v h25 ⟨rfl, f25⟩
  have w25 := w24.fr f25 (by simp)
  have k25 := f25.at k24 (by simp)
  have fr25 : Fr [W] h1 h25 := fr24.trans (f25.sub (by simp))
  refine ⟨_, rfl, (cellAt_of w25 3).trans rfl, (cellAt_of k25 1).trans rfl, (cellAt_of k25 2).trans rfl, ?_⟩
  refine Tl.ret (fr25.at k1 (by simp; omega)) rfl ⟨0, 0, 0, false, r19, page, adr H.frame ipa, g.w && H.write, g.x && H.exec⟩ ?_
  refine ⟨_, r19, hT, rfl, ?_, ((f1.sub (by simp)).trans fr25).later (Fr.upd (F := [sz h]) (by simp) _ _ _) (by simp)⟩
  unfold WS; rw [upd_other (by omega)]; exact w25
end Go.Proofs.Ytopfdfcbhclolaa
