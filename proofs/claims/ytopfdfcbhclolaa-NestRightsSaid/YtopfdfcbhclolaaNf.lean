import Derived.Test.YtopfdfcbhclolaaNe
namespace Go.Proofs.Ytopfdfcbhclolaa
open Go Go.Wd
set_option linter.unusedVariables false
set_option linter.unusedSimpArgs false

def tlOf (m : Rs Tl) : Tl := match m with
  | .ok t _ => t
  | .bad st kd ad tb r => ⟨st, kd, ad, tb, r, 0, 0, false, false⟩
theorem tr_eq (n : Nat) (B : List Nat) (tab : Int) (va root : Nat) (acc : Int) : trOf n B tab va root acc = tlOf (toldR n B tab va root acc 0) := by
  unfold trOf tlOf
  cases toldR n B tab va root acc 0 <;> rfl
theorem last_eq (n : Nat) (B : List Nat) (tab : Int) (va : Nat) (ww xx : Bool) {page : Int} (hp : 0 ≤ page) (acc r : Int) :
    tlOf (lastR n B tab va ww xx page acc r) = { lastT n B tab (page.toNat * 256 + va % 256) acc r with wr := ww && (lastT n B tab (page.toNat * 256 + va % 256) acc r).wr, ex := xx && (lastT n B tab (page.toNat * 256 + va % 256) acc r).ex } := by
  unfold lastR lastT
  have : (((page.toNat * 256 + va % 256) / 256 : Nat) : Int) = page := by omega
  cases thruR n B tab (page.toNat * 256 + va % 256) acc false r with
  | ok H r' => simp only [Rs.bind, tlOf, this]
  | bad st kd ad tb r' => simp [Rs.bind, tlOf]
set_option maxHeartbeats 2000000 in
theorem rTranslate_spec {h : Hp} {q rb n : Nat} {B : List Nat} (w : RS h q rb B) (hl : B.length = n * 256) (hn : n ≤ 1024) {root : Nat} (hroot : root < 4294967296) (tab : Int) {va : Nat} (hva : va < 4294967296) (acc : Int) :
    CallsH Try.prog 19 [.pointer (some ⟨q, 0, none⟩), .int .u32 root, .int .i64 tab, .int .u32 va, .int .i64 acc] h fun v h' => v = .agg ⟨(trOf n B tab va root acc).rc⟩ ∧ Fr [] h h' := by
  refine calls_k fun R hR => ?_
  rw [tr_eq] at hR
  apply warderref08_Translate.calls
  unfold warderref08_Translate.P
  intro h1 e1
  have b1 : bk h1 (sz h) = some (blk 55 noTl.rc) := by rw [e1]; exact new_at _ _
  have f1 : Fr [] h h1 := by rw [e1]; exact Fr.new _ _ _
  have s1 : sz h1 = sz h + 1 := by rw [e1]; exact sz_new _ _
  clear e1
  have w1 := w.fr f1 (by simp) (by simp)
  -- what each way out owes
  have fin : ∀ (t : Tl) (h' : Hp) (T : TypeId), tlOf (toldR n B tab va root acc 0) = t → Fr [] h h' → R (.agg #[.int .i64 t.st, .int .i64 t.kd, .int .i64 t.rd, .int .i64 t.pg, .int .u32 t.fa, .int .u32 t.ad, .bool t.tb, .bool t.wr, .bool t.ex]) (upd h' (sz h) T t.rc) := by
    intro t h' T he f'
    rw [he] at hR
    exact hR _ _ ⟨rfl, f'.later (Fr.upd (F := [sz h]) (by simp) _ _ _) (by simp)⟩
  have flt : ∀ (kd r : Int) (h' : Hp), toldR n B tab va root acc 0 = .bad 1 kd va false r → Fr [] h1 h' → CallsH Try.prog 39 [.int .i64 1, .int .i64 kd, .int .u32 va, .bool false, .int .i64 r] h' fun r1 h2 => ∃ fault2 : Int, ∃ fault3 : Int, ∃ fault4 : Int, ∃ fault5 : Int, ∃ fault6 : Int, ∃ fault7 : Int, ∃ fault8 : Bool, ∃ fault9 : Bool, ∃ fault10 : Bool, r1 = .agg #[.int .i64 fault2, .int .i64 fault3, .int .i64 fault4, .int .i64 fault5, .int .u32 fault6, .int .u32 fault7, .bool fault8, .bool fault9, .bool fault10] ∧
  truly true ∧ ∃ T11 : TypeId, ∃ l12 : List Value, bk h2 (sz h) = some (blk T11 l12) ∧ 0 + 9 ≤ l12.length ∧ ∀ h3 : Hp, h3 = upd h2 (sz h) T11 (writeAt l12 0 [.int .i64 fault2, .int .i64 fault3, .int .i64 fault4, .int .i64 fault5, .int .u32 fault6, .int .u32 fault7, .bool fault8, .bool fault9, .bool fault10]) →
  ∃ res13 : Int, cellAt h3 (sz h) (0 + 0) = some (.int .i64 res13) ∧ ∃ res14 : Int, cellAt h3 (sz h) (0 + 1) = some (.int .i64 res14) ∧ ∃ res15 : Int, cellAt h3 (sz h) (0 + 2) = some (.int .i64 res15) ∧
  ∃ res16 : Int, cellAt h3 (sz h) (0 + 3) = some (.int .i64 res16) ∧ ∃ res17 : Int, cellAt h3 (sz h) (0 + 4) = some (.int .u32 res17) ∧ ∃ res18 : Int, cellAt h3 (sz h) (0 + 5) = some (.int .u32 res18) ∧
  ∃ res19 : Bool, cellAt h3 (sz h) (0 + 6) = some (.bool res19) ∧ ∃ res20 : Bool, cellAt h3 (sz h) (0 + 7) = some (.bool res20) ∧ ∃ res21 : Bool, cellAt h3 (sz h) (0 + 8) = some (.bool res21) ∧ R (.agg #[.int .i64 res13, .int .i64 res14, .int .i64 res15, .int .i64 res16, .int .u32 res17, .int .u32 res18, .bool res19, .bool res20, .bool res21]) h3 := by
    intro kd r h' hm f'
    refine (rfault_spec h' 1 kd va false r).mono ?_
    rintro v h2 ⟨rfl, f2⟩
    refine ⟨_, _, _, _, _, _, _, _, _, rfl, ?_⟩
    refine Tl.rret ((f'.trans f2).at b1 (by simp)) rfl ⟨1, kd, va, false, r, 0, 0, false, false⟩ ?_
    exact fin _ _ _ (by rw [hm]; rfl) ((f1.trans f').trans f2)
  refine ⟨fun c => ?_, fun c => ?_⟩
  · have c : ¬ va < 1048576 := by
      have : (va : Int) ≥ 1048576 := by simpa using c
      omega
    exact flt 1 0 h1 (if_pos c) (Fr.refl _ _)
  have hv : va < 1048576 := by
    have : ¬ (va : Int) ≥ 1048576 := by simpa using c
    omega
  have hT : toldR n B tab va root acc 0 = if root = 0 then lastR n B tab va true true ((va / 256 : Nat) : Int) acc 0
    else (ownR n B tab va root 0).bind fun x r => if allows x.1 acc = false then .bad 1 4 va false r else if ¬ x.2 < 4096 then .bad 1 1 va false r else lastR n B tab va x.1.w x.1.x x.2 acc r := if_neg (by omega)
  refine ⟨fun c => ?_, fun c => ?_⟩
  · have c : root = 0 := by
      have : (root : Int) = 0 := by simpa using c
      omega
    have hT := hT.trans (if_pos c)
    refine (rlast_spec w1 hl hn tab hva acc (by omega) (by omega)).mono ?_
    rintro v h4 ⟨rfl, f4⟩
    have e := last_eq n B tab va true true (page := ((va / 256 : Nat) : Int)) (by omega) acc 0
    rw [show ((va / 256 : Nat) : Int).toNat * 256 + va % 256 = va by omega, Bool.true_and, Bool.true_and] at e
    refine ⟨_, _, _, _, _, _, _, _, _, rfl, ?_⟩
    refine Tl.rret (f4.at b1 (by simp)) rfl (lastT n B tab va acc 0) ?_
    exact fin _ _ _ (by rw [hT]; exact e) (f1.trans f4)
  have c : root ≠ 0 := by
    have : (root : Int) ≠ 0 := by simpa using c
    omega
  have hT := hT.trans (if_neg c)
  refine ⟨by decide, by decide, by decide, by decide, ?_⟩
  have e1 : IntKind.wrap .i64 (IntKind.wrap .u32 (Int.tdiv (root : Int) 256)) = ((root / 256 : Nat) : Int) := by
    rw [tdiv_nat (by omega), wrap_u32 (by omega) (by omega), wrapS (by omega) (by omega)]; omega
  have e2 : IntKind.wrap .i64 (IntKind.wrap .u32 (Int.tdiv (va : Int) 16384)) = ((va / 16384 % 64 : Nat) : Int) := by
    rw [tdiv_nat (by omega), wrap_u32 (by omega) (by omega), wrapS (by omega) (by omega)]; omega
  have e3 : IntKind.wrap .i64 (Int.tmod (IntKind.wrap .u32 (Int.tdiv (va : Int) 256)) 64) = ((va / 256 % 64 : Nat) : Int) := by
    rw [tdiv_nat (by omega), wrap_u32 (by omega) (by omega), tmod_nat (by omega), wrapS (by omega) (by omega)]; omega
  rw [e1, e2, e3]
  refine (rrd_spec w1 hl hn tab hva (page := ((root / 256 : Nat) : Int)) (by omega) (by omega) (i := va / 16384 % 64) (by omega) (r := 0) (by omega) (by omega)).mono ?_
  rintro v h6 ⟨⟨e, t, b, rfl, hrd⟩, f6⟩
  have hown : ownR n B tab va root 0 = (entR n B tab va ((root / 256 : Nat) : Int) (va / 16384 % 64) 0).bind fun e r => if e.v = false then .bad 1 2 va false r else if e.b = true then .ok (e, e.f + ((va / 256 % 64 : Nat) : Int)) r else
    (entR n B tab va e.f (va / 256 % 64) r).bind fun e r => if e.v = false then .bad 1 3 va false r else .ok (e, e.f) r := rfl
  refine ⟨_, _, _, _, _, _, _, _, _, _, _, _, _, _, _, rfl, ?_⟩
  intro h7 e7
  have k7 : bk h7 (sz h6) = some (blk 97 noEnt.cells) := by rw [e7]; exact new_at _ _
  have f7 : Fr [] h6 h7 := by rw [e7]; exact Fr.new _ _ _
  have s7 : sz h7 = sz h6 + 1 := by rw [e7]; exact sz_new _ _
  clear e7
  intro h8 e8
  have g8 : bk h8 (sz h7) = some (blk 55 noTl.rc) := by rw [e8]; exact new_at _ _
  have f8 : Fr [] h7 h8 := by rw [e8]; exact Fr.new _ _ _
  clear e8
  have k8 := f8.at k7 (by simp)
  refine ⟨truly_rfl, _, _, k8, by decide, ?_⟩
  intro h9 e9
  have k9 : bk h9 (sz h6) = some (blk 97 e.cells) := by rw [e9]; exact upd_same k8 _ _
  have f9 : Fr [sz h6] h8 h9 := by rw [e9]; exact Fr.upd (by simp) _ _ _
  clear e9
  have g9 := f9.at g8 (by simp; omega)
  refine ⟨truly_rfl, _, _, g9, by decide, ?_⟩
  intro h10 e10
  have g10 : bk h10 (sz h7) = some (blk 55 t.rc) := by rw [e10]; exact upd_same g9 _ _
  have f10 : Fr [sz h7] h9 h10 := by rw [e10]; exact Fr.upd (by simp) _ _ _
  clear e10
  have k10 := f10.at k9 (by simp; omega)
  have z6 := f6.size
  have f610 : Fr [] h6 h10 := ((f7.trans f8).later f9 (by simp)).later f10 (by simp; omega)
  have fr10 : Fr [] h1 h10 := f6.trans f610
  have b10 := fr10.at b1 (by simp)
  rcases hrd with ⟨rfl, hm⟩ | ⟨rfl, rfl, hm, ht⟩
  rotate_left
  · refine ⟨fun _ => ?_, fun hc => (by cases hc)⟩
    refine Tl.rrd t g10 ?_
    refine Tl.rret b10 rfl t ?_
    refine fin _ _ _ ?_ (f1.trans fr10)
    rw [hT, Rs.bind_bad (hown.trans (Rs.bind_bad hm _))]
    exact ht.symm
  refine ⟨fun hc => (by cases hc), fun _ => ⟨_, (cellAt_of k10 0).trans rfl, fun hv1 => ?_, fun hv1 => ?_⟩⟩
  · have hv1 : e.v = false := by simpa using hv1
    refine ⟨_, (cellAt_of g10 2).trans rfl, ?_⟩
    exact flt 2 t.rd h10 (hT.trans (Rs.bind_bad (hown.trans ((Rs.bind_ok hm _).trans (if_pos hv1))) _)) fr10
  have hv1 : e.v = true := by simpa using hv1
  have hown := hown.trans ((Rs.bind_ok hm _).trans (if_neg (by rw [hv1]; decide)))
  have hle := ent_le hm
  refine ⟨_, (cellAt_of k10 4).trans rfl, ?_⟩
  refine ⟨fun page h20 => ∃ (g : Ent) (y : Tl), bk h20 (sz h6) = some (blk 97 g.cells) ∧ bk h20 (sz h7) = some (blk 55 y.rc) ∧ Fr [] h1 h20 ∧ ownR n B tab va root 0 = .ok (g, page) y.rd, ⟨_, (cellAt_of k10 3).trans rfl, fun hb => ?_, fun hb => ?_⟩, ?_⟩
  · have hb : e.b = false := by simpa using hb
    have hown := hown.trans (if_neg (by rw [hb]; decide))
    refine ⟨_, (cellAt_of k10 4).trans rfl, _, (cellAt_of g10 2).trans rfl, ?_⟩
    refine (rrd_spec (w1.fr fr10 (by simp) (by simp)) hl hn tab hva (page := e.f) hle.2.2.1 (by omega) (i := va / 256 % 64) (by omega) (r := t.rd) (by omega) (by omega)).mono ?_
    rintro v h14 ⟨⟨g, y, b, rfl, hrd2⟩, f14⟩
    refine ⟨_, _, _, _, _, _, _, _, _, _, _, _, _, _, _, rfl, ?_⟩
    have k14 := f14.at k10 (by simp)
    refine ⟨truly_rfl, _, _, k14, by simp [Ent.len], ?_⟩
    intro h15 e15
    have k15 : bk h15 (sz h6) = some (blk 97 g.cells) := by rw [e15]; exact upd_same k14 _ _
    have f15 : Fr [sz h6] h14 h15 := by rw [e15]; exact Fr.upd (by simp) _ _ _
    clear e15
    have g15 := f15.at (f14.at g10 (by simp)) (by simp; omega)
    refine ⟨truly_rfl, _, _, g15, by simp [Tl.rc], ?_⟩
    intro h16 e16
    have g16 : bk h16 (sz h7) = some (blk 55 y.rc) := by rw [e16]; exact upd_same g15 _ _
    have f16 : Fr [sz h7] h15 h16 := by rw [e16]; exact Fr.upd (by simp) _ _ _
    clear e16
    have k16 := f16.at k15 (by simp; omega)
    have fr16 : Fr [] h1 h16 := ((fr10.trans f14).later f15 (by simp; omega)).later f16 (by simp; omega)
    have b16 := fr16.at b1 (by simp)
    rcases hrd2 with ⟨rfl, hm2⟩ | ⟨rfl, rfl, hm2, ht2⟩
    rotate_left
    · refine ⟨fun _ => ?_, fun hc => (by cases hc)⟩
      refine Tl.rrd y g16 ?_
      refine Tl.rret b16 rfl y ?_
      refine fin _ _ _ ?_ (f1.trans fr16)
      rw [hT, Rs.bind_bad (hown.trans (Rs.bind_bad hm2 _))]
      exact ht2.symm
    refine ⟨fun hc => (by cases hc), fun _ => ⟨_, (cellAt_of k16 0).trans rfl, fun hv2 => ?_, fun hv2 => ?_⟩⟩
    · have hv2 : g.v = false := by simpa using hv2
      refine ⟨_, (cellAt_of g16 2).trans rfl, ?_⟩
      exact flt 3 y.rd h16 (hT.trans (Rs.bind_bad (hown.trans ((Rs.bind_ok hm2 _).trans (if_pos hv2))) _)) fr16
    · have hv2 : g.v = true := by simpa using hv2
      exact ⟨_, (cellAt_of k16 4).trans rfl, g, y, k16, g16, fr16, hown.trans ((Rs.bind_ok hm2 _).trans (if_neg (by rw [hv2]; decide)))⟩
  · have hown := hown.trans (if_pos (by simpa using hb))
    rw [wrapS (by omega) (by omega)]
    exact ⟨e, t, k10, g10, fr10, hown⟩
  clear hown hm hle hv1
  rintro page h20 ⟨g, y, k20, g20, fr20, hown⟩
  have hT := hT.trans (Rs.bind_ok hown _)
  have hle := own_le hown
  simp only at hT hle
  refine Ent.rd (o := 0) g (fun j hj => by rw [Nat.zero_add]; exact cellAt_of k20 j) ?_
  refine (refAllows_spec g acc).mono ?_
  rintro v h21 ⟨rfl, f21⟩
  have k21 := f21.at k20 (by simp)
  have g21 := f21.at g20 (by simp)
  have fr21 := fr20.trans f21
  refine ⟨_, rfl, fun ha => ⟨_, (cellAt_of g21 2).trans rfl, flt 4 y.rd h21 (hT.trans (if_pos (by simpa using ha))) fr21⟩, fun ha => ?_⟩
  have hT := hT.trans (if_neg (by simpa using ha))
  have hgt : decide (page > 4095) = true → ¬ page < 4096 := by
    intro hp
    have : page > 4095 := by simpa using hp
    omega
  refine ⟨fun hp => ⟨_, (cellAt_of g21 2).trans rfl, flt 1 y.rd h21 (hT.trans (if_pos (hgt hp))) fr21⟩, fun hp => ?_⟩
  have hp : page < 4096 := by
    have : ¬ page > 4095 := by simpa using hp
    omega
  have hT := hT.trans (if_neg (by omega))
  have e4 : IntKind.wrap .u32 ((IntKind.wrap .u32 (IntKind.wrap .i64 (256 * page))) + (Int.tmod (va : Int) 256)) = ((page.toNat * 256 + va % 256 : Nat) : Int) := by
    rw [wrapS (by omega) (by omega), wrap_u32 (n := 256 * page) (by omega) (by omega), tmod_nat (by omega), wrap_u32 (by omega) (by omega)]; omega
  refine ⟨by decide, _, (cellAt_of g21 2).trans rfl, ?_⟩
  rw [e4]
  refine (rlast_spec (w1.fr fr21 (by simp) (by simp)) hl hn tab (ipa := page.toNat * 256 + va % 256) (by omega) acc (r := y.rd) (by omega) (by omega)).mono ?_
  rintro v h26 ⟨rfl, f26⟩
  have he := last_eq n B tab va g.w g.x (page := page) hle.2.2.1 acc y.rd
  generalize lastT n B tab (page.toNat * 256 + va % 256) acc y.rd = t2 at *
  refine ⟨_, _, _, _, _, _, _, _, _, rfl, ?_⟩
  refine put_local rfl (by decide) ?_
  intro h28 g28 f28 s28
  have g28 : bk h28 (sz h26) = some (blk 55 t2.rc) := g28
  have k28 := f28.at (f26.at k21 (by simp)) (by simp)
  have fr28 := (fr21.trans f26).trans f28
  have z26 := (fr21.trans f26).size
  have lk := lt_of_bk (f26.at k21 (by simp))
  have hlast : ∀ (y : Tl) (h' : Hp), y = { t2 with wr := g.w && t2.wr, ex := g.x && t2.ex } → bk h' (sz h26) = some (blk 55 y.rc) → Fr [sz h26] h28 h' → ∃ x251 : Int, cellAt h' (sz h26) (0 + 0) = some (.int .i64 x251) ∧ ∃ x252 : Int, cellAt h' (sz h26) (0 + 1) = some (.int .i64 x252) ∧ ∃ x253 : Int, cellAt h' (sz h26) (0 + 2) = some (.int .i64 x253) ∧
  ∃ x254 : Int, cellAt h' (sz h26) (0 + 3) = some (.int .i64 x254) ∧ ∃ x255 : Int, cellAt h' (sz h26) (0 + 4) = some (.int .u32 x255) ∧ ∃ x256 : Int, cellAt h' (sz h26) (0 + 5) = some (.int .u32 x256) ∧
  ∃ x257 : Bool, cellAt h' (sz h26) (0 + 6) = some (.bool x257) ∧ ∃ x258 : Bool, cellAt h' (sz h26) (0 + 7) = some (.bool x258) ∧ ∃ x259 : Bool, cellAt h' (sz h26) (0 + 8) = some (.bool x259) ∧ truly true ∧
  ∃ T260 : TypeId, ∃ l261 : List Value, bk h' (sz h) = some (blk T260 l261) ∧ 0 + 9 ≤ l261.length ∧ ∀ h33 : Hp, h33 = upd h' (sz h) T260 (writeAt l261 0 [.int .i64 x251, .int .i64 x252, .int .i64 x253, .int .i64 x254, .int .u32 x255, .int .u32 x256, .bool x257, .bool x258, .bool x259]) →
  ∃ res262 : Int, cellAt h33 (sz h) (0 + 0) = some (.int .i64 res262) ∧ ∃ res263 : Int, cellAt h33 (sz h) (0 + 1) = some (.int .i64 res263) ∧ ∃ res264 : Int, cellAt h33 (sz h) (0 + 2) = some (.int .i64 res264) ∧
  ∃ res265 : Int, cellAt h33 (sz h) (0 + 3) = some (.int .i64 res265) ∧ ∃ res266 : Int, cellAt h33 (sz h) (0 + 4) = some (.int .u32 res266) ∧ ∃ res267 : Int, cellAt h33 (sz h) (0 + 5) = some (.int .u32 res267) ∧
  ∃ res268 : Bool, cellAt h33 (sz h) (0 + 6) = some (.bool res268) ∧ ∃ res269 : Bool, cellAt h33 (sz h) (0 + 7) = some (.bool res269) ∧ ∃ res270 : Bool, cellAt h33 (sz h) (0 + 8) = some (.bool res270) ∧
  R (.agg #[.int .i64 res262, .int .i64 res263, .int .i64 res264, .int .i64 res265, .int .u32 res266, .int .u32 res267, .bool res268, .bool res269, .bool res270]) h33 := by
    intro y h' hy gy f'
    refine Tl.rrd y gy ?_
    have fr' : Fr [] h1 h' := fr28.later f' (by simp; omega)
    refine Tl.rret (fr'.at b1 (by simp)) rfl y ?_
    exact fin y h' _ (by rw [hT, he, hy]) (f1.trans fr')
  have hupd : ∀ {j : Nat} {v : Value} {h' h'' : Hp} {l : List Value}, bk h' (sz h26) = some (blk 55 l) → h'' = upd h' (sz h26) 55 (writeAt l j [v]) → bk h'' (sz h26) = some (blk 55 (l.set j v)) ∧ Fr [sz h26] h' h'' := by
    rintro j v h' h'' l hb rfl
    exact ⟨upd_same hb _ _, Fr.upd (by simp) _ _ _⟩
  have wr0 : ∀ b : Bool, (Tl.rc t2).set 7 (.bool b) = ({ t2 with wr := b } : Tl).rc := fun b => rfl
  refine ⟨fun h31 => bk h31 (sz h26) = some (blk 55 ({ t2 with wr := g.w && t2.wr } : Tl).rc) ∧ Fr [sz h26] h28 h31, ⟨_, (cellAt_of g28 7).trans rfl, fun c1 => ?_, fun c1 => ?_⟩, ?_⟩
  · refine ⟨_, (cellAt_of k28 1).trans rfl, truly_rfl, _, _, g28, by simp [Tl.rc], ?_⟩
    intro h29 e29
    obtain ⟨q1, q2⟩ := hupd g28 e29
    exact ⟨by rw [q1, wr0, c1, Bool.and_true], q2⟩
  · refine ⟨truly_rfl, _, _, g28, by simp [Tl.rc], ?_⟩
    intro h29 e29
    obtain ⟨q1, q2⟩ := hupd g28 e29
    exact ⟨by rw [q1, wr0, c1, Bool.and_false], q2⟩
  rintro h31 ⟨g31, f31⟩
  have k31 := f31.at k28 (by simp; omega)
  refine ⟨_, (cellAt_of g31 8).trans rfl, fun c1 => ?_, fun c1 => ?_⟩
  · refine ⟨_, (cellAt_of k31 2).trans rfl, truly_rfl, _, _, g31, by simp [Tl.rc], ?_⟩
    intro h32 e32
    obtain ⟨q1, q2⟩ := hupd g31 e32
    have c1 : t2.ex = true := c1
    exact hlast { t2 with wr := g.w && t2.wr, ex := g.x } h32 (by rw [c1, Bool.and_true]) q1 (f31.trans q2)
  · refine ⟨truly_rfl, _, _, g31, by simp [Tl.rc], ?_⟩
    intro h32 e32
    obtain ⟨q1, q2⟩ := hupd g31 e32
    have c1 : t2.ex = false := c1
    exact hlast { t2 with wr := g.w && t2.wr, ex := false } h32 (by rw [c1, Bool.and_false]) q1 (f31.trans q2)
end Go.Proofs.Ytopfdfcbhclolaa
