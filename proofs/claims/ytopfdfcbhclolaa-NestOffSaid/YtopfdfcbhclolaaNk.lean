import Derived.Test.YtopfdfcbhclolaaNj
namespace Go.Proofs.Ytopfdfcbhclolaa
open Go Go.Wd
set_option linter.unusedVariables false
set_option linter.unusedSimpArgs false

theorem found_r1 {n : Nat} {B : List Nat} {root : Int} {a : Nat} : (foundOf n B root a).f = 0 → 1 ≤ (foundOf n B root a).r := by
  unfold foundOf
  generalize a / 256 % 64 = k at *
  generalize a / 16384 % 64 = j at *
  generalize entAt B = E at *
  generalize isIn n = I at *
  refine iteP (P := fun x : Fd => x.f = 0 → 1 ≤ x.r) (fun _ h => absurd h (by decide)) fun _ => ?_
  refine iteP (P := fun x : Fd => x.f = 0 → 1 ≤ x.r) (fun _ h => absurd h (by decide)) fun _ => ?_
  refine iteP (P := fun x : Fd => x.f = 0 → 1 ≤ x.r) (fun _ h => absurd h (by decide)) fun _ => ?_
  refine iteP (P := fun x : Fd => x.f = 0 → 1 ≤ x.r) (fun _ h => (by decide : (1 : Int) ≤ 1)) fun _ => ?_
  refine iteP (P := fun x : Fd => x.f = 0 → 1 ≤ x.r) (fun _ h => absurd h (by decide)) fun _ => ?_
  refine iteP (P := fun x : Fd => x.f = 0 → 1 ≤ x.r) (fun _ h => absurd h (by decide)) fun _ h => (by decide : (1 : Int) ≤ 2)
/-- What a law may say of a translation. -/
theorem reach_tr (n : Nat) (hn : n ≤ 1024) (B : List Nat) (tab : Int) (va root : Nat) (acc : Int) (t : Tl) (ht : trOf n B tab va root acc = t) :
    (t.kd ≠ 0 ∧ t.ad = 0 ∧ t.pg = 0 ∧ t.wr = false ∧ t.ex = false ∧ (t.st = 1 ∨ t.st = 2) ∧ t.rd ≤ 6) ∨
    (t.kd = 0 ∧ t.st = 0 ∧ t.fa = 0 ∧ t.tb = false ∧ 1 ≤ t.rd ∧ t.rd ≤ 6 ∧ lookOk n B tab t.pg = true ∧ (lookE n B tab t.pg).f = ((t.ad / 256 : Nat) : Int) ∧ allows (lookE n B tab t.pg) acc = true ∧ t.ad % 256 = va % 256 ∧
      (t.wr = true → (lookE n B tab t.pg).w = true) ∧ (t.ex = true → (lookE n B tab t.pg).x = true) ∧ (acc = 1 → t.wr = true) ∧ (acc = 2 → t.ex = true)) := by
  subst ht
  rcases tr_split n B tab va root acc with ⟨st, kd, ad, tb, r, h, h1, h2, h3, h4⟩ | ⟨ww, xx, page, r, g1, g2, g3, g4, g5, g6, hf, h⟩
  · rw [h]
    exact .inl ⟨h2, rfl, rfl, rfl, rfl, h1, h4⟩
  · rw [h]
    right
    have hX : page = (((page.toNat * 256 + va % 256) / 256 : Nat) : Int) := by omega
    have hXm : (page.toNat * 256 + va % 256) % 256 = va % 256 := by omega
    generalize page.toNat * 256 + va % 256 = X at *
    obtain ⟨l1, l2⟩ := look_at (n := n) (B := B) (root := tab) hX
    rw [walk_F] at hf
    have hw0 : walkOf n B tab X 0 = walkF n (foundOf n B tab X) 0 := rfl
    have hwa : walkOf n B tab X acc = walkF n (foundOf n B tab X) acc := rfl
    obtain ⟨a1, a2, a3, a4, a5⟩ := walkF_acc hf
    have hr1 := found_r1 a2
    have hr2 := found_reads n B tab X
    have hfr := found_ok a2
    rw [hw0, a5] at l1 l2
    rw [hwa, a4]
    generalize foundOf n B tab X = F at *
    rw [if_pos rfl] at l2
    have hv : F.e.v = true := by
      unfold allows at a1
      simp only [Bool.and_eq_true] at a1
      exact a1.1
    refine ⟨rfl, rfl, rfl, rfl, ?_, ?_, ?_, ?_, ?_, ?_, ?_, ?_, ?_, ?_⟩
    · show 1 ≤ r + F.r; omega
    · show r + F.r ≤ 6; omega
    · exact l1.trans rfl
    · show (lookE n B tab page).f = ((adr F.e.f X / 256 : Nat) : Int)
      rw [l2]
      show F.e.f = _
      unfold adr; omega
    · show allows (lookE n B tab page) acc = true
      rw [l2]
      have e := a1
      unfold allows at e ⊢
      rw [hv] at e
      exact e
    · show adr F.e.f X % 256 = va % 256
      unfold adr; omega
    · intro hw
      have hw : (ww && F.e.w) = true := hw
      show (lookE n B tab page).w = true
      rw [l2]
      simp only [Bool.and_eq_true] at hw; exact hw.2
    · intro hw
      have hw : (xx && F.e.x) = true := hw
      show (lookE n B tab page).x = true
      rw [l2]
      simp only [Bool.and_eq_true] at hw; exact hw.2
    · intro e
      subst e
      rw [allows_1, Bool.and_eq_true] at a1
      show (ww && F.e.w) = true
      rw [g5 rfl, a1.2]; rfl
    · intro e
      subst e
      rw [allows_2, Bool.and_eq_true] at a1
      show (xx && F.e.x) = true
      rw [g6 rfl, a1.2]; rfl
set_option maxHeartbeats 4000000 in
theorem reach_law {h : Hp} (n : Int) {a : Option Addr} {c : Nat} {L : List Pt} (g : rowAtK h a (encL Pt.cells L)) (hok : ∀ x ∈ L, x.ok) {own : Nat} (hown : own < 4294967296) (tab : Int) {va : Nat} (hva : va < 4294967296) (acc : Int) :
    CallsH Try.prog 5 [.int .i64 n, .slice a L.length c, .int .u32 own, .int .i64 tab, .int .u32 va, .int .i64 acc] h fun v h' => v = .bool true ∧ Fr [] h h' := by
  refine calls_k fun R hR => ?_
  apply warderlaw08_NestReach.calls
  unfold warderlaw08_NestReach.P
  refine (alive_spec h).mono ?_
  rintro _ h1 ⟨rfl, f1⟩
  refine ⟨_, rfl, fun hn => (by cases hn), fun _ => ?_⟩
  refine (great_spec n a L.length c).mono ?_
  rintro v h2 ⟨rfl, hh⟩
  rw [hh]; clear hh h2
  refine ⟨_, rfl, fun _ => hR _ _ ⟨rfl, f1⟩, fun hg => ?_⟩
  obtain ⟨m, rfl, m1, m2, hL⟩ := great_no2 hg
  refine (Both_spec m1 (by omega) (c := c) (g.fr f1 (by simp)) hok (by omega)).mono ?_
  rintro v h3 ⟨q, fb, q2, rb, rfl, w3, -, -, f3⟩
  generalize putsB m L = B at *
  refine ⟨_, _, rfl, fun hn => absurd hn (by simp [notIf]), fun _ => ?_⟩
  refine (Translate_spec w3 hown tab hva acc).mono ?_
  rintro v h4 ⟨rfl, f4⟩
  have hre := reach_tr m (by omega) B tab va own acc _ rfl
  have had := tr_ad (show m ≤ 1024 by omega) B tab va own acc
  generalize trOf m B tab va own acc = t at *
  refine ⟨_, _, _, _, _, _, _, _, _, rfl, ?_⟩
  refine put_local rfl (by decide) ?_
  intro h6 k6 f6 s6
  have k6 : bk h6 (sz h4) = some (blk 36 t.cells) := k6
  have fr6 := ((f1.trans f3).trans f4).trans f6
  have w6 := (w3.fr f4 (by simp) (by simp)).fr f6 (by simp) (by simp)
  rcases hre with ⟨r1, r2, r3, r4, r5, r6, r7⟩ | ⟨r1, r2, r3, r4, r5, r6, r7, r8, r9, r10, r11, r12, r13, r14⟩
  · refine ⟨_, (cellAt_of k6 1).trans rfl, fun _ => ?_, fun hn => absurd (by simpa using hn : t.kd = 0) r1⟩
    refine ⟨_, (cellAt_of k6 6).trans rfl, fun _ => ?_, fun hn => absurd hn (by rw [r2]; decide)⟩
    refine ⟨_, (cellAt_of k6 5).trans rfl, fun _ => ?_, fun hn => absurd hn (by rw [r3]; decide)⟩
    refine ⟨_, (cellAt_of k6 7).trans rfl, fun _ => ?_, fun hn => absurd hn (by rw [r4]; decide)⟩
    refine ⟨_, (cellAt_of k6 8).trans rfl, fun _ => ?_, fun hn => absurd hn (by rw [r5]; decide)⟩
    have hd : decide (t.rd ≤ 6) = true := decide_eq_true r7
    refine ⟨_, (cellAt_of k6 0).trans rfl, fun _ => ⟨_, (cellAt_of k6 4).trans rfl, by rw [hd]; exact hR _ _ ⟨rfl, fr6⟩⟩, fun hn => ?_⟩
    have hn : t.st ≠ 1 := by simpa using hn
    have h2 : t.st = 2 := r6.resolve_left hn
    exact ⟨_, (cellAt_of k6 0).trans rfl, fun _ => ⟨_, (cellAt_of k6 4).trans rfl, by rw [hd]; exact hR _ _ ⟨rfl, fr6⟩⟩, fun hn => absurd hn (by rw [h2]; decide)⟩
  · refine ⟨_, (cellAt_of k6 1).trans rfl, fun hn => absurd hn (by rw [r1]; decide), fun _ => ?_⟩
    refine ⟨_, (cellAt_of k6 5).trans rfl, ?_⟩
    refine (Look_spec w6 tab t.pg).mono ?_
    rw [r7]
    rintro v h7 ⟨rfl, f7⟩
    generalize lookE m B tab t.pg = e at *
    refine ⟨_, _, _, _, _, _, rfl, ?_⟩
    refine put_local rfl (by decide) ?_
    intro h9 k9 f9 s9
    have k9 : bk h9 (sz h7) = some (blk 41 e.cells) := k9
    have t9 := (f7.trans f9).at k6 (by simp)
    refine ⟨fun _ => ?_, fun hn => (by cases hn)⟩
    refine ⟨_, (cellAt_of k9 4).trans rfl, _, (cellAt_of t9 6).trans rfl, by decide, fun _ => ?_, fun hn => ?_⟩
    rotate_left
    · exfalso
      have : IntKind.wrap .i64 (IntKind.wrap .u32 (Int.tdiv (t.ad : Int) 256)) = ((t.ad / 256 : Nat) : Int) := by
        rw [tdiv_nat (by omega), wrap_u32 (by omega) (by omega), wrapS (by omega) (by omega)]; omega
      rw [this] at hn
      have hn : e.f ≠ ((t.ad / 256 : Nat) : Int) := by simpa using hn
      exact hn r8
    refine Ent.rd (o := 0) e (fun j hj => by rw [Nat.zero_add]; exact cellAt_of k9 j) ?_
    refine (allows_spec e acc).mono ?_
    rintro v h10 ⟨rfl, f10⟩
    have t10 := f10.at t9 (by simp)
    have k10 := f10.at k9 (by simp)
    have fr10 : Fr [] h h10 := ((fr6.trans f7).trans f9).trans f10
    refine ⟨_, rfl, fun _ => ?_, fun hn => absurd hn (by rw [r9]; decide)⟩
    have c0 : cellAt h10 (sz h4) (0 + 0) = some (.int .i64 0) := (cellAt_of t10 _).trans (by show some (Value.int .i64 t.st) = _; rw [r2])
    have c1 : cellAt h10 (sz h4) (0 + 1) = some (.int .i64 0) := (cellAt_of t10 _).trans (by show some (Value.int .i64 t.kd) = _; rw [r1])
    have c2 : cellAt h10 (sz h4) (0 + 2) = some (.int .u32 ((0 : Nat) : Int)) := (cellAt_of t10 _).trans (by show some (Value.int .u32 (t.fa : Int)) = _; rw [r3])
    have c3 : cellAt h10 (sz h4) (0 + 3) = some (.bool false) := (cellAt_of t10 _).trans (by show some (Value.bool t.tb) = _; rw [r4])
    have c4 : cellAt h10 (sz h4) 4 = some (.int .i64 t.rd) := (cellAt_of t10 _).trans rfl
    have c6 : cellAt h10 (sz h4) 6 = some (.int .u32 t.ad) := (cellAt_of t10 _).trans rfl
    have c7 : cellAt h10 (sz h4) 7 = some (.bool t.wr) := (cellAt_of t10 _).trans rfl
    have c8 : cellAt h10 (sz h4) 8 = some (.bool t.ex) := (cellAt_of t10 _).trans rfl
    have d1 : cellAt h10 (sz h7) 1 = some (.bool e.w) := (cellAt_of k10 _).trans rfl
    have d2 : cellAt h10 (sz h7) 2 = some (.bool e.x) := (cellAt_of k10 _).trans rfl
    have hmod : Int.tmod (t.ad : Int) 256 = Int.tmod (va : Int) 256 := by rw [tmod_nat (by omega), tmod_nat (by omega)]; omega
    have fin := hR (.bool true) h10 ⟨rfl, fr10⟩
    have last : ((acc != 1) = true → (((acc != 2) = true → (R (.bool true) h10)) ∧ ((acc != 2) = false → (∃ Exec57 : Bool, cellAt h10 (sz h4) 8 = some (.bool Exec57) ∧ R (.bool Exec57) h10)))) ∧ ((acc != 1) = false →
  (∃ Write58 : Bool, cellAt h10 (sz h4) 7 = some (.bool Write58) ∧ ((Write58) = true → (((acc != 2) = true → (R (.bool true) h10)) ∧ ((acc != 2) = false → (∃ Exec59 : Bool, cellAt h10 (sz h4) 8 = some (.bool Exec59) ∧
  R (.bool Exec59) h10)))) ∧ ((Write58) = false → (R (.bool false) h10)))) := by
      have hx : (acc != 2) = false → (∃ Exec57 : Bool, cellAt h10 (sz h4) 8 = some (.bool Exec57) ∧ R (.bool Exec57) h10) := by
        intro h2
        have h2 : acc = 2 := by simpa using h2
        exact ⟨_, c8, by rw [r14 h2]; exact fin⟩
      refine ⟨fun _ => ⟨fun _ => fin, hx⟩, fun h1 => ⟨_, c7, fun _ => ⟨fun _ => fin, hx⟩, fun hw => ?_⟩⟩
      have h1 : acc = 1 := by simpa using h1
      rw [r13 h1] at hw; cases hw
    have rest : ∃ Addr50 : Int, cellAt h10 (sz h4) 6 = some (.int .u32 Addr50) ∧ 256 ≠ (0 : Int) ∧ 256 ≠ (0 : Int) ∧
  (((Int.tmod Addr50 256) == (Int.tmod (va : Int) 256)) = true → (∃ Fault51 : Int, cellAt h10 (sz h4) (0 + 0) = some (.int .i64 Fault51) ∧ ∃ Fault52 : Int, cellAt h10 (sz h4) (0 + 1) = some (.int .i64 Fault52) ∧
  ∃ Fault53 : Int, cellAt h10 (sz h4) (0 + 2) = some (.int .u32 Fault53) ∧ ∃ Fault54 : Bool, cellAt h10 (sz h4) (0 + 3) = some (.bool Fault54) ∧ ((notIf true ((Fault51 == 0) && ((Fault52 == 0) && ((Fault53 == 0) && (((Fault54 : Bool) == false) && true))))) = true →
  (∃ Reads55 : Int, cellAt h10 (sz h4) 4 = some (.int .i64 Reads55) ∧ ((decide (Reads55 ≥ 1)) = true → (∃ Reads56 : Int, cellAt h10 (sz h4) 4 = some (.int .i64 Reads56) ∧ ((decide (Reads56 ≤ 6)) = true →
  (((acc != 1) = true → (((acc != 2) = true → (R (.bool true) h10)) ∧ ((acc != 2) = false → (∃ Exec57 : Bool, cellAt h10 (sz h4) 8 = some (.bool Exec57) ∧ R (.bool Exec57) h10)))) ∧ ((acc != 1) = false →
  (∃ Write58 : Bool, cellAt h10 (sz h4) 7 = some (.bool Write58) ∧ ((Write58) = true → (((acc != 2) = true → (R (.bool true) h10)) ∧ ((acc != 2) = false → (∃ Exec59 : Bool, cellAt h10 (sz h4) 8 = some (.bool Exec59) ∧
  R (.bool Exec59) h10)))) ∧ ((Write58) = false → (R (.bool false) h10)))))) ∧ ((decide (Reads56 ≤ 6)) = false → (R (.bool false) h10)))) ∧ ((decide (Reads55 ≥ 1)) = false → (R (.bool false) h10)))) ∧
  ((notIf true ((Fault51 == 0) && ((Fault52 == 0) && ((Fault53 == 0) && (((Fault54 : Bool) == false) && true))))) = false → (R (.bool false) h10)))) ∧ (((Int.tmod Addr50 256) == (Int.tmod (va : Int) 256)) = false →
  (R (.bool false) h10)) := by
      refine ⟨_, c6, by decide, by decide, fun _ => ?_, fun hn => absurd hn (by rw [hmod]; simp)⟩
      refine ⟨_, c0, _, c1, _, c2, _, c3, fun _ => ?_, fun hn => absurd hn (by decide)⟩
      refine ⟨_, c4, fun _ => ⟨_, c4, fun _ => last, fun hn => ?_⟩, fun hn => ?_⟩
      · have : ¬ t.rd ≤ 6 := by simpa using hn
        exact absurd r6 this
      · have : ¬ t.rd ≥ 1 := by simpa using hn
        exact absurd r5 this
    refine ⟨_, c7, fun hw => ⟨_, c8, fun hx => rest, fun hx => ⟨_, d2, fun _ => rest, fun hn => ?_⟩⟩, fun hw => ⟨_, d1, fun _ => ⟨_, c8, fun hx => rest, fun hx => ⟨_, d2, fun _ => rest, fun hn => ?_⟩⟩, fun hn => ?_⟩⟩
    · rw [r12 (by simpa using hx)] at hn; cases hn
    · rw [r12 (by simpa using hx)] at hn; cases hn
    · rw [r11 (by simpa using hw)] at hn; cases hn

/-! ## rights -/
theorem told_three (n : Nat) (B : List Nat) (tab : Int) (va root : Nat) : (∀ acc, acc = 0 ∨ acc = 1 ∨ acc = 2 → (trOf n B tab va root acc).kd ≠ 0) ∨
    ∃ (ww xx : Bool) (page r : Int), toldR n B tab va root 0 0 = lastR n B tab va ww xx page 0 r ∧ toldR n B tab va root 1 0 = (if ww = true then lastR n B tab va ww xx page 1 r else .bad 1 4 va false r) ∧ toldR n B tab va root 2 0 = (if xx = true then lastR n B tab va ww xx page 2 r else .bad 1 4 va false r) := by
  by_cases hv : va < 1048576
  rotate_left
  · left
    intro acc _
    have : toldR n B tab va root acc 0 = .bad 1 1 va false 0 := if_pos hv
    unfold trOf; rw [this]; exact (by decide : (1 : Int) ≠ 0)
  have hT : ∀ acc, toldR n B tab va root acc 0 = if root = 0 then lastR n B tab va true true ((va / 256 : Nat) : Int) acc 0
    else (ownR n B tab va root 0).bind fun x r => if allows x.1 acc = false then .bad 1 4 va false r else if ¬ x.2 < 4096 then .bad 1 1 va false r else lastR n B tab va x.1.w x.1.x x.2 acc r := fun acc => if_neg (by omega)
  by_cases hr : root = 0
  · right
    refine ⟨true, true, ((va / 256 : Nat) : Int), 0, (hT 0).trans (if_pos hr), (hT 1).trans (if_pos hr), (hT 2).trans (if_pos hr)⟩
  cases hm : ownR n B tab va root 0 with
  | bad st kd ad tb r =>
    left
    intro acc _
    have : toldR n B tab va root acc 0 = .bad st kd ad tb r := ((hT acc).trans (if_neg hr)).trans (Rs.bind_bad hm _)
    rcases told_split n B tab va root acc with ⟨st', kd', ad', tb', r', h1, _, h2, _⟩ | ⟨t, r', h1⟩
    · unfold trOf; rw [h1]; exact h2
    · rw [this] at h1; cases h1
  | ok x r =>
    have hx := own_le hm
    have hO : ∀ acc, toldR n B tab va root acc 0 = if allows x.1 acc = false then .bad 1 4 va false r else if ¬ x.2 < 4096 then .bad 1 1 va false r else lastR n B tab va x.1.w x.1.x x.2 acc r := fun acc => ((hT acc).trans (if_neg hr)).trans (Rs.bind_ok hm _)
    by_cases hp : x.2 < 4096
    · right
      refine ⟨x.1.w, x.1.x, x.2, r, ?_, ?_, ?_⟩
      · rw [hO, if_neg (by rw [allows_0, hx.2.2.2.2]; decide), if_neg (by omega)]
      · rw [hO, allows_1, hx.2.2.2.2, Bool.true_and]
        cases x.1.w
        · rw [if_pos rfl]; rfl
        · rw [if_neg (by decide), if_neg (by omega)]; rfl
      · rw [hO, allows_2, hx.2.2.2.2, Bool.true_and]
        cases x.1.x
        · rw [if_pos rfl]; rfl
        · rw [if_neg (by decide), if_neg (by omega)]; rfl
    · left
      intro acc _
      unfold trOf
      rw [hO]
      by_cases ha : allows x.1 acc = false
      · rw [if_pos ha]; exact (by decide : (4 : Int) ≠ 0)
      · rw [if_neg ha, if_pos hp]; exact (by decide : (1 : Int) ≠ 0)
theorem last_kd (n : Nat) (B : List Nat) (tab : Int) (va : Nat) (ww xx : Bool) (page acc r : Int) : (tlOf (lastR n B tab va ww xx page acc r)).kd = (walkOf n B tab (page.toNat * 256 + va % 256) acc).fault ∧
    ((walkOf n B tab (page.toNat * 256 + va % 256) acc).fault = 0 → (tlOf (lastR n B tab va ww xx page acc r)).wr = (ww && (walkOf n B tab (page.toNat * 256 + va % 256) acc).write) ∧ (tlOf (lastR n B tab va ww xx page acc r)).ex = (xx && (walkOf n B tab (page.toNat * 256 + va % 256) acc).exec)) := by
  unfold lastR thruR
  by_cases c : (walkOf n B tab (page.toNat * 256 + va % 256) acc).fault = 0
  · rw [if_pos c]
    exact ⟨c.symm, fun _ => ⟨rfl, rfl⟩⟩
  · rw [if_neg c]
    exact ⟨rfl, fun h => absurd h c⟩
theorem rights_tr (n : Nat) (B : List Nat) (tab : Int) (va root : Nat) : ((trOf n B tab va root 0).kd ≠ 0 ∧ (trOf n B tab va root 1).kd ≠ 0 ∧ (trOf n B tab va root 2).kd ≠ 0) ∨
    ((trOf n B tab va root 0).kd = 0 ∧ (trOf n B tab va root 1).kd = (if (trOf n B tab va root 0).wr = true then 0 else 4) ∧ (trOf n B tab va root 2).kd = (if (trOf n B tab va root 0).ex = true then 0 else 4)) := by
  rcases told_three n B tab va root with h | ⟨ww, xx, page, r, h0, h1, h2⟩
  · exact .inl ⟨h 0 (.inl rfl), h 1 (.inr (.inl rfl)), h 2 (.inr (.inr rfl))⟩
  rw [tr_eq, tr_eq, tr_eq, h0, h1, h2]
  obtain ⟨k0, k0'⟩ := last_kd n B tab va ww xx page 0 r
  obtain ⟨k1, _⟩ := last_kd n B tab va ww xx page 1 r
  obtain ⟨k2, _⟩ := last_kd n B tab va ww xx page 2 r
  rw [walk_F] at k0 k0' k1 k2
  by_cases c : (walkF n (foundOf n B tab (page.toNat * 256 + va % 256)) 0).fault = 0
  · right
    obtain ⟨g1, g2, _⟩ := walkF_good c
    obtain ⟨q1, q2⟩ := k0' c
    rw [k0, q1, q2]
    refine ⟨c, ?_, ?_⟩
    · cases ww
      · rfl
      · rw [if_pos rfl, k1, g1, Bool.true_and]
    · cases xx
      · rfl
      · rw [if_pos rfl, k2, g2, Bool.true_and]
  · left
    have nz : ∀ acc : Int, (walkF n (foundOf n B tab (page.toNat * 256 + va % 256)) acc).fault ≠ 0 := by
      intro acc e
      obtain ⟨_, _, _, _, a5⟩ := walkF_acc e
      rw [a5] at c
      exact c rfl
    refine ⟨by rw [k0]; exact c, ?_, ?_⟩
    · cases ww
      · exact (by decide : (4 : Int) ≠ 0)
      · rw [if_pos rfl, k1]; exact nz 1
    · cases xx
      · exact (by decide : (4 : Int) ≠ 0)
      · rw [if_pos rfl, k2]; exact nz 2
set_option maxHeartbeats 2000000 in
theorem rights_law {h : Hp} {a : Option Addr} {c : Nat} {L : List Pt} (g : rowAtK h a (encL Pt.cells L)) (hok : ∀ x ∈ L, x.ok) {own : Nat} (hown : own < 4294967296) {va : Nat} (hva : va < 4294967296) :
    CallsH Try.prog 4 [.slice a L.length c, .int .u32 own, .int .u32 va] h fun v h' => v = .bool true ∧ Fr [] h h' := by
  refine calls_k fun R hR => ?_
  apply warderlaw08_NestRights.calls
  unfold warderlaw08_NestRights.P
  refine (alive_spec h).mono ?_
  rintro _ h1 ⟨rfl, f1⟩
  refine ⟨_, rfl, fun hn => (by cases hn), fun _ => ?_⟩
  refine (great_spec 30 a L.length c).mono ?_
  rintro v h2 ⟨rfl, hh⟩
  rw [hh]; clear hh h2
  refine ⟨_, rfl, fun _ => hR _ _ ⟨rfl, f1⟩, fun hg => ?_⟩
  obtain ⟨m, hm, m1, m2, hL⟩ := great_no2 hg
  obtain rfl : m = 30 := by omega
  have hBo := Both_spec (n := 30) m1 (by omega) (c := c) (g.fr f1 (by simp)) hok (by omega)
  refine CallsH.mono hBo ?_
  rintro v h3 ⟨q, fb, q2, rb, rfl, w3, -, -, f3⟩
  generalize putsB 30 L = B at *
  refine ⟨_, _, rfl, fun hn => absurd hn (by simp [notIf]), fun _ => ?_⟩
  have hr := rights_tr 30 B 0 va own
  refine (Translate_spec w3 hown 0 hva 0).mono ?_
  rintro v h4 ⟨rfl, f4⟩
  refine ⟨_, _, _, _, _, _, _, _, _, rfl, ?_⟩
  refine put_local rfl (by decide) ?_
  intro h6 k6 f6 s6
  have k6 : bk h6 (sz h4) = some (blk 36 (trOf 30 B 0 va own 0).cells) := k6
  have w6 := (w3.fr f4 (by simp) (by simp)).fr f6 (by simp) (by simp)
  refine (Translate_spec w6 hown 0 hva 1).mono ?_
  rintro v h7 ⟨rfl, f7⟩
  refine ⟨_, _, _, _, _, _, _, _, _, rfl, ?_⟩
  refine put_local rfl (by decide) ?_
  intro h9 k9 f9 s9
  have k9 : bk h9 (sz h7) = some (blk 36 (trOf 30 B 0 va own 1).cells) := k9
  have w9 := (w6.fr f7 (by simp) (by simp)).fr f9 (by simp) (by simp)
  refine (Translate_spec w9 hown 0 hva 2).mono ?_
  rintro v h10 ⟨rfl, f10⟩
  refine ⟨_, _, _, _, _, _, _, _, _, rfl, ?_⟩
  refine put_local rfl (by decide) ?_
  intro h12 k12 f12 s12
  have k12 : bk h12 (sz h10) = some (blk 36 (trOf 30 B 0 va own 2).cells) := k12
  have k9 := (f10.trans f12).at k9 (by simp)
  have k6 := ((f7.trans f9).trans (f10.trans f12)).at k6 (by simp)
  have fr12 : Fr [] h h12 := (((f1.trans f3).trans f4).trans f6).trans ((f7.trans f9).trans (f10.trans f12))
  have fin := hR (.bool true) h12 ⟨rfl, fr12⟩
  generalize trOf 30 B 0 va own 0 = t at *
  generalize trOf 30 B 0 va own 1 = u at *
  generalize trOf 30 B 0 va own 2 = x at *
  refine ⟨_, (cellAt_of k6 1).trans rfl, fun c1 => ?_, fun c1 => ?_⟩
  · have c1 : t.kd ≠ 0 := by simpa using c1
    rcases hr with ⟨_, r2, r3⟩ | ⟨r1, _⟩
    · refine ⟨_, (cellAt_of k9 1).trans rfl, fun _ => ⟨_, (cellAt_of k12 1).trans rfl, ?_⟩, fun hn => absurd (by simpa using hn : u.kd = 0) r2⟩
      have : (x.kd != 0) = true := by simpa using r3
      rw [this]; exact fin
    · exact absurd r1 c1
  · have c1 : t.kd = 0 := by simpa using c1
    rcases hr with ⟨r1, _⟩ | ⟨_, r2, r3⟩
    · exact absurd c1 r1
    have q1 : (notIf true ((u.kd == 0) == t.wr)) = true := by rw [r2]; cases t.wr <;> rfl
    have q2 : (notIf true ((x.kd == 0) == t.ex)) = true := by rw [r3]; cases t.ex <;> rfl
    have e2 : u.kd = 0 ∨ u.kd = 4 := by rw [r2]; split <;> simp
    have e3 : x.kd = 0 ∨ x.kd = 4 := by rw [r3]; split <;> simp
    refine ⟨_, (cellAt_of k9 1).trans rfl, _, (cellAt_of k6 7).trans rfl, fun _ => ⟨_, (cellAt_of k12 1).trans rfl, _, (cellAt_of k6 8).trans rfl, fun _ => ?_, fun hn => absurd hn (by rw [q2]; decide)⟩, fun hn => absurd hn (by rw [q1]; decide)⟩
    have tail : ∃ Kind52 : Int, cellAt h12 (sz h10) 1 = some (.int .i64 Kind52) ∧ ((Kind52 == 0) = true → (R (.bool true) h12)) ∧ ((Kind52 == 0) = false → (∃ Kind53 : Int, cellAt h12 (sz h10) 1 = some (.int .i64 Kind53) ∧ R (.bool (Kind53 == 4)) h12)) := by
      refine ⟨_, (cellAt_of k12 1).trans rfl, fun _ => fin, fun hn => ⟨_, (cellAt_of k12 1).trans rfl, ?_⟩⟩
      have hn : x.kd ≠ 0 := by simpa using hn
      rw [e3.resolve_left hn]; exact fin
    refine ⟨_, (cellAt_of k9 1).trans rfl, fun _ => tail, fun hn => ⟨_, (cellAt_of k9 1).trans rfl, fun _ => tail, fun hn2 => ?_⟩⟩
    have hn : u.kd ≠ 0 := by simpa using hn
    have hn2 : u.kd ≠ 4 := by simpa using hn2
    exact absurd (e2.resolve_left hn) hn2
end Go.Proofs.Ytopfdfcbhclolaa
