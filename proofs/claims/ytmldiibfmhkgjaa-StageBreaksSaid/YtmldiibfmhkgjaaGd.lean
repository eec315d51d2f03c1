import Derived.Test.YtmldiibfmhkgjaaGc
namespace Go.Proofs.Ytmldiibfmhkgjaa
open Go Go.Wd
set_option linter.unusedVariables false
set_option linter.unusedSimpArgs false
set_option linter.unnecessarySimpa false

theorem Splits_walk {h : Hp} (n a : Int) {ra : Option Addr} {calls : List Cl} {rc : Nat} (row : rowAtK h ra (encL Cl.cells calls)) (first page : Int) :
    CallsH Try.prog 5 [.int .i64 n, .int .i64 a, .slice ra calls.length rc, .int .i64 first, .int .i64 page] h fun v h' => v = .bool true ∧ Fr [] h h' := by
  refine calls_k fun R hR => ?_
  apply warderlaw11_StageSplits.calls
  unfold warderlaw11_StageSplits.P
  refine alive_spec.mono ?_
  rintro v h2 ⟨rfl, f2⟩
  refine ⟨_, rfl, fun c => (by cases c), fun _ => ?_⟩
  refine (great_spec n a _ _ _).mono ?_
  rintro v h3 ⟨rfl, hh⟩
  rw [hh]; clear hh h3
  refine ⟨_, rfl, fun _ => hR _ _ ⟨rfl, f2⟩, fun cg => ?_⟩
  obtain ⟨m, k, rfl, rfl, hm1, hm, hk, hl⟩ := great_no11 cg
  refine (Begin_spec hm1 hm hk).mono ?_
  rintro v h4 ⟨b, y, s, rfl, w4, i4⟩
  have w4 := w4.back f2
  refine ⟨_, rfl, fun c => absurd c (by simp [notIf]), fun _ => ?_⟩
  refine do_loop w4 i4.lv hl row ?_
  intro h5 s1 A T w5 l5
  refine ⟨_, _, rfl, _, w5.csp, ?_⟩
  refine (SPages_spec w5.sp l5.inv l5.de).mono ?_
  rw [psL_def]
  rintro v h6 ⟨la, lc, rfl, rl6, ft6, f6⟩
  have w6 := w5.fr0 f6
  have hlen := psL_len A
  have holen := oldL_len A
  have lF := w5.sp.ltF
  refine ⟨_, _, _, rfl, ?_⟩
  intro h7 e7
  have f7 : Fr [] h6 h7 := by rw [e7]; exact Fr.new _ _ _
  have o7 : Go.Wd.Own h7 54 5 (some ⟨sz h6, 0, none⟩) 0 0 (encL Ent.cells ((oldL A).take 0)) := by
    rw [e7]
    exact ⟨rfl, .inr ⟨_, [], rfl, new_at _ _, rfl, Nat.le_refl _⟩⟩
  clear e7
  refine ⟨fun oa ol oc i h8 => ∃ j : Nat, i = (j : Int) ∧ j ≤ (psL A).length ∧ ol = j ∧ Go.Wd.Own h8 54 5 oa ol oc (encL Ent.cells ((oldL A).take j)) ∧ (∀ x ∈ foot oa, sz h6 ≤ x) ∧ Fr [] h6 h8, fun _ _ _ i _ => (psL A).length - i.toNat, ⟨0, rfl, by omega, rfl, o7, by simp [foot], f7⟩, ?_⟩
  rintro oa ol oc i h8 ⟨j, rfl, hj, rfl, o8, fo8, f8⟩
  have w8 := w6.fr0 f8
  have rl8 := rl6.fr f8 (by simp)
  refine ⟨fun c => ?_, fun c => ?_⟩
  · have hj1 : ol < (psL A).length := lt_cast c
    obtain ⟨x, hx⟩ : ∃ x, (psL A)[ol]? = some x := ⟨_, List.getElem?_eq_getElem hj1⟩
    obtain ⟨p, rfl, hp, hpp⟩ := pages_mem hx
    have hold := oldL_at hx hp
    have hnext := take_one hold
    obtain ⟨bl, bo, rfl, cl⟩ := rowN_cell rl8 hx
    have hlk : lookA A (p : Int) = lookN A p := lookA_nat hp
    have fin : ∀ h11 h12, Fr [] h8 h11 → h12 = new h11 (blk 54 (lkE (lookN A p)).cells) → ∀ (I : Option Addr → Nat → Nat → Int → Hp → Prop) (M : Option Addr → Nat → Nat → Int → Hp → Nat),
        (∀ a' c' h13, Go.Wd.Own h13 54 5 a' (ol + 1) c' (encL Ent.cells ((oldL A).take (ol + 1))) → (∀ x ∈ foot a', sz h6 ≤ x) → Fr [] h6 h13 → I a' (ol + 1) c' ((ol + 1 : Nat) : Int) h13 ∧ M a' (ol + 1) c' ((ol + 1 : Nat) : Int) h13 < M oa ol oc ((ol : Nat) : Int) h8) →
        appendN h12 54 5 16 [.bool false, .bool false, .bool false, .bool false, .int .i64 0] oa ol oc (some ⟨sz h11, 0, none⟩) 1 fun a55 l56 c57 h13 => I a55 l56 c57 (IntKind.wrap .i64 ((ol : Int) + 1)) h13 ∧ M a55 l56 c57 (IntKind.wrap .i64 ((ol : Int) + 1)) h13 < M oa ol oc ((ol : Nat) : Int) h8 := by
      intro h11 h12 f11 e12 I M hK
      rw [wrapN hj1 (by omega)]
      refine append_new (h0 := h6) (F := []) (o8.fr f11 (by simp)) rfl (f8.trans f11) (fun y hy => .inr (fo8 y hy)) (news := (lkE (lookN A p)).cells) rfl rfl e12 (by omega) (by omega) ?_
      intro a' c' h13 o13 f13 g13 l13 t13
      refine hK a' c' h13 ?_ ?_ f13
      · rw [hnext, encL_append]
        have : encL Ent.cells [lkE (lookN A p)] = (lkE (lookN A p)).cells := by simp [encL]
        rw [this]; exact o13
      · intro y hy
        rcases t13 with rfl | t13
        · exact fo8 y hy
        · have := t13 y hy; have := (f8.trans f11).size; omega
    refine ⟨_, _, rfl, _, w8.csp, by omega, by omega, _, _, rfl, _, cl, ?_, ?_⟩
    · refine (SLook_spec w8.sp l5.inv l5.de (p : Int)).mono ?_
      rw [hlk]
      rintro r h9 ⟨rfl, f9⟩
      refine ⟨_, _, _, _, _, _, rfl, ?_⟩
      intro h10 e10
      have k10 : bk h10 (sz h9) = some (blk 54 noEnt.cells) := by rw [e10]; exact new_at _ _
      have f10 : Fr [] h9 h10 := by rw [e10]; exact Fr.new _ _ _
      clear e10
      have f810 := f9.trans f10
      have w10 := w8.fr0 f810
      refine ⟨w10.csp, f810.cell cl (by simp), truly_rfl, _, _, k10, Nat.le_of_ble_eq_true rfl, ?_⟩
      intro h11 e11
      have k11 : bk h11 (sz h9) = some (blk 54 (lkE (lookN A p)).cells) := by rw [e11]; exact upd_same k10 _ _
      have f11 : Fr [] h8 h11 := f810.later (by rw [e11]; exact Fr.upd (F := [sz h9]) (by simp) _ _ _) (by simpa using f9.size)
      refine Ent.rd0 _ k11 ?_
      intro h12 e12
      refine fin h11 h12 f11 e12 (fun oa ol oc i h8 => ∃ j : Nat, i = (j : Int) ∧ j ≤ (psL A).length ∧ ol = j ∧ Go.Wd.Own h8 54 5 oa ol oc (encL Ent.cells ((oldL A).take j)) ∧ (∀ x ∈ foot oa, sz h6 ≤ x) ∧ Fr [] h6 h8) (fun _ _ _ i _ => (psL A).length - i.toNat) ?_
      intro a' c' h13 o13 g13 f13
      exact ⟨⟨ol + 1, rfl, hj1, rfl, o13, g13, f13⟩, decM hj1⟩
    · intro h14 e14
      have k14 : bk h14 (sz h8) = some (blk 54 noEnt.cells) := by rw [e14]; exact new_at _ _
      have f14 : Fr [] h8 h14 := by rw [e14]; exact Fr.new _ _ _
      clear e14
      have w14 := w8.fr0 f14
      refine ⟨w14.csp, f14.cell cl (by simp), ?_⟩
      refine (SLook_spec w14.sp l5.inv l5.de (p : Int)).mono ?_
      rw [hlk]
      rintro r h15 ⟨rfl, f15⟩
      have k15 := f15.at k14 (by simp)
      refine ⟨_, _, _, _, _, _, rfl, truly_rfl, _, _, k15, Nat.le_of_ble_eq_true rfl, ?_⟩
      intro h16 e16
      have k16 : bk h16 (sz h8) = some (blk 54 (lkE (lookN A p)).cells) := by rw [e16]; exact upd_same k15 _ _
      have f16 : Fr [] h8 h16 := (f14.trans f15).later (by rw [e16]; exact Fr.upd (F := [sz h8]) (by simp) _ _ _) (by simp)
      refine Ent.rd0 _ k16 ?_
      intro h17 e17
      refine fin h16 h17 f16 e17 (fun oa ol oc i h8 => ∃ j : Nat, i = (j : Int) ∧ j ≤ (psL A).length ∧ ol = j ∧ Go.Wd.Own h8 54 5 oa ol oc (encL Ent.cells ((oldL A).take j)) ∧ (∀ x ∈ foot oa, sz h6 ≤ x) ∧ Fr [] h6 h8) (fun _ _ _ i _ => (psL A).length - i.toNat) ?_
      intro a' c' h18 o18 g18 f18
      exact ⟨⟨ol + 1, rfl, hj1, rfl, o18, g18, f18⟩, decM hj1⟩
  -- all is written down
  have hj1 : ol = (psL A).length := Nat.le_antisymm hj (ge_cast c)
  rw [List.take_of_length_le (by omega)] at o8
  have ro8 := o8.row
  have ola : ∀ x ∈ foot la, x ∉ y.F := fun x hx hm => by have := (ft6 x hx).1; have := lF x hm; omega
  have ooa : ∀ x ∈ foot oa, x ∉ y.F := fun x hx hm => by have := fo8 x hx; have := lF x hm; have := f6.size; omega
  have told : ∀ {but : Int} {h' : Hp} {s' : Sp} {A' : Ab} {T' : Nat → Nat}, Wo h h' b y s' → Liv s' A' T' m (m - k - 1) → rowAtK h' la (encL iN (psL A)) → rowAtK h' oa (encL Ent.cells (oldL A)) → Alike A A' but →
      CallsH Try.prog 24 [.pointer (some ⟨b, 0, none⟩), .slice la (psL A).length lc, .slice oa ol oc, .int .i64 but] h' fun r h'' => r = .bool true ∧ Fr [] h' h'' := by
    intro but h' s' A' T' w l rl ro sm
    rw [show ol = (oldL A).length from hj1.trans holen.symm]
    exact told_spec w l.inv l.de rl ro sm
  refine ⟨fun h23 => ∃ (s' : Sp) (T' : Nat → Nat), Wo h h23 b y s' ∧ Liv s' A T' m (m - k - 1) ∧ rowAtK h23 la (encL iN (psL A)) ∧ rowAtK h23 oa (encL Ent.cells (oldL A)), ?_, ?_⟩
  · refine ⟨_, _, rfl, _, w8.csp, ?_⟩
    refine (Split_spec w8.sp l5.hv first).mono ?_
    rintro v h19 ⟨e, s2, rfl, p19, f19, r19⟩
    have w19 := w8.go p19 (.ofF f19)
    obtain ⟨he, _, hbad, T2, l19⟩ := l5.step r19
    have rl19 := rl8.fr f19 ola
    have ro19 := ro8.fr f19 ooa
    refine ⟨_, rfl, fun c => ?_, fun c => ?_⟩
    · have he0 : e = 0 := by simpa using c
      rw [he0] at he
      obtain ⟨i, f, x, z, rfl, hi, hA, hop⟩ := split_ok he.symm
      rw [hop] at l19
      refine (told w19 l19 rl19 ro19 (split_alike hA _)).mono ?_
      rintro r h20 ⟨rfl, f20⟩
      have w20 := w19.fr0 f20
      refine ⟨_, rfl, fun c => (by cases c), fun _ => ⟨_, _, rfl, _, w20.csp, ?_⟩⟩
      refine (Merge_spec w20.sp l19.hv (i : Int)).mono ?_
      rintro v h21 ⟨e2, s3, rfl, p21, f21, r21⟩
      have w21 := w20.go p21 (.ofF f21)
      obtain ⟨he2, _, _, T3, l21⟩ := l19.step r21
      rw [merge_split hi hA (l5.inv.bb i hi f x z hA).1] at he2 l21
      have he2 : e2 = 0 := he2
      subst he2
      have rl21 := (rl19.fr f20 (by simp)).fr f21 ola
      have ro21 := (ro19.fr f20 (by simp)).fr f21 ooa
      refine ⟨_, rfl, fun c => absurd c (by decide), fun _ => ?_⟩
      refine (told w21 l21 rl21 ro21 (Alike.refl A _)).mono ?_
      rintro r h22 ⟨rfl, f22⟩
      exact ⟨_, rfl, fun c => (by cases c), fun _ => ⟨s3, T3, w21.fr0 f22, l21, rl21.fr f22 (by simp), ro21.fr f22 (by simp)⟩⟩
    · have he0 : e ≠ 0 := by simpa using c
      rw [he] at he0
      rw [split_bad he0] at l19
      exact ⟨s2, T2, w19, l19, rl19, ro19⟩
  rintro h23 ⟨s3, T3, w23, l23, rl23, ro23⟩
  refine ⟨_, _, rfl, _, w23.csp, ?_⟩
  refine (SLook_spec w23.sp l23.inv l23.de page).mono ?_
  rintro r h24 ⟨rfl, f24⟩
  have w24 := w23.fr0 f24
  refine ⟨_, _, _, _, _, _, rfl, ?_⟩
  obtain ⟨E, hE⟩ : ∃ E, E = lkE (lookA A page) := ⟨_, rfl⟩
  rw [← hE]
  refine put_ent E ?_
  intro h26 k26 f26 s26
  have w26 := w24.fr0 f26
  have out26 : sz h24 ∉ y.F := fun hm => by have := w24.sp.ltF _ hm; omega
  refine ⟨_, _, rfl, _, w26.csp, _, (cellAt_of k26 1).trans rfl, _, (cellAt_of k26 2).trans rfl, ?_⟩
  refine (Protect_spec w26.sp l23.hv page (!E.w) E.x).mono ?_
  rintro v h27 ⟨e, s4, rfl, p27, f27, r27⟩
  have w27 := w26.go p27 (.ofF f27)
  obtain ⟨he, _, hbad, T4, l27⟩ := l23.step r27
  have rl27 := ((rl23.fr f24 (by simp)).fr f26 (by simp)).fr f27 ola
  have ro27 := ((ro23.fr f24 (by simp)).fr f26 (by simp)).fr f27 ooa
  have k27 := f27.at k26 out26
  have same : (opProt A (freeB s3) page (!E.w) E.x).2 = A → CallsH Try.prog 24 [.pointer (some ⟨b, 0, none⟩), .slice la (psL A).length lc, .slice oa ol oc, .int .i64 (-1)] h27 fun r110 h28 => ∃ told111 : Bool, r110 = .bool told111 ∧ R (.bool told111) h28 := by
    intro hA
    rw [hA] at l27
    refine (told w27 l27 rl27 ro27 (Alike.refl A _)).mono ?_
    rintro r h28 ⟨rfl, f28⟩
    exact ⟨_, rfl, hR _ _ ⟨rfl, (w27.fr0 f28).fr⟩⟩
  refine ⟨_, rfl, fun h30 => h30 = h27 ∧ e = 0, ?_, ?_⟩
  · refine ⟨fun c => ?_, fun c => ⟨fun c2 => ?_, fun c2 => ⟨rfl, by simpa using c2⟩⟩⟩
    · exact same (prot_none (by simpa using c))
    · have he0 : e ≠ 0 := by simpa using c2
      rw [he] at he0
      exact same (prot_bad he0)
  rintro h30 ⟨hh, he0⟩
  rw [hh]; clear hh h30
  rw [he0] at he
  obtain ⟨k2, q, rfl, hk2, hq, hlook, hal⟩ := prot_ok he.symm
  refine ⟨_, _, rfl, _, w27.csp, ?_⟩
  refine (SLook_spec w27.sp l27.inv l27.de (k2 : Int)).mono ?_
  have hlk : lookA (opProt A (freeB s3) (k2 : Int) (!E.w) E.x).2 (k2 : Int) = some (⟨q.f, !E.w, E.x⟩, false) := by rw [lookA_nat hk2]; exact hlook
  rw [hlk]
  rintro r h31 ⟨rfl, f31⟩
  have w31 := w27.fr0 f31
  refine ⟨_, _, _, _, _, _, rfl, ?_⟩
  refine put_ent (lkE (some (⟨q.f, !E.w, E.x⟩, false))) ?_
  intro h33 k33 f33 _
  have w33 := w31.fr0 f33
  have k33' := f33.at (f31.at k27 (by simp)) (by simp)
  obtain ⟨bb, hlk0⟩ := look_lkT hq
  have hEf : E.f = (q.f : Int) := by rw [hE, lookA_nat hk2, hlk0]; rfl
  have yes : ∀ {P Q : Prop} {t : Bool}, t = true → P → (t = true → P) ∧ (t = false → Q) := fun ht hp => ⟨fun _ => hp, fun c => (by rw [ht] at c; cases c)⟩
  refine yes rfl ⟨_, (cellAt_of k33 1).trans rfl, _, (cellAt_of k33' 1).trans rfl, yes (by simp [lkE, notIf]) ⟨_, (cellAt_of k33 2).trans rfl, _, (cellAt_of k33' 2).trans rfl, yes (by simp [lkE, notIf]) ⟨_, (cellAt_of k33 4).trans rfl, _, (cellAt_of k33' 4).trans rfl, yes (by rw [hEf]; simp [lkE]) ?_⟩⟩⟩
  refine (told w33 l27 ((rl27.fr f31 (by simp)).fr f33 (by simp)) ((ro27.fr f31 (by simp)).fr f33 (by simp)) hal).mono ?_
  rintro r h34 ⟨rfl, f34⟩
  exact ⟨_, rfl, hR _ _ ⟨rfl, (w33.fr0 f34).fr⟩⟩
end Go.Proofs.Ytmldiibfmhkgjaa
