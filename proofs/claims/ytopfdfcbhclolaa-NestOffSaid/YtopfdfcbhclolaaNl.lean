import Derived.Test.YtopfdfcbhclolaaNk
namespace Go.Proofs.Ytopfdfcbhclolaa
open Go Go.Wd
set_option linter.unusedVariables false
set_option linter.unusedSimpArgs false

/-! ## two addresses of a page -/
inductive Sm {α : Type} (S : α → α → Prop) : Rs α → Rs α → Prop where
  | ok {a a' : α} {r : Int} (h : S a a') : Sm S (.ok a r) (.ok a' r)
  | bad {st kd r : Int} {ad ad' : Nat} {tb : Bool} : Sm S (.bad st kd ad tb r) (.bad st kd ad' tb r)
theorem Sm.bind {α β : Type} {S : α → α → Prop} {T : β → β → Prop} {m m' : Rs α} {f f' : α → Int → Rs β} (h : Sm S m m') (hf : ∀ a a' r, S a a' → Sm T (f a r) (f' a' r)) : Sm T (m.bind f) (m'.bind f') := by
  cases h with
  | ok h => exact hf _ _ _ h
  | bad => exact .bad
theorem Sm.refl {α : Type} (m : Rs α) : Sm (fun a b => a = b) m m := by
  cases m with
  | ok a r => exact .ok rfl
  | bad => exact .bad
theorem ent_sm (n : Nat) (B : List Nat) (tab : Int) (va va' : Nat) (page : Int) (i : Nat) (r : Int) : Sm (fun a b => a = b) (entR n B tab va page i r) (entR n B tab va' page i r) := by
  unfold entR
  by_cases c : page < 4096
  · rw [if_pos c, if_pos c]; exact Sm.refl _
  · rw [if_neg c, if_neg c]; exact .bad
theorem own_sm (n : Nat) (B : List Nat) (tab : Int) {va va' : Nat} (hv : va / 256 = va' / 256) (root : Nat) (r : Int) : Sm (fun a b => a = b) (ownR n B tab va root r) (ownR n B tab va' root r) := by
  have e1 : va / 16384 % 64 = va' / 16384 % 64 := by omega
  have e2 : va / 256 % 64 = va' / 256 % 64 := by omega
  unfold ownR
  rw [e1, e2]
  refine (ent_sm n B tab va va' _ _ r).bind ?_
  rintro e _ r rfl
  by_cases c1 : e.v = false
  · rw [if_pos c1, if_pos c1]; exact .bad
  rw [if_neg c1, if_neg c1]
  by_cases c2 : e.b = true
  · rw [if_pos c2, if_pos c2]; exact .ok rfl
  rw [if_neg c2, if_neg c2]
  refine (ent_sm n B tab va va' _ _ r).bind ?_
  rintro g _ r rfl
  by_cases c3 : g.v = false
  · rw [if_pos c3, if_pos c3]; exact .bad
  rw [if_neg c3, if_neg c3]; exact .ok rfl
def OffS (o : Nat) (t t' : Tl) : Prop := t.kd = t'.kd ∧ t.st = t'.st ∧ t.rd = t'.rd ∧ t.pg = t'.pg ∧ t.ad = t'.ad + o
theorem last_sm (n : Nat) (B : List Nat) (tab : Int) {va va' : Nat} (hm : va' % 256 = 0) (ww xx : Bool) (page acc r : Int) : Sm (OffS (va % 256)) (lastR n B tab va ww xx page acc r) (lastR n B tab va' ww xx page acc r) := by
  have hw := walk_same n B tab (a := page.toNat * 256 + va % 256) (b := page.toNat * 256 + va' % 256) (by omega) acc
  unfold lastR thruR
  rw [hw]
  have e1 : (page.toNat * 256 + va % 256) % 256 = va % 256 := by omega
  have e2 : (page.toNat * 256 + va' % 256) % 256 = 0 := by omega
  by_cases c : (walkOf n B tab (page.toNat * 256 + va' % 256) acc).fault = 0
  · rw [if_pos c, if_pos c]
    refine .ok ⟨rfl, rfl, rfl, rfl, ?_⟩
    simp only
    unfold adr
    rw [e1, e2]
    omega
  · rw [if_neg c, if_neg c]; exact .bad
theorem told_sm (n : Nat) (B : List Nat) (tab : Int) {va va' : Nat} (hv : va / 256 = va' / 256) (hm : va' % 256 = 0) (root : Nat) (acc : Int) : Sm (OffS (va % 256)) (toldR n B tab va root acc 0) (toldR n B tab va' root acc 0) := by
  unfold toldR
  by_cases c1 : va < 1048576
  · have c1' : va' < 1048576 := by omega
    rw [if_neg (show ¬ ¬ va < 1048576 by omega), if_neg (show ¬ ¬ va' < 1048576 by omega)]
    by_cases c2 : root = 0
    · rw [if_pos c2, if_pos c2, hv]
      exact last_sm n B tab hm _ _ _ _ _
    · rw [if_neg c2, if_neg c2]
      refine (own_sm n B tab hv root 0).bind ?_
      rintro x _ r rfl
      by_cases c3 : allows x.1 acc = false
      · rw [if_pos c3, if_pos c3]; exact .bad
      rw [if_neg c3, if_neg c3]
      by_cases c4 : x.2 < 4096
      · rw [if_neg (show ¬ ¬ x.2 < 4096 by omega), if_neg (show ¬ ¬ x.2 < 4096 by omega)]; exact last_sm n B tab hm _ _ _ _ _
      · rw [if_pos c4, if_pos c4]; exact .bad
  · have c1' : ¬ va' < 1048576 := by omega
    rw [if_pos c1, if_pos c1']; exact .bad
theorem off_tr (n : Nat) (B : List Nat) (tab : Int) {va va' : Nat} (hv : va / 256 = va' / 256) (hm : va' % 256 = 0) (root : Nat) (acc : Int) (t t' : Tl) (ht : trOf n B tab va root acc = t) (ht' : trOf n B tab va' root acc = t') :
    t.kd = t'.kd ∧ t.st = t'.st ∧ t.rd = t'.rd ∧ t.pg = t'.pg ∧ (t.kd = 0 → t.ad = t'.ad + va % 256) := by
  subst ht ht'
  have h := told_sm n B tab hv hm root acc
  rcases told_split n B tab va root acc with ⟨st, kd, ad, tb, r, e, h1, h2, h3, h4⟩ | ⟨t, r, e⟩
  · unfold trOf
    rw [e] at h ⊢
    cases h' : toldR n B tab va' root acc 0 with
    | ok t r => rw [h'] at h; cases h
    | bad st' kd' ad' tb' r' => rw [h'] at h; cases h; exact ⟨rfl, rfl, rfl, rfl, fun hk => absurd hk h2⟩
  · unfold trOf
    rw [e] at h ⊢
    cases h' : toldR n B tab va' root acc 0 with
    | ok t' r' => rw [h'] at h; cases h with | ok h => exact ⟨h.1, h.2.1, h.2.2.1, h.2.2.2.1, fun _ => h.2.2.2.2⟩
    | bad st' kd' ad' tb' r' => rw [h'] at h; cases h
theorem root0_tr (n : Nat) (B : List Nat) (tab : Int) {va : Nat} (hv : va < 1048576) (acc : Int) (t : Tl) (ht : trOf n B tab va 0 acc = t) : t.rd = (walkOf n B tab va acc).reads ∧ t.kd = (walkOf n B tab va acc).fault ∧
    ((walkOf n B tab va acc).fault = 0 → t.ad = adr (walkOf n B tab va acc).frame va ∧ t.wr = (walkOf n B tab va acc).write ∧ t.ex = (walkOf n B tab va acc).exec) := by
  subst ht
  have e : toldR n B tab va 0 acc 0 = lastR n B tab va true true ((va / 256 : Nat) : Int) acc 0 := (if_neg (by omega)).trans (if_pos rfl)
  unfold trOf
  rw [e]
  unfold lastR thruR
  rw [show ((va / 256 : Nat) : Int).toNat * 256 + va % 256 = va by omega]
  by_cases c : (walkOf n B tab va acc).fault = 0
  · rw [if_pos c]
    refine ⟨?_, c.symm, fun _ => ⟨rfl, ?_, ?_⟩⟩
    · exact Int.zero_add _
    · exact Bool.true_and _
    · exact Bool.true_and _
  · rw [if_neg c]
    exact ⟨Int.zero_add _, rfl, fun h => absurd h c⟩
theorem not255 {a : Nat} (ha : a < 4294967296) : bnotV .u32 (a : Int) 255 = ((a / 256 * 256 : Nat) : Int) := by
  rw [show (255 : Int) = ((255 : Nat) : Int) from rfl, bnot32 (by omega) (by omega)]
  congr 1
  apply Nat.eq_of_testBit_eq
  intro i
  rw [Nat.testBit_and]
  have e1 : a / 256 * 256 = (a / 2 ^ 8) * 2 ^ 8 := by simp
  rw [e1, Nat.testBit_mul_two_pow, Nat.testBit_div_two_pow]
  have e2 : (2 ^ 32 - 1 - 255 : Nat) = (2 ^ 24 - 1) * 2 ^ 8 := by decide
  rw [e2, Nat.testBit_mul_two_pow, Nat.testBit_two_pow_sub_one]
  by_cases h2 : 8 ≤ i
  · rw [show i - 8 + 8 = i by omega]
    by_cases h3 : i - 8 < 24
    · simp [h2, h3]
    · have : a.testBit i = false := Nat.testBit_lt_two_pow (Nat.lt_of_lt_of_le (show a < 2 ^ 32 by omega) (Nat.pow_le_pow_right (by decide) (by omega)))
      simp [this]
  · simp [h2]
set_option maxHeartbeats 2000000 in
theorem off_law {h : Hp} {a : Option Addr} {c : Nat} {L : List Pt} (g : rowAtK h a (encL Pt.cells L)) (hok : ∀ x ∈ L, x.ok) {va : Nat} (hva : va < 4294967296) (acc : Int) :
    CallsH Try.prog 3 [.slice a L.length c, .int .u32 va, .int .i64 acc] h fun v h' => v = .bool true ∧ Fr [] h h' := by
  refine calls_k fun R hR => ?_
  apply warderlaw08_NestOff.calls
  unfold warderlaw08_NestOff.P
  refine (alive_spec h).mono ?_
  rintro _ h1 ⟨rfl, f1⟩
  refine ⟨_, rfl, fun hn => (by cases hn), fun _ => ?_⟩
  refine ⟨fun h3 => h3 = h1 ∧ L.length ≤ 120 ∧ va < 1048576, ?_, ?_⟩
  · refine (great_spec 30 a L.length c).mono ?_
    rintro v h2 ⟨rfl, hh⟩
    rw [hh]
    refine ⟨_, rfl, fun _ => hR _ _ ⟨rfl, f1⟩, fun hg => ⟨fun _ => hR _ _ ⟨rfl, f1⟩, fun hA => ⟨rfl, ?_, ?_⟩⟩⟩
    · obtain ⟨m, _, _, _, hL⟩ := great_no2 hg
      exact hL
    · have : ¬ (va : Int) ≥ 1048576 := by simpa using hA
      omega
  rintro h3 ⟨hh, hL, hv⟩
  rw [hh]; clear hh h3
  have hBo := Both_spec (n := 30) (by omega) (by omega) (c := c) (g.fr f1 (by simp)) hok (by omega)
  refine CallsH.mono hBo ?_
  rintro v h4 ⟨q, fb, q2, rb, rfl, w4, -, -, f4⟩
  generalize putsB 30 L = B at *
  refine ⟨_, _, rfl, fun hn => absurd hn (by simp [notIf]), fun _ => ?_⟩
  refine (Walk_spec w4 0 hva acc).mono ?_
  rintro v h5 ⟨rfl, f5⟩
  have h0 := root0_tr 30 B 0 hv acc _ rfl
  have hfr := walk_frame (n := 30) (B := B) (root := 0) (a := va) (acc := acc)
  generalize walkOf 30 B 0 va acc = W at *
  refine ⟨_, _, _, _, _, _, rfl, ?_⟩
  refine put_local rfl (by decide) ?_
  intro h7 k7 f7 s7
  have k7 : bk h7 (sz h5) = some (blk 31 W.cells) := k7
  have w7 := (w4.fr f5 (by simp) (by simp)).fr f7 (by simp) (by simp)
  refine (Translate_spec w7 (root := 0) (by decide) 0 hva acc).mono ?_
  rintro v h8 ⟨rfl, f8⟩
  generalize trOf 30 B 0 va 0 acc = t at *
  refine ⟨_, _, _, _, _, _, _, _, _, rfl, ?_⟩
  refine put_local rfl (by decide) ?_
  intro h10 k10 f10 s10
  have k10 : bk h10 (sz h8) = some (blk 36 t.cells) := k10
  have k7 := (f8.trans f10).at k7 (by simp)
  have w10 := (w7.fr f8 (by simp) (by simp)).fr f10 (by simp) (by simp)
  have fr10 : Fr [] h h10 := ((f1.trans f4).trans (f5.trans f7)).trans (f8.trans f10)
  obtain ⟨p1, p2, p3⟩ := h0
  refine ⟨fun h11 => h11 = h10, ⟨_, (cellAt_of k10 4).trans rfl, _, (cellAt_of k7 1).trans rfl, fun hn => absurd (by simpa using hn) (fun e : ¬ t.rd = W.reads => e p1), fun _ => ?_⟩, ?_⟩
  · refine ⟨_, (cellAt_of k10 1).trans rfl, _, (cellAt_of k7 0).trans rfl, fun hn => absurd (by simpa using hn) (fun e : ¬ t.kd = W.fault => e p2), fun _ => ?_⟩
    refine ⟨_, (cellAt_of k7 0).trans rfl, fun c1 => ?_, fun _ => rfl⟩
    have c1 : W.fault = 0 := by simpa using c1
    obtain ⟨p4, p5, p6⟩ := p3 c1
    have hfr := hfr c1
    have e3 : IntKind.wrap .u32 ((IntKind.wrap .u32 (IntKind.wrap .i64 (256 * W.frame))) + (Int.tmod (va : Int) 256)) = ((t.ad : Nat) : Int) := by
      rw [p4, wrapS (by omega) (by omega), wrap_u32 (n := 256 * W.frame) (by omega) (by omega), tmod_nat (by omega), wrap_u32 (by omega) (by omega)]
      unfold adr; omega
    refine ⟨_, (cellAt_of k10 6).trans rfl, _, (cellAt_of k7 2).trans rfl, by decide, fun hn => ?_, fun _ => ?_⟩
    · rw [e3] at hn; simp at hn
    refine ⟨_, (cellAt_of k10 7).trans rfl, _, (cellAt_of k7 3).trans rfl, fun hn => ?_, fun _ => ?_⟩
    · rw [p5] at hn; simp [notIf] at hn
    refine ⟨_, (cellAt_of k10 8).trans rfl, _, (cellAt_of k7 4).trans rfl, fun hn => ?_, fun _ => rfl⟩
    rw [p6] at hn; simp [notIf] at hn
  rintro h11 hh
  rw [hh]; clear hh h11
  have hof := off_tr 30 B 0 (va := va) (va' := va / 256 * 256) (by omega) (by omega) 512 acc _ _ rfl rfl
  have had := tr_ad (n := 30) (by decide) B 0 va 512 acc
  refine (Translate_spec w10 (root := 512) (by decide) 0 hva acc).mono ?_
  rintro v h12 ⟨rfl, f12⟩
  generalize trOf 30 B 0 va 512 acc = u at *
  refine ⟨_, _, _, _, _, _, _, _, _, rfl, ?_⟩
  refine put_local rfl (by decide) ?_
  intro h14 k14 f14 s14
  have k14 : bk h14 (sz h12) = some (blk 36 u.cells) := k14
  have w14 := (w10.fr f12 (by simp) (by simp)).fr f14 (by simp) (by simp)
  rw [not255 hva]
  refine (Translate_spec w14 (root := 512) (by decide) 0 (va := va / 256 * 256) (by omega) acc).mono ?_
  rintro v h15 ⟨rfl, f15⟩
  generalize trOf 30 B 0 (va / 256 * 256) 512 acc = y at *
  refine ⟨_, _, _, _, _, _, _, _, _, rfl, ?_⟩
  refine put_local rfl (by decide) ?_
  intro h17 k17 f17 s17
  have k17 : bk h17 (sz h15) = some (blk 36 y.cells) := k17
  have k14 := (f15.trans f17).at k14 (by simp)
  have fr17 : Fr [] h h17 := fr10.trans ((f12.trans f14).trans (f15.trans f17))
  obtain ⟨q1, q2, q3, q4, q5⟩ := hof
  refine ⟨fun h18 => h18 = h17, ⟨_, (cellAt_of k14 1).trans rfl, _, (cellAt_of k17 1).trans rfl, fun hn => absurd (by simpa using hn) (fun e : ¬ u.kd = y.kd => e q1), fun _ => ⟨_, (cellAt_of k14 0).trans rfl, _, (cellAt_of k17 0).trans rfl, fun hn => absurd (by simpa using hn) (fun e : ¬ u.st = y.st => e q2), fun _ =>
    ⟨_, (cellAt_of k14 4).trans rfl, _, (cellAt_of k17 4).trans rfl, fun hn => absurd (by simpa using hn) (fun e : ¬ u.rd = y.rd => e q3), fun _ => ⟨_, (cellAt_of k14 5).trans rfl, _, (cellAt_of k17 5).trans rfl, fun hn => absurd (by simpa using hn) (fun e : ¬ u.pg = y.pg => e q4), fun _ => rfl⟩⟩⟩⟩, ?_⟩
  rintro h18 hh
  rw [hh]; clear hh h18
  refine ⟨_, (cellAt_of k14 1).trans rfl, fun _ => hR _ _ ⟨rfl, fr17⟩, fun c1 => ?_⟩
  have c1 : u.kd = 0 := by simpa using c1
  have q5 := q5 c1
  refine ⟨_, (cellAt_of k14 6).trans rfl, _, (cellAt_of k17 6).trans rfl, by decide, ?_⟩
  have e4 : IntKind.wrap .u32 ((y.ad : Int) + Int.tmod (va : Int) 256) = (u.ad : Int) := by
    rw [tmod_nat (by omega), wrap_u32 (by omega) (by omega)]; omega
  rw [e4]
  have : (((u.ad : Nat) : Int) == ((u.ad : Nat) : Int)) = true := by simp
  rw [this]
  exact hR _ _ ⟨rfl, fr17⟩
end Go.Proofs.Ytopfdfcbhclolaa
