import Derived.Test.YtopfdfcbhclolaaNc
namespace Go.Proofs.Ytopfdfcbhclolaa
open Go Go.Wd
set_option linter.unusedVariables false
set_option linter.unusedSimpArgs false

/-! ## the whole translation -/
theorem nil_spec {h : Hp} {a b : Nat} {D : Hp → Prop} (hD : D h) : CallsDH Try.prog 30 [.pointer (some ⟨a, 0, none⟩), .pointer (some ⟨b, 0, none⟩)] none h D := by
  apply nest_Translate_1_nil.calls
  exact hD
theorem Translate_spec {h : Hp} {q fb n : Nat} {B : List Nat} (ms : MS h q fb n B) {root : Nat} (hroot : root < 4294967296) (tab : Int) {va : Nat} (hva : va < 4294967296) (acc : Int) :
    CallsH Try.prog 12 [.pointer (some ⟨q, 0, none⟩), .int .u32 root, .int .i64 tab, .int .u32 va, .int .i64 acc] h fun v h' => v = .agg ⟨(trOf n B tab va root acc).cells⟩ ∧ Fr [] h h' := by
  refine calls_k fun R hR => ?_
  apply nest_Translate.calls
  unfold nest_Translate.P
  intro h1 e1
  have k1 : bk h1 (sz h) = some (blk 36 noTl.cells) := by rw [e1]; exact new_at _ _
  have f1 : Fr [] h h1 := by rw [e1]; exact Fr.new _ _ _
  have s1 : sz h1 = sz h + 1 := by rw [e1]; exact sz_new _ _
  clear e1
  intro h2 e2
  have w2 : WS h2 (sz h1) q tab va 0 := by rw [e2]; exact new_at _ _
  have f2 : Fr [] h1 h2 := by rw [e2]; exact Fr.new _ _ _
  have s2 : sz h2 = sz h1 + 1 := by rw [e2]; exact sz_new _ _
  clear e2
  refine put_local rfl (by decide) ?_
  intro h4 k4 f4 s4
  have w4 := w2.fr f4 (by simp)
  have f24 := f2.trans f4
  have r4 := f24.at k1 (by simp)
  have fr4 := f1.trans f24
  have ms4 := ms.fr fr4 (by simp) (by simp)
  have lq := ms.lt
  have lf := ms.ltf
  refine ⟨_, (cellAt_of k4 0).trans rfl, ?_⟩
  refine (told_spec ms4 (by omega) (by omega) hva w4 hroot acc).mono ?_ ?_
  · rintro v h5 ⟨t, r, hm, rfl, w5, f5⟩
    have htr : trOf n B tab va root acc = t := by unfold trOf; rw [hm]
    rw [htr] at hR
    have r5 := f5.at r4 (by simp; omega)
    have fr5 : Fr [] h h5 := fr4.later f5 (by simp; omega)
    refine ⟨_, _, _, _, _, _, _, _, _, rfl, truly_rfl, _, _, r5, by decide, ?_⟩
    intro h7 e7
    have hw : writeAt noTl.cells 0 [.int .i64 t.st, .int .i64 t.kd, .int .u32 t.fa, .bool t.tb, .int .i64 t.rd, .int .i64 t.pg, .int .u32 t.ad, .bool t.wr, .bool t.ex] = t.cells := rfl
    rw [hw] at e7
    have r7 : bk h7 (sz h) = some (blk 36 t.cells) := by rw [e7]; exact upd_same r5 _ _
    have fr7 : Fr [] h h7 := fr5.later (by rw [e7]; exact Fr.upd (F := [sz h]) (by simp) _ _ _) (by simp)
    refine nil_spec ?_
    refine Tl.rd' t r7 ?_
    exact hR _ _ ⟨rfl, fr7⟩
  · rintro v h5 ⟨st, kd, ad, tb, r, hm, rfl, w5, f5⟩
    have htr : trOf n B tab va root acc = ⟨st, kd, ad, tb, r, 0, 0, false, false⟩ := by unfold trOf; rw [hm]
    rw [htr] at hR
    have r5 := f5.at r4 (by simp; omega)
    have c5 := f5.at k4 (by simp; omega)
    have fr5 : Fr [] h h5 := fr4.later f5 (by simp; omega)
    apply nest_Translate_1_78.calls
    unfold nest_Translate_1_78.P
    refine put_local rfl (by decide) ?_
    intro h6 k6 f6 s6
    refine ⟨fun h7 => h7 = h6, ⟨fun hc => (by cases hc), fun _ => rfl⟩, ?_⟩
    rintro h7 hh
    rw [hh]; clear hh h7
    refine ⟨_, (cellAt_of k6 0).trans rfl, _, (cellAt_of k6 1).trans rfl, _, (cellAt_of k6 2).trans rfl, _, (cellAt_of k6 3).trans rfl, _, (cellAt_of (f6.at c5 (by simp)) 0).trans rfl, _, _, rfl, _, (cellAt_of (w5.fr f6 (by simp)) 3).trans rfl, truly_rfl, _, _, f6.at r5 (by simp), by decide, ?_⟩
    intro h8 e8
    have r8 : bk h8 (sz h) = some (blk 36 (Tl.mk st kd ad tb r 0 0 false false).cells) := by rw [e8]; exact upd_same (f6.at r5 (by simp)) _ _
    have fr8 : Fr [] h h8 := (fr5.trans f6).later (by rw [e8]; exact Fr.upd (F := [sz h]) (by simp) _ _ _) (by simp)
    refine Tl.rd' (Tl.mk st kd ad tb r 0 0 false false) r8 ?_
    exact hR _ _ ⟨rfl, fr8⟩
theorem Ipa_spec {h : Hp} {q fb n : Nat} {B : List Nat} (ms : MS h q fb n B) (tab : Int) {va : Nat} (hva : va < 4294967296) (acc : Int) :
    CallsH Try.prog 20 [.pointer (some ⟨q, 0, none⟩), .int .i64 tab, .int .u32 va, .int .i64 acc] h fun v h' => v = .agg ⟨(trOf n B tab va 0 acc).cells⟩ ∧ Fr [] h h' := by
  refine calls_k fun R hR => ?_
  apply nest_Ipa.calls
  unfold nest_Ipa.P
  intro h1 e1
  have k1 : bk h1 (sz h) = some (blk 36 noTl.cells) := by rw [e1]; exact new_at _ _
  have f1 : Fr [] h h1 := by rw [e1]; exact Fr.new _ _ _
  clear e1
  refine (Translate_spec (ms.fr f1 (by simp) (by simp)) (root := 0) (by decide) tab hva acc).mono ?_
  rintro v h2 ⟨rfl, f2⟩
  generalize trOf n B tab va 0 acc = t at *
  refine ⟨_, _, _, _, _, _, _, _, _, rfl, ?_⟩
  refine Tl.ret (f2.at k1 (by simp)) rfl t ?_
  exact hR _ _ ⟨rfl, (f1.trans f2).later (Fr.upd (F := [sz h]) (by simp) _ _ _) (by simp)⟩
def fetW (n : Nat) (B : List Nat) (t : Tl) : Int := if t.kd ≠ 0 then 0 else if wordOk n (t.ad / 4 * 4) then ((leN B (t.ad / 4 * 4) 4 : Nat) : Int) else 0
theorem mask4 {a : Nat} (ha : a < 4294967296) : bandV .u32 (a : Int) 4294967292 = ((a / 4 * 4 : Nat) : Int) := by
  rw [show (4294967292 : Int) = ((4294967292 : Nat) : Int) from rfl, band32 (by omega) (by omega)]
  congr 1
  have h1 : a &&& 4294967292 = (a / 4 * 4) := by
    apply Nat.eq_of_testBit_eq
    intro i
    rw [Nat.testBit_and]
    have e1 : a / 4 * 4 = (a / 2 ^ 2) * 2 ^ 2 := by simp
    rw [e1, Nat.testBit_mul_two_pow, Nat.testBit_div_two_pow]
    have e2 : (4294967292 : Nat) = (2 ^ 30 - 1) * 2 ^ 2 := by decide
    rw [e2, Nat.testBit_mul_two_pow, Nat.testBit_two_pow_sub_one]
    by_cases h2 : 2 ≤ i
    · rw [show i - 2 + 2 = i by omega]
      by_cases h3 : i - 2 < 30
      · simp [h2, h3]
      · have : a.testBit i = false := Nat.testBit_lt_two_pow (Nat.lt_of_lt_of_le (show a < 2 ^ 32 by omega) (Nat.pow_le_pow_right (by decide) (by omega)))
        simp [this]
    · simp [h2]
  exact h1
theorem Fetch_spec {h : Hp} {q fb n : Nat} {B : List Nat} (ms : MS h q fb n B) {root : Nat} (hroot : root < 4294967296) (tab : Int) {va : Nat} (hva : va < 4294967296) (had : (trOf n B tab va root 2).ad < 4294967296) :
    CallsH Try.prog 21 [.pointer (some ⟨q, 0, none⟩), .int .u32 root, .int .i64 tab, .int .u32 va] h fun v h' => v = .tuple #[.int .u32 (fetW n B (trOf n B tab va root 2)), .agg ⟨(trOf n B tab va root 2).cells⟩] ∧ Fr [] h h' := by
  refine calls_k fun R hR => ?_
  apply nest_Fetch.calls
  unfold nest_Fetch.P
  intro h1 e1
  have k1 : bk h1 (sz h) = some (blk 36 noTl.cells) := by rw [e1]; exact new_at _ _
  have f1 : Fr [] h h1 := by rw [e1]; exact Fr.new _ _ _
  clear e1
  have ms1 := ms.fr f1 (by simp) (by simp)
  refine (Translate_spec ms1 hroot tab hva 2).mono ?_
  rintro v h2 ⟨rfl, f2⟩
  generalize trOf n B tab va root 2 = t at *
  refine ⟨_, _, _, _, _, _, _, _, _, rfl, ?_⟩
  refine put_local rfl (by decide) ?_
  intro h4 k4 f4 s4
  have r4 := (f2.trans f4).at k1 (by simp)
  have fr4 := (f1.trans f2).trans f4
  have k4 : bk h4 (sz h2) = some (blk 36 t.cells) := k4
  refine ⟨_, (cellAt_of k4 1).trans rfl, fun c => ?_, fun c => ?_⟩
  · have c : t.kd ≠ 0 := by simpa using c
    refine Tl.rd' t k4 ?_
    refine Tl.ret r4 rfl t ?_
    have hw : fetW n B t = 0 := if_pos c
    rw [hw] at hR
    exact hR _ _ ⟨rfl, fr4.later (Fr.upd (F := [sz h]) (by simp) _ _ _) (by simp)⟩
  · have c : ¬ t.kd ≠ 0 := by simpa using c
    refine ⟨_, (cellAt_of k4 6).trans rfl, ?_⟩
    rw [mask4 had]
    refine (Word_spec ((ms1.fr f2 (by simp) (by simp)).fr f4 (by simp) (by simp)) (a := t.ad / 4 * 4) (by omega)).mono ?_
    rintro v h6 ⟨rfl, hh⟩
    rw [hh]; clear hh h6
    refine ⟨_, _, rfl, ?_⟩
    refine Tl.rd' t k4 ?_
    refine Tl.ret r4 rfl t ?_
    have hw : fetW n B t = if wordOk n (t.ad / 4 * 4) then ((leN B (t.ad / 4 * 4) 4 : Nat) : Int) else 0 := if_neg c
    rw [hw] at hR
    exact hR _ _ ⟨rfl, fr4.later (Fr.upd (F := [sz h]) (by simp) _ _ _) (by simp)⟩

/-! ## the document's answer -/
def Tl.rc (x : Tl) : List Value := [.int .i64 x.st, .int .i64 x.kd, .int .i64 x.rd, .int .i64 x.pg, .int .u32 x.fa, .int .u32 x.ad, .bool x.tb, .bool x.wr, .bool x.ex]
theorem Tl.rret {h : Hp} {b : Nat} {T : TypeId} {l0 : List Value} (hb : bk h b = some (blk T l0)) (hl : l0.length = 9) (x : Tl) {K : Int → Int → Int → Int → Int → Int → Bool → Bool → Bool → Hp → Prop} (hK : K x.st x.kd x.rd x.pg x.fa x.ad x.tb x.wr x.ex (upd h b T x.rc)) :
    truly true ∧ ∃ T1 : TypeId, ∃ l : List Value, bk h b = some (blk T1 l) ∧ 0 + 9 ≤ l.length ∧ ∀ h4 : Hp, h4 = upd h b T1 (writeAt l 0 [.int .i64 x.st, .int .i64 x.kd, .int .i64 x.rd, .int .i64 x.pg, .int .u32 x.fa, .int .u32 x.ad, .bool x.tb, .bool x.wr, .bool x.ex]) →
      ∃ a1 : Int, cellAt h4 b (0 + 0) = some (.int .i64 a1) ∧ ∃ a2 : Int, cellAt h4 b (0 + 1) = some (.int .i64 a2) ∧ ∃ a3 : Int, cellAt h4 b (0 + 2) = some (.int .i64 a3) ∧ ∃ a4 : Int, cellAt h4 b (0 + 3) = some (.int .i64 a4) ∧ ∃ a5 : Int, cellAt h4 b (0 + 4) = some (.int .u32 a5) ∧
      ∃ a6 : Int, cellAt h4 b (0 + 5) = some (.int .u32 a6) ∧ ∃ a7 : Bool, cellAt h4 b (0 + 6) = some (.bool a7) ∧ ∃ a8 : Bool, cellAt h4 b (0 + 7) = some (.bool a8) ∧ ∃ a9 : Bool, cellAt h4 b (0 + 8) = some (.bool a9) ∧ K a1 a2 a3 a4 a5 a6 a7 a8 a9 h4 := by
  refine ⟨rfl, T, l0, hb, by omega, ?_⟩
  rintro h4 rfl
  have hw : writeAt l0 0 [.int .i64 x.st, .int .i64 x.kd, .int .i64 x.rd, .int .i64 x.pg, .int .u32 x.fa, .int .u32 x.ad, .bool x.tb, .bool x.wr, .bool x.ex] = x.rc := by
    rw [writeAt_eq _ _ _ (by rw [hl]; exact Nat.le_refl _)]
    have : l0.drop (0 + 9) = [] := List.drop_eq_nil_of_le (by omega)
    simp only [List.take_zero, List.nil_append, List.length_cons, List.length_nil, Nat.zero_add, Nat.reduceAdd] at this ⊢
    rw [this, List.append_nil]; rfl
  rw [hw]
  exact ⟨_, (cell_upd hb _ _ _).trans rfl, _, (cell_upd hb _ _ _).trans rfl, _, (cell_upd hb _ _ _).trans rfl, _, (cell_upd hb _ _ _).trans rfl, _, (cell_upd hb _ _ _).trans rfl, _, (cell_upd hb _ _ _).trans rfl, _, (cell_upd hb _ _ _).trans rfl, _, (cell_upd hb _ _ _).trans rfl, _, (cell_upd hb _ _ _).trans rfl, hK⟩
theorem Tl.rrd {h : Hp} {b : Nat} {T : TypeId} (x : Tl) (hb : bk h b = some (blk T x.rc)) {K : Int → Int → Int → Int → Int → Int → Bool → Bool → Bool → Prop} (hK : K x.st x.kd x.rd x.pg x.fa x.ad x.tb x.wr x.ex) :
      ∃ a1 : Int, cellAt h b (0 + 0) = some (.int .i64 a1) ∧ ∃ a2 : Int, cellAt h b (0 + 1) = some (.int .i64 a2) ∧ ∃ a3 : Int, cellAt h b (0 + 2) = some (.int .i64 a3) ∧ ∃ a4 : Int, cellAt h b (0 + 3) = some (.int .i64 a4) ∧ ∃ a5 : Int, cellAt h b (0 + 4) = some (.int .u32 a5) ∧
      ∃ a6 : Int, cellAt h b (0 + 5) = some (.int .u32 a6) ∧ ∃ a7 : Bool, cellAt h b (0 + 6) = some (.bool a7) ∧ ∃ a8 : Bool, cellAt h b (0 + 7) = some (.bool a8) ∧ ∃ a9 : Bool, cellAt h b (0 + 8) = some (.bool a9) ∧ K a1 a2 a3 a4 a5 a6 a7 a8 a9 :=
  ⟨_, (cellAt_of hb _).trans rfl, _, (cellAt_of hb _).trans rfl, _, (cellAt_of hb _).trans rfl, _, (cellAt_of hb _).trans rfl, _, (cellAt_of hb _).trans rfl, _, (cellAt_of hb _).trans rfl, _, (cellAt_of hb _).trans rfl, _, (cellAt_of hb _).trans rfl, _, (cellAt_of hb _).trans rfl, hK⟩
theorem great_spec {h : Hp} (n : Int) (a : Option Addr) (l c : Nat) : CallsH Try.prog 9 [.int .i64 n, .slice a l c] h fun v h' => v = .bool (decide (n < 1) || decide (n > 100) || decide ((l : Int) > 120)) ∧ h' = h := by
  apply warderlaw08_great.calls
  unfold warderlaw08_great.P
  refine ⟨fun c1 => ⟨by rw [c1]; rfl, rfl⟩, fun c1 => ⟨fun c2 => ⟨by rw [c1, c2]; rfl, rfl⟩, fun c2 => ⟨by rw [c1, c2]; rfl, rfl⟩⟩⟩
theorem of_spec (h : Hp) (x : Tl) : CallsH Try.prog 18 [.agg ⟨x.cells⟩] h fun v h' => v = .agg ⟨x.rc⟩ ∧ Fr [] h h' := by
  refine calls_k fun R hR => ?_
  apply warderlaw08_of.calls
  unfold warderlaw08_of.P
  intro h1 e1
  have b1 : bk h1 (sz h) = some (blk 36 x.cells) := by rw [e1]; exact new_at _ _
  have s1 : sz h1 = sz h + 1 := by rw [e1]; exact sz_new _ _
  have f1 : Fr [] h h1 := by rw [e1]; exact Fr.new _ _ _
  clear e1
  intro h2 e2
  have b2 : bk h2 (sz h1) = some (blk 55 noTl.rc) := by rw [e2]; exact new_at _ _
  have f2 : Fr [] h1 h2 := by rw [e2]; exact Fr.new _ _ _
  clear e2
  have b12 := f2.at b1 (by simp)
  refine ⟨_, (cellAt_of b12 0).trans rfl, _, (cellAt_of b12 1).trans rfl, _, (cellAt_of b12 2).trans rfl, _, (cellAt_of b12 3).trans rfl, _, (cellAt_of b12 4).trans rfl, _, (cellAt_of b12 5).trans rfl, _, (cellAt_of b12 6).trans rfl, _, (cellAt_of b12 7).trans rfl, _, (cellAt_of b12 8).trans rfl, ?_⟩
  refine Tl.rret b2 rfl x ?_
  exact hR _ _ ⟨rfl, (f1.trans f2).later (Fr.upd (F := [sz h1]) (by simp) _ _ _) (by simp; omega)⟩
theorem rfault_spec (h : Hp) (st kd : Int) (ad : Nat) (tb : Bool) (r : Int) : CallsH Try.prog 39 [.int .i64 st, .int .i64 kd, .int .u32 ad, .bool tb, .int .i64 r] h fun v h' => v = .agg ⟨(Tl.mk st kd ad tb r 0 0 false false).rc⟩ ∧ Fr [] h h' := by
  refine calls_k fun R hR => ?_
  apply warderref08_fault.calls
  unfold warderref08_fault.P
  intro h1 e1
  have b1 : bk h1 (sz h) = some (blk 55 noTl.rc) := by rw [e1]; exact new_at _ _
  have f1 : Fr [] h h1 := by rw [e1]; exact Fr.new _ _ _
  refine Tl.rret b1 rfl (Tl.mk st kd ad tb r 0 0 false false) ?_
  exact hR _ _ ⟨rfl, f1.later (Fr.upd (F := [sz h]) (by simp) _ _ _) (by simp)⟩
def lastT (n : Nat) (B : List Nat) (tab : Int) (ipa : Nat) (acc : Int) (r : Int) : Tl := match thruR n B tab ipa acc false r with
  | .ok H r' => ⟨0, 0, 0, false, r', ((ipa / 256 : Nat) : Int), adr H.frame ipa, H.write, H.exec⟩
  | .bad st kd ad tb r' => ⟨st, kd, ad, tb, r', 0, 0, false, false⟩
theorem rlast_spec {h : Hp} {q rb n : Nat} {B : List Nat} (w : RS h q rb B) (hl : B.length = n * 256) (hn : n ≤ 1024) (tab : Int) {ipa : Nat} (hi : ipa < 4294967296) (acc : Int) {r : Int} (hr : 0 ≤ r) (hr2 : r ≤ 100) :
    CallsH Try.prog 40 [.pointer (some ⟨q, 0, none⟩), .int .i64 tab, .int .u32 ipa, .int .i64 acc, .int .i64 r] h fun v h' => v = .agg ⟨(lastT n B tab ipa acc r).rc⟩ ∧ Fr [] h h' := by
  refine calls_k fun R hR => ?_
  apply warderref08_last.calls
  unfold warderref08_last.P
  intro h1 e1
  have b1 : bk h1 (sz h) = some (blk 55 noTl.rc) := by rw [e1]; exact new_at _ _
  have f1 : Fr [] h h1 := by rw [e1]; exact Fr.new _ _ _
  have s1 : sz h1 = sz h + 1 := by rw [e1]; exact sz_new _ _
  clear e1
  refine (rWalk_spec (w.fr f1 (by simp) (by simp)) hl tab hi acc).mono ?_
  rintro v h2 ⟨rfl, f2⟩
  have hq := walk_reads n B tab ipa acc
  have hfr := walk_frame (n := n) (B := B) (root := tab) (a := ipa) (acc := acc)
  have hT : lastT n B tab ipa acc r = if (walkOf n B tab ipa acc).fault = 0 then ⟨0, 0, 0, false, r + (walkOf n B tab ipa acc).reads, ((ipa / 256 : Nat) : Int), adr (walkOf n B tab ipa acc).frame ipa, (walkOf n B tab ipa acc).write, (walkOf n B tab ipa acc).exec⟩ else ⟨2, (walkOf n B tab ipa acc).fault, ipa, false, r + (walkOf n B tab ipa acc).reads, 0, 0, false, false⟩ := by
    unfold lastT thruR
    by_cases c : (walkOf n B tab ipa acc).fault = 0
    · rw [if_pos c, if_pos c]
    · rw [if_neg c, if_neg c]
  generalize walkOf n B tab ipa acc = H at *
  refine ⟨_, _, _, _, _, _, rfl, ?_⟩
  refine put_local rfl (by decide) ?_
  intro h4 k4 f4 s4
  have b4 := (f2.trans f4).at b1 (by simp)
  have fr4 := (f1.trans f2).trans f4
  refine ⟨_, (cellAt_of k4 0).trans rfl, fun c => ?_, fun c => ?_⟩
  · have c : H.fault ≠ 0 := by simpa using c
    rw [hT, if_neg c] at hR
    refine ⟨_, (cellAt_of k4 0).trans rfl, _, (cellAt_of k4 1).trans rfl, ?_⟩
    rw [wrapS (by omega) (by omega)]
    refine (rfault_spec h4 2 H.fault ipa false _).mono ?_
    rintro v h5 ⟨rfl, f5⟩
    refine ⟨_, _, _, _, _, _, _, _, _, rfl, ?_⟩
    refine Tl.rret (f5.at b4 (by simp)) rfl ⟨2, H.fault, ipa, false, r + H.reads, 0, 0, false, false⟩ ?_
    exact hR _ _ ⟨rfl, (fr4.trans f5).later (Fr.upd (F := [sz h]) (by simp) _ _ _) (by simp)⟩
  · have c : H.fault = 0 := by simpa using c
    rw [hT, if_pos c] at hR
    have hfr := hfr c
    refine ⟨_, (cellAt_of k4 1).trans rfl, by decide, _, (cellAt_of k4 2).trans rfl, by decide, _, (cellAt_of k4 3).trans rfl, _, (cellAt_of k4 4).trans rfl, ?_⟩
    have e1 : IntKind.wrap .i64 (r + H.reads) = r + H.reads := wrapS (by omega) (by omega)
    have e2 : IntKind.wrap .i64 (IntKind.wrap .u32 (Int.tdiv (ipa : Int) 256)) = ((ipa / 256 : Nat) : Int) := by
      rw [tdiv_nat (by omega), wrap_u32 (by omega) (by omega), wrapS (by omega) (by omega)]; omega
    have e3 : IntKind.wrap .u32 ((IntKind.wrap .u32 (IntKind.wrap .i64 (256 * H.frame))) + (Int.tmod (ipa : Int) 256)) = ((adr H.frame ipa : Nat) : Int) := by
      rw [wrapS (by omega) (by omega), wrap_u32 (n := 256 * H.frame) (by omega) (by omega), tmod_nat (by omega), wrap_u32 (by omega) (by omega)]
      unfold adr; omega
    rw [e1, e2, e3]
    refine Tl.rret b4 rfl ⟨0, 0, 0, false, r + H.reads, ((ipa / 256 : Nat) : Int), adr H.frame ipa, H.write, H.exec⟩ ?_
    exact hR _ _ ⟨rfl, fr4.later (Fr.upd (F := [sz h]) (by simp) _ _ _) (by simp)⟩
end Go.Proofs.Ytopfdfcbhclolaa
