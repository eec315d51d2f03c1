import Derived.Test.YthhancpnaleknaaDoorVg
namespace Go.Proofs.YthhancpnaleknaaDoor
open Go Go.Wd
set_option linter.unusedVariables false
set_option linter.unusedSimpArgs false

/-! ## the word, line by line -/
def WTo (L : List Ln) (kk x : Nat) : Prop := x < 2 ^ 32 ∧ ∀ (i : Nat) (y : Ln), L[i]? = some y → x.testBit i = (decide (i + 1 < kk) && y.pe) ∧ x.testBit (16 + i) = (decide (i + 1 < kk) && y.ac)
theorem WTo.zero (L : List Ln) : WTo L 0 0 := ⟨by decide, fun i y _ => by simp⟩
theorem WTo.none {L : List Ln} {kk x : Nat} (w : WTo L kk x) (hn : ∀ i y, L[i]? = some y → (i + 1 < kk + 1 ↔ i + 1 < kk)) : WTo L (kk + 1) x :=
  ⟨w.1, fun i y hy => by
    have := w.2 i y hy
    rw [decide_eq_decide.2 (hn i y hy)]; exact this⟩
theorem WTo.step {L : List Ln} {n x : Nat} {y : Ln} (p : Pr L) (w : WTo L (n + 1) x) (hy : L[n]? = some y) {p1 p2 : Nat} (e1 : p1 = if y.pe then x ||| 2 ^ n else x) (e2 : p2 = if y.ac then p1 ||| 2 ^ (16 + n) else p1) : WTo L (n + 2) p2 := by
  have hn := p.lt hy
  have b1 : (2 : Nat) ^ n < 2 ^ 32 := Nat.pow_lt_pow_right (by omega) (by omega)
  have b2 : (2 : Nat) ^ (16 + n) < 2 ^ 32 := Nat.pow_lt_pow_right (by omega) (by omega)
  have h1 : p1 < 2 ^ 32 := by subst e1; split; exact Nat.or_lt_two_pow w.1 b1; exact w.1
  have h2 : p2 < 2 ^ 32 := by subst e2; split; exact Nat.or_lt_two_pow h1 b2; exact h1
  have t1 : ∀ j, p1.testBit j = (x.testBit j || (y.pe && decide (n = j))) := by
    intro j; subst e1
    cases y.pe
    · simp
    · rw [if_pos rfl, Nat.testBit_or, Nat.testBit_two_pow, Bool.true_and]
  have t2 : ∀ j, p2.testBit j = (p1.testBit j || (y.ac && decide (16 + n = j))) := by
    intro j; subst e2
    cases y.ac
    · simp
    · rw [if_pos rfl, Nat.testBit_or, Nat.testBit_two_pow, Bool.true_and]
  refine ⟨h2, fun i z hz => ?_⟩
  have hi := p.lt hz
  have hw := w.2 i z hz
  rw [t2, t1, t2, t1, hw.1, hw.2, decide_eq_false (show ¬ 16 + n = i by omega), decide_eq_false (show ¬ n = 16 + i by omega)]
  by_cases c : n = i
  · subst c
    rw [hy] at hz; cases hz
    simp
  · have d1 : decide (i + 1 < n + 2) = decide (i + 1 < n + 1) := decide_eq_decide.2 (by omega)
    rw [decide_eq_false c, decide_eq_false (show ¬ 16 + n = 16 + i by omega), d1]
    simp
theorem or32 {x n : Nat} (hx : x < 2 ^ 32) (hn : n < 32) {e : Int} (he : e = (n : Int)) : borV .u32 (x : Int) (shlV .u32 1 e) = ((x ||| 2 ^ n : Nat) : Int) := by
  subst he
  have b1 : (2 : Nat) ^ n < 2 ^ 32 := Nat.pow_lt_pow_right (by omega) (by omega)
  rw [show (1 : Int) = ((1 : Nat) : Int) from rfl, shl32 (by omega), Nat.one_mul, Nat.mod_eq_of_lt b1, bor32 hx b1]
theorem u64n {n : Nat} (hn : n < 32) : IntKind.wrap .u64 (n : Int) = (n : Int) := wrapn_u64 n (by omega)
theorem u64m {n : Nat} (hn : n < 16) : IntKind.wrap .u64 (IntKind.wrap .i64 (16 + (n : Int))) = ((16 + n : Nat) : Int) := by
  rw [show (16 : Int) + (n : Int) = ((16 + n : Nat) : Int) by omega, wrapn_i64 _ (by omega), wrapn_u64 _ (by omega)]

theorem tail_get {h : Hp} {q z : Nat} {L : List Ln} {m n : Int} {y : Ln} {A B : Hp → Prop} (v : VS h q L m) (hy : atL L n = y) (hz : bk h z = some (blk 46 y.cells)) (hB : ∀ h', Fr [] h h' → B h') :
    ∃ x48 : Bool, cellAt h z (0 + 0) = some (.bool x48) ∧ ∃ x49 : Bool, cellAt h z (0 + 1) = some (.bool x49) ∧ ∃ x50 : Bool, cellAt h z (0 + 2) = some (.bool x50) ∧ ∃ x51 : Int, cellAt h z (0 + 3) = some (.int .i64 x51) ∧
    CallsH Tryd.prog 11 [.pointer (some ⟨q, 0, none⟩), .int .i64 n] h fun r52 h14 => ∃ Get53 : Bool, ∃ Get54 : Bool, ∃ Get55 : Bool, ∃ Get56 : Int, r52 = .agg #[.bool Get53, .bool Get54, .bool Get55, .int .i64 Get56] ∧
    cellAt h14 z (0 + 0) = some (.bool x48) ∧ cellAt h14 z (0 + 1) = some (.bool x49) ∧ cellAt h14 z (0 + 2) = some (.bool x50) ∧ cellAt h14 z (0 + 3) = some (.int .i64 x51) ∧
    CallsH Tryd.prog 21 [.agg #[.bool Get53, .bool Get54, .bool Get55, .int .i64 Get56]] h14 fun r57 h15 => ∃ ofx58 : Bool, ∃ ofx59 : Bool, ∃ ofx60 : Bool, ∃ ofx61 : Int, r57 = .agg #[.bool ofx58, .bool ofx59, .bool ofx60, .int .i64 ofx61] ∧
    cellAt h15 z (0 + 0) = some (.bool x48) ∧ cellAt h15 z (0 + 1) = some (.bool x49) ∧ cellAt h15 z (0 + 2) = some (.bool x50) ∧ cellAt h15 z (0 + 3) = some (.int .i64 x51) ∧
    ((notIf false (((ofx58 : Bool) == x48) && (((ofx59 : Bool) == x49) && (((ofx60 : Bool) == x50) && ((ofx61 == x51) && true))))) = true → A h15) ∧
    ((notIf false (((ofx58 : Bool) == x48) && (((ofx59 : Bool) == x49) && (((ofx60 : Bool) == x50) && ((ofx61 == x51) && true))))) = false → B h15) := by
  have c := fun {h' : Hp} (hz : bk h' z = some (blk 46 y.cells)) => (⟨(cellAt_of hz 0).trans rfl, (cellAt_of hz 1).trans rfl, (cellAt_of hz 2).trans rfl, (cellAt_of hz 3).trans rfl⟩ : cellAt h' z (0 + 0) = some (.bool y.en) ∧ cellAt h' z (0 + 1) = some (.bool y.pe) ∧ cellAt h' z (0 + 2) = some (.bool y.ac) ∧ cellAt h' z (0 + 3) = some (.int .i64 y.pr))
  refine ⟨_, (c hz).1, _, (c hz).2.1, _, (c hz).2.2.1, _, (c hz).2.2.2, ?_⟩
  refine (Get_spec v n).mono ?_
  rw [hy]
  rintro r h14 ⟨rfl, f14⟩
  have hz14 := f14.at hz (by simp)
  refine ⟨_, _, _, _, rfl, (c hz14).1, (c hz14).2.1, (c hz14).2.2.1, (c hz14).2.2.2, ?_⟩
  refine (of_spec y).mono ?_
  rintro r h15 ⟨rfl, f15⟩
  have hz15 := f15.at hz14 (by simp)
  exact ⟨_, _, _, _, rfl, (c hz15).1, (c hz15).2.1, (c hz15).2.2.1, (c hz15).2.2.2, by simp [notIf], fun _ => hB _ (f14.trans f15)⟩

theorem kstep {kk : Nat} (h : kk < 18) : IntKind.wrap .i64 ((kk : Int) - 1 + 1) = ((kk + 1 : Nat) : Int) - 1 := by rw [wrap_i64 (by omega) (by omega)]; omega
theorem kdec {kk : Nat} (h : kk < 18) : 18 - (((kk + 1 : Nat) : Int) - 1 + 1).toNat < 18 - ((kk : Int) - 1 + 1).toNat := by omega
theorem kdec2 {n : Nat} (h : n < 17) : 18 - (((n + 1 + 1 : Nat) : Int) - 1 + 1).toNat < 18 - ((n : Int) + 1).toNat := by omega
/-- Where the lines are gone through. -/
def Kn (h0 : Hp) (q q2 rb : Nat) (L : List Ln) (m : Int) (w k : Int) (h : Hp) : Prop := ∃ kk x : Nat, k = (kk : Int) - 1 ∧ w = x ∧ kk ≤ 18 ∧ WTo L kk x ∧ St h0 h q q2 rb L m

set_option maxHeartbeats 2000000 in
theorem calls_spec {h : Hp} (tab : Tab h) {a : Option Addr} {c : Nat} {cs : List C} (g : rowAtK h a (encL C.cells cs)) :
    CallsH Tryd.prog 4 [.slice a cs.length c] h fun v h' => v = .bool true ∧ Fr [] h h' := by
  refine calls_k fun R hR => ?_
  apply warderlaw20_VicCalls.calls
  unfold warderlaw20_VicCalls.P
  refine (alive_spec tab).mono ?_
  rintro v h1 ⟨rfl, f1⟩
  refine ⟨_, rfl, by simp, fun _ => ⟨fun _ => hR _ _ ⟨rfl, f1⟩, fun hn => ?_⟩⟩
  have hlen : cs.length ≤ 200 := by
    have h1 : (cs.length : Int) ≤ 200 := by simpa using hn
    omega
  refine (New_spec (tab.fr f1 (by simp))).mono ?_
  rintro v h2 ⟨rfl, w2, f2, s2⟩
  refine ⟨_, rfl, ?_⟩
  refine rNew_spec.mono ?_
  rintro v h3 ⟨rfl, r3, f3, s3⟩
  have z1 := f1.size
  have z0 : 0 < sz h := lt_of_cell (tab 0 (by decide))
  have st3 : St h h3 (sz h1) (sz h2 + 1) (sz h2) newL 16 := ⟨w2.fr f3 (by simp) (by simp), r3, by omega, by omega, by omega, by omega, (f1.trans f2).trans f3, by omega, by omega, by omega⟩
  clear w2 r3
  generalize sz h1 = q at *
  generalize sz h2 + 1 = q2 at *
  generalize sz h2 = rb at *
  refine ⟨_, rfl, ?_⟩
  refine ⟨Gone h q q2 rb cs.length, fun i _ => cs.length - i.toNat, ⟨0, _, _, rfl, by omega, st3⟩, ?_⟩
  rintro i h4 ⟨k, L0, m0, rfl, hk, st⟩
  refine ⟨fun hk2 => ?_, fun _ => hR _ _ ⟨rfl, st.f⟩⟩
  have hk2 : k < cs.length := by simpa using hk2
  obtain ⟨x, hx⟩ : ∃ x, cs[k]? = some x := ⟨_, List.getElem?_eq_getElem hk2⟩
  obtain ⟨b, o, rfl, e⟩ := encL_one C.len (g.fr st.f (by simp)) hx (by omega)
  rw [Int.toNat_natCast, wrapN hk2 (by omega)]
  refine ⟨by omega, by omega, b, o, rfl, _, e 0 (by omega), _, e 1 (by omega), _, e 2 (by omega), _, e 3 (by omega), ?_⟩
  refine (told_spec st.v st.r st.n1 st.n2 st.z1 st.z2 x).mono ?_
  rintro v h5 ⟨L, m, rfl, v5, r5, f5⟩
  have st5 := st.step v5 r5 f5
  clear st v5 r5 f5 e
  refine ⟨_, rfl, by simp, fun _ => ?_⟩
  refine (Next_spec st5.v).mono ?_
  rintro v h6 ⟨bn, rfl, hN, rfl⟩
  refine ⟨_, _, rfl, ?_⟩
  refine (rNext_spec st5.r).mono ?_
  rintro v h7 ⟨bn', rfl, hN', f7⟩
  obtain rfl := hN.uniq hN'
  have st7 := st5.fr f7
  refine ⟨_, rfl, ?_⟩
  refine ⟨Kn h q q2 rb L m, fun _ k _ => 18 - (k + 1).toNat, ⟨0, 0, rfl, rfl, by omega, WTo.zero L, st7⟩, ?_⟩
  rintro w25 k26 h8 ⟨kk, xw, rfl, rfl, hkk, hW, st8⟩
  refine ⟨fun hc => ?_, fun hc => ?_⟩
  · have hkk : kk < 18 := by simp only [decide_eq_true_eq] at hc; omega
    refine put_local rfl (by decide) ?_
    intro h10 k10 f10 s10
    have st10 := st8.fr f10
    refine (rThere_spec _).mono ?_
    rintro v h11 ⟨rfl, rfl⟩
    rw [kstep hkk]
    refine ⟨_, rfl, fun ht => ?_, fun ht => ?_⟩
    · obtain ⟨n, hn, hn16⟩ := there_nat ht
      obtain rfl : kk = n + 1 := by omega
      obtain ⟨y, hy⟩ := st10.r.pr.get hn16
      rw [show ((n + 1 : Nat) : Int) - 1 = (n : Int) by omega, Int.toNat_natCast]
      have hat := st10.r.at hy
      have hay : atL L (n : Int) = y := atL_nat hn16 hy
      refine ⟨_, _, rfl, _, _, _, st10.r.row, by omega, by omega, _, _, rfl, y.en, ?_, y.pe, ?_, y.ac, ?_, y.pr, ?_, truly_rfl, _, _, k10, by decide, ?_⟩
      · rw [Nat.zero_add]; exact hat 0 (by omega)
      · rw [Nat.zero_add]; exact hat 1 (by omega)
      · rw [Nat.zero_add]; exact hat 2 (by omega)
      · rw [Nat.zero_add]; exact hat 3 (by omega)
      intro h12 e12
      have k12 : bk h12 (sz h8) = some (blk 46 y.cells) := by rw [e12]; exact upd_same k10 _ _
      have f12 : Fr [] h8 h12 := f10.later (by rw [e12]; exact Fr.upd (F := [sz h8]) (by simp) _ _ _) (by simp)
      clear e12 k10
      have st12 := st8.fr f12
      refine ⟨fun w h13 => h13 = h12 ∧ w = ((if y.pe then xw ||| 2 ^ n else xw : Nat) : Int), ⟨y.pe, (cellAt_of k12 1).trans rfl, fun c1 => ⟨by rw [u64n (by omega)]; omega, rfl, ?_⟩, fun c1 => ⟨rfl, ?_⟩⟩, ?_⟩
      · rw [or32 hW.1 (by omega) (u64n (by omega)), if_pos c1]
      · rw [if_neg (by simp [c1])]
      rintro w46 h13 ⟨rfl, rfl⟩
      have hp1 : (if y.pe then xw ||| 2 ^ n else xw : Nat) < 2 ^ 32 := by
        split
        · exact Nat.or_lt_two_pow hW.1 (Nat.pow_lt_pow_right (by omega) (by omega))
        · exact hW.1
      refine ⟨y.ac, (cellAt_of k12 2).trans rfl, fun c2 => ⟨by rw [u64m (by omega)]; omega, tail_get st12.v hay k12 fun h15 f15 => ?_⟩, fun c2 => tail_get st12.v hay k12 fun h15 f15 => ?_⟩
      · rw [or32 hp1 (by omega) (u64m (by omega))]
        exact ⟨⟨n + 2, _, by omega, rfl, by omega, hW.step st10.r.pr hy rfl (by rw [if_pos c2]), st12.fr f15⟩, kdec2 (by omega)⟩
      · exact ⟨⟨n + 2, _, by omega, rfl, by omega, hW.step st10.r.pr hy rfl (by rw [if_neg (show ¬ y.ac = true by simp [c2])]), st12.fr f15⟩, kdec2 (by omega)⟩
    · have hno : ∀ i y, L[i]? = some y → (i + 1 < kk + 1 ↔ i + 1 < kk) := by
        intro i y hy
        have hi := st10.r.pr.lt hy
        have : ¬ (0 ≤ (kk : Int) - 1 ∧ (kk : Int) - 1 < 16) := by
          intro hh
          unfold thereB at ht
          rw [decide_eq_true hh.1, decide_eq_true hh.2] at ht
          cases ht
        omega
      exact tail_get st10.v (atL_no ht) k10 fun h15 f15 => ⟨⟨kk + 1, _, rfl, rfl, by omega, hW.none hno, st10.fr f15⟩, kdec hkk⟩
  · have hkk : kk = 18 := by simp only [decide_eq_false_iff_not] at hc; omega
    subst hkk
    refine ⟨by simp, fun _ => ⟨by simp [notIf], fun _ => ?_⟩⟩
    refine (Word_spec st8.v).mono ?_
    rintro v h20 ⟨x2, rfl, hx2, hb2, rfl⟩
    have hb3 : ∀ (i : Nat) (y : Ln), L[i]? = some y → xw.testBit i = y.pe ∧ xw.testBit (16 + i) = y.ac := by
      intro i y hy
      have := hW.2 i y hy
      have hi := st8.r.pr.lt hy
      rw [decide_eq_true (show i + 1 < 18 by omega), Bool.true_and, Bool.true_and] at this
      exact this
    obtain rfl := word_eq st8.r.pr hx2 hW.1 hb2 hb3
    refine ⟨_, rfl, by simp, fun _ => ⟨_, _, rfl, _, st8.r.mask, ?_⟩⟩
    refine (Masked_spec st8.v).mono ?_
    rintro v h21 ⟨rfl, rfl⟩
    exact ⟨_, rfl, st8.r.mask, by simp, fun _ => ⟨⟨k + 1, _, _, rfl, by omega, st8⟩, decM hk2⟩⟩
end Go.Proofs.YthhancpnaleknaaDoor
