import Derived.Test.YthhancpnaleknaaDoorVb
namespace Go.Proofs.YthhancpnaleknaaDoor
open Go Go.Wd
set_option linter.unusedVariables false
set_option linter.unusedSimpArgs false

/-! ## the most urgent line -/
def Best (L : List Ln) (P : Ln → Bool) (k : Nat) (line best : Int) : Prop :=
  (line = -1 ∧ best = 16 ∧ ∀ i x, i < k → L[i]? = some x → P x = false) ∨
  ∃ j x, line = (j : Nat) ∧ j < k ∧ L[j]? = some x ∧ P x = true ∧ best = x.pr ∧ ∀ i y, i < k → L[i]? = some y → P y = true → x.pr ≤ y.pr ∧ (i < j → x.pr < y.pr)
theorem Best.step_no {L : List Ln} {P : Ln → Bool} {k n : Nat} {line best : Int} (b : Best L P k line best) (hkn : k ≤ n) (hno : ∀ i x, k ≤ i → i < n → L[i]? = some x → P x = false) : Best L P n line best := by
  rcases b with ⟨h1, h2, h3⟩ | ⟨j, x, h1, h2, h3, h4, h5, h6⟩
  · refine .inl ⟨h1, h2, fun i y hi hy => ?_⟩
    by_cases c : i < k
    · exact h3 i y c hy
    · exact hno i y (by omega) hi hy
  · refine .inr ⟨j, x, h1, by omega, h3, h4, h5, fun i y hi hy hp => ?_⟩
    by_cases c : i < k
    · exact h6 i y c hy hp
    · rw [hno i y (by omega) hi hy] at hp; cases hp
theorem Best.step_yes {L : List Ln} {P : Ln → Bool} {n : Nat} {line best : Int} {x : Ln} (w : Pr L) (b : Best L P n line best) (hx : L[n]? = some x) (hp : P x = true) : if x.pr < best then Best L P (n + 1) n x.pr else Best L P (n + 1) line best := by
  split
  · rename_i hlt
    refine .inr ⟨n, x, rfl, by omega, hx, hp, rfl, fun i y hi hy hpy => ?_⟩
    by_cases c : i = n
    · subst c
      rw [hx] at hy; cases hy
      exact ⟨Int.le_refl _, fun h => by omega⟩
    · rcases b with ⟨h1, h2, h3⟩ | ⟨j, z, h1, h2, h3, h4, h5, h6⟩
      · rw [h3 i y (by omega) hy] at hpy; cases hpy
      · have := (h6 i y (by omega) hy hpy).1
        exact ⟨by omega, fun _ => by omega⟩
  · rename_i hge
    rcases b with ⟨h1, h2, h3⟩ | ⟨j, z, h1, h2, h3, h4, h5, h6⟩
    · have := w.at hx; omega
    · refine .inr ⟨j, z, h1, by omega, h3, h4, h5, fun i y hi hy hpy => ?_⟩
      by_cases c : i = n
      · subst c
        rw [hx] at hy; cases hy
        exact ⟨by omega, fun h => by omega⟩
      · exact h6 i y (by omega) hy hpy
theorem least_spec {h : Hp} {q : Nat} {L : List Ln} {m : Int} (w : VS h q L m) {s : Nat} {P : Ln → Bool} (b : Bits L P s) : CallsH Tryd.prog 27 [.pointer (some ⟨q, 0, none⟩), .int .u16 s] h fun v h' => ∃ line best : Int, v = .tuple #[.int .i64 line, .int .i64 best] ∧ Best L P 16 line best ∧ h' = h := by
  refine calls_k fun R hR => ?_
  apply vic_Vic_least.calls
  unfold vic_Vic_least.P
  obtain ⟨e, p, a, hb, he, hp, ha⟩ := w.ex
  refine ⟨fun s' line best h1 => ∃ t k : Nat, s' = t ∧ k ≤ 16 ∧ t < 2 ^ 16 ∧ (∀ i, i < 16 → t.testBit i = (s.testBit i && decide (k ≤ i))) ∧ Best L P k line best ∧ h1 = h, fun s' _ _ _ => s'.toNat,
    ⟨s, 0, rfl, by omega, b.1, fun i hi => by simp, .inl ⟨rfl, rfl, fun i x hi => by omega⟩, rfl⟩, ?_⟩
  rintro s' line best h1 ⟨t, k, rfl, hk, ht, hbits, hB, rfl⟩
  refine ⟨fun c => ?_, fun c => ?_⟩
  · have h0 : t ≠ 0 := by
      intro e; subst e; simp at c
    obtain ⟨z1, z2, z3, z4, z5⟩ := ctz_bit h0 ht
    refine (tz_spec ht h0 w.tab).mono ?_
    rintro v h2 ⟨rfl, rfl⟩
    generalize Lib.ctz 16 t = n at *
    obtain ⟨x, hx⟩ := w.pr.get z1
    have hn : s.testBit n = true ∧ k ≤ n := by
      have := hbits n z1
      rw [z2] at this
      have := this.symm
      rw [Bool.and_eq_true, decide_eq_true_eq] at this
      exact this
    have hpx : P x = true := by rw [← b.2 n x hx]; exact hn.1
    have hB' : Best L P n line best := hB.step_no hn.2 (fun i y h1 h2 hy => by
      have h16 : i < 16 := by omega
      have := hbits i h16
      rw [z3 i h2, decide_eq_true h1, Bool.and_true, b.2 i y hy] at this
      exact this.symm)
    have hS := hB'.step_yes w.pr hx hpx
    have cp : cellAt h2 q (0 + 3 + (n : Int).toNat * 1) = some (.int .i64 x.pr) := by
      rw [Int.toNat_natCast, Nat.mul_one, Nat.zero_add, cellAt_of hb]; exact vicC_pr hx
    have hand : bandV .u16 (t : Int) (IntKind.wrap .u16 ((t : Int) - 1)) = ((t &&& (t - 1) : Nat) : Int) := by
      rw [show ((t : Int) - 1) = ((t - 1 : Nat) : Int) by omega, wrapn_u16 _ (by omega), band16 ht (by omega)]
    rw [hand]
    have hnext : ∀ i, i < 16 → (t &&& (t - 1)).testBit i = (s.testBit i && decide (n + 1 ≤ i)) := by
      intro i hi
      rw [z4 i]
      by_cases c1 : n = i
      · subst c1
        rw [decide_eq_true rfl, decide_eq_false (show ¬ n + 1 ≤ n by omega)]; simp
      · rw [decide_eq_false c1, Bool.not_false, Bool.and_true]
        by_cases c2 : i < n
        · rw [z3 i c2, decide_eq_false (show ¬ n + 1 ≤ i by omega), Bool.and_false]
        · rw [hbits i hi, decide_eq_true (show k ≤ i by omega), decide_eq_true (show n + 1 ≤ i by omega)]
    refine ⟨_, rfl, by omega, by omega, x.pr, cp, fun c2 => ⟨by omega, by omega, x.pr, cp, ?_, ?_⟩, fun c2 => ⟨?_, ?_⟩⟩
    · rw [if_pos (by simpa using c2)] at hS
      exact ⟨_, n + 1, rfl, by omega, by omega, hnext, hS, rfl⟩
    · exact z5
    · rw [if_neg (by simpa using c2)] at hS
      exact ⟨_, n + 1, rfl, by omega, by omega, hnext, hS, rfl⟩
    · exact z5
  · have h0 : t = 0 := by
      have : ¬ ((t : Int) != 0) = true := by rw [c]; simp
      simp at this; exact this
    subst h0
    refine hR _ _ ⟨line, best, rfl, hB.step_no hk (fun i y h1 h2 hy => ?_), rfl⟩
    have := hbits i h2
    rw [Nat.zero_testBit, decide_eq_true h1, Bool.and_true, b.2 i y hy] at this
    exact this.symm

/-! ## the next line -/
def cand (x : Ln) : Bool := x.en && x.pe && !x.ac
def Below (L : List Ln) (m : Int) (p : Int) : Prop := p < m ∧ ∀ (j : Nat) (z : Ln), L[j]? = some z → z.ac = true → p < z.pr
def IsNext (L : List Ln) (m : Int) (b : Int) : Prop :=
  (b = -1 ∧ ∀ (i : Nat) (y : Ln), L[i]? = some y → cand y = true → ¬ Below L m y.pr) ∨
  ∃ (j : Nat) (x : Ln), b = (j : Nat) ∧ L[j]? = some x ∧ cand x = true ∧ Below L m x.pr ∧ ∀ (i : Nat) (y : Ln), L[i]? = some y → cand y = true → x.pr ≤ y.pr ∧ (i < j → x.pr < y.pr)
theorem IsNext.uniq {L : List Ln} {m b c : Int} (h : IsNext L m b) (k : IsNext L m c) : b = c := by
  rcases h with ⟨rfl, h2⟩ | ⟨j, x, rfl, h2, h3, h4, h5⟩
  · rcases k with ⟨rfl, _⟩ | ⟨j, x, rfl, k2, k3, k4, _⟩
    · rfl
    · exact absurd k4 (h2 j x k2 k3)
  · rcases k with ⟨rfl, k2⟩ | ⟨j', x', rfl, k2, k3, k4, k5⟩
    · exact absurd h4 (k2 j x h2 h3)
    · have a1 := h5 j' x' k2 k3
      have a2 := k5 j x h2 h3
      by_cases c1 : j < j'
      · have := a2.2 c1; omega
      · by_cases c2 : j' < j
        · have := a1.2 c2; omega
        · have : j = j' := by omega
          rw [this]
theorem IsNext.cases' {L : List Ln} {m b : Int} (w : Pr L) (h : IsNext L m b) : (b = -1 ∧ ∀ (i : Nat) (y : Ln), L[i]? = some y → cand y = true → ¬ Below L m y.pr) ∨ ∃ (j : Nat) (x : Ln), b = j ∧ j < 16 ∧ L[j]? = some x ∧ cand x = true ∧ Below L m x.pr := by
  rcases h with h | ⟨j, x, rfl, h2, h3, h4, _⟩
  · exact .inl h
  · exact .inr ⟨j, x, rfl, w.lt h2, h2, h3, h4⟩
theorem next_of {L : List Ln} {m line best al ab : Int} (w : Pr L) (hm : m ≤ 16) (ha : Best L Ln.ac 16 al ab) (hc : Best L cand 16 line best) : IsNext L m (if line = -1 ∨ min ab m ≤ best then -1 else line) := by
  have hbelow : ∀ p, Below L m p ↔ p < min ab m ∨ (p < m ∧ ab = 16 ∧ ∀ (j : Nat) (z : Ln), L[j]? = some z → z.ac = false) := by
    intro p
    rcases ha with ⟨_, e2, h3⟩ | ⟨j, x, _, _, h3, h4, h5, h6⟩
    · have hno : ∀ (j : Nat) (z : Ln), L[j]? = some z → z.ac = false := fun j z hz => h3 j z (w.lt hz) hz
      constructor
      · intro h; exact .inr ⟨h.1, e2, hno⟩
      · rintro (h | h)
        · exact ⟨by omega, fun j z hz hzz => by rw [hno j z hz] at hzz; cases hzz⟩
        · exact ⟨h.1, fun j z hz hzz => by rw [hno j z hz] at hzz; cases hzz⟩
    · constructor
      · intro h
        have := h.2 j x h3 h4
        exact .inl (by have := h.1; omega)
      · rintro (h | ⟨_, _, h⟩)
        · exact ⟨by omega, fun i z hz hzz => by have := (h6 i z (w.lt hz) hz hzz).1; omega⟩
        · rw [h j x h3] at h4; cases h4
  have hab : ab ≤ 16 := by
    rcases ha with ⟨_, e2, _⟩ | ⟨j, x, _, _, h3, _, h5, _⟩
    · omega
    · have := w.at h3; omega
  rcases hc with ⟨e1, e2, h3⟩ | ⟨j, x, e1, _, h3, h4, h5, h6⟩
  · rw [if_pos (.inl e1)]
    exact .inl ⟨rfl, fun i y hy hc => by rw [h3 i y (w.lt hy) hy] at hc; cases hc⟩
  · by_cases c : min ab m ≤ best
    · rw [if_pos (.inr c)]
      refine .inl ⟨rfl, fun i y hy hcy hb => ?_⟩
      have := (h6 i y (w.lt hy) hy hcy).1
      rcases (hbelow _).1 hb with h | ⟨h, e, _⟩
      · omega
      · omega
    · rw [if_neg (by rintro (h | h); · omega
                     · exact c h)]
      exact .inr ⟨j, x, e1, h3, h4, (hbelow _).2 (.inl (by omega)), fun i y hy hcy => h6 i y (w.lt hy) hy hcy⟩
theorem bits_cand {L : List Ln} {e p a : Nat} (he : Bits L Ln.en e) (hp : Bits L Ln.pe p) (ha : Bits L Ln.ac a) (w : Pr L) : Bits L cand ((e &&& p) &&& (2 ^ 16 - 1 - a)) := by
  refine ⟨Nat.lt_of_le_of_lt Nat.and_le_left (Nat.lt_of_le_of_lt Nat.and_le_left he.1), fun i x hx => ?_⟩
  have hi := w.lt hx
  rw [Nat.testBit_and, Nat.testBit_and, show 2 ^ 16 - 1 - a = 2 ^ 16 - (a + 1) by omega, Nat.testBit_two_pow_sub_succ ha.1, he.2 i x hx, hp.2 i x hx, ha.2 i x hx]
  simp [cand, hi]
theorem minI_eq (a b : Int) : minI a b = min a b := by unfold minI; rw [Int.min_def]; split <;> split <;> omega
section
variable {h : Hp} {q : Nat} {L : List Ln} {m : Int}
theorem Next_spec (w : VS h q L m) : CallsH Tryd.prog 15 [.pointer (some ⟨q, 0, none⟩)] h fun v h' => ∃ b : Int, v = .tuple #[.int .i64 b, .bool (decide (0 ≤ b))] ∧ IsNext L m b ∧ h' = h := by
  refine calls_k fun R hR => ?_
  apply vic_Vic_Next.calls
  unfold vic_Vic_Next.P
  obtain ⟨e, p, a, hb, he, hp, ha⟩ := w.ex
  refine ⟨a, (cellAt_of hb 2).trans rfl, ?_⟩
  refine (least_spec w ha).mono ?_
  rintro v h1 ⟨al, ab, rfl, hA, rfl⟩
  refine ⟨al, ab, rfl, e, (cellAt_of hb 0).trans rfl, p, (cellAt_of hb 1).trans rfl, a, (cellAt_of hb 2).trans rfl, ?_⟩
  rw [band16 he.1 hp.1, bnot16 (Nat.lt_of_le_of_lt Nat.and_le_left he.1) ha.1]
  refine (least_spec w (bits_cand he hp ha w.pr)).mono ?_
  rintro v h2 ⟨line, best, rfl, hC, rfl⟩
  have hN := next_of w.pr w.m0.2 hA hC
  refine ⟨line, best, rfl, fun c => ?_, fun c => ⟨m, (cellAt_of hb 19).trans (vicC_m w.pr), fun c2 => ?_, fun c2 => ?_⟩⟩
  · rw [if_pos (.inl (by simpa using c))] at hN
    exact hR _ _ ⟨-1, rfl, hN, rfl⟩
  · rw [minI_eq] at c2
    rw [if_pos (.inr (by simpa using c2))] at hN
    exact hR _ _ ⟨-1, rfl, hN, rfl⟩
  · rw [minI_eq] at c2
    have c1 : ¬ line = -1 := by simpa using c
    have c3 : ¬ min ab m ≤ best := by simpa using c2
    rw [if_neg (by rintro (h | h); · exact c1 h
                   · exact c3 h)] at hN
    have : decide (0 ≤ line) = true := by
      rcases hC with ⟨e1, _⟩ | ⟨j, x, e1, _⟩
      · exact absurd e1 c1
      · rw [e1]; simp
    refine hR _ _ ⟨line, ?_, hN, rfl⟩
    rw [this]
def takeL (L : List Ln) (b : Int) : List Ln := if 0 ≤ b then upL (upL L b.toNat (Ln.sAc · true)) b.toNat (Ln.sPe · false) else L
theorem Take_spec (w : VS h q L m) : CallsH Tryd.prog 13 [.pointer (some ⟨q, 0, none⟩)] h fun v h' => ∃ b : Int, v = .tuple #[.int .i64 b, .bool (decide (0 ≤ b))] ∧ IsNext L m b ∧ VS h' q (takeL L b) m ∧ Fr [q] h h' := by
  refine calls_k fun R hR => ?_
  apply vic_Vic_Take.calls
  unfold vic_Vic_Take.P
  refine (Next_spec w).mono ?_
  rintro v h1 ⟨b, rfl, hN, rfl⟩
  refine ⟨b, _, rfl, fun c => ?_, fun c => ?_⟩
  · have c : 0 ≤ b := by simpa using c
    rcases hN.cases' w.pr with ⟨rfl, _⟩ | ⟨j, x, rfl, hj, _⟩
    · omega
    refine (putA w hj true).mono ?_
    rintro v h2 ⟨rfl, w2, f2⟩
    refine ⟨rfl, ?_⟩
    refine (putP w2 hj false).mono ?_
    rintro v h3 ⟨rfl, w3, f3⟩
    refine ⟨rfl, hR _ _ ⟨(j : Int), rfl, hN, ?_, f2.trans f3⟩⟩
    unfold takeL
    rw [if_pos c, Int.toNat_natCast]; exact w3
  · have c : ¬ 0 ≤ b := by simpa using c
    refine hR _ _ ⟨b, rfl, hN, ?_, Fr.refl _ _⟩
    unfold takeL
    rw [if_neg c]; exact w
theorem Word_spec (w : VS h q L m) : CallsH Tryd.prog 16 [.pointer (some ⟨q, 0, none⟩)] h fun v h' => ∃ x : Nat, v = .int .u32 x ∧ x < 2 ^ 32 ∧ (∀ i y, L[i]? = some y → x.testBit i = y.pe ∧ x.testBit (16 + i) = y.ac) ∧ h' = h := by
  refine calls_k fun R hR => ?_
  apply vic_Vic_Word.calls
  unfold vic_Vic_Word.P
  obtain ⟨e, p, a, hb, he, hp, ha⟩ := w.ex
  have h1 := hp.1
  have h2 := ha.1
  refine ⟨p, (cellAt_of hb 1).trans rfl, a, (cellAt_of hb 2).trans rfl, by decide, ?_⟩
  rw [wrapn_u32 p (by omega), wrapn_u32 a (by omega), show (16 : Int) = ((16 : Nat) : Int) from rfl, shl32 (by decide), Nat.mod_eq_of_lt (by omega), bor32 (by omega) (by omega)]
  refine hR _ _ ⟨_, rfl, Nat.or_lt_two_pow (by omega) (by omega), fun i y hy => ⟨?_, ?_⟩, rfl⟩
  · rw [Nat.testBit_or, Nat.testBit_mul_two_pow, decide_eq_false (show ¬ 16 ≤ i by have := w.pr.lt hy; omega), Bool.false_and, Bool.or_false]
    exact hp.2 i y hy
  · rw [Nat.testBit_or, Nat.testBit_mul_two_pow, decide_eq_true (show 16 ≤ 16 + i by omega), Bool.true_and, Nat.add_sub_cancel_left, Nat.testBit_lt_two_pow (i := 16 + i) (Nat.lt_of_lt_of_le hp.1 (Nat.pow_le_pow_right (by omega) (by omega))), Bool.false_or]
    exact ha.2 i y hy
end
def newL : List Ln := List.replicate 16 ⟨false, false, false, 8⟩
theorem newL_pr : Pr newL := ⟨by simp [newL], fun x hx => by simp [newL] at hx; subst hx; decide⟩
theorem New_spec {h : Hp} (tab : Tab h) : CallsH Tryd.prog 8 [] h fun v h' => v = .pointer (some ⟨sz h, 0, none⟩) ∧ VS h' (sz h) newL 16 ∧ Fr [] h h' ∧ sz h' = sz h + 1 := by
  refine calls_k fun R hR => ?_
  apply vic_New.calls
  unfold vic_New.P
  have h0 : 0 < sz h := lt_of_cell (tab 0 (by decide))
  intro h1 e1
  have k1 : bk h1 (sz h) = some (blk 58 (vicC 0 0 0 ((newL.take 0) ++ List.replicate 16 ⟨false, false, false, 0⟩) 16)) := by rw [e1]; exact new_at _ _
  have f1 : Fr [] h h1 := by rw [e1]; exact Fr.new _ _ _
  have s1 : sz h1 = sz h + 1 := by rw [e1]; exact sz_new _ _
  clear e1
  refine ⟨fun i h2 => ∃ k : Nat, i = k ∧ k ≤ 16 ∧ bk h2 (sz h) = some (blk 58 (vicC 0 0 0 ((newL.take k) ++ List.replicate (16 - k) ⟨false, false, false, 0⟩) 16)) ∧ Fr [] h h2 ∧ sz h2 = sz h + 1, fun i _ => 16 - i.toNat, ⟨0, rfl, by omega, k1, f1, s1⟩, ?_⟩
  rintro i h2 ⟨k, rfl, hk, k2, f2, s2⟩
  by_cases hk16 : k < 16
  · refine ⟨fun _ => ⟨by omega, by omega, truly_rfl, _, _, k2, ?_, ?_⟩, fun hf => absurd hf (by simp; omega)⟩
    · simp [vicC, newL]; omega
    rintro h3 rfl
    have hx : ((newL.take k) ++ List.replicate (16 - k) (⟨false, false, false, 0⟩ : Ln))[k]? = some ⟨false, false, false, 0⟩ := by
      rw [List.getElem?_append_right (by simp [newL]; omega), List.getElem?_replicate, if_pos (by simp [newL]; omega)]
    have hs : upL ((newL.take k) ++ List.replicate (16 - k) (⟨false, false, false, 0⟩ : Ln)) k (Ln.sPr · 8) = (newL.take (k + 1)) ++ List.replicate (16 - (k + 1)) ⟨false, false, false, 0⟩ := by
      rw [upL_set hx, List.set_append_right _ _ (by simp [newL]; omega)]
      have e1 : k - (newL.take k).length = 0 := by simp [newL]; omega
      rw [e1, show 16 - k = (16 - (k + 1)) + 1 by omega, List.replicate_succ, List.set_cons_zero]
      unfold newL
      rw [List.take_replicate, List.take_replicate, Nat.min_eq_left hk, Nat.min_eq_left (by omega), List.replicate_succ', List.append_assoc]; rfl
    rw [Int.toNat_natCast, Nat.mul_one, writeAt_one, vicC_setP hx, hs, wrapN hk16 (by omega)]
    exact ⟨⟨k + 1, rfl, by omega, upd_same k2 _ _, f2.fresh (Fr.upd (F := [sz h]) (by simp) _ _ _) (fun x hx => .inr (by simp at hx; omega)), by rw [sz_upd]; exact s2⟩, decM hk16⟩
  · have : k = 16 := by omega
    subst this
    refine ⟨fun hf => absurd hf (by simp), fun _ => hR _ _ ⟨rfl, ⟨⟨0, 0, 0, ?_, ?_, ?_, ?_⟩, newL_pr, by decide, tab.fr f2 (by simp), by omega⟩, f2, s2⟩⟩
    · rw [k2]; rfl
    all_goals
      refine ⟨by decide, fun i x hx => ?_⟩
      have := List.mem_of_getElem? hx
      simp [newL] at this
      rw [this]; simp
end Go.Proofs.YthhancpnaleknaaDoor
