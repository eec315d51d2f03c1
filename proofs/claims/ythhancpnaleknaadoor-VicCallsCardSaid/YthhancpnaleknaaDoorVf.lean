import Derived.Test.YthhancpnaleknaaDoorVe
namespace Go.Proofs.YthhancpnaleknaaDoor
open Go Go.Wd
set_option linter.unusedVariables false
set_option linter.unusedSimpArgs false

def one (x : Ln) : List Ln := newL.set 3 x
theorem one_at {x y : Ln} {i : Nat} (h : (one x)[i]? = some y) : (i = 3 ∧ y = x) ∨ (i ≠ 3 ∧ y = ⟨false, false, false, 8⟩) := by
  unfold one at h
  rw [List.getElem?_set] at h
  by_cases e : 3 = i
  · rw [if_pos e, if_pos (by decide)] at h
    cases h; exact .inl ⟨e.symm, rfl⟩
  · rw [if_neg e] at h
    have := List.mem_of_getElem? h
    simp [newL] at this
    exact .inr ⟨fun h => e h.symm, this⟩
theorem one_3 (x : Ln) : (one x)[3]? = some x := by unfold one; rw [List.getElem?_set_self (by decide)]
theorem one_up (x : Ln) (g : Ln → Ln) : upL (one x) 3 g = one (g x) := by rw [upL_set (one_3 x)]; unfold one; rw [List.set_set]
theorem one_new (g : Ln → Ln) : upL newL 3 g = one (g ⟨false, false, false, 8⟩) := by rw [upL_set (x := ⟨false, false, false, 8⟩) rfl]; rfl
theorem one_next {x : Ln} (hc : cand x = true) (hp : x.pr = 8) : IsNext (one x) 16 3 := by
  refine .inr ⟨3, x, rfl, one_3 x, hc, ⟨by omega, fun j z hz hac => ?_⟩, fun i y hy hcy => ?_⟩
  · rcases one_at hz with ⟨_, rfl⟩ | ⟨_, rfl⟩
    · simp [cand, hac] at hc
    · cases hac
  · rcases one_at hy with ⟨rfl, rfl⟩ | ⟨_, rfl⟩
    · exact ⟨Int.le_refl _, fun h => by omega⟩
    · cases hcy
theorem one_none {x : Ln} (hc : cand x = false) : IsNext (one x) 16 (-1) := by
  refine .inl ⟨rfl, fun i y hy hcy => ?_⟩
  rcases one_at hy with ⟨_, rfl⟩ | ⟨_, rfl⟩
  · rw [hc] at hcy; cases hcy
  · cases hcy
theorem word_eq {L : List Ln} (w : Pr L) {x z : Nat} (hx : x < 2 ^ 32) (hz : z < 2 ^ 32) (h1 : ∀ (i : Nat) (y : Ln), L[i]? = some y → x.testBit i = y.pe ∧ x.testBit (16 + i) = y.ac) (h2 : ∀ (i : Nat) (y : Ln), L[i]? = some y → z.testBit i = y.pe ∧ z.testBit (16 + i) = y.ac) : x = z := by
  apply Nat.eq_of_testBit_eq
  intro i
  by_cases c1 : i < 16
  · obtain ⟨y, hy⟩ := w.get c1
    rw [(h1 i y hy).1, (h2 i y hy).1]
  · by_cases c2 : i < 32
    · obtain ⟨y, hy⟩ := w.get (n := i - 16) (by omega)
      have := h1 _ y hy
      have := h2 _ y hy
      rw [show i = 16 + (i - 16) by omega, (h1 _ y hy).2, (h2 _ y hy).2]
    · rw [Nat.testBit_lt_two_pow (Nat.lt_of_lt_of_le hx (Nat.pow_le_pow_right (by omega) (by omega))), Nat.testBit_lt_two_pow (Nat.lt_of_lt_of_le hz (Nat.pow_le_pow_right (by omega) (by omega)))]
theorem takeL_no (L : List Ln) : takeL L (-1) = L := by unfold takeL; rw [if_neg (by decide)]
theorem takeL_nat (L : List Ln) (n : Nat) : takeL L (n : Int) = upL (upL L n (Ln.sAc · true)) n (Ln.sPe · false) := by unfold takeL; rw [if_pos (by omega), Int.toNat_natCast]

set_option maxHeartbeats 1000000 in
theorem alive_spec {h : Hp} (tab : Tab h) : CallsH Tryd.prog 7 [] h fun v h' => v = .bool true ∧ Fr [] h h' := by
  refine calls_k fun R hR => ?_
  apply warderlaw20_alive.calls
  unfold warderlaw20_alive.P
  have t3 : thereB 3 = true := by decide
  have n3 : (3 : Int).toNat = 3 := rfl
  refine (New_spec tab).mono ?_
  rintro v h1 ⟨rfl, w1, f1, s1⟩
  have hq : ∀ x ∈ [sz h], x ∈ ([] : List Nat) ∨ sz h ≤ x := by simp
  generalize hqq : sz h = q at *
  refine ⟨_, rfl, fun c => absurd c (by simp [notIf]), fun _ => ?_⟩
  have st : ∀ {a b : Hp}, Fr [] h a → Fr [q] a b → Fr [] h b := fun f k => f.fresh k (by rw [hqq]; exact hq)
  refine (Enable_spec w1 3 true).mono ?_
  rintro v h2 ⟨rfl, w2, f2⟩
  rw [t3, if_pos rfl, n3, one_new] at w2
  have g2 := st f1 f2
  refine ⟨_, rfl, ?_⟩
  refine (Raise_spec w2 3).mono ?_
  rintro v h3 ⟨rfl, w3, f3⟩
  rw [t3, if_pos rfl, n3, one_up] at w3
  have g3 := st g2 f3
  rw [show atL (one _) 3 = _ from atL_nat (n := 3) (by decide) (one_3 _)]
  refine ⟨_, rfl, ?_⟩
  refine (Raise_spec w3 3).mono ?_
  rintro v h4 ⟨rfl, w4, f4⟩
  rw [t3, if_pos rfl, n3, one_up] at w4
  have g4 := st g3 f4
  rw [show atL (one _) 3 = _ from atL_nat (n := 3) (by decide) (one_3 _)]
  refine ⟨_, rfl, ?_⟩
  refine (Take_spec w4).mono ?_
  rintro v h5 ⟨b, rfl, hN, w5, f5⟩
  obtain rfl := hN.uniq (one_next rfl rfl)
  rw [show takeL (one _) 3 = _ from takeL_nat _ 3, one_up, one_up] at w5
  have g5 := st g4 f5
  refine ⟨_, _, rfl, ?_⟩
  refine (Raise_spec w5 3).mono ?_
  rintro v h6 ⟨rfl, w6, f6⟩
  rw [t3, if_pos rfl, n3, one_up] at w6
  have g6 := st g5 f6
  refine ⟨_, rfl, ?_⟩
  refine (Take_spec w6).mono ?_
  rintro v h7 ⟨b, rfl, hN, w7, f7⟩
  obtain rfl := hN.uniq (one_none rfl)
  rw [takeL_no] at w7
  have g7 := st g6 f7
  refine ⟨_, _, rfl, ?_⟩
  refine (Word_spec w7).mono ?_
  rintro v h8 ⟨x, rfl, hx, hbits, rfl⟩
  have hw := word_eq w7.pr (z := 524296) hx (by decide) hbits (fun i y hy => by
    have hi := w7.pr.lt hy
    rcases one_at hy with ⟨rfl, rfl⟩ | ⟨hne, rfl⟩
    · decide
    · show (524296 : Nat).testBit i = false ∧ (524296 : Nat).testBit (16 + i) = false
      have : ∀ i : Nat, i < 16 → i ≠ 3 → (524296 : Nat).testBit i = false ∧ (524296 : Nat).testBit (16 + i) = false := by decide
      exact this i hi hne)
  subst hw
  refine ⟨_, rfl, ?_⟩
  refine (End_spec w7 3).mono ?_
  rintro v h9 ⟨rfl, w9, f9⟩
  rw [t3, if_pos rfl, n3, one_up] at w9
  have g9 := st g7 f9
  rw [show atL (one _) 3 = _ from atL_nat (n := 3) (by decide) (one_3 _)]
  refine ⟨_, rfl, ?_⟩
  refine (Next_spec w9).mono ?_
  rintro v h10 ⟨b, rfl, hN, rfl⟩
  obtain rfl := hN.uniq (one_next rfl rfl)
  refine ⟨_, _, rfl, fun _ => ⟨fun _ => ⟨fun _ => ⟨fun _ => ⟨fun _ => ⟨fun _ => ⟨fun _ => ⟨fun _ => ⟨fun _ => ⟨fun _ => ?_, fun c => absurd c (by decide)⟩, fun c => absurd c (by decide)⟩, fun c => absurd c (by decide)⟩, fun c => absurd c (by decide)⟩, fun c => absurd c (by decide)⟩, fun c => absurd c (by decide)⟩, fun c => absurd c (by decide)⟩, fun c => absurd c (by decide)⟩, fun c => absurd c (by decide)⟩, fun c => absurd c (by decide)⟩
  refine (Get_spec w9 3).mono ?_
  rw [show atL (one _) 3 = _ from atL_nat (n := 3) (by decide) (one_3 _)]
  rintro v h11 ⟨rfl, f11⟩
  have w11 := w9.fr f11 (by simp) (by simp)
  refine ⟨_, _, _, _, rfl, fun _ => ?_, fun c => absurd c (by decide)⟩
  refine (Masked_spec w11).mono ?_
  rintro v h12 ⟨rfl, rfl⟩
  refine ⟨_, rfl, fun _ => ?_, fun c => absurd c (by decide)⟩
  refine (Mask_spec w11 17).mono ?_
  rintro v h13 ⟨rfl, _, f13⟩
  exact ⟨_, rfl, hR _ _ ⟨by simp, st (g9.trans f11) f13⟩⟩
end Go.Proofs.YthhancpnaleknaaDoor
