import Derived.Test.YtadghpkdkdphdaaGg
namespace Go.Proofs.Ytadghpkdkdphdaa
open Go Go.Wd
set_option linter.unusedVariables false
set_option linter.unusedSimpArgs false

def fullG (o t : Int) (w : Bool) (i j : Nat) : G := if j < i then ⟨1, o, j, t, 0, w⟩ else noG
def full (o t : Int) (w : Bool) (i : Nat) : List G := (List.range 32).map (fullG o t w i)
theorem full_at {o t : Int} {w : Bool} {i j : Nat} (hj : j < 32) : (full o t w i)[j]? = some (fullG o t w i j) := by simp [full, hj]
theorem full_mem {o t : Int} {w : Bool} {i : Nat} {x : G} (h : x ∈ full o t w i) : ∃ j, j < 32 ∧ x = fullG o t w i j := by
  simp only [full, List.mem_map, List.mem_range] at h
  obtain ⟨j, hj, rfl⟩ := h
  exact ⟨j, hj, rfl⟩
theorem full_of {o t : Int} {w : Bool} {i j : Nat} {x : G} (h : (full o t w i)[j]? = some x) : j < 32 ∧ x = fullG o t w i j := by
  have hj : j < 32 := by have := (List.getElem?_eq_some_iff.1 h).1; simpa [full] using this
  rw [full_at hj] at h
  exact ⟨hj, by cases h; rfl⟩
theorem full_len (o t : Int) (w : Bool) (i : Nat) : (full o t w i).length = 32 := by simp [full]
theorem full_zero (o t : Int) (w : Bool) : full o t w 0 = List.replicate 32 noG := by
  apply List.ext_getElem?
  intro j
  rw [List.getElem?_replicate]
  split
  · rename_i hj
    rw [full_at hj]; rfl
  · rw [List.getElem?_eq_none (by rw [full_len]; omega)]
theorem full_set (o t : Int) (w : Bool) {i : Nat} (hi : i < 32) : (full o t w i).set i ⟨1, o, i, t, 0, w⟩ = full o t w (i + 1) := by
  apply List.ext_getElem?
  intro j
  rw [List.getElem?_set]
  split
  · rename_i e
    subst e
    rw [full_len, if_pos hi, full_at hi]
    simp [fullG]
  · rename_i e
    rcases Nat.lt_or_ge j 32 with hj | hj
    · rw [full_at hj, full_at hj]
      simp only [fullG]
      by_cases h : j < i
      · rw [if_pos h, if_pos (by omega)]
      · rw [if_neg h, if_neg (by omega)]
    · rw [List.getElem?_eq_none (by rw [full_len]; omega), List.getElem?_eq_none (by rw [full_len]; omega)]

theorem offer_full {o t : Int} (w : Bool) {i : Nat} (hb : ∀ f : Int, 0 ≤ f → offerBad o f t = false) (hi : i < 32) : offerE (full o t w i) o i t = 0 ∧ offerI (full o t w i) o i t = i ∧ offerL (full o t w i) o i t w = full o t w (i + 1) := by
  have h1 : idx (likeP o i t) (full o t w i) = -1 := idx_none (fun x hx => by
    obtain ⟨j, hj, rfl⟩ := full_mem hx
    simp only [fullG]
    split
    · have : ¬ ((j : Int) = (i : Int)) := by omega
      simp [likeP, this]
    · rfl)
  have h2 : idx freeP (full o t w i) = i := idx_at (full_at hi) (by simp [fullG, freeP, noG]) (fun j y hj hy => by
    obtain ⟨_, rfl⟩ := full_of hy
    simp [fullG, hj, freeP])
  have he : offerE (full o t w i) o i t = 0 := by
    simp only [offerE, hb i (by omega), h1, h2, Bool.false_eq_true, if_false]
    rw [if_neg (by omega), if_neg (by omega)]
  refine ⟨he, by simp [offerI, he, h2], ?_⟩
  simp only [offerL, he, if_true, h2, Int.toNat_natCast]
  exact full_set o t w hi
theorem offer_twice {o t : Int} (w : Bool) {i : Nat} (hb : ∀ f : Int, 0 ≤ f → offerBad o f t = false) (hi : i < 32) : offerE (full o t w (i + 1)) o i t = 13 := by
  have h1 : idx (likeP o i t) (full o t w (i + 1)) = i := idx_at (full_at hi) (by simp [fullG, likeP]) (fun j y hj hy => by
    obtain ⟨_, rfl⟩ := full_of hy
    have : ¬ ((j : Int) = (i : Int)) := by omega
    simp [fullG, show j < i + 1 by omega, likeP, this])
  simp only [offerE, hb i (by omega), h1, Bool.false_eq_true, if_false]
  rw [if_pos (by omega)]

set_option maxHeartbeats 2000000 in
theorem all_spec {h : Hp} (o t : Int) (wr : Bool) :
    CallsH Try.prog 3 [.int .i64 o, .int .i64 t, .bool wr] h fun v h' => v = .bool true ∧ Fr [] h h' := by
  refine calls_k fun R hR => ?_
  apply warderlaw12_GrantAll.calls
  unfold warderlaw12_GrantAll.P
  refine (alive_spec h).mono ?_
  rintro v h1 ⟨rfl, f1⟩
  have yes := fun h' (f : Fr [] h h') => hR (.bool true) h' ⟨rfl, f⟩
  refine ⟨_, rfl, by simp, fun _ => ?_⟩
  refine ⟨fun h2 => h2 = h1 ∧ 2 ≤ o ∧ o ≤ 9 ∧ 2 ≤ t ∧ t ≤ 9 ∧ o ≠ t, ?_, ?_⟩
  · refine ⟨fun _ => yes _ f1, fun d1 => ⟨fun _ => yes _ f1, fun d2 => ⟨fun _ => yes _ f1, fun d3 => ⟨fun _ => yes _ f1, fun d4 => ⟨fun _ => yes _ f1, fun d5 => ?_⟩⟩⟩⟩⟩
    simp only [decide_eq_false_iff_not] at d1 d2 d3 d4
    exact ⟨rfl, by omega, by omega, by omega, by omega, by simpa using d5⟩
  rintro h2 ⟨rfl, p1, p2, p3, p4, p5⟩
  have hb : ∀ f : Int, 0 ≤ f → offerBad o f t = false := by
    intro f hf
    have g1 : isGuest o = true := by simp [isGuest]; omega
    have g2 : isGuest t = true := by simp [isGuest]; omega
    have n : ¬ (f < 0) := by omega
    simp [offerBad, g1, g2, p5, n]
  have hb2 : offerBad t 32 o = false := by
    have g1 : isGuest o = true := by simp [isGuest]; omega
    have g2 : isGuest t = true := by simp [isGuest]; omega
    simp [offerBad, g1, g2]; omega
  refine new_spec.mono ?_
  rintro v h3 ⟨rfl, w3, f3, s3⟩
  rw [← full_zero o t wr] at w3
  refine ⟨_, rfl, ?_⟩
  have z1 := f1.size
  generalize hq : sz h2 = q at *
  refine ⟨fun i h4 => ∃ k : Nat, i = k ∧ k ≤ 32 ∧ GS h4 q (full o t wr k) ∧ Fr [] h h4, fun i _ => 32 - i.toNat, ⟨0, rfl, by omega, w3, f1.trans f3⟩, ?_⟩
  rintro i h4 ⟨k, rfl, hk, w4, f4⟩
  by_cases hk32 : k < 32
  · refine ⟨fun _ => ?_, fun c => absurd c (by simp; omega)⟩
    have hw : IntKind.wrap .i64 ((k : Int) + 1) = ((k + 1 : Nat) : Int) := by rw [wrap_i64 (by omega) (by omega)]; omega
    obtain ⟨e1, e2, e3⟩ := offer_full wr hb hk32
    refine (offer_spec w4 o k t wr).mono ?_
    rw [e1, e2, e3]
    rintro v h5 ⟨rfl, w5, f5⟩
    refine ⟨_, _, rfl, ?_⟩
    have e4 := offer_twice wr hb hk32
    refine (offer_spec w5 o k t (!wr)).mono ?_
    have e5 : offerI (full o t wr (k + 1)) o k t = -1 := by simp [offerI, e4]
    have e6 : offerL (full o t wr (k + 1)) o k t (!wr) = full o t wr (k + 1) := by simp [offerL, e4]
    rw [e4, e5, e6]
    rintro v h6 ⟨rfl, w6, f6⟩
    rw [hw]
    refine ⟨_, _, rfl, by simp, fun _ => ⟨by simp, fun _ => ⟨by simp, fun _ => ⟨⟨k + 1, rfl, by omega, w6, (f4.later f5 (by simp; omega)).later f6 (by simp; omega)⟩, by show 32 - ((k + 1 : Nat) : Int).toNat < 32 - (k : Int).toNat; omega⟩⟩⟩⟩
  · have : k = 32 := by omega
    subst this
    refine ⟨fun c => absurd c (by simp), fun _ => ?_⟩
    -- one more
    have h1 : idx (likeP o 32 t) (full o t wr 32) = -1 := idx_none (fun x hx => by
      obtain ⟨j, hj, rfl⟩ := full_mem hx
      have : ¬ ((j : Int) = 32) := by omega
      simp [fullG, hj, likeP, this])
    have h2' : idx freeP (full o t wr 32) = -1 := idx_none (fun x hx => by
      obtain ⟨j, hj, rfl⟩ := full_mem hx
      simp [fullG, hj, freeP])
    have e1 : offerE (full o t wr 32) o 32 t = 15 := by
      simp only [offerE, hb 32 (by omega), h1, h2', Bool.false_eq_true, if_false]; rfl
    have e2 : offerI (full o t wr 32) o 32 t = -1 := by simp [offerI, e1]
    have e3 : offerL (full o t wr 32) o 32 t wr = full o t wr 32 := by simp [offerL, e1]
    refine (offer_spec w4 o 32 t wr).mono ?_
    rw [e1, e2, e3]
    rintro v h7 ⟨rfl, w7, f7⟩
    refine ⟨_, _, rfl, ?_⟩
    refine (revoke_spec w7 5 o).mono ?_
    have g5 : getG (full o t wr 32) 5 = ⟨1, o, 5, t, 0, wr⟩ := getG_nat (k := 5) (by omega) (by rw [full_at (by omega)]; rfl)
    have go : isGuest o = true := by simp [isGuest]; omega
    have e4 : revokeE (full o t wr 32) 5 o = 0 := by simp [revokeE, go, g5]; decide
    have e5 : revokeL (full o t wr 32) 5 o = (full o t wr 32).set 5 noG := by simp [revokeL, e4]
    rw [e4, e5]
    rintro v h8 ⟨rfl, w8, f8⟩
    refine ⟨_, _, _, _, _, _, _, rfl, ?_⟩
    refine put_local rfl (by simp) ?_
    intro h10 k10 f10 s10
    have w10 := w8.fr f10 (by simp)
    -- the freed one is given again
    have atL : ∀ (j : Nat) (x : G), ((full o t wr 32).set 5 noG)[j]? = some x → (j = 5 ∧ x = noG) ∨ (j ≠ 5 ∧ j < 32 ∧ x = ⟨1, o, j, t, 0, wr⟩) := by
      intro j x hx
      rw [List.getElem?_set] at hx
      split at hx
      · rename_i e
        rw [full_len, if_pos (by omega)] at hx
        cases hx; exact .inl ⟨e.symm, rfl⟩
      · rename_i e
        obtain ⟨hj, rfl⟩ := full_of hx
        exact .inr ⟨fun h => e h.symm, hj, by simp [fullG, hj]⟩
    have h3' : idx (likeP t 32 o) ((full o t wr 32).set 5 noG) = -1 := idx_none (fun x hx => by
      obtain ⟨j, hj⟩ := List.mem_iff_getElem?.1 hx
      rcases atL j x hj with ⟨_, rfl⟩ | ⟨_, _, rfl⟩
      · rfl
      · have : ¬ (o = t) := p5
        simp [likeP, this])
    have h4' : idx freeP ((full o t wr 32).set 5 noG) = (5 : Nat) := idx_at (x := noG) (by rw [List.getElem?_set]; simp [full_len]) rfl (fun j y hj hy => by
      rcases atL j y hy with ⟨e, _⟩ | ⟨_, _, rfl⟩
      · omega
      · simp [freeP])
    have e6 : offerE ((full o t wr 32).set 5 noG) t 32 o = 0 := by
      simp only [offerE, hb2, h3', h4', Bool.false_eq_true, if_false]; rfl
    have e7 : offerI ((full o t wr 32).set 5 noG) t 32 o = 5 := by simp [offerI, e6, h4']
    have e8 : offerL ((full o t wr 32).set 5 noG) t 32 o wr = (full o t wr 32).set 5 ⟨1, t, 32, o, 0, wr⟩ := by simp [offerL, e6, h4']
    refine (offer_spec w10 t 32 o wr).mono ?_
    rw [e6, e7, e8]
    rintro v h11 ⟨rfl, w11, f11⟩
    refine ⟨_, _, rfl, fun _ => ⟨fun _ => ⟨fun _ => ⟨fun _ => ⟨fun _ => ?_, fun c => absurd c (by simp)⟩, fun c => absurd c (by simp)⟩, fun c => absurd c (by simp)⟩, fun c => absurd c (by simp)⟩, fun c => absurd c (by simp)⟩
    have hall : ∀ x ∈ (full o t wr 32).set 5 ⟨1, t, 32, o, 0, wr⟩, goneP o x = true := by
      intro x hx
      obtain ⟨j, hj⟩ := List.mem_iff_getElem?.1 hx
      rw [List.getElem?_set] at hj
      split at hj
      · rw [full_len, if_pos (by omega)] at hj
        cases hj; simp [goneP]
      · obtain ⟨hj2, rfl⟩ := full_of hj
        simp [fullG, hj2, goneP]
    refine (gone_spec w11 o).mono ?_
    rintro v h12 ⟨a12, c12, rfl, _, _, w12, f12⟩
    have hfl : (((full o t wr 32).set 5 ⟨1, t, 32, o, 0, wr⟩).filter (goneP o)).length = 32 := by
      rw [List.filter_eq_self.2 hall]; simp [full_len]
    rw [hfl]
    refine ⟨_, _, _, rfl, fun _ => ?_, fun c => absurd c (by simp)⟩
    refine (gone_spec w12 t).mono ?_
    rintro v h13 ⟨a13, c13, rfl, _, _, w13, f13⟩
    have hnone : (goneL o ((full o t wr 32).set 5 ⟨1, t, 32, o, 0, wr⟩)).filter (goneP t) = [] := by
      rw [List.filter_eq_nil_iff]
      intro x hx
      simp only [goneL, List.mem_map] at hx
      obtain ⟨y, hy, rfl⟩ := hx
      rw [hall y hy]
      simp [goneP, noG]
    rw [hnone]
    refine ⟨_, _, _, rfl, yes _ ?_⟩
    exact ((((((f4.later f7 (by simp; omega)).later f8 (by simp; omega)).trans f10).later f11 (by simp; omega)).later f12 (by simp; omega)).later f13 (by simp; omega))
end Go.Proofs.Ytadghpkdkdphdaa
