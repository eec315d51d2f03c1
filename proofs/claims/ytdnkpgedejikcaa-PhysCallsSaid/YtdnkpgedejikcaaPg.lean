import Derived.Test.YtdnkpgedejikcaaPf
namespace Go.Proofs.Ytdnkpgedejikcaa
open Go Go.Wd
set_option linter.unusedVariables false
set_option linter.unusedSimpArgs false

theorem putK_at {B : List Nat} {p w : Nat} : ∀ (k : Nat), p + k ≤ B.length → ∀ i, (putK B p w k)[i]? = if p ≤ i ∧ i < p + k then some (wb w (i - p)) else B[i]?
  | 0, h, i => by rw [if_neg (by omega)]; rfl
  | k + 1, h, i => by
    simp only [putK]
    rw [List.getElem?_set, putK_len, putK_at k (by omega) i]
    by_cases e : p + k = i
    · subst e
      rw [if_pos rfl, if_pos (by omega), if_pos (by omega)]
      congr 2; omega
    · rw [if_neg e]
      by_cases e2 : p ≤ i ∧ i < p + k
      · rw [if_pos e2, if_pos (by omega)]
      · rw [if_neg e2, if_neg (by omega)]
theorem leN_put {B : List Nat} {p w : Nat} (h : p + 4 ≤ B.length) : ∀ k, k ≤ 4 → leN (putK B p w 4) p k = w % 2 ^ (8 * k)
  | 0, _ => by simp [leN, Nat.mod_one]
  | k + 1, hk => by
    have h1 := leN_put (w := w) h k (by omega)
    have h2 : (putK B p w 4).getD (p + k) 0 = wb w k := getD_at (by rw [putK_at 4 h, if_pos (by omega)]; congr 2; omega)
    simp only [leN]
    rw [h1, h2, show 2 ^ (8 * (k + 1)) = 2 ^ (8 * k) * 256 by rw [show 8 * (k + 1) = 8 * k + 8 by omega, Nat.pow_add], Nat.mod_mul]
    unfold wb
    rw [Nat.mul_comm (w / 2 ^ (8 * k) % 256)]
theorem leN_put4 {B : List Nat} {p w : Nat} (h : p + 4 ≤ B.length) (hw : w < 4294967296) : leN (putK B p w 4) p 4 = w := by
  rw [leN_put h 4 (Nat.le_refl _)]
  exact Nat.mod_eq_of_lt hw
theorem diffs_one {n k : Nat} {B D : List Nat} (ho : ∀ i, i ≠ k → i < n → diffP B D i = false) : diffs n B D = if k < n ∧ diffP B D k = true then [(k : Int)] else [] := by
  induction n with
  | zero => rw [if_neg (by omega)]; rfl
  | succ n ih =>
    rw [diffs_next, ih (fun i h1 h2 => ho i h1 (by omega))]
    by_cases e : n = k
    · subst e
      rw [if_neg (by omega), List.nil_append]
      by_cases h : diffP B D n = true
      · rw [if_pos h, if_pos ⟨by omega, h⟩]
      · rw [if_neg h, if_neg (fun x => h x.2)]
    · rw [ho n e (by omega), if_neg (c := (false = true)) (by simp), List.append_nil]
      by_cases h : k < n ∧ diffP B D k = true
      · rw [if_pos h, if_pos ⟨by omega, h.2⟩]
      · rw [if_neg h, if_neg (fun x => h ⟨by omega, x.2⟩)]
theorem diffP_comm (B D : List Nat) (i : Nat) : diffP B D i = diffP D B i := by
  unfold diffP
  by_cases h : frameOf B i = frameOf D i
  · simp [h]
  · rw [decide_eq_false h, decide_eq_false (fun e : frameOf D i = frameOf B i => h e.symm)]
theorem diffs_comm (n : Nat) (B D : List Nat) : diffs n B D = diffs n D B := by
  unfold diffs
  rw [show diffP B D = diffP D B from funext (diffP_comm B D)]
theorem frame_same {B D : List Nat} {i : Nat} (h : ∀ j, j < 256 → B[i * 256 + j]? = D[i * 256 + j]?) : diffP B D i = false := by
  have : frameOf B i = frameOf D i := by
    apply List.ext_getElem?
    intro j
    by_cases hj : j < 256
    · rw [frameOf_at hj, frameOf_at hj, h j hj]
    · unfold frameOf
      rw [List.getElem?_take, List.getElem?_take, if_neg hj, if_neg hj]
  simp [diffP, this]
theorem frame_other {B D : List Nat} {i j : Nat} (hj : j < 256) (h : B[i * 256 + j]? ≠ D[i * 256 + j]?) : diffP B D i = true := by
  have : ¬ frameOf B i = frameOf D i := fun e => h (by rw [← frameOf_at hj, ← frameOf_at hj, e])
  simp [diffP, this]
theorem word_diff {n a w : Nat} (hok : wordOk n a = true) (hw : w < 4294967296) (h0 : w ≠ 0) : diffs n (putK (List.replicate (n * 256) 0) a w 4) (List.replicate (n * 256) 0) = [((a / 256 : Nat) : Int)] := by
  simp only [wordOk, Bool.and_eq_true, decide_eq_true_eq] at hok
  have hl : a + 4 ≤ (List.replicate (n * 256) 0).length := by rw [List.length_replicate]; omega
  have key : diffP (putK (List.replicate (n * 256) 0) a w 4) (List.replicate (n * 256) 0) (a / 256) = true := ?_
  · rw [diffs_one (k := a / 256) (fun i h1 h2 => frame_same fun j hj => by rw [putK_at 4 hl, if_neg (by omega)]), if_pos ⟨by omega, key⟩]
  by_cases h : ∃ j, j < 4 ∧ wb w j ≠ 0
  · obtain ⟨j, hj, hne⟩ := h
    refine frame_other (j := a % 256 + j) (by omega) ?_
    rw [putK_at 4 hl, if_pos (by omega), List.getElem?_replicate, if_pos (by omega), show a / 256 * 256 + (a % 256 + j) - a = j by omega]
    simpa using hne
  · exfalso
    have hz : ∀ j, j < 4 → wb w j = 0 := fun j hj => by
      by_cases e : wb w j = 0
      · exact e
      · exact absurd ⟨j, hj, e⟩ h
    have h1 := hz 0 (by omega)
    have h2 := hz 1 (by omega)
    have h3 := hz 2 (by omega)
    have h4 := hz 3 (by omega)
    simp only [wb] at h1 h2 h3 h4
    omega

set_option maxHeartbeats 2000000 in
theorem words_law {h : Hp} (frames : Int) {a w : Nat} (ha : a < 4294967296) (hw : w < 4294967296) : CallsH Try.prog 3 [.int .i64 frames, .int .u32 a, .int .u32 w] h fun v h' => v = .bool true ∧ Fr [] h h' := by
  refine calls_k fun R hR => ?_
  apply warderlaw04_PhysWords.calls
  unfold warderlaw04_PhysWords.P
  refine (alive_spec h).mono ?_
  rintro v h1 ⟨rfl, f1⟩
  have yes := fun h' (f : Fr [] h h') => hR (.bool true) h' ⟨rfl, f⟩
  refine ⟨_, rfl, by simp, fun _ => ?_⟩
  refine ⟨fun h2 => h2 = h1 ∧ 1 ≤ frames ∧ frames ≤ 40, ⟨fun _ => yes _ f1, fun d1 => ⟨fun _ => yes _ f1, fun d2 => ⟨rfl, by simp only [decide_eq_false_iff_not] at d1; omega, by simp only [decide_eq_false_iff_not] at d2; omega⟩⟩⟩, ?_⟩
  rintro h2 ⟨rfl, hn1, hn2⟩
  obtain ⟨n, rfl⟩ : ∃ n : Nat, frames = n := ⟨frames.toNat, by omega⟩
  refine (new_spec (n := n) (by omega) (by omega)).mono ?_
  rintro v h3 ⟨rfl, w3, f3, s3⟩
  have z1 := f1.size
  have gf : sz h ≤ sz h2 := z1
  have gq : sz h ≤ sz h2 + 1 := by omega
  have fr3 := f1.trans f3
  clear s3
  generalize sz h2 + 1 = q at *
  generalize sz h2 = fb at *
  refine ⟨_, _, rfl, fun h5 => h5 = h3, ⟨fun hc => absurd hc (by simp), fun _ => ⟨fun hc => absurd hc (by simp [notIf]), fun _ => rfl⟩⟩, ?_⟩
  rintro h4 rfl
  refine (Clone_spec w3).mono ?_
  rintro v h5 ⟨q', fb', rfl, v5, gq', gf', f5⟩
  refine ⟨_, rfl, ?_⟩
  have w5 := w3.fr f5 (by simp) (by simp)
  have fr5 := fr3.trans f5
  refine (PutWord_spec w5 ha hw).mono ?_
  rintro v h6 ⟨rfl, w6, f6⟩
  have lf := w3.ltf
  have v6 := v5.fr f6 (by simp; omega) (by simp; omega)
  have fr6 := fr5.later f6 (by simp; omega)
  have e256 : IntKind.wrap .u32 (IntKind.wrap .i64 (256 * (n : Int))) = ((n * 256 : Nat) : Int) := by rw [wrapS (by omega) (by omega), wrap_u32 (by omega) (by omega)]; omega
  refine ⟨_, rfl, fun c => ⟨fun _ => ?_, fun c2 => absurd c2 (by simp [notIf])⟩, fun c => ?_⟩
  · have c : wordOk n a = false := by simpa using c
    simp only [putW, c, Bool.false_eq_true, if_false] at w6
    refine (Differ_spec w6 v6).mono ?_
    rw [diffs_same]
    rintro v h7 ⟨a7, c7, rfl, _, _, f7⟩
    have fr7 := fr6.trans f7
    have em : Int.tmod (a : Int) 4 = ((a % 4 : Nat) : Int) := rfl
    refine ⟨_, _, _, rfl, fun _ => ⟨by decide, fun _ => yes _ fr7, fun c2 => ?_⟩, fun hc => absurd hc (by simp)⟩
    rw [em] at c2
    simp only [bne_eq_false_iff_eq] at c2
    have : ¬ a < n * 256 := fun hlt => by
      have : wordOk n a = true := by simp only [wordOk, hlt, decide_true, Bool.true_and, decide_eq_true_eq]; omega
      rw [c] at this; cases this
    rw [e256, decide_eq_true (by omega)]
    exact yes _ fr7
  · have c : wordOk n a = true := by simpa using c
    have c' := c
    simp only [wordOk, Bool.and_eq_true, decide_eq_true_eq] at c'
    simp only [putW, c, if_true] at w6
    have hl : a + 4 ≤ (List.replicate (n * 256) 0).length := by rw [List.length_replicate]; omega
    have hdiff := fun h0 => word_diff c hw h0
    have hle4 := leN_put4 (B := List.replicate (n * 256) 0) hl hw
    have hbyt := w6.byt
    have hlen := w6.len
    generalize putK (List.replicate (n * 256) 0) a w 4 = B at *
    refine ⟨fun x i h8 => ∃ k : Nat, i = k ∧ k ≤ 4 ∧ x = (leN B a k : Nat) ∧ h8 = h6, fun _ i _ => 4 - i.toNat, ⟨0, rfl, by omega, rfl, rfl⟩, ?_⟩
    rintro x i h8 ⟨k, rfl, hk, rfl, rfl⟩
    by_cases hk4 : k < 4
    · have e1 : IntKind.wrap .u32 ((a : Int) + (k : Int)) = ((a + k : Nat) : Int) := by rw [wrap_u32 (by omega) (by omega)]; omega
      have e2 : IntKind.wrap .u32 (8 * (k : Int)) = ((8 * k : Nat) : Int) := by rw [wrap_u32 (by omega) (by omega)]; omega
      have e3 : IntKind.wrap .u32 ((k : Int) + 1) = ((k + 1 : Nat) : Int) := by rw [wrap_u32 (by omega) (by omega)]; omega
      have hy256 := getD_lt hbyt (a + k)
      have hlt := leN_lt hbyt a k
      have hval : borV .u32 ((leN B a k : Nat) : Int) (shlV .u32 (IntKind.wrap .u32 (((B.getD (a + k) 0 : Nat) : Int))) (((8 * k : Nat) : Int))) = ((leN B a (k + 1) : Nat) : Int) := by
        have hkp : 2 ^ (8 * k) ≤ 2 ^ 24 := Nat.pow_le_pow_right (by decide) (by omega)
        have hyk : B.getD (a + k) 0 * 2 ^ (8 * k) ≤ 255 * 2 ^ (8 * k) := Nat.mul_le_mul_right _ (by omega)
        have hp24 : (2 : Nat) ^ 24 = 16777216 := by decide
        have hp32 : (2 : Nat) ^ 32 = 4294967296 := by decide
        rw [wrapn_u32 _ (by omega), shl32 (by omega), Nat.mod_eq_of_lt (by omega), bor32 (by omega) (by omega), Nat.or_comm, or_apart hlt]
        simp only [leN]
        congr 1; omega
      rw [e1, e2, e3]
      refine ⟨fun _ => ?_, fun hf => absurd hf (by simp; omega)⟩
      refine (Byte_spec w6 (a := a + k) (by omega)).mono ?_
      rintro v h9 ⟨rfl, rfl⟩
      refine ⟨_, _, rfl, fun hc => absurd hc (by simp; omega), fun _ => ⟨by omega, ?_⟩⟩
      rw [hval]
      exact ⟨⟨k + 1, rfl, by omega, rfl, rfl⟩, dec hk4⟩
    · have : k = 4 := by omega
      subst this
      refine ⟨fun hf => absurd hf (by simp), fun _ => ?_⟩
      refine (Word_spec w6 ha).mono ?_
      rintro v h9 ⟨rfl, rfl⟩
      refine ⟨_, _, rfl, ?_⟩
      rw [e256]
      refine (Byte_spec w6 (a := n * 256) (by omega)).mono ?_
      rintro v h10 ⟨rfl, rfl⟩
      refine ⟨_, _, rfl, fun _ => ⟨fun _ => ⟨fun _ => ⟨fun _ => ⟨fun _ => yes _ fr6, fun c0 => ?_⟩, fun hc => absurd hc (by rw [c, if_pos rfl, hle4]; simp)⟩, fun hc => absurd hc (by rw [hle4]; simp)⟩, fun hc => absurd hc (by simp)⟩, fun hc => absurd hc (by rw [c]; simp)⟩
      have h0 : w ≠ 0 := by rintro rfl; simp at c0
      refine (Differ_spec w6 v6).mono ?_
      rw [hdiff h0]
      rintro v h11 ⟨a11, c11, rfl, r11, _, f11⟩
      refine ⟨_, _, _, rfl, by decide, ?_⟩
      rintro h12 rfl
      have ed : IntKind.wrap .i64 (IntKind.wrap .u32 (Int.tdiv (a : Int) 256)) = ((a / 256 : Nat) : Int) := by
        have : Int.tdiv (a : Int) 256 = ((a / 256 : Nat) : Int) := rfl
        rw [this, wrapn_u32 _ (by omega), wrapn_i64 _ (by omega)]
      rw [ed]
      have f12 : Fr [] h11 (new h11 (blk 3 [.int .i64 ((a / 256 : Nat) : Int)])) := Fr.new _ _ _
      have rr : rowAtK (new h11 (blk 3 [.int .i64 ((a / 256 : Nat) : Int)])) (some ⟨sz h11, 0, none⟩) (encL iN [((a / 256 : Nat) : Int)]) := .inr ⟨_, 0, rfl, readAt_of (new_at _ _) 0 _ rfl⟩
      refine (SameN_spec (c := c11) (d := 1) (r11.fr f12 (by simp)) rr (by simp)).mono ?_
      rintro v h13 ⟨rfl, rfl⟩
      refine ⟨_, rfl, ?_⟩
      rw [decide_eq_true rfl]
      exact yes _ ((fr6.trans f11).trans f12)
end Go.Proofs.Ytdnkpgedejikcaa
