import Derived.Test.YtmldiibfmhkgjaaFc
namespace Go.Proofs.Ytmldiibfmhkgjaa
open Go Go.Wd
set_option linter.unusedVariables false
set_option linter.unusedSimpArgs false

/-! ## runs -/
def freeAt (L : List Int) (a n : Nat) : Bool := ((L.drop a).take n).all (· == 0)
def takeP (n : Nat) (L : List Int) (i : Nat) : Bool := decide (i * n + n ≤ L.length) && freeAt L (i * n) n
def takeI (n : Nat) (L : List Int) : Int := idx (takeP n L) (List.range L.length)
def takeE (n : Nat) (L : List Int) (o : Int) : Int := if isSome o then (if takeI n L < 0 then 15 else 0) else 11
def takeN (n : Nat) (L : List Int) (o : Int) : Int := if takeE n L o = 0 then takeI n L * n else -1
def setRun (L : List Int) (a n : Nat) (o : Int) : List Int := L.take a ++ (List.replicate n o ++ L.drop (a + n))
def takeL (n : Nat) (L : List Int) (o : Int) : List Int := if takeE n L o = 0 then setRun L (takeI n L * n).toNat n o else L
theorem setRun_zero (L : List Int) (a : Nat) (o : Int) : setRun L a 0 o = L := by simp [setRun]
theorem setRun_len {L : List Int} {a n : Nat} (h : a + n ≤ L.length) (o : Int) : (setRun L a n o).length = L.length := by simp [setRun]; omega
theorem setRun_at {L : List Int} {a n : Nat} (h : a + n ≤ L.length) (o : Int) (j : Nat) : (setRun L a n o)[j]? = if a ≤ j ∧ j < a + n then some o else L[j]? := by
  have hl : (L.take a).length = a := by simp; omega
  unfold setRun
  rcases Nat.lt_or_ge j a with h1 | h1
  · rw [List.getElem?_append_left (by omega), List.getElem?_take, if_pos h1, if_neg (by omega)]
  · rw [List.getElem?_append_right (by omega), hl]
    rcases Nat.lt_or_ge j (a + n) with h2 | h2
    · rw [List.getElem?_append_left (by rw [List.length_replicate]; omega), List.getElem?_replicate, if_pos (by omega), if_pos ⟨h1, h2⟩]
    · rw [List.getElem?_append_right (by rw [List.length_replicate]; omega), List.length_replicate, List.getElem?_drop, if_neg (by omega)]
      congr 1; omega
theorem setRun_next {L : List Int} {a k : Nat} (h : a + k < L.length) (o : Int) : (setRun L a k o).set (a + k) o = setRun L a (k + 1) o := by
  apply List.ext_getElem?
  intro j
  rw [List.getElem?_set, setRun_len (by omega), setRun_at (by omega), setRun_at (by omega)]
  by_cases h2 : a + k = j
  · rw [if_pos h2, if_pos h, if_pos (by omega)]
  · rw [if_neg h2]
    by_cases h3 : a ≤ j ∧ j < a + k
    · rw [if_pos h3, if_pos (by omega)]
    · rw [if_neg h3, if_neg (by omega)]
theorem free_cases {L : List Int} {a n : Nat} (h : a + n ≤ L.length) : freeAt L a n = true ↔ ∀ j, j < n → L[a + j]? = some 0 := by
  unfold freeAt
  rw [List.all_eq_true]
  constructor
  · intro hx j hj
    have h1 : ((L.drop a).take n)[j]? = L[a + j]? := by rw [List.getElem?_take, if_pos hj, List.getElem?_drop]
    obtain ⟨y, hy⟩ : ∃ y, L[a + j]? = some y := ⟨_, List.getElem?_eq_getElem (by omega)⟩
    have := hx y (List.mem_of_getElem? (h1.trans hy))
    rw [hy, beq_iff_eq.1 this]
  · intro hx y hy
    obtain ⟨j, hj⟩ := List.mem_iff_getElem?.1 hy
    rw [List.getElem?_take] at hj
    split at hj
    · rename_i hlt
      rw [List.getElem?_drop, hx j hlt] at hj
      cases hj; rfl
    · cases hj
theorem range_at {n i : Nat} (h : i < n) : (List.range n)[i]? = some i := by simp [h]
theorem takeI_at {n : Nat} {L : List Int} {i : Nat} (hi : i < L.length) (hp : takeP n L i = true) (hno : ∀ j, j < i → takeP n L j = false) : takeI n L = i :=
  idx_at (range_at hi) hp (fun j y hj hy => by
    rw [range_at (by omega)] at hy; cases hy; exact hno j hj)
theorem takeI_none {n : Nat} {L : List Int} (hno : ∀ j, takeP n L j = false) : takeI n L = -1 := idx_none (fun x _ => hno x)
theorem takeP_past {n : Nat} {L : List Int} {i j : Nat} (h : L.length < i * n + n) (hj : i ≤ j) : takeP n L j = false := by
  have : i * n ≤ j * n := Nat.mul_le_mul_right n hj
  unfold takeP
  rw [decide_eq_false (by omega)]; rfl
theorem take_some {n : Nat} {L : List Int} {o : Int} (ho : isSome o = true) {i : Nat} (hi : takeI n L = i) : takeE n L o = 0 ∧ takeN n L o = (i * n : Nat) ∧ takeL n L o = setRun L (i * n) n o := by
  have h1 : takeE n L o = 0 := by simp only [takeE, ho, if_true, hi]; rw [if_neg (by omega)]
  refine ⟨h1, by simp [takeN, h1, hi], ?_⟩
  simp only [takeL, h1, if_true, hi]
  rw [← Int.natCast_mul, Int.toNat_natCast]
theorem take_full {n : Nat} {L : List Int} {o : Int} (ho : isSome o = true) (hi : takeI n L = -1) : takeE n L o = 15 ∧ takeN n L o = -1 ∧ takeL n L o = L := by
  have h1 : takeE n L o = 15 := by simp only [takeE, ho, if_true, hi]; rfl
  exact ⟨h1, by simp [takeN, h1], by simp [takeL, h1]⟩
theorem take_bad {n : Nat} {L : List Int} {o : Int} (ho : isSome o = false) : takeE n L o = 11 ∧ takeN n L o = -1 ∧ takeL n L o = L := by
  have h1 : takeE n L o = 11 := by simp [takeE, ho]
  exact ⟨h1, by simp [takeN, h1], by simp [takeL, h1]⟩

set_option maxHeartbeats 1000000 in
theorem take_spec {h : Hp} {q ob : Nat} {L : List Int} (w : FTS h q ob L) (o : Int) {n : Nat} (h1n : 1 ≤ n) (hn : n ≤ 64) :
    CallsH Try.prog 94 [.pointer (some ⟨q, 0, none⟩), .int .i64 o, .int .i64 n] h fun v h' => v = .tuple #[.int .i64 (takeN n L o), .int .i64 (takeE n L o)] ∧ FTS h' q ob (takeL n L o) ∧ Fr [q, ob] h h' := by
  refine calls_k fun R hR => ?_
  apply frames_Table_take.calls
  unfold frames_Table_take.P
  refine (some_spec o).mono ?_
  rintro v h1 ⟨rfl, rfl⟩
  refine ⟨_, rfl, fun c => ?_, fun c => ?_⟩
  · obtain ⟨e1, e2, e3⟩ := take_bad (n := n) (L := L) (o := o) (by simpa using c)
    rw [e1, e2, e3] at hR
    exact hR _ _ ⟨rfl, w, Fr.refl _ _⟩
  have ho : isSome o = true := by simpa using c
  have hob := isSome_b ho
  have hl := w.len
  refine ⟨fun at_ h2 => ∃ i : Nat, at_ = (i * n : Nat) ∧ i * n ≤ L.length ∧ h2 = h1 ∧ ∀ j, j < i → takeP n L j = false, fun at_ _ => L.length + n - at_.toNat, ⟨0, by simp, by omega, rfl, fun j hj => by omega⟩, ?_⟩
  rintro at_ h2 ⟨i, rfl, hi, rfl, hno⟩
  have e64 : IntKind.wrap .i64 (((i * n : Nat) : Int) + (n : Int)) = ((i * n + n : Nat) : Int) := by rw [wrap_i64 (by omega) (by omega)]; omega
  rw [e64]
  have esucc : (i + 1) * n = i * n + n := Nat.succ_mul i n
  have hPn : i * n + n ≤ L.length → ∀ j, j < n → L[i * n + j]? ≠ some 0 → takeP n L i = false := by
    intro hle j hj hne
    unfold takeP
    cases hf : freeAt L (i * n) n
    · simp
    · exact absurd ((free_cases hle).1 hf j hj) hne
  have hPy : i * n + n ≤ L.length → (∀ j, j < n → L[i * n + j]? = some 0) → takeP n L i = true := by
    intro hle hj
    unfold takeP
    rw [(free_cases hle).2 hj, decide_eq_true hle]; rfl
  have him : i ≤ i * n := Nat.le_mul_of_pos_right i (by omega)
  generalize hA : i * n = A at *
  refine ⟨_, _, _, w.row, fun c1 => ?_, fun c1 => ?_⟩
  · have hle : A + n ≤ L.length := by simp only [decide_eq_true_eq] at c1; omega
    refine ⟨_, _, _, w.row, fun _ => rfl, by omega, by omega, by omega, by omega, ?_⟩
    refine ⟨fun x h3 => ∃ k : Nat, x = k ∧ k ≤ n ∧ h3 = h2 ∧ ∀ j, j < k → L[A + j]? = some 0, fun x _ => n - x.toNat, ⟨0, rfl, by omega, rfl, fun j hj => by omega⟩, ?_⟩
    rintro x h3 ⟨k, rfl, hk, rfl, hz⟩
    have e5 : ((A + n : Nat) : Int).toNat - ((A : Nat) : Int).toNat = n := by omega
    rw [e5]
    by_cases hkn : k < n
    · obtain ⟨y, hy⟩ : ∃ y, L[A + k]? = some y := ⟨_, List.getElem?_eq_getElem (by omega)⟩
      have esb : sliceBase (some (⟨ob, 0, none⟩ : Addr)) ((A : Nat) : Int).toNat ((L.length : Nat) : Int).toNat 1 = some ⟨ob, A, none⟩ := by
        unfold sliceBase
        rw [if_neg (by omega)]
        simp [Addr.add_lit]
      refine ⟨fun _ => ⟨by omega, by omega, _, _, esb, y, ?_, fun c2 => ?_, fun c2 => ?_⟩, fun hf => absurd hf (by simp; omega)⟩
      · have := w.cell hy
        rw [Int.toNat_natCast] at this ⊢
        rw [show A + k * 1 = 0 + (A + k) * 1 by omega]; exact this
      · refine ⟨⟨i + 1, by rw [esucc], by omega, rfl, fun j hj => ?_⟩, by show L.length + n - ((A + n : Nat) : Int).toNat < L.length + n - ((A : Nat) : Int).toNat; omega⟩
        rcases Nat.lt_or_ge j i with h | h
        · exact hno j h
        · have : j = i := by omega
          subst this
          refine hPn hle k hkn ?_
          rw [hy]; simpa using c2
      · rw [FwrapN hkn (by omega)]
        refine ⟨⟨k + 1, rfl, by omega, rfl, fun j hj => ?_⟩, Fdec hkn⟩
        rcases Nat.lt_or_ge j k with h | h
        · exact hz j h
        · have : j = k := by omega
          subst this
          rw [hy]; simpa using c2
    · have : k = n := by omega
      subst this
      refine ⟨fun hf => absurd hf (by simp), fun _ => ?_⟩
      obtain ⟨t1, t2, t3⟩ := take_some ho (takeI_at (by omega) (hPy hle hz) hno)
      rw [hA] at t2 t3
      rw [t1, t2, t3] at hR
      refine ⟨fun x h4 => ∃ m : Nat, x = m ∧ m ≤ k ∧ FTS h4 q ob (setRun L A m o) ∧ Fr [q, ob] h3 h4, fun x _ => k - x.toNat, ⟨0, rfl, by omega, by rw [setRun_zero]; exact w, Fr.refl _ _⟩, ?_⟩
      rintro x h4 ⟨m, rfl, hm, w4, f4⟩
      by_cases hmk : m < k
      · refine ⟨fun _ => ?_, fun hf => absurd hf (by simp; omega)⟩
        have e6 : IntKind.wrap .i64 (((A : Nat) : Int) + (m : Int)) = ((A + m : Nat) : Int) := by rw [wrap_i64 (by omega) (by omega)]; omega
        rw [e6, FwrapN hmk (by omega)]
        refine (set_spec w4 (k := A + m) (by rw [setRun_len (by omega)]; omega) (o := o) (by omega) (by omega)).mono ?_
        rintro v h5 ⟨rfl, w5, f5⟩
        rw [setRun_next (by omega)] at w5
        exact ⟨rfl, ⟨m + 1, rfl, by omega, w5, f4.trans f5⟩, Fdec hmk⟩
      · have : m = k := by omega
        subst this
        exact ⟨fun hf => absurd hf (by simp), fun _ => hR _ _ ⟨rfl, w4, f4⟩⟩
  · have hgt : L.length < A + n := by simp only [decide_eq_false_iff_not] at c1; omega
    obtain ⟨t1, t2, t3⟩ := take_full ho (takeI_none (n := n) (L := L) fun j => by
      rcases Nat.lt_or_ge j i with h | h
      · exact hno j h
      · exact takeP_past (i := i) (by rw [hA]; exact hgt) h)
    rw [t1, t2, t3] at hR
    exact hR _ _ ⟨rfl, w, Fr.refl _ _⟩
theorem Take_spec {h : Hp} {q ob : Nat} {L : List Int} (w : FTS h q ob L) (o : Int) :
    CallsH Try.prog 45 [.pointer (some ⟨q, 0, none⟩), .int .i64 o] h fun v h' => v = .tuple #[.int .i64 (takeN 1 L o), .int .i64 (takeE 1 L o)] ∧ FTS h' q ob (takeL 1 L o) ∧ Fr [q, ob] h h' := by
  apply frames_Table_Take.calls
  unfold frames_Table_Take.P
  refine (take_spec w o (n := 1) (by omega) (by omega)).mono ?_
  rintro v h1 ⟨rfl, w1, f1⟩
  exact ⟨_, _, rfl, rfl, w1, f1⟩
end Go.Proofs.Ytmldiibfmhkgjaa
