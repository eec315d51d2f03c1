import Derived.Test.YtmldiibfmhkgjaaFb
namespace Go.Proofs.Ytmldiibfmhkgjaa
open Go Go.Wd
set_option linter.unusedVariables false
set_option linter.unusedSimpArgs false
theorem Fdec {n k : Nat} (h : k < n) : n - ((k + 1 : Nat) : Int).toNat < n - (k : Int).toNat := by omega

/-! ## moves -/
def moveE (L : List Int) (f o : Int) : Int := if !isThere L f || !isSome o then 11 else if ownerOf L f ≠ o then 16 else 0
def moveL (L : List Int) (f o t : Int) : List Int := if moveE L f o = 0 then L.set f.toNat t else L
theorem move_spec {h : Hp} {q ob : Nat} {L : List Int} (w : FTS h q ob L) (f o : Int) {t : Int} (h0 : 0 ≤ t) (h9 : t ≤ 9) :
    CallsH Try.prog 95 [.pointer (some ⟨q, 0, none⟩), .int .i64 f, .int .i64 o, .int .i64 t] h fun v h' => v = .int .i64 (moveE L f o) ∧ FTS h' q ob (moveL L f o t) ∧ Fr [q, ob] h h' := by
  refine calls_k fun R hR => ?_
  apply frames_Table_move.calls
  unfold frames_Table_move.P
  refine ⟨fun b h3 => b = (!isThere L f || !isSome o) ∧ h3 = h, ?_, ?_⟩
  · refine (Fthere_spec w f).mono ?_
    rintro v h1 ⟨rfl, rfl⟩
    refine ⟨_, rfl, fun c => ⟨by rw [c]; rfl, rfl⟩, fun c => ?_⟩
    refine (some_spec o).mono ?_
    rintro v h1 ⟨rfl, rfl⟩
    exact ⟨_, rfl, by rw [c]; rfl, rfl⟩
  rintro b h3 ⟨rfl, rfl⟩
  refine ⟨fun c => ?_, fun c => ?_⟩
  · have e : moveE L f o = 11 := by simp [moveE, c]
    have e2 : moveL L f o t = L := by simp [moveL, e]
    rw [e, e2] at hR
    exact hR _ _ ⟨rfl, w, Fr.refl _ _⟩
  · have c' := c
    simp only [Bool.or_eq_false_iff, Bool.not_eq_false'] at c'
    obtain ⟨k, rfl, hk⟩ := isThere_nat c'.1
    obtain ⟨x, hx⟩ : ∃ x, L[k]? = some x := ⟨_, List.getElem?_eq_getElem hk⟩
    have hE : moveE L k o = if x ≠ o then 16 else 0 := by simp only [moveE, c, ownerOf_nat hx, Bool.false_eq_true, if_false]
    refine ⟨_, _, _, w.row, by omega, by omega, _, _, rfl, _, w.cell hx, fun c2 => ?_, fun c2 => ?_⟩
    · have e : moveE L k o = 16 := by rw [hE]; simp only [bne_iff_ne] at c2; rw [if_pos c2]
      have e2 : moveL L k o t = L := by simp [moveL, e]
      rw [e, e2] at hR
      exact hR _ _ ⟨rfl, w, Fr.refl _ _⟩
    · have e : moveE L k o = 0 := by rw [hE]; simp only [bne_eq_false_iff_eq] at c2; rw [if_neg (by simpa using c2)]
      have e2 : moveL L k o t = L.set k t := by simp [moveL, e]
      rw [e, e2] at hR
      refine (set_spec w hk h0 h9).mono ?_
      rintro v h4 ⟨rfl, w4, f4⟩
      exact ⟨rfl, hR _ _ ⟨rfl, w4, f4⟩⟩
theorem Give_spec {h : Hp} {q ob : Nat} {L : List Int} (w : FTS h q ob L) (o f : Int) :
    CallsH Try.prog 46 [.pointer (some ⟨q, 0, none⟩), .int .i64 o, .int .i64 f] h fun v h' => v = .int .i64 (moveE L f o) ∧ FTS h' q ob (moveL L f o 0) ∧ Fr [q, ob] h h' := by
  apply frames_Table_Give.calls
  unfold frames_Table_Give.P
  refine (move_spec w f o (by omega) (by omega)).mono ?_
  rintro v h1 ⟨rfl, w1, f1⟩
  exact ⟨_, rfl, rfl, w1, f1⟩
def MoveE (L : List Int) (f o t : Int) : Int := if isSome t then moveE L f o else 11
def MoveL (L : List Int) (f o t : Int) : List Int := if isSome t then moveL L f o t else L
theorem isSome_b {t : Int} (h : isSome t = true) : 1 ≤ t ∧ t ≤ 9 := by simpa [isSome] using h
/-! ## all of an owner's given back -/
def freeO (o : Int) (L : List Int) : List Int := L.map fun x => if x = o then 0 else x
def setAll (M : List Int) (fs : List Int) : List Int := fs.foldl (fun M f => M.set f.toNat 0) M
theorem setAll_pos (o : Int) : ∀ (B A : List Int), setAll (A ++ B) (posA o B A.length) = A ++ freeO o B
  | [], A => by simp [setAll, posA, freeO]
  | x :: B, A => by
    simp only [posA, freeO, List.map_cons]
    by_cases h : x = o
    · rw [if_pos h, if_pos h]
      have e : setAll (A ++ x :: B) (((A.length : Nat) : Int) :: posA o B (A.length + 1)) = setAll ((A ++ x :: B).set A.length 0) (posA o B (A.length + 1)) := by simp [setAll]
      have e2 : (A ++ x :: B).set A.length 0 = (A ++ [0]) ++ B := by simp
      have := setAll_pos o B (A ++ [0])
      rw [List.length_append, List.length_singleton] at this
      rw [e, e2, this]
      simp [freeO]
    · rw [if_neg h, if_neg h]
      have := setAll_pos o B (A ++ [x])
      rw [List.length_append, List.length_singleton] at this
      have e2 : A ++ x :: B = (A ++ [x]) ++ B := by simp
      rw [e2, this]
      simp [freeO]
theorem setAll_free (o : Int) (L : List Int) : setAll L (posOf o L) = freeO o L := setAll_pos o L []
theorem setAll_snoc (M fs : List Int) (f : Int) : setAll M (fs ++ [f]) = (setAll M fs).set f.toNat 0 := by simp [setAll]
theorem setAll_len (fs : List Int) : ∀ M : List Int, (setAll M fs).length = M.length := by
  induction fs with
  | nil => intro M; rfl
  | cons f r ih => intro M; show (setAll (M.set f.toNat 0) r).length = _; rw [ih]; simp
def giveL (L : List Int) (o : Int) : List Int := if isSome o then freeO o L else L
def giveA (L : List Int) (o : Int) : List Int := if isSome o then posOf o L else []
end Go.Proofs.Ytmldiibfmhkgjaa
