import Derived.Test.YtafnhohibpmlaaaFb
namespace Go.Proofs.Ytafnhohibpmlaaa
open Go Go.Wd
set_option linter.unusedVariables false
set_option linter.unusedSimpArgs false
theorem dec {n k : Nat} (h : k < n) : n - ((k + 1 : Nat) : Int).toNat < n - (k : Int).toNat := by omega

/-! ## moves -/
def moveE (L : List Int) (f o : Int) : Int := if !isThere L f || !isSome o then 11 else if ownerOf L f ≠ o then 16 else 0
def moveL (L : List Int) (f o t : Int) : List Int := if moveE L f o = 0 then L.set f.toNat t else L
theorem move_spec {h : Hp} {q ob : Nat} {L : List Int} (w : TS h q ob L) (f o : Int) {t : Int} (h0 : 0 ≤ t) (h9 : t ≤ 9) :
    CallsH Try.prog 29 [.pointer (some ⟨q, 0, none⟩), .int .i64 f, .int .i64 o, .int .i64 t] h fun v h' => v = .int .i64 (moveE L f o) ∧ TS h' q ob (moveL L f o t) ∧ Fr [q, ob] h h' := by
  refine calls_k fun R hR => ?_
  apply frames_Table_move.calls
  unfold frames_Table_move.P
  refine ⟨fun b h3 => b = (!isThere L f || !isSome o) ∧ h3 = h, ?_, ?_⟩
  · refine (there_spec w f).mono ?_
    rintro v h1 ⟨rfl, rfl⟩
    refine ⟨_, rfl, fun c => ⟨by rw [c]; rfl, rfl⟩, fun c => ?_⟩
    refine (some_spec o).mono ?_
    rintro v h1 ⟨rfl, rfl⟩
    exact ⟨_, rfl, by rw [c]; rfl, rfl⟩
  rintro b h3 ⟨rfl, rfl⟩
  refine ⟨fun c => ?_, fun c => ?_⟩
  · have e : moveE L f o = 11 := by simp [moveE, c]
    have e2 : moveL L f o t = L := by simp [moveL, e]
    rw [e, e2] at hR
    exact hR _ _ ⟨rfl, w, Fr.refl _ _⟩
  · have c' := c
    simp only [Bool.or_eq_false_iff, Bool.not_eq_false'] at c'
    obtain ⟨k, rfl, hk⟩ := isThere_nat c'.1
    obtain ⟨x, hx⟩ : ∃ x, L[k]? = some x := ⟨_, List.getElem?_eq_getElem hk⟩
    have hE : moveE L k o = if x ≠ o then 16 else 0 := by simp only [moveE, c, ownerOf_nat hx, Bool.false_eq_true, if_false]
    refine ⟨_, _, _, w.row, by omega, by omega, _, _, rfl, _, w.cell hx, fun c2 => ?_, fun c2 => ?_⟩
    · have e : moveE L k o = 16 := by rw [hE]; simp only [bne_iff_ne] at c2; rw [if_pos c2]
      have e2 : moveL L k o t = L := by simp [moveL, e]
      rw [e, e2] at hR
      exact hR _ _ ⟨rfl, w, Fr.refl _ _⟩
    · have e : moveE L k o = 0 := by rw [hE]; simp only [bne_eq_false_iff_eq] at c2; rw [if_neg (by simpa using c2)]
      have e2 : moveL L k o t = L.set k t := by simp [moveL, e]
      rw [e, e2] at hR
      refine (set_spec w hk h0 h9).mono ?_
      rintro v h4 ⟨rfl, w4, f4⟩
      exact ⟨rfl, hR _ _ ⟨rfl, w4, f4⟩⟩
theorem Give_spec {h : Hp} {q ob : Nat} {L : List Int} (w : TS h q ob L) (o f : Int) :
    CallsH Try.prog 20 [.pointer (some ⟨q, 0, none⟩), .int .i64 o, .int .i64 f] h fun v h' => v = .int .i64 (moveE L f o) ∧ TS h' q ob (moveL L f o 0) ∧ Fr [q, ob] h h' := by
  apply frames_Table_Give.calls
  unfold frames_Table_Give.P
  refine (move_spec w f o (by omega) (by omega)).mono ?_
  rintro v h1 ⟨rfl, w1, f1⟩
  exact ⟨_, rfl, rfl, w1, f1⟩
def MoveE (L : List Int) (f o t : Int) : Int := if isSome t then moveE L f o else 11
def MoveL (L : List Int) (f o t : Int) : List Int := if isSome t then moveL L f o t else L
theorem isSome_b {t : Int} (h : isSome t = true) : 1 ≤ t ∧ t ≤ 9 := by simpa [isSome] using h
theorem Move_spec {h : Hp} {q ob : Nat} {L : List Int} (w : TS h q ob L) (f o t : Int) :
    CallsH Try.prog 21 [.pointer (some ⟨q, 0, none⟩), .int .i64 f, .int .i64 o, .int .i64 t] h fun v h' => v = .int .i64 (MoveE L f o t) ∧ TS h' q ob (MoveL L f o t) ∧ Fr [q, ob] h h' := by
  refine calls_k fun R hR => ?_
  apply frames_Table_Move.calls
  unfold frames_Table_Move.P
  refine (some_spec t).mono ?_
  rintro v h1 ⟨rfl, rfl⟩
  refine ⟨_, rfl, fun c => ?_, fun c => ?_⟩
  · have c : isSome t = false := by simpa using c
    simp only [MoveE, MoveL, c, Bool.false_eq_true, if_false] at hR
    exact hR _ _ ⟨rfl, w, Fr.refl _ _⟩
  · have c : isSome t = true := by simpa using c
    simp only [MoveE, MoveL, c, if_true] at hR
    have := isSome_b c
    refine (move_spec w f o (by omega) (by omega)).mono ?_
    rintro v h1 ⟨rfl, w1, f1⟩
    exact ⟨_, rfl, hR _ _ ⟨rfl, w1, f1⟩⟩
/-- The reference's move: to nobody or somebody. -/
theorem rMove_spec {h : Hp} {q ob : Nat} {L : List Int} (w : RS h q ob L) (f o t : Int) :
    CallsH Try.prog 24 [.pointer (some ⟨q, 0, none⟩), .int .i64 f, .int .i64 o, .int .i64 t] h fun v h' =>
      v = .int .i64 (if t = 0 then moveE L f o else MoveE L f o t) ∧ RS h' q ob (if t = 0 then moveL L f o 0 else MoveL L f o t) ∧ Fr [ob] h h' := by
  refine calls_k fun R hR => ?_
  apply warderref10_Table_Move.calls
  unfold warderref10_Table_Move.P
  have bad : (isThere L f = false ∨ isSome o = false ∨ (t ≠ 0 ∧ isSome t = false)) → R (.int .i64 11) h := by
    intro hb
    have hE : (isThere L f = false ∨ isSome o = false) → moveE L f o = 11 := by
      rintro (h | h) <;> simp [moveE, h]
    have e : (if t = 0 then moveE L f o else MoveE L f o t) = 11 := by
      rcases hb with hb | hb | ⟨h1, h2⟩
      · have := hE (.inl hb); split
        · exact this
        · unfold MoveE; split
          · exact this
          · rfl
      · have := hE (.inr hb); split
        · exact this
        · unfold MoveE; split
          · exact this
          · rfl
      · rw [if_neg h1]; simp [MoveE, h2]
    have e2 : (if t = 0 then moveL L f o 0 else MoveL L f o t) = L := by
      rcases hb with hb | hb | ⟨h1, h2⟩
      · have := hE (.inl hb); split
        · simp [moveL, this]
        · unfold MoveL; split
          · simp [moveL, this]
          · rfl
      · have := hE (.inr hb); split
        · simp [moveL, this]
        · unfold MoveL; split
          · simp [moveL, this]
          · rfl
      · rw [if_neg h1]; simp [MoveL, h2]
    rw [e, e2] at hR
    exact hR _ _ ⟨rfl, w, Fr.refl _ _⟩
  refine ⟨fun h3 => h3 = h ∧ isThere L f = true ∧ isSome o = true ∧ (t = 0 ∨ isSome t = true), ?_, ?_⟩
  · refine ⟨fun c => bad (.inl ?_), fun c1 => ⟨_, _, _, w.row, fun c => bad (.inl ?_), fun c2 => ?_⟩⟩
    · simp at c; simp [isThere]; omega
    · simp at c; simp [isThere]; omega
    refine (owner_spec o).mono ?_
    rintro v h1 ⟨rfl, rfl⟩
    have ht : isThere L f = true := by simp at c1 c2; simp [isThere, c1, c2]
    refine ⟨_, rfl, fun c => bad (.inr (.inl (by simpa using c))), fun c3 => ⟨fun c4 => ?_, fun c4 => ⟨rfl, ht, by simpa using c3, .inl (by simpa using c4)⟩⟩⟩
    refine (owner_spec t).mono ?_
    rintro v h1 ⟨rfl, rfl⟩
    exact ⟨_, rfl, fun c => bad (.inr (.inr ⟨by simpa using c4, by simpa using c⟩)), fun c5 => ⟨rfl, ht, by simpa using c3, .inr (by simpa using c5)⟩⟩
  rintro h3 ⟨rfl, h1, h2, ht⟩
  have e : (if t = 0 then moveE L f o else MoveE L f o t) = moveE L f o := by
    split
    · rfl
    · rename_i hn; simp [MoveE, ht.resolve_left hn]
  have e2 : (if t = 0 then moveL L f o 0 else MoveL L f o t) = moveL L f o t := by
    split
    · rename_i hn; rw [hn]
    · rename_i hn; simp [MoveL, ht.resolve_left hn]
  rw [e, e2] at hR
  obtain ⟨k, rfl, hk⟩ := isThere_nat h1
  obtain ⟨x, hx⟩ : ∃ x, L[k]? = some x := ⟨_, List.getElem?_eq_getElem hk⟩
  have hE : moveE L k o = if x ≠ o then 16 else 0 := by simp [moveE, h1, h2, ownerOf_nat hx]
  refine ⟨_, _, _, w.row, by omega, by omega, _, _, rfl, _, w.cell hx, fun c2 => ?_, fun c2 => ?_⟩
  · have e : moveE L k o = 16 := by rw [hE]; simp only [bne_iff_ne] at c2; rw [if_pos c2]
    have e2 : moveL L k o t = L := by simp [moveL, e]
    rw [e, e2] at hR
    exact hR _ _ ⟨rfl, w, Fr.refl _ _⟩
  · have e : moveE L k o = 0 := by rw [hE]; simp only [bne_eq_false_iff_eq] at c2; rw [if_neg (by simpa using c2)]
    have e2 : moveL L k o t = L.set k t := by simp [moveL, e]
    rw [e, e2] at hR
    refine ⟨_, _, _, w.row, by omega, by omega, _, _, rfl, truly_rfl, _, _, w.arr.hq, arr_room w.arr hk, ?_⟩
    rintro h4 rfl
    exact hR _ _ ⟨rfl, w.put hk t, Fr.upd (by simp) _ _ _⟩

/-! ## all of an owner's given back -/
def freeO (o : Int) (L : List Int) : List Int := L.map fun x => if x = o then 0 else x
def setAll (M : List Int) (fs : List Int) : List Int := fs.foldl (fun M f => M.set f.toNat 0) M
theorem setAll_pos (o : Int) : ∀ (B A : List Int), setAll (A ++ B) (posA o B A.length) = A ++ freeO o B
  | [], A => by simp [setAll, posA, freeO]
  | x :: B, A => by
    simp only [posA, freeO, List.map_cons]
    by_cases h : x = o
    · rw [if_pos h, if_pos h]
      have e : setAll (A ++ x :: B) (((A.length : Nat) : Int) :: posA o B (A.length + 1)) = setAll ((A ++ x :: B).set A.length 0) (posA o B (A.length + 1)) := by simp [setAll]
      have e2 : (A ++ x :: B).set A.length 0 = (A ++ [0]) ++ B := by simp
      have := setAll_pos o B (A ++ [0])
      rw [List.length_append, List.length_singleton] at this
      rw [e, e2, this]
      simp [freeO]
    · rw [if_neg h, if_neg h]
      have := setAll_pos o B (A ++ [x])
      rw [List.length_append, List.length_singleton] at this
      have e2 : A ++ x :: B = (A ++ [x]) ++ B := by simp
      rw [e2, this]
      simp [freeO]
theorem setAll_free (o : Int) (L : List Int) : setAll L (posOf o L) = freeO o L := setAll_pos o L []
theorem setAll_snoc (M fs : List Int) (f : Int) : setAll M (fs ++ [f]) = (setAll M fs).set f.toNat 0 := by simp [setAll]
theorem setAll_len (fs : List Int) : ∀ M : List Int, (setAll M fs).length = M.length := by
  induction fs with
  | nil => intro M; rfl
  | cons f r ih => intro M; show (setAll (M.set f.toNat 0) r).length = _; rw [ih]; simp
def giveL (L : List Int) (o : Int) : List Int := if isSome o then freeO o L else L
def giveA (L : List Int) (o : Int) : List Int := if isSome o then posOf o L else []
theorem GiveAll_spec {h : Hp} {q ob : Nat} {L : List Int} (w : TS h q ob L) (o : Int) :
    CallsH Try.prog 22 [.pointer (some ⟨q, 0, none⟩), .int .i64 o] h fun v h' => ∃ a c, v = .slice a (giveA L o).length c ∧ rowAtK h' a (encL iN (giveA L o)) ∧ (∀ y ∈ foot a, sz h ≤ y ∧ y < sz h') ∧ TS h' q ob (giveL L o) ∧ Fr [q, ob] h h' := by
  refine calls_k fun R hR => ?_
  apply frames_Table_GiveAll.calls
  unfold frames_Table_GiveAll.P
  refine (some_spec o).mono ?_
  rintro v h1 ⟨rfl, rfl⟩
  refine ⟨_, rfl, fun c => ?_, fun c => ?_⟩
  · have c : isSome o = false := by simpa using c
    simp only [giveA, giveL, c, Bool.false_eq_true, if_false] at hR
    exact hR _ _ ⟨none, 0, rfl, .inl rfl, by simp [foot], w, Fr.refl _ _⟩
  have c : isSome o = true := by simpa using c
  simp only [giveA, giveL, c, if_true] at hR
  refine (List_spec w o).mono ?_
  rintro v h2 ⟨a, cc, rfl, r2, fa, f2⟩
  refine ⟨_, _, _, rfl, ?_⟩
  have w2 := w.fr f2 (by simp) (by simp)
  have lq := w.lt
  have lo := w.lto
  have hl := w.len
  have hpl : (posOf o L).length ≤ 1024 := by rw [posOf_length]; exact Nat.le_trans List.count_le_length hl
  have hfa : ∀ y ∈ foot a, y ∉ [q, ob] := fun y hy => by have := (fa y hy).1; simp; omega
  refine ⟨fun i h3 => ∃ k : Nat, i = k ∧ k ≤ (posOf o L).length ∧ TS h3 q ob (setAll L ((posOf o L).take k)) ∧ Fr [q, ob] h2 h3, fun i _ => (posOf o L).length - i.toNat, ⟨0, rfl, by omega, by simpa [setAll] using w2, Fr.refl _ _⟩, ?_⟩
  rintro i h3 ⟨k, rfl, hk, w3, f3⟩
  by_cases hkl : k < (posOf o L).length
  · obtain ⟨f, hf⟩ : ∃ f, (posOf o L)[k]? = some f := ⟨_, List.getElem?_eq_getElem hkl⟩
    obtain ⟨b, o1, rfl, e1⟩ := row_cell (r2.fr f3 hfa) hf
    obtain ⟨fk, rfl, hfk⟩ := pos_mem (List.mem_of_getElem? hf)
    have hfl := (List.getElem?_eq_some_iff.1 hfk).1
    refine ⟨fun _ => ⟨by omega, by omega, _, _, rfl, _, e1, ?_⟩, fun hf => absurd hf (by simp; omega)⟩
    refine (set_spec w3 (k := fk) (by rw [setAll_len]; exact hfl) (o := 0) (by omega) (by omega)).mono ?_
    rintro v h4 ⟨rfl, w4, f4⟩
    rw [wrapN hkl (by omega)]
    refine ⟨rfl, ⟨k + 1, rfl, by omega, ?_, f3.trans f4⟩, dec hkl⟩
    rw [take_one hf, setAll_snoc, Int.toNat_natCast]
    exact w4
  · have : k = (posOf o L).length := by omega
    subst this
    rw [List.take_length, setAll_free] at w3
    exact ⟨fun hf => absurd hf (by simp), fun _ => hR _ _ ⟨a, cc, rfl, r2.fr f3 hfa, fun y hy => ⟨(fa y hy).1, f3.lt (fa y hy).2⟩, w3, (f2.mono (by simp)).trans f3⟩⟩
end Go.Proofs.Ytafnhohibpmlaaa
