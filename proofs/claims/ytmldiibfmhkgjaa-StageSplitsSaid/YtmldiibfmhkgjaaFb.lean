import Derived.Test.YtmldiibfmhkgjaaFa
namespace Go.Proofs.Ytmldiibfmhkgjaa
open Go Go.Wd
set_option linter.unusedVariables false
set_option linter.unusedSimpArgs false

structure FRS (h : Hp) (q ob : Nat) (L : List Int) : Prop where
  hq : bk h q = some (blk 36 [.slice (some ⟨ob, 0, none⟩) L.length L.length])
  arr : Arr FiN 3 h ob L []
  ne : ob ≠ q
section
variable {h h' : Hp} {q ob : Nat} {L : List Int}
theorem FRS.fr (w : FRS h q ob L) {F : List Nat} (k : Fr F h h') (h1 : q ∉ F) (h2 : ob ∉ F) : FRS h' q ob L := ⟨k.at w.hq h1, w.arr.fr k h2, w.ne⟩
theorem FRS.lt (w : FRS h q ob L) : q < sz h := lt_of_bk w.hq
theorem FRS.lto (w : FRS h q ob L) : ob < sz h := w.arr.lt
theorem FRS.row (w : FRS h q ob L) : cellAt h q 0 = some (.slice (some ⟨ob, 0, none⟩) L.length L.length) := (cellAt_of w.hq 0).trans rfl
theorem FRS.cell (w : FRS h q ob L) {k : Nat} {x : Int} (hx : L[k]? = some x) : cellAt h ob (0 + (k : Int).toNat * 1) = some (.int .i64 x) := arr_cell w.arr hx
theorem FRS.put (w : FRS h q ob L) {k : Nat} (hk : k < L.length) (y : Int) : FRS (upd h ob 3 (writeAt (encL FiN L ++ []) (0 + (k : Int).toNat * 1) [.int .i64 y])) q ob (L.set k y) := by
  have f : Fr [ob] h (upd h ob 3 (writeAt (encL FiN L ++ []) (0 + (k : Int).toNat * 1) [.int .i64 y])) := Fr.upd (by simp) _ _ _
  exact ⟨by rw [List.length_set]; exact f.at w.hq (by simpa using fun e => w.ne e.symm), arr_put w.arr hk y, w.ne⟩
end
theorem count_rep (n : Nat) (i : Nat) : cnt (List.replicate n 0) i = if i = 0 then (n : Int) else 0 := by
  unfold cnt
  rw [List.count_replicate]
  by_cases h : i = 0
  · subst h; simp
  · have : ¬ ((0 : Int) = (i : Int)) := by omega
    have h2 : ((0 : Int) == (i : Int)) = false := by simpa using this
    rw [h2]; simp [h]
theorem Fnew_bad {h : Hp} {n : Int} (hn : n < 1 ∨ 1024 < n) : CallsH Try.prog 43 [.int .i64 n] h fun v h' => v = .tuple #[.pointer none, .int .i64 11] ∧ h' = h := by
  apply frames_New.calls
  unfold frames_New.P
  refine ⟨fun _ => False, ⟨fun _ => ⟨rfl, rfl⟩, fun c1 => ⟨fun _ => ⟨rfl, rfl⟩, fun c2 => ?_⟩⟩, fun _ h => h.elim⟩
  simp only [decide_eq_false_iff_not] at c1 c2; omega
theorem Fnew_spec {h : Hp} {n : Nat} (h1n : 1 ≤ n) (hn : n ≤ 1024) : CallsH Try.prog 43 [.int .i64 n] h fun v h' => v = .tuple #[.pointer (some ⟨sz h + 1, 0, none⟩), .int .i64 0] ∧ FTS h' (sz h + 1) (sz h) (List.replicate n 0) ∧ Fr [] h h' ∧ sz h' = sz h + 2 := by
  apply frames_New.calls
  unfold frames_New.P
  refine ⟨fun h1 => h1 = h, ⟨fun c => ?_, fun c1 => ⟨fun c => ?_, fun c2 => rfl⟩⟩, ?_⟩
  · simp only [decide_eq_true_eq] at c; omega
  · simp only [decide_eq_true_eq] at c; omega
  rintro h0 rfl
  refine ⟨by omega, by omega, by omega, by omega, rfl, ?_⟩
  rintro h1 rfl
  rw [Int.toNat_natCast, zeros_iN, ← List.append_nil (encL FiN (List.replicate n 0))]
  have k1 := new_at h0 (blk 3 (encL FiN (List.replicate n 0) ++ []))
  have f1 : Fr [] h0 (new h0 (blk 3 (encL FiN (List.replicate n 0) ++ []))) := Fr.new _ _ _
  have z1 : sz (new h0 (blk 3 (encL FiN (List.replicate n 0) ++ []))) = sz h0 + 1 := sz_new _ _
  generalize new h0 (blk 3 (encL FiN (List.replicate n 0) ++ [])) = h1 at *
  rintro h3 rfl
  have e : [Value.slice (some ⟨sz h0, 0, none⟩) n n, .int .i64 0, .int .i64 0, .int .i64 0, .int .i64 0, .int .i64 0, .int .i64 0, .int .i64 0, .int .i64 0, .int .i64 0, .int .i64 0] = tcells (.slice (some ⟨sz h0, 0, none⟩) n n) (fun _ => 0) := rfl
  rw [e]
  have k3 := new_at h1 (blk 118 (tcells (.slice (some ⟨sz h0, 0, none⟩) n n) (fun _ => 0)))
  have f3 : Fr [] h1 (new h1 (blk 118 (tcells (.slice (some ⟨sz h0, 0, none⟩) n n) (fun _ => 0)))) := Fr.new _ _ _
  have z3 : sz (new h1 (blk 118 (tcells (.slice (some ⟨sz h0, 0, none⟩) n n) (fun _ => 0)))) = sz h1 + 1 := sz_new _ _
  generalize new h1 (blk 118 (tcells (.slice (some ⟨sz h0, 0, none⟩) n n) (fun _ => 0))) = h3 at *
  refine ⟨by omega, by omega, truly_rfl, _, _, k3, by rw [tcells_len]; decide, ?_⟩
  rintro h4 rfl
  have e2 : writeAt (tcells (.slice (some ⟨sz h0, 0, none⟩) n n) (fun _ => 0)) (1 + (0 : Int).toNat * 1) [.int .i64 (n : Int)] = tcells (.slice (some ⟨sz h0, 0, none⟩) n n) (cnt (List.replicate n 0)) := by
    have := tcells_put (.slice (some ⟨sz h0, 0, none⟩) n n) (fun _ => 0) (i := 0) (by omega) (n : Int)
    rw [show cnt (List.replicate n 0) = fun j => if j = 0 then (n : Int) else 0 from funext (count_rep n)]
    exact this
  rw [e2]
  have k4 := upd_same k3 118 (tcells (.slice (some ⟨sz h0, 0, none⟩) n n) (cnt (List.replicate n 0)))
  have f4 : Fr [sz h1] h3 (upd h3 (sz h1) 118 (tcells (.slice (some ⟨sz h0, 0, none⟩) n n) (cnt (List.replicate n 0)))) := Fr.upd (by simp) _ _ _
  refine ⟨by rw [z1], ⟨?_, ⟨f4.at (f3.at k1 (by simp)) (by simp; omega)⟩, by omega, ?_, by simpa using hn⟩, (f1.trans f3).later f4 (by simp; omega), by rw [sz_upd, z3, z1]⟩
  · rw [← z1, List.length_replicate]; exact k4
  · intro x hx
    rw [List.mem_replicate] at hx
    omega

theorem Count_spec {h : Hp} {q ob : Nat} {L : List Int} (w : FTS h q ob L) (o : Int) : CallsH Try.prog 39 [.pointer (some ⟨q, 0, none⟩), .int .i64 o] h fun v h' => v = .int .i64 (L.count o : Nat) ∧ h' = h := by
  refine calls_k fun R hR => ?_
  apply frames_Table_Count.calls
  unfold frames_Table_Count.P
  refine ⟨fun c => ?_, fun c => ?_⟩
  · refine (some_spec o).mono ?_
    rintro v h1 ⟨rfl, rfl⟩
    refine ⟨_, rfl, fun c1 => ?_, fun c1 => ?_⟩
    · have : L.count o = 0 := List.count_eq_zero.2 fun hm => by
        have := w.ok o hm
        simp only [isSome, Bool.not_eq_true', Bool.and_eq_false_iff, decide_eq_false_iff_not] at c1
        simp only [bne_iff_ne] at c
        omega
      rw [this] at hR
      exact hR _ _ ⟨rfl, rfl⟩
    · have : 1 ≤ o ∧ o ≤ 9 := by simpa [isSome] using c1
      obtain ⟨n, rfl⟩ : ∃ n : Nat, o = n := ⟨o.toNat, by omega⟩
      exact ⟨by omega, by omega, _, w.count (by omega), hR _ _ ⟨rfl, rfl⟩⟩
  · have : o = 0 := by simpa using c
    subst this
    exact ⟨by omega, by omega, _, w.count (i := 0) (by omega), hR _ _ ⟨rfl, rfl⟩⟩
def ownerOf (L : List Int) (f : Int) : Int := if isThere L f then L.getD f.toNat (-1) else -1
theorem ownerOf_nat {L : List Int} {k : Nat} {x : Int} (hx : L[k]? = some x) : ownerOf L k = x := by
  have := (List.getElem?_eq_some_iff.1 hx).1
  simp only [ownerOf, there_nat this, if_true, Int.toNat_natCast, List.getD_eq_getElem?_getD, hx, Option.getD_some]
theorem Owner_spec {h : Hp} {q ob : Nat} {L : List Int} (w : FTS h q ob L) (f : Int) : CallsH Try.prog 36 [.pointer (some ⟨q, 0, none⟩), .int .i64 f] h fun v h' => v = .int .i64 (ownerOf L f) ∧ h' = h := by
  refine calls_k fun R hR => ?_
  apply frames_Table_Owner.calls
  unfold frames_Table_Owner.P
  refine (Fthere_spec w f).mono ?_
  rintro v h1 ⟨rfl, rfl⟩
  refine ⟨_, rfl, fun c => ?_, fun c => ?_⟩
  · have c : isThere L f = false := by simpa using c
    have e : ownerOf L f = -1 := by simp [ownerOf, c]
    rw [e] at hR
    exact hR _ _ ⟨rfl, rfl⟩
  · obtain ⟨k, rfl, hk⟩ := isThere_nat (by simpa using c)
    obtain ⟨x, hx⟩ : ∃ x, L[k]? = some x := ⟨_, List.getElem?_eq_getElem hk⟩
    rw [ownerOf_nat hx] at hR
    exact ⟨_, _, _, w.row, by omega, by omega, _, _, rfl, _, w.cell hx, hR _ _ ⟨rfl, rfl⟩⟩

/-! ## which frames are an owner's -/
def posA (o : Int) : List Int → Nat → List Int
  | [], _ => []
  | x :: r, k => if x = o then (k : Int) :: posA o r (k + 1) else posA o r (k + 1)
def posOf (o : Int) (L : List Int) : List Int := posA o L 0
theorem posA_append (o : Int) : ∀ (A B : List Int) (k : Nat), posA o (A ++ B) k = posA o A k ++ posA o B (k + A.length)
  | [], B, k => by simp [posA]
  | x :: A, B, k => by
    simp only [List.cons_append, posA]
    rw [posA_append o A B (k + 1), show k + 1 + A.length = k + (x :: A).length by simp; omega]
    split <;> rfl
theorem pos_next {o : Int} {L : List Int} {k : Nat} {x : Int} (hx : L[k]? = some x) : posOf o (L.take (k + 1)) = posOf o (L.take k) ++ (if x = o then [(k : Int)] else []) := by
  have hk := (List.getElem?_eq_some_iff.1 hx).1
  unfold posOf
  rw [Ftake_one hx, posA_append, List.length_take, Nat.min_eq_left (by omega)]
  simp [posA]
theorem posA_length (o : Int) : ∀ (L : List Int) (k : Nat), (posA o L k).length = L.count o
  | [], k => rfl
  | x :: r, k => by
    simp only [posA]
    by_cases h : x = o
    · rw [if_pos h, List.length_cons, posA_length o r, h, List.count_cons_self]
    · rw [if_neg h, posA_length o r, List.count_cons_of_ne h]
theorem posOf_length (o : Int) (L : List Int) : (posOf o L).length = L.count o := posA_length o L 0
theorem pos_mem {o : Int} {L : List Int} {f : Int} (h : f ∈ posOf o L) : ∃ k : Nat, f = k ∧ L[k]? = some o := by
  have key : ∀ (L : List Int) (j : Nat), f ∈ posA o L j → ∃ k : Nat, f = (j + k : Nat) ∧ L[k]? = some o := by
    intro L
    induction L with
    | nil => intro j h; simp [posA] at h
    | cons x r ih =>
      intro j h
      simp only [posA] at h
      split at h
      · rename_i e
        rcases List.mem_cons.1 h with rfl | h
        · exact ⟨0, by simp, by simp [e]⟩
        · obtain ⟨k, h1, h2⟩ := ih (j + 1) h
          exact ⟨k + 1, by rw [h1]; congr 1; omega, by simpa using h2⟩
      · obtain ⟨k, h1, h2⟩ := ih (j + 1) h
        exact ⟨k + 1, by rw [h1]; congr 1; omega, by simpa using h2⟩
  obtain ⟨k, h1, h2⟩ := key L 0 h
  exact ⟨k, by simpa using h1, h2⟩

theorem Clip_spec {h : Hp} {T : Nat} {a : Option Addr} {l c : Nat} {cs : List Value} (o : Own h T 1 a l c cs) : CallsH Try.prog 80 [.slice a l c] h fun v h' => v = .slice a l l ∧ h' = h := by
  apply slices_Clip.calls
  unfold slices_Clip.P
  have := o.le
  refine ⟨fun _ => rfl, by omega, by omega, by omega, by omega, ?_, rfl⟩
  have e : sliceBase a ((0 : Int)).toNat (((l : Nat) : Int)).toNat 1 = a := by
    rcases o.2 with ⟨rfl, _⟩ | ⟨b, rest, rfl, _⟩
    · unfold sliceBase; split <;> rfl
    · unfold sliceBase; split <;> rfl
  rw [e]; simp

theorem List_spec {h : Hp} {q ob : Nat} {L : List Int} (w : FTS h q ob L) (o : Int) :
    CallsH Try.prog 28 [.pointer (some ⟨q, 0, none⟩), .int .i64 o] h fun v h' => ∃ a c, v = .slice a (posOf o L).length c ∧ rowAtK h' a (encL FiN (posOf o L)) ∧ (∀ y ∈ foot a, sz h ≤ y ∧ y < sz h') ∧ Fr [] h h' := by
  refine calls_k fun R hR => ?_
  apply frames_Table_List.calls
  unfold frames_Table_List.P
  refine (Count_spec w o).mono ?_
  rintro v h1 ⟨rfl, rfl⟩
  have hl := w.len
  have hcl : L.count o ≤ 1024 := Nat.le_trans List.count_le_length hl
  refine ⟨_, rfl, by omega, by omega, by omega, by omega, rfl, ?_⟩
  rintro h2 rfl
  rw [Int.toNat_natCast]
  have f2 : Fr [] h1 (new h1 (blk 3 (zeros [.int .i64 0] (L.count o)))) := Fr.new _ _ _
  have k2 := new_at h1 (blk 3 (zeros [.int .i64 0] (L.count o)))
  have w2 := w.fr f2 (by simp) (by simp)
  generalize new h1 (blk 3 (zeros [.int .i64 0] (L.count o))) = h2 at *
  refine ⟨_, _, _, w2.row, ?_⟩
  refine ⟨fun oa ol oc i h3 => ∃ k : Nat, i = k ∧ k ≤ L.length ∧ ol = (posOf o (L.take k)).length ∧ Own h3 3 1 oa ol oc (encL FiN (posOf o (L.take k))) ∧ (∀ y ∈ foot oa, sz h1 ≤ y) ∧ FTS h3 q ob L ∧ Fr [] h1 h3, fun _ _ _ i _ => L.length - i.toNat,
    ⟨0, rfl, by omega, rfl, ⟨rfl, .inr ⟨_, zeros [.int .i64 0] (L.count o), rfl, k2, by simp [zeros_length, posOf, posA, encL], by omega⟩⟩, by simp [foot], w2, f2⟩, ?_⟩
  rintro oa ol oc i h3 ⟨k, rfl, hk, rfl, o3, fo, w3, f3⟩
  have lq := w.lt
  have lo := w.lto
  by_cases hkl : k < L.length
  · obtain ⟨x, hx⟩ : ∃ x, L[k]? = some x := ⟨_, List.getElem?_eq_getElem hkl⟩
    have hp := pos_next (o := o) hx
    have hpl : (posOf o (L.take k)).length ≤ k := by
      rw [posOf_length]
      have := List.count_le_length (a := o) (l := L.take k)
      simp at this; omega
    refine ⟨fun _ => ⟨by omega, by omega, _, _, rfl, _, w3.cell hx, fun c => ?_, fun c => ?_⟩, fun hf => absurd hf (by simp; omega)⟩
    · intro h4 h4e
      have c : x = o := by simpa using c
      refine append_new (h0 := h1) (F := []) o3 rfl f3 (fun y hy => .inr (fo y hy)) rfl rfl h4e (by omega) (by omega) ?_
      intro a' c' h5 o5 f5 g5 l5 t5
      have hge : ∀ y ∈ foot a', sz h1 ≤ y := by
        intro y hy
        rcases t5 with rfl | t5
        · exact fo y hy
        · have := t5 y hy; have := f3.size; omega
      rw [FwrapN hkl (by omega)]
      rw [if_pos c] at hp
      refine ⟨⟨k + 1, rfl, by omega, by rw [hp]; simp, ?_, hge, w3.fr l5 (fun hq => by have := fo _ hq; omega) (fun hq => by have := fo _ hq; omega), f5⟩, by show L.length - ((k + 1 : Nat) : Int).toNat < L.length - (k : Int).toNat; omega⟩
      rw [hp, encL_append]
      exact o5
    · rw [FwrapN hkl (by omega)]
      have c : ¬ x = o := by simpa using c
      rw [if_neg c, List.append_nil] at hp
      exact ⟨⟨k + 1, rfl, by omega, by rw [hp], by rw [hp]; exact o3, fo, w3, f3⟩, by show L.length - ((k + 1 : Nat) : Int).toNat < L.length - (k : Int).toNat; omega⟩
  · have : k = L.length := by omega
    subst this
    rw [List.take_length] at o3
    refine ⟨fun hf => absurd hf (by simp), fun _ => ?_⟩
    rw [List.take_length]
    refine (Clip_spec o3).mono ?_
    rintro v h4 ⟨rfl, rfl⟩
    exact ⟨_, _, _, rfl, hR _ _ ⟨oa, _, rfl, o3.row, fun y hy => ⟨fo y hy, o3.foot_lt y hy⟩, f3⟩⟩

theorem Same_spec {h : Hp} {a b : Option Addr} {c d : Nat} {A B : List Int} (ha : rowAtK h a (encL FiN A)) (hb : rowAtK h b (encL FiN B)) (hl : A.length ≤ 1000000) :
    CallsH Try.prog 37 [.slice a A.length c, .slice b B.length d] h fun v h' => v = .bool (decide (A = B)) ∧ h' = h := by
  refine calls_k fun R hR => ?_
  apply warderref00_SameInts.calls
  unfold warderref00_SameInts.P
  refine ⟨fun c => ?_, fun c => ?_⟩
  · have hne : ¬ A = B := by rintro rfl; simp at c
    simp only [hne, decide_false] at hR
    exact hR _ _ ⟨rfl, rfl⟩
  have hlen : A.length = B.length := by
    have : (A.length : Int) = B.length := by simpa using c
    omega
  refine ⟨fun i h1 => ∃ k : Nat, i = k ∧ k ≤ A.length ∧ h1 = h ∧ A.take k = B.take k, fun i _ => A.length - i.toNat, ⟨0, rfl, by omega, rfl, rfl⟩, ?_⟩
  rintro i h1 ⟨k, rfl, hk, rfl, he⟩
  by_cases hkl : k < A.length
  · obtain ⟨x, hx⟩ : ∃ x, A[k]? = some x := ⟨_, List.getElem?_eq_getElem hkl⟩
    obtain ⟨y, hy⟩ : ∃ y, B[k]? = some y := ⟨_, List.getElem?_eq_getElem (by omega)⟩
    obtain ⟨b1, o1, rfl, e1⟩ := row_cell ha hx
    obtain ⟨b2, o2, rfl, e2⟩ := row_cell hb hy
    refine ⟨fun _ => ⟨by omega, by omega, _, _, rfl, _, e1, by omega, by omega, _, _, rfl, _, e2, fun c => ?_, fun c => ?_⟩, fun hf => absurd hf (by simp; omega)⟩
    · have hne : ¬ A = B := by rintro rfl; rw [hx] at hy; cases hy; simp at c
      simp only [hne, decide_false] at hR
      exact hR _ _ ⟨rfl, rfl⟩
    · have c : x = y := by simpa using c
      rw [FwrapN hkl hl]
      exact ⟨⟨k + 1, rfl, by omega, rfl, by rw [Ftake_one hx, Ftake_one hy, he, c]⟩, by show A.length - ((k + 1 : Nat) : Int).toNat < A.length - (k : Int).toNat; omega⟩
  · have : k = A.length := by omega
    subst this
    have hAB : A = B := by rw [List.take_length, hlen, List.take_length] at he; exact he
    simp only [hAB, decide_true] at hR
    exact ⟨fun hf => absurd hf (by simp), fun _ => hR _ _ ⟨rfl, rfl⟩⟩
end Go.Proofs.Ytmldiibfmhkgjaa
