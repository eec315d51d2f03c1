import Derived.Test.YtmldiibfmhkgjaaPa
namespace Go.Proofs.Ytmldiibfmhkgjaa
open Go Go.Wd
set_option linter.unusedVariables false
set_option linter.unusedSimpArgs false

/-! ## rows of bytes, written as a whole -/
theorem encB_take (o : Nat) (Z : List Nat) (h : o ≤ Z.length) : (encL iB Z).take o = encL iB (Z.take o) := by
  have e : encL iB Z = encL iB (Z.take o) ++ encL iB (Z.drop o) := by rw [← encL_append, List.take_append_drop]
  have hl : (encL iB (Z.take o)).length = o := by rw [encL_length iB_len]; simp; omega
  rw [e, List.take_append_of_le_length (by omega), List.take_of_length_le (by omega)]
theorem encB_drop (o : Nat) (Z : List Nat) (h : o ≤ Z.length) : (encL iB Z).drop o = encL iB (Z.drop o) := by
  have e : encL iB Z = encL iB (Z.take o) ++ encL iB (Z.drop o) := by rw [← encL_append, List.take_append_drop]
  have hl : (encL iB (Z.take o)).length = o := by rw [encL_length iB_len]; simp; omega
  rw [e, List.drop_append_of_le_length (by omega), List.drop_of_length_le (by omega), List.nil_append]
def putR (Z : List Nat) (o : Nat) (b : List Nat) : List Nat := Z.take o ++ b ++ Z.drop (o + b.length)
theorem putR_len {Z : List Nat} {o : Nat} {b : List Nat} (h : o + b.length ≤ Z.length) : (putR Z o b).length = Z.length := by
  unfold putR; simp; omega
theorem putR_byt {Z b : List Nat} (h1 : Byt Z) (h2 : Byt b) (o : Nat) : Byt (putR Z o b) := by
  intro x hx
  unfold putR at hx
  rcases List.mem_append.1 hx with hx | hx
  · rcases List.mem_append.1 hx with hx | hx
    · exact h1 x (List.mem_of_mem_take hx)
    · exact h2 x hx
  · exact h1 x (List.mem_of_mem_drop hx)
theorem putR_at {Z b : List Nat} {o : Nat} (h : o + b.length ≤ Z.length) (j : Nat) : (putR Z o b)[j]? = if o ≤ j ∧ j < o + b.length then b[j - o]? else Z[j]? := by
  have hl : (Z.take o).length = o := by simp; omega
  unfold putR
  rcases Nat.lt_or_ge j o with h1 | h1
  · rw [List.append_assoc, List.getElem?_append_left (by omega), List.getElem?_take, if_pos h1, if_neg (by omega)]
  · rw [List.append_assoc, List.getElem?_append_right (by omega), hl]
    rcases Nat.lt_or_ge j (o + b.length) with h2 | h2
    · rw [List.getElem?_append_left (by omega), if_pos ⟨h1, h2⟩]
    · rw [List.getElem?_append_right (by omega), List.getElem?_drop, if_neg (by omega)]
      congr 1; omega
theorem encB_write {Z b : List Nat} {o : Nat} (t : List Value) (h : o + b.length ≤ Z.length) : writeAt (encL iB Z ++ t) o (encL iB b) = encL iB (putR Z o b) ++ t := by
  have hb : (encL iB b).length = b.length := by rw [encL_length iB_len, Nat.mul_one]
  have hz : (encL iB Z).length = Z.length := by rw [encL_length iB_len, Nat.mul_one]
  rw [writeAt_append_left _ _ _ _ (by omega), writeAt_eq _ _ _ (by omega), hb, encB_take _ _ (by omega), encB_drop _ _ h, ← encL_append, ← encL_append]
  rfl
theorem oneCells_B (L : List Nat) : oneCells (encL iB L) = true := by
  unfold oneCells
  rw [List.all_eq_true]
  intro v hv
  simp only [encL, List.mem_flatMap] at hv
  obtain ⟨x, _, hx⟩ := hv
  simp [iB] at hx
  subst hx; rfl
theorem readAt_B {h : Hp} {T q : Nat} {L : List Nat} {t : List Value} (w : Arr iB T h q L t) (o l : Nat) (hl : o + l ≤ L.length) : readAt h q o (encL iB ((L.drop o).take l)) := by
  intro j hj
  rw [encL_length iB_len] at hj
  simp at hj
  obtain ⟨x, hx⟩ : ∃ x, L[o + j]? = some x := ⟨_, List.getElem?_eq_getElem (by omega)⟩
  have hx2 : ((L.drop o).take l)[j]? = some x := by rw [List.getElem?_take, if_pos (by omega), List.getElem?_drop]; exact hx
  have h2 := encL_get iB_len _ j 0 x hx2 (by omega)
  rw [Nat.mul_one, Nat.add_zero] at h2
  rw [arrB_cell w hx, h2]; rfl
theorem encB_inj : ∀ {A B : List Nat}, encL iB A = encL iB B → A = B
  | [], [], _ => rfl
  | [], y :: B, h => by simp [encL, iB] at h
  | x :: A, [], h => by simp [encL, iB] at h
  | x :: A, y :: B, h => by
    rw [encL_cons, encL_cons] at h
    simp only [iB, List.singleton_append, List.cons.injEq, Value.int.injEq, true_and] at h
    rw [encB_inj h.2]
    have := h.1
    congr 1; omega

/-! ## the memory -/
structure MS (h : Hp) (q fb n : Nat) (B : List Nat) : Prop where
  hq : ∃ c, n ≤ c ∧ bk h q = some (blk 115 [.slice (some ⟨fb, 0, none⟩) n c])
  arr : ∃ t, Arr iB 113 h fb B t
  len : B.length = n * 256
  byt : Byt B
  lo : 1 ≤ n
  hi : n ≤ 1024
  ne : fb ≠ q
section
variable {h h' : Hp} {q fb n : Nat} {B : List Nat}
theorem MS.fr (w : MS h q fb n B) {F : List Nat} (k : Fr F h h') (h1 : q ∉ F) (h2 : fb ∉ F) : MS h' q fb n B := by
  obtain ⟨c, hc, hq⟩ := w.hq
  obtain ⟨t, ht⟩ := w.arr
  exact ⟨⟨c, hc, k.at hq h1⟩, ⟨t, ht.fr k h2⟩, w.len, w.byt, w.lo, w.hi, w.ne⟩
theorem MS.lt (w : MS h q fb n B) : q < sz h := by obtain ⟨c, hc, hq⟩ := w.hq; exact lt_of_bk hq
theorem MS.ltf (w : MS h q fb n B) : fb < sz h := by obtain ⟨t, ht⟩ := w.arr; exact ht.lt
theorem MS.row (w : MS h q fb n B) : ∃ c, n ≤ c ∧ cellAt h q 0 = some (.slice (some ⟨fb, 0, none⟩) n c) := by
  obtain ⟨c, hc, hq⟩ := w.hq
  exact ⟨c, hc, (cellAt_of hq 0).trans rfl⟩
theorem MS.cell (w : MS h q fb n B) {k : Nat} {x : Nat} (hx : B[k]? = some x) : cellAt h fb k = some (.int .u8 x) := by obtain ⟨t, ht⟩ := w.arr; exact arrB_cell ht hx
/-- The frames' block is written. -/
theorem MS.to (w : MS h q fb n B) (k : Fr [fb] h h') {B' : List Nat} {t : List Value} (ha : Arr iB 113 h' fb B' t) (hl : B'.length = B.length) (hb : Byt B') : MS h' q fb n B' := by
  obtain ⟨c, hc, hq⟩ := w.hq
  exact ⟨⟨c, hc, k.at hq (by simpa using fun e => w.ne e.symm)⟩, ⟨t, ha⟩, hl.trans w.len, hb, w.lo, w.hi, w.ne⟩
end
def isIn (n : Nat) (i : Int) : Bool := decide (0 ≤ i) && decide (i < n)
theorem isIn_nat {n : Nat} {i : Int} (h : isIn n i = true) : ∃ k : Nat, i = k ∧ k < n := by
  simp only [isIn, Bool.and_eq_true, decide_eq_true_eq] at h
  exact ⟨i.toNat, by omega, by omega⟩
theorem in_nat {n k : Nat} (h : k < n) : isIn n k = true := by simp [isIn]; omega
theorem there_spec {h : Hp} {q fb n : Nat} {B : List Nat} (w : MS h q fb n B) (i : Int) : CallsH Try.prog 83 [.pointer (some ⟨q, 0, none⟩), .int .i64 i] h fun v h' => v = .bool (isIn n i) ∧ h' = h := by
  apply phys_Mem_there.calls
  unfold phys_Mem_there.P
  obtain ⟨c, _, hr⟩ := w.row
  refine ⟨fun c => ⟨_, _, _, hr, ?_, rfl⟩, fun c => ⟨?_, rfl⟩⟩
  · simp at c; simp [isIn, c]
  · simp at c; simp [isIn]; omega
theorem Frames_spec {h : Hp} {q fb n : Nat} {B : List Nat} (w : MS h q fb n B) : CallsH Try.prog 59 [.pointer (some ⟨q, 0, none⟩)] h fun v h' => v = .int .i64 n ∧ h' = h := by
  apply phys_Mem_Frames.calls
  unfold phys_Mem_Frames.P
  obtain ⟨c, _, hr⟩ := w.row
  exact ⟨_, _, _, hr, rfl, rfl⟩
theorem new_bad {h : Hp} {n : Int} (hn : n < 1 ∨ 1024 < n) : CallsH Try.prog 42 [.int .i64 n] h fun v h' => v = .tuple #[.pointer none, .int .i64 11] ∧ h' = h := by
  apply phys_New.calls
  unfold phys_New.P
  refine ⟨fun _ => ⟨rfl, rfl⟩, fun c1 => ⟨fun _ => ⟨rfl, rfl⟩, fun c2 => ?_⟩⟩
  simp only [decide_eq_false_iff_not] at c1 c2; omega
theorem byt_rep (n : Nat) : Byt (List.replicate n 0) := fun x hx => by rw [List.mem_replicate] at hx; omega
theorem new_spec {h : Hp} {n : Nat} (h1n : 1 ≤ n) (hn : n ≤ 1024) : CallsH Try.prog 42 [.int .i64 n] h fun v h' => v = .tuple #[.pointer (some ⟨sz h + 1, 0, none⟩), .int .i64 0] ∧ MS h' (sz h + 1) (sz h) n (List.replicate (n * 256) 0) ∧ Fr [] h h' ∧ sz h' = sz h + 2 := by
  apply phys_New.calls
  unfold phys_New.P
  refine ⟨fun c => ?_, fun c1 => ⟨fun c => ?_, fun c2 => ?_⟩⟩
  · simp only [decide_eq_true_eq] at c; omega
  · simp only [decide_eq_true_eq] at c; omega
  refine ⟨by omega, by omega, by omega, by omega, rfl, ?_⟩
  rintro h1 rfl h2 rfl
  rw [Int.toNat_natCast, zeros_fr, ← List.append_nil (encL iB (List.replicate (n * 256) 0))]
  have k1 := new_at h (blk 113 (encL iB (List.replicate (n * 256) 0) ++ []))
  have f1 : Fr [] h (new h (blk 113 (encL iB (List.replicate (n * 256) 0) ++ []))) := Fr.new _ _ _
  have z1 : sz (new h (blk 113 (encL iB (List.replicate (n * 256) 0) ++ []))) = sz h + 1 := sz_new _ _
  generalize new h (blk 113 (encL iB (List.replicate (n * 256) 0) ++ [])) = h1 at *
  have f2 : Fr [] h1 (new h1 (blk 115 [.slice (some ⟨sz h, 0, none⟩) n n])) := Fr.new _ _ _
  have k2 := new_at h1 (blk 115 [.slice (some ⟨sz h, 0, none⟩) n n])
  refine ⟨by rw [z1], ⟨⟨n, Nat.le_refl _, ?_⟩, ⟨[], ⟨f2.at k1 (by simp)⟩⟩, by simp, byt_rep _, h1n, hn, by omega⟩, f1.trans f2, by rw [sz_new, z1]⟩
  rw [← z1]; exact k2

theorem at_spec {h : Hp} {q fb n : Nat} {B : List Nat} (w : MS h q fb n B) {a : Nat} (ha : a < 4294967296) : CallsH Try.prog 107 [.pointer (some ⟨q, 0, none⟩), .int .u32 a] h fun v h' =>
    v = .tuple #[.pointer (if a < n * 256 then some ⟨fb, a / 256 * 256, none⟩ else none), .int .i64 (if a < n * 256 then ((a % 256 : Nat) : Int) else 0), .bool (decide (a < n * 256))] ∧ h' = h := by
  apply phys_Mem_at.calls
  unfold phys_Mem_at.P
  obtain ⟨c, _, hr⟩ := w.row
  have e1 : Int.tdiv (a : Int) 256 = ((a / 256 : Nat) : Int) := rfl
  have e2 : Int.tmod (a : Int) 256 = ((a % 256 : Nat) : Int) := rfl
  rw [e1, e2, wrapn_u32 _ (by omega), wrapn_i64 _ (by omega), wrapn_i64 _ (by omega)]
  refine ⟨by decide, _, _, _, hr, fun c1 => ⟨?_, rfl⟩, fun c1 => ⟨_, _, _, hr, by omega, ?_, _, _, rfl, by decide, ?_, rfl⟩⟩
  · simp only [decide_eq_true_eq] at c1
    have hn : ¬ a < n * 256 := by omega
    simp [hn]
  · simp only [decide_eq_false_iff_not] at c1; omega
  · simp only [decide_eq_false_iff_not] at c1
    have hn : a < n * 256 := by omega
    simp [hn]

theorem seg_get (B : List Nat) {o l j : Nat} (hj : j < l) : ((B.drop o).take l).getD j 0 = B.getD (o + j) 0 := by
  rw [List.getD_eq_getElem?_getD, List.getD_eq_getElem?_getD, List.getElem?_take, if_pos hj, List.getElem?_drop]
theorem leN_seg (B : List Nat) (o l p : Nat) : ∀ k, p + k ≤ l → leN ((B.drop o).take l) p k = leN B (o + p) k
  | 0, _ => rfl
  | k + 1, h => by
    simp only [leN]
    rw [leN_seg B o l p k (by omega), seg_get B (by omega), show o + (p + k) = o + p + k by omega]
def wordOk (n a : Nat) : Bool := decide (a < n * 256) && decide (a % 4 = 0)
theorem arr0 (b o : Nat) : arrBase b o ((0 : Int)).toNat (((256 : Nat) : Int)).toNat 1 = some ⟨b, o, none⟩ := rfl
theorem Word_spec {h : Hp} {q fb n : Nat} {B : List Nat} (w : MS h q fb n B) {a : Nat} (ha : a < 4294967296) : CallsH Try.prog 85 [.pointer (some ⟨q, 0, none⟩), .int .u32 a] h fun v h' =>
    v = .tuple #[.int .u32 (if wordOk n a then ((leN B a 4 : Nat) : Int) else 0), .bool (wordOk n a)] ∧ h' = h := by
  refine calls_k fun R hR => ?_
  apply phys_Mem_Word.calls
  unfold phys_Mem_Word.P
  refine (at_spec w ha).mono ?_
  rintro v h1 ⟨rfl, rfl⟩
  have no : wordOk n a = false → R (.tuple #[.int .u32 0, .bool false]) h1 := by
    intro e
    rw [e] at hR
    exact hR _ _ ⟨rfl, rfl⟩
  refine ⟨_, _, _, rfl, fun h2 => h2 = h1 ∧ a < n * 256 ∧ a % 4 = 0, ⟨fun c => no ?_, fun c => ⟨by decide, fun c1 => no ?_, fun c1 => ⟨rfl, ?_⟩⟩⟩, ?_⟩
  · have c : ¬ a < n * 256 := by simpa using c
    simp [wordOk, c]
  · have c : a < n * 256 := by simpa using c
    rw [if_pos c] at c1
    have e2 : Int.tmod ((a % 256 : Nat) : Int) 4 = ((a % 256 % 4 : Nat) : Int) := rfl
    rw [e2] at c1
    simp only [bne_iff_ne] at c1
    have : ¬ a % 4 = 0 := by omega
    simp [wordOk, this]
  · have c : a < n * 256 := by simpa using c
    rw [if_pos c] at c1
    have e2 : Int.tmod ((a % 256 : Nat) : Int) 4 = ((a % 256 % 4 : Nat) : Int) := rfl
    rw [e2] at c1
    simp only [bne_eq_false_iff_eq] at c1
    exact ⟨c, by omega⟩
  rintro h2 ⟨rfl, c1, c2⟩
  have hok : wordOk n a = true := by simp [wordOk, c1, c2]
  rw [hok] at hR
  rw [if_pos c1, if_pos c1]
  obtain ⟨t, ht⟩ := w.arr
  have hl := w.len
  have ho : a / 256 * 256 + 256 ≤ B.length := by omega
  refine ⟨_, _, rfl, fun h => h, by omega, by omega, by omega, by omega, ?_⟩
  rw [arr0]
  have hrow := arrB_row ht (a / 256 * 256) 256 ho
  have hlen : ((B.drop (a / 256 * 256)).take 256).length = 256 := by simp; omega
  refine (Get_spec (l := 256) (c := 256) hrow hlen (fun x hx => w.byt x (List.mem_of_mem_drop (List.mem_of_mem_take hx))) (by omega) (by omega) (a % 256) (by omega) (by omega) (.inr trivial)).mono ?_
  rw [leN_seg _ _ _ _ 4 (by omega), show a / 256 * 256 + a % 256 = a by omega]
  rintro v h3 ⟨rfl, rfl⟩
  exact ⟨_, _, rfl, hR _ _ ⟨rfl, rfl⟩⟩

def putW (n : Nat) (B : List Nat) (a x : Nat) : List Nat := if wordOk n a then putK B a x 4 else B
theorem putW_len (n : Nat) (B : List Nat) (a x : Nat) : (putW n B a x).length = B.length := by unfold putW; split; exact putK_len _ _ _ _; rfl
theorem putW_byt {n : Nat} {B : List Nat} (h : Byt B) (a x : Nat) : Byt (putW n B a x) := by unfold putW; split; exact putK_byt h _ _ _; exact h
theorem PutWord_spec {h : Hp} {q fb n : Nat} {B : List Nat} (w : MS h q fb n B) {a : Nat} (ha : a < 4294967296) {x : Nat} (hx : x < 4294967296) : CallsH Try.prog 87 [.pointer (some ⟨q, 0, none⟩), .int .u32 a, .int .u32 x] h fun v h' =>
    v = .bool (wordOk n a) ∧ MS h' q fb n (putW n B a x) ∧ Fr [fb] h h' := by
  refine calls_k fun R hR => ?_
  apply phys_Mem_PutWord.calls
  unfold phys_Mem_PutWord.P
  refine (at_spec w ha).mono ?_
  rintro v h1 ⟨rfl, rfl⟩
  have no : wordOk n a = false → R (.bool false) h1 := by
    intro e
    simp only [e, putW, Bool.false_eq_true, if_false] at hR
    exact hR _ _ ⟨rfl, w, Fr.refl _ _⟩
  have e2 : Int.tmod ((a % 256 : Nat) : Int) 4 = ((a % 256 % 4 : Nat) : Int) := rfl
  refine ⟨_, _, _, rfl, fun c => ⟨by decide, fun c1 => ?_, fun c1 => no ?_⟩, fun c => no ?_⟩
  · have c : a < n * 256 := by simpa using c
    rw [if_pos c, e2] at c1
    simp only [beq_iff_eq] at c1
    have c2 : a % 4 = 0 := by omega
    have hok : wordOk n a = true := by simp [wordOk, c, c2]
    simp only [hok, putW, if_true] at hR
    rw [if_pos c, if_pos c]
    obtain ⟨t, ht⟩ := w.arr
    have hl := w.len
    refine ⟨_, _, rfl, fun h => h, by omega, by omega, by omega, by omega, ?_⟩
    rw [arr0]
    refine (Set_spec (l := 256) (c := 256) ht (o := a / 256 * 256) (by omega) (by omega) (a % 256) (by omega) x hx).mono ?_
    rw [show a / 256 * 256 + a % 256 = a by omega]
    rintro v h2 ⟨rfl, w2, f2⟩
    exact ⟨_, rfl, hR _ _ ⟨rfl, w.to f2 w2 (putK_len _ _ _ _) (putK_byt w.byt _ _ _), f2⟩⟩
  · have c : a < n * 256 := by simpa using c
    rw [if_pos c, e2] at c1
    simp only [beq_eq_false_iff_ne] at c1
    have : ¬ a % 4 = 0 := by omega
    simp [wordOk, this]
  · have c : ¬ a < n * 256 := by simpa using c
    simp [wordOk, c]
end Go.Proofs.Ytmldiibfmhkgjaa
