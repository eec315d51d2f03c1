import Derived.Test.YtopfdfcbhclolaaPc
namespace Go.Proofs.Ytopfdfcbhclolaa
open Go Go.Wd
set_option linter.unusedVariables false
set_option linter.unusedSimpArgs false

/-! ## the document's memory -/
structure RS (h : Hp) (q rb : Nat) (B : List Nat) : Prop where
  hq : bk h q = some (blk 103 [.slice (some ⟨rb, 0, none⟩) B.length B.length])
  arr : Arr iB 5 h rb B []
  ne : rb ≠ q
  byt : Byt B
  len : B.length ≤ 262144
section
variable {h h' : Hp} {q rb : Nat} {B : List Nat}
theorem RS.fr (w : RS h q rb B) {F : List Nat} (k : Fr F h h') (h1 : q ∉ F) (h2 : rb ∉ F) : RS h' q rb B := ⟨k.at w.hq h1, w.arr.fr k h2, w.ne, w.byt, w.len⟩
theorem RS.lt (w : RS h q rb B) : q < sz h := lt_of_bk w.hq
theorem RS.ltr (w : RS h q rb B) : rb < sz h := w.arr.lt
theorem RS.row (w : RS h q rb B) : cellAt h q 0 = some (.slice (some ⟨rb, 0, none⟩) B.length B.length) := (cellAt_of w.hq 0).trans rfl
theorem RS.room (w : RS h q rb B) {k : Nat} (hk : k < B.length) : k + 1 ≤ (encL iB B ++ []).length := by rw [arrB_len w.arr]; simp; omega
theorem RS.put (w : RS h q rb B) {k : Nat} (hk : k < B.length) {y : Nat} (hy : y < 256) : RS (upd h rb 5 (writeAt (encL iB B ++ []) k [.int .u8 y])) q rb (B.set k y) := by
  have f : Fr [rb] h (upd h rb 5 (writeAt (encL iB B ++ []) k [.int .u8 y])) := Fr.upd (by simp) _ _ _
  exact ⟨by rw [List.length_set]; exact f.at w.hq (by simpa using fun e => w.ne e.symm), arrB_put w.arr hk y, w.ne, w.byt.set k hy, by simpa using w.len⟩
end
theorem rnew_spec {h : Hp} {n : Nat} (hn : n ≤ 1024) : CallsH Try.prog 26 [.int .i64 n] h fun v h' => v = .pointer (some ⟨sz h + 1, 0, none⟩) ∧ RS h' (sz h + 1) (sz h) (List.replicate (n * 256) 0) ∧ Fr [] h h' ∧ sz h' = sz h + 2 := by
  apply warderref04_New.calls
  unfold warderref04_New.P
  have e : IntKind.wrap .i64 (256 * (n : Int)) = ((n * 256 : Nat) : Int) := by rw [wrapS (by omega) (by omega)]; omega
  rw [e]
  refine ⟨by omega, by omega, by omega, by omega, rfl, ?_⟩
  rintro h1 rfl h2 rfl
  rw [Int.toNat_natCast, zeros_iB, ← List.append_nil (encL iB (List.replicate (n * 256) 0))]
  have k1 := new_at h (blk 5 (encL iB (List.replicate (n * 256) 0) ++ []))
  have f1 : Fr [] h (new h (blk 5 (encL iB (List.replicate (n * 256) 0) ++ []))) := Fr.new _ _ _
  have z1 : sz (new h (blk 5 (encL iB (List.replicate (n * 256) 0) ++ []))) = sz h + 1 := sz_new _ _
  generalize new h (blk 5 (encL iB (List.replicate (n * 256) 0) ++ [])) = h1 at *
  have f2 : Fr [] h1 (new h1 (blk 103 [.slice (some ⟨sz h, 0, none⟩) (n * 256) (n * 256)])) := Fr.new _ _ _
  have k2 := new_at h1 (blk 103 [.slice (some ⟨sz h, 0, none⟩) (n * 256) (n * 256)])
  refine ⟨by rw [z1], ⟨?_, ⟨f2.at k1 (by simp)⟩, by omega, byt_rep _, by rw [List.length_replicate]; omega⟩, f1.trans f2, by rw [sz_new, z1]⟩
  rw [← z1, List.length_replicate]; exact k2
def hiN (L : List Nat) (p : Nat) : Nat → Nat
  | 0 => 0
  | m + 1 => hiN L p m * 256 + L.getD (p + (3 - m)) 0
theorem hiN_lt {L : List Nat} (h : Byt L) (p : Nat) : ∀ m, hiN L p m < 256 ^ m
  | 0 => by simp [hiN]
  | m + 1 => by
    have h1 := hiN_lt h p m
    have h2 := getD_lt h (p + (3 - m))
    have h4 : 256 ^ (m + 1) = 256 ^ m * 256 := Nat.pow_succ _ _
    simp only [hiN]; omega
theorem hiN_le (L : List Nat) (p : Nat) : hiN L p 4 = leN L p 4 := by
  simp only [hiN, leN]
  generalize L.getD (p + (3 - 0)) 0 = b3
  generalize L.getD (p + (3 - 1)) 0 = b2
  generalize L.getD (p + (3 - 2)) 0 = b1
  generalize L.getD (p + (3 - 3)) 0 = b0
  generalize hp0 : L.getD (p + 0) 0 = c0
  generalize hp1 : L.getD (p + 1) 0 = c1
  generalize hp2 : L.getD (p + 2) 0 = c2
  generalize hp3 : L.getD (p + 3) 0 = c3
  omega
theorem rGet_spec {h : Hp} {a : Option Addr} {c : Nat} {L : List Nat} (r : rowAtK h a (encL iB L)) (hb : Byt L) (hl : L.length ≤ 262144) {p : Nat} (hp : p < 4294967296) :
    CallsH Try.prog 43 [.slice a L.length c, .int .i64 p] h fun v h' => v = .tuple #[.int .u32 (if p + 4 ≤ L.length then ((leN L p 4 : Nat) : Int) else 0), .bool (decide (p + 4 ≤ L.length))] ∧ h' = h := by
  refine calls_k fun R hR => ?_
  apply warderref01_Get.calls
  unfold warderref01_Get.P
  have e1 : IntKind.wrap .i64 (((L.length : Nat) : Int) - 4) = ((L.length : Nat) : Int) - 4 := wrapS (by omega) (by omega)
  rw [e1]
  refine ⟨fun h1 => h1 = h ∧ p + 4 ≤ L.length, ⟨fun c => absurd c (by simp), fun _ => ⟨fun c => ?_, fun c => ⟨rfl, ?_⟩⟩⟩, ?_⟩
  · simp only [decide_eq_true_eq] at c
    have hn : ¬ p + 4 ≤ L.length := by omega
    simp only [hn, decide_false, if_false] at hR
    exact hR _ _ ⟨rfl, rfl⟩
  · simp only [decide_eq_false_iff_not] at c; omega
  rintro h1 ⟨rfl, hp4⟩
  simp only [hp4, decide_true, if_true] at hR
  refine ⟨fun out i h2 => ∃ m : Nat, m ≤ 4 ∧ i = 3 - (m : Int) ∧ out = (hiN L p m : Nat) ∧ h2 = h1, fun _ i _ => (i + 1).toNat, ⟨0, by omega, rfl, rfl, rfl⟩, ?_⟩
  rintro out i h2 ⟨m, hm, rfl, rfl, rfl⟩
  by_cases hm4 : m < 4
  · obtain ⟨y, hy⟩ : ∃ y, L[p + (3 - m)]? = some y := ⟨_, List.getElem?_eq_getElem (by omega)⟩
    have hy256 := hb y (List.mem_of_getElem? hy)
    obtain ⟨b, o, rfl, e⟩ := rowB_cell r hy
    have e2 : IntKind.wrap .i64 ((p : Int) + (3 - (m : Int))) = ((p + (3 - m) : Nat) : Int) := by rw [wrapS (by omega) (by omega)]; omega
    have e3 : IntKind.wrap .i64 (3 - (m : Int) - 1) = 3 - ((m + 1 : Nat) : Int) := by rw [wrapS (by omega) (by omega)]; omega
    have h1 := hiN_lt hb p m
    have h2' : 256 ^ m ≤ 256 ^ 3 := Nat.pow_le_pow_right (by decide) (by omega)
    have h3 : 256 ^ 3 = 16777216 := by decide
    have e4 : IntKind.wrap .u32 (IntKind.wrap .u32 (((hiN L p m : Nat) : Int) * 256) + IntKind.wrap .u32 (y : Int)) = ((hiN L p (m + 1) : Nat) : Int) := by
      rw [wrapn_u32 y (by omega), wrap_u32 (n := ((hiN L p m : Nat) : Int) * 256) (by omega) (by omega), wrap_u32 (by omega) (by omega)]
      simp only [hiN]
      rw [getD_at hy]; omega
    rw [e2, e3]
    refine ⟨fun _ => ⟨by omega, by omega, _, _, rfl, y, by rw [Int.toNat_natCast, Nat.mul_one]; exact e, ?_⟩, fun hf => absurd hf (by simp; omega)⟩
    rw [e4]
    refine ⟨⟨m + 1, by omega, rfl, rfl, rfl⟩, ?_⟩
    show (3 - ((m + 1 : Nat) : Int) + 1).toNat < (3 - (m : Int) + 1).toNat
    omega
  · have : m = 4 := by omega
    subst this
    refine ⟨fun hf => absurd hf (by simp), fun _ => ?_⟩
    rw [hiN_le]
    exact hR _ _ ⟨rfl, rfl⟩
theorem rWord_spec {h : Hp} {q rb n : Nat} {B : List Nat} (w : RS h q rb B) (hl : B.length = n * 256) {a : Nat} (ha : a < 4294967296) : CallsH Try.prog 22 [.pointer (some ⟨q, 0, none⟩), .int .u32 a] h fun v h' =>
    v = .tuple #[.int .u32 (if wordOk n a then ((leN B a 4 : Nat) : Int) else 0), .bool (wordOk n a)] ∧ h' = h := by
  refine calls_k fun R hR => ?_
  apply warderref04_Mem_Word.calls
  unfold warderref04_Mem_Word.P
  have e2 : Int.tmod (a : Int) 4 = ((a % 4 : Nat) : Int) := rfl
  rw [e2, wrapn_i64 a (by omega)]
  refine ⟨by decide, fun c => ?_, fun c => ⟨_, _, _, w.row, ?_⟩⟩
  · have c : ¬ a % 4 = 0 := by simp only [bne_iff_ne] at c; omega
    have e : wordOk n a = false := by simp [wordOk, c]
    rw [e] at hR
    exact hR _ _ ⟨rfl, rfl⟩
  · have c : a % 4 = 0 := by simp only [bne_eq_false_iff_eq] at c; omega
    refine (rGet_spec (w.arr.row) w.byt w.len ha).mono ?_
    have ew : wordOk n a = decide (a + 4 ≤ B.length) := by
      simp only [wordOk, c, decide_true, Bool.and_true]
      by_cases h : a < n * 256
      · rw [decide_eq_true h, decide_eq_true (by omega)]
      · rw [decide_eq_false h, decide_eq_false (by omega)]
    rw [ew] at hR
    rintro v h1 ⟨rfl, rfl⟩
    refine ⟨_, _, rfl, hR _ _ ⟨?_, rfl⟩⟩
    by_cases h : a + 4 ≤ B.length <;> simp [h]
theorem rPutWord_spec {h : Hp} {q rb n : Nat} {B : List Nat} (w : RS h q rb B) (hl : B.length = n * 256) {a : Nat} (ha : a < 4294967296) {x : Nat} (hx : x < 4294967296) : CallsH Try.prog 27 [.pointer (some ⟨q, 0, none⟩), .int .u32 a, .int .u32 x] h fun v h' =>
    v = .bool (wordOk n a) ∧ RS h' q rb (putW n B a x) ∧ Fr [rb] h h' := by
  refine calls_k fun R hR => ?_
  apply warderref04_Mem_PutWord.calls
  unfold warderref04_Mem_PutWord.P
  refine (rWord_spec w hl ha).mono ?_
  rintro v h1 ⟨rfl, rfl⟩
  refine ⟨_, _, rfl, fun c => ?_, fun c => ?_⟩
  · have c : wordOk n a = false := by simpa using c
    simp only [c, putW, Bool.false_eq_true, if_false] at hR
    exact hR _ _ ⟨rfl, w, Fr.refl _ _⟩
  have c : wordOk n a = true := by simpa using c
  simp only [c, putW, if_true] at hR
  simp only [wordOk, Bool.and_eq_true, decide_eq_true_eq] at c
  apply warderref01_Four.calls
  unfold warderref01_Four.P
  refine ⟨by decide, by decide, by decide, ?_⟩
  rintro h2 rfl
  have d1 : Int.tdiv (x : Int) 256 = ((x / 256 : Nat) : Int) := rfl
  have d2 : Int.tdiv (x : Int) 65536 = ((x / 65536 : Nat) : Int) := rfl
  have d3 : Int.tdiv (x : Int) 16777216 = ((x / 16777216 : Nat) : Int) := rfl
  have b0 : IntKind.wrap .u8 (x : Int) = ((wb x 0 : Nat) : Int) := by rw [modn_u8]; simp [wb]
  have b1 : IntKind.wrap .u8 (IntKind.wrap .u32 (Int.tdiv (x : Int) 256)) = ((wb x 1 : Nat) : Int) := by rw [d1, wrapn_u32 _ (by omega), modn_u8]; rfl
  have b2 : IntKind.wrap .u8 (IntKind.wrap .u32 (Int.tdiv (x : Int) 65536)) = ((wb x 2 : Nat) : Int) := by rw [d2, wrapn_u32 _ (by omega), modn_u8]; rfl
  have b3 : IntKind.wrap .u8 (IntKind.wrap .u32 (Int.tdiv (x : Int) 16777216)) = ((wb x 3 : Nat) : Int) := by rw [d3, wrapn_u32 _ (by omega), modn_u8]; rfl
  rw [b0, b1, b2, b3]
  have eL : [Value.int .u8 ((wb x 0 : Nat) : Int), .int .u8 ((wb x 1 : Nat) : Int), .int .u8 ((wb x 2 : Nat) : Int), .int .u8 ((wb x 3 : Nat) : Int)] = encL iB [wb x 0, wb x 1, wb x 2, wb x 3] ++ [] := rfl
  rw [eL]
  have f2 : Fr [] h1 (new h1 (blk 5 (encL iB [wb x 0, wb x 1, wb x 2, wb x 3] ++ []))) := Fr.new _ _ _
  have w4 : Arr iB 5 (new h1 (blk 5 (encL iB [wb x 0, wb x 1, wb x 2, wb x 3] ++ []))) (sz h1) [wb x 0, wb x 1, wb x 2, wb x 3] [] := ⟨new_at _ _⟩
  have w2 := w.fr f2 (by simp) (by simp)
  have lr := w.ltr
  generalize new h1 (blk 5 (encL iB [wb x 0, wb x 1, wb x 2, wb x 3] ++ [])) = h2 at *
  refine ⟨_, _, _, rfl, ?_⟩
  refine ⟨fun i h3 => ∃ k : Nat, i = k ∧ k ≤ 4 ∧ RS h3 q rb (putK B a x k) ∧ Fr [rb] h2 h3, fun i _ => 4 - i.toNat, ⟨0, rfl, by omega, w2, Fr.refl _ _⟩, ?_⟩
  rintro i h3 ⟨k, rfl, hk, w3, f3⟩
  have hlen := putK_len B a x k
  by_cases hk4 : k < 4
  · have hbk : [wb x 0, wb x 1, wb x 2, wb x 3][k]? = some (wb x k) := by
      rcases k with _ | _ | _ | _ | k
      · rfl
      · rfl
      · rfl
      · rfl
      · omega
    have e1 : IntKind.wrap .i64 ((IntKind.wrap .i64 (a : Int)) + (k : Int)) = ((a + k : Nat) : Int) := by rw [wrapn_i64 a (by omega), wrapP (by omega)]
    have hlt : a + k < (putK B a x k).length := by omega
    rw [e1, wrapN hk4 (by omega)]
    refine ⟨fun _ => ⟨_, _, _, w3.row, by omega, by omega, _, _, rfl, _, by rw [Int.toNat_natCast, Nat.zero_add, Nat.mul_one]; exact arrB_cell (w4.fr f3 (by simp; omega)) hbk, by omega, by omega, _, _, rfl, ?_⟩, fun hf => absurd hf (by simp; omega)⟩
    rw [Int.toNat_natCast, Nat.zero_add, Nat.mul_one]
    refine ⟨truly_rfl, _, _, w3.arr.hq, w3.room hlt, ?_⟩
    rintro h4 rfl
    exact ⟨⟨k + 1, rfl, by omega, w3.put hlt (wb_lt x k), f3.trans (Fr.upd (by simp) _ _ _)⟩, decM hk4⟩
  · have : k = 4 := by omega
    subst this
    exact ⟨fun hf => absurd hf (by simp), fun _ => hR _ _ ⟨rfl, w3, (f2.mono (by simp)).trans f3⟩⟩

end Go.Proofs.Ytopfdfcbhclolaa
