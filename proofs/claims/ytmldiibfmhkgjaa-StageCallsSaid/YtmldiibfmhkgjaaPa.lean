import Derived.Test.YtmldiibfmhkgjaaP2
import Derived.Test.YtmldiibfmhkgjaaWdBits
namespace Go.Proofs.Ytmldiibfmhkgjaa
open Go Go.Wd
set_option linter.unusedVariables false
set_option linter.unusedSimpArgs false
set_option linter.unnecessarySimpa false


/-! ## rows of bytes and numbers -/
def iB (x : Nat) : List Value := [.int .u8 (x : Int)]
theorem iB_len (x : Nat) : (iB x).length = 1 := rfl
def iN (x : Int) : List Value := [.int .i64 x]
theorem iN_len (x : Int) : (iN x).length = 1 := rfl
theorem zeros_iB (n : Nat) : zeros [.int .u8 0] n = encL iB (List.replicate n 0) := by
  induction n with
  | zero => rfl
  | succ n ih => rw [List.replicate_succ, encL_cons, ← ih]; simp [zeros, List.replicate_succ, iB]
theorem rep_iB (n : Nat) : List.replicate n (Value.int .u8 0) = encL iB (List.replicate n 0) := by
  induction n with
  | zero => rfl
  | succ n ih => rw [List.replicate_succ, List.replicate_succ, encL_cons, ← ih]; rfl
theorem zeros_fr (n : Nat) : zeros (List.replicate 256 (.int .u8 0)) n = encL iB (List.replicate (n * 256) 0) := by
  induction n with
  | zero => simp [zeros, encL]
  | succ n ih =>
    have e : zeros (List.replicate 256 (Value.int .u8 0)) (n + 1) = List.replicate 256 (.int .u8 0) ++ zeros (List.replicate 256 (.int .u8 0)) n := by rw [zeros, List.replicate_succ, List.flatten_cons]; rfl
    rw [e, ih, rep_iB, ← encL_append, List.replicate_append_replicate]
    congr 2; omega
theorem enc_map (L : List Nat) : encL iB L = (L.map Int.ofNat).map (Value.int .u8) := by
  induction L with
  | nil => rfl
  | cons x L ih => rw [encL_cons, ih]; rfl
theorem arrB_cell {h : Hp} {T q k : Nat} {L : List Nat} {x : Nat} {t : List Value} (w : Arr iB T h q L t) (hx : L[k]? = some x) : cellAt h q k = some (.int .u8 x) := by
  have := w.get iB_len hx 0 (by omega)
  rwa [Nat.mul_one, Nat.add_zero] at this
theorem rowB_cell {h : Hp} {a : Option Addr} {L : List Nat} (r : rowAtK h a (encL iB L)) {k : Nat} {x : Nat} (hx : L[k]? = some x) : ∃ b o, a = some ⟨b, o, none⟩ ∧ cellAt h b (o + k) = some (.int .u8 x) := by
  obtain ⟨b, o, rfl, e⟩ := encL_one iB_len r hx (by omega)
  exact ⟨b, o, rfl, by simpa [iB] using e 0 (by omega)⟩
theorem rowN_cell {h : Hp} {a : Option Addr} {L : List Int} (r : rowAtK h a (encL iN L)) {k : Nat} {x : Int} (hx : L[k]? = some x) : ∃ b o, a = some ⟨b, o, none⟩ ∧ cellAt h b (o + (k : Int).toNat * 1) = some (.int .i64 x) := by
  obtain ⟨b, o, rfl, e⟩ := encL_one iN_len r hx (by omega)
  exact ⟨b, o, rfl, by rw [Int.toNat_natCast]; exact e 0 (by omega)⟩
theorem arrB_len {h : Hp} {T q : Nat} {L : List Nat} {t : List Value} (w : Arr iB T h q L t) : (encL iB L ++ t).length = L.length + t.length := by rw [w.length iB_len, Nat.mul_one]
theorem arrB_put {h : Hp} {T q k : Nat} {L : List Nat} {t : List Value} (w : Arr iB T h q L t) (hk : k < L.length) (y : Nat) : Arr iB T (upd h q T (writeAt (encL iB L ++ t) k [.int .u8 y])) q (L.set k y) t := by
  have := w.put iB_len (k := k) (j := 0) (x := L[k]) (y := y) (vs := [.int .u8 y]) (List.getElem?_eq_getElem hk) (by simp) rfl
  rwa [Nat.mul_one, Nat.add_zero] at this
theorem arrB_row {h : Hp} {T q : Nat} {L : List Nat} {t : List Value} (w : Arr iB T h q L t) (o l : Nat) (hl : o + l ≤ L.length) : rowAtK h (some ⟨q, o, none⟩) (encL iB ((L.drop o).take l)) := by
  refine .inr ⟨q, o, rfl, fun j hj => ?_⟩
  rw [encL_length iB_len] at hj
  simp at hj
  obtain ⟨x, hx⟩ : ∃ x, L[o + j]? = some x := ⟨_, List.getElem?_eq_getElem (by omega)⟩
  have hx2 : ((L.drop o).take l)[j]? = some x := by rw [List.getElem?_take, if_pos (by omega), List.getElem?_drop]; exact hx
  have h2 := encL_get iB_len _ j 0 x hx2 (by omega)
  rw [Nat.mul_one, Nat.add_zero] at h2
  rw [arrB_cell w hx, h2]; rfl
theorem wrapS {n : Int} (h0 : -4611686018427387904 ≤ n) (h1 : n ≤ 4611686018427387904) : IntKind.wrap .i64 n = n := wrap_i64 (by omega) (by omega)
theorem wrapN {j n : Nat} (h : j < n) (hn : n ≤ 1000000) : IntKind.wrap .i64 ((j : Int) + 1) = ((j + 1 : Nat) : Int) := by rw [wrap_i64 (by omega) (by omega)]; omega
theorem wrapP {j n : Nat} (hn : j + n ≤ 100000000000) : IntKind.wrap .i64 ((j : Int) + (n : Int)) = ((j + n : Nat) : Int) := by rw [wrap_i64 (by omega) (by omega)]; omega
theorem decM {n k : Nat} (h : k < n) : n - ((k + 1 : Nat) : Int).toNat < n - (k : Int).toNat := by omega
theorem Fr.on {F : List Nat} {b : Nat} {a h : Hp} (f : Fr F a h) (hb : b ∈ F ∨ sz a ≤ b) (T : TypeId) (l : List Value) : Fr F a (upd h b T l) :=
  f.fresh (Fr.upd (F := [b]) (by simp) h T l) (by simpa using hb)
theorem take_one {α : Type} {L : List α} {k : Nat} {x : α} (hx : L[k]? = some x) : L.take (k + 1) = L.take k ++ [x] := by rw [List.take_add_one, hx]; rfl
def Byt (L : List Nat) : Prop := ∀ x ∈ L, x < 256
theorem Byt.set {L : List Nat} (h : Byt L) (k : Nat) {y : Nat} (hy : y < 256) : Byt (L.set k y) := fun x hx => by
  rcases List.mem_or_eq_of_mem_set hx with h' | rfl
  · exact h x h'
  · exact hy

/-! ## words -/
def leN (L : List Nat) (p : Nat) : Nat → Nat
  | 0 => 0
  | k + 1 => leN L p k + L.getD (p + k) 0 * 2 ^ (8 * k)
theorem getD_lt {L : List Nat} (h : Byt L) (k : Nat) : L.getD k 0 < 256 := by
  rw [List.getD_eq_getElem?_getD]
  cases hx : L[k]? with
  | none => simp
  | some x => simpa using h x (List.mem_of_getElem? hx)
theorem getD_at {L : List Nat} {k x : Nat} (h : L[k]? = some x) : L.getD k 0 = x := by rw [List.getD_eq_getElem?_getD, h]; rfl
theorem leN_lt {L : List Nat} (h : Byt L) (p : Nat) : ∀ k, leN L p k < 2 ^ (8 * k)
  | 0 => by simp [leN]
  | k + 1 => by
    have h1 := leN_lt h p k
    have h2 := getD_lt h (p + k)
    have h3 : L.getD (p + k) 0 * 2 ^ (8 * k) ≤ 255 * 2 ^ (8 * k) := Nat.mul_le_mul_right _ (by omega)
    have h4 : 2 ^ (8 * (k + 1)) = 256 * 2 ^ (8 * k) := by rw [show 8 * (k + 1) = 8 + 8 * k by omega, Nat.pow_add]
    simp only [leN]; omega
def wb (w k : Nat) : Nat := w / 2 ^ (8 * k) % 256
theorem wb_lt (w k : Nat) : wb w k < 256 := Nat.mod_lt _ (by decide)
def putK (B : List Nat) (p w : Nat) : Nat → List Nat
  | 0 => B
  | k + 1 => (putK B p w k).set (p + k) (wb w k)
theorem putK_len (B : List Nat) (p w : Nat) : ∀ k, (putK B p w k).length = B.length
  | 0 => rfl
  | k + 1 => by simp [putK, putK_len B p w k]
theorem putK_byt {B : List Nat} (h : Byt B) (p w : Nat) : ∀ k, Byt (putK B p w k)
  | 0 => h
  | k + 1 => (putK_byt h p w k).set _ (wb_lt w k)

theorem Get_spec {h : Hp} {a : Option Addr} {l c : Nat} {L : List Nat} (r : rowAtK h a (encL iB L)) (hl : L.length = l) (hb : Byt L) (hc : l ≤ c) (h256 : l ≤ 1000000) (p : Nat) (hp : p ≤ 1000000) (hp4 : p + 4 ≤ l) (hlc : l < c ∨ True) :
    CallsH Try.prog 108 [.slice a l c, .int .i64 p] h fun v h' => v = .tuple #[.int .u32 (leN L p 4 : Nat), .bool true] ∧ h' = h := by
  refine calls_k fun R hR => ?_
  apply word_Get.calls
  unfold word_Get.P
  have e1 : IntKind.wrap .i64 (((l : Nat) : Int) - 4) = ((l - 4 : Nat) : Int) := by rw [wrapS (by omega) (by omega)]; omega
  have e2 : IntKind.wrap .i64 ((p : Int) + 4) = ((p + 4 : Nat) : Int) := by rw [wrapS (by omega) (by omega)]; omega
  rw [e1, e2]
  refine ⟨fun h1 => h1 = h, ⟨fun c => absurd c (by simp), fun _ => ⟨fun c => absurd c (by simp; omega), fun _ => rfl⟩⟩, ?_⟩
  rintro h1 rfl
  refine ⟨fun _ => rfl, by omega, by omega, by omega, by omega, ?_⟩
  have e3 : (((p + 4 : Nat) : Int)).toNat - ((p : Int)).toNat = 4 := by omega
  rw [e3]
  refine ⟨fun w x h2 => ∃ k : Nat, x = k ∧ k ≤ 4 ∧ w = (leN L p k : Nat) ∧ h2 = h1, fun _ x _ => 4 - x.toNat, ⟨0, rfl, by omega, rfl, rfl⟩, ?_⟩
  rintro w x h2 ⟨k, rfl, hk, rfl, rfl⟩
  by_cases hk4 : k < 4
  · obtain ⟨y, hy⟩ : ∃ y, L[p + k]? = some y := ⟨_, List.getElem?_eq_getElem (by omega)⟩
    have hy256 := hb y (List.mem_of_getElem? hy)
    obtain ⟨b, o, rfl, e⟩ := rowB_cell r hy
    have e4 : IntKind.wrap .i64 (8 * (k : Int)) = ((8 * k : Nat) : Int) := by rw [wrapS (by omega) (by omega)]; omega
    have esb : ∃ b' o', sliceBase (some (⟨b, o, none⟩ : Addr)) ((p : Int)).toNat (((c : Nat) : Int)).toNat 1 = some ⟨b', o', none⟩ ∧ cellAt h2 b' (o' + (k : Int).toNat * 1) = some (.int .u8 (y : Int)) := by
      unfold sliceBase
      split
      · rename_i hpc
        omega
      · refine ⟨b, o + p, by simp [Addr.add_lit], ?_⟩
        rw [Int.toNat_natCast, show o + p + k * 1 = o + (p + k) by omega]; exact e
    obtain ⟨b', o', es, ec⟩ := esb
    have hlt := leN_lt hb p k
    have hval : borV .u32 ((leN L p k : Nat) : Int) (shlV .u32 (IntKind.wrap .u32 (y : Int)) (IntKind.wrap .i64 (8 * (k : Int)))) = ((leN L p (k + 1) : Nat) : Int) := by
      have hkp : 2 ^ (8 * k) ≤ 2 ^ 24 := Nat.pow_le_pow_right (by decide) (by omega)
      have hyk : y * 2 ^ (8 * k) ≤ 255 * 2 ^ (8 * k) := Nat.mul_le_mul_right _ (by omega)
      have hp24 : (2 : Nat) ^ 24 = 16777216 := by decide
      have hp32 : (2 : Nat) ^ 32 = 4294967296 := by decide
      rw [wrapn_u32 y (by omega), e4, shl32 (by omega), Nat.mod_eq_of_lt (by omega), bor32 (by omega) (by omega), Nat.or_comm, or_apart hlt]
      simp only [leN]
      rw [getD_at hy]
      congr 1; omega
    refine ⟨fun _ => ⟨by omega, by omega, b', o', es, _, ec, by omega, ?_⟩, fun hf => absurd hf (by simp; omega)⟩
    rw [hval, wrapN hk4 (by omega)]
    exact ⟨⟨k + 1, rfl, by omega, rfl, rfl⟩, decM hk4⟩
  · have : k = 4 := by omega
    subst this
    exact ⟨fun hf => absurd hf (by simp), fun _ => hR _ _ ⟨rfl, rfl⟩⟩

theorem Set_spec {h : Hp} {T fb o l c : Nat} {B : List Nat} {t : List Value} (w : Arr iB T h fb B t) (hol : o + l ≤ B.length) (hl : l ≤ 1000000) (p : Nat) (hp4 : p + 4 ≤ l) (x : Nat) (hx : x < 2 ^ 32) :
    CallsH Try.prog 111 [.slice (some ⟨fb, o, none⟩) l c, .int .i64 p, .int .u32 x] h fun v h' => v = .bool true ∧ Arr iB T h' fb (putK B (o + p) x 4) t ∧ Fr [fb] h h' := by
  refine calls_k fun R hR => ?_
  apply word_Set.calls
  unfold word_Set.P
  have e1 : IntKind.wrap .i64 (((l : Nat) : Int) - 4) = ((l - 4 : Nat) : Int) := by rw [wrapS (by omega) (by omega)]; omega
  rw [e1]
  refine ⟨fun h1 => h1 = h, ⟨fun c => absurd c (by simp), fun _ => ⟨fun c => absurd c (by simp; omega), fun _ => rfl⟩⟩, ?_⟩
  rintro h1 rfl
  refine ⟨fun i h2 => ∃ k : Nat, i = k ∧ k ≤ 4 ∧ Arr iB T h2 fb (putK B (o + p) x k) t ∧ Fr [fb] h1 h2, fun i _ => 4 - i.toNat, ⟨0, rfl, by omega, w, Fr.refl _ _⟩, ?_⟩
  rintro i h2 ⟨k, rfl, hk, w2, f2⟩
  by_cases hk4 : k < 4
  · have e4 : IntKind.wrap .i64 (8 * (k : Int)) = ((8 * k : Nat) : Int) := by rw [wrapS (by omega) (by omega)]; omega
    have e5 : IntKind.wrap .i64 ((p : Int) + (k : Int)) = ((p + k : Nat) : Int) := wrapP (by omega)
    have e6 : IntKind.wrap .u8 (shrV .u32 (x : Int) (((8 * k : Nat) : Int))) = ((wb x k : Nat) : Int) := by
      rw [shr32 (by omega), modn_u8]; rfl
    have hlt : o + p + k < (putK B (o + p) x k).length := by rw [putK_len]; omega
    rw [e4, e5, e6, wrapN hk4 (by omega)]
    refine ⟨fun _ => ⟨by omega, by omega, by omega, _, _, rfl, truly_rfl, _, _, w2.hq, by rw [arrB_len w2]; omega, ?_⟩, fun hf => absurd hf (by simp; omega)⟩
    rintro h3 rfl
    have w3 := arrB_put w2 hlt (wb x k)
    have eo : o + ((p + k : Nat) : Int).toNat * 1 = o + p + k := by omega
    rw [eo]
    exact ⟨⟨k + 1, rfl, by omega, w3, f2.trans (Fr.upd (by simp) _ _ _)⟩, decM hk4⟩
  · have : k = 4 := by omega
    subst this
    exact ⟨fun hf => absurd hf (by simp), fun _ => hR _ _ ⟨rfl, w2, f2⟩⟩


/-! ## rows of bytes, written as a whole -/
theorem encB_take (o : Nat) (Z : List Nat) (h : o ≤ Z.length) : (encL iB Z).take o = encL iB (Z.take o) := by
  have e : encL iB Z = encL iB (Z.take o) ++ encL iB (Z.drop o) := by rw [← encL_append, List.take_append_drop]
  have hl : (encL iB (Z.take o)).length = o := by rw [encL_length iB_len]; simp; omega
  rw [e, List.take_append_of_le_length (by omega), List.take_of_length_le (by omega)]
theorem encB_drop (o : Nat) (Z : List Nat) (h : o ≤ Z.length) : (encL iB Z).drop o = encL iB (Z.drop o) := by
  have e : encL iB Z = encL iB (Z.take o) ++ encL iB (Z.drop o) := by rw [← encL_append, List.take_append_drop]
  have hl : (encL iB (Z.take o)).length = o := by rw [encL_length iB_len]; simp; omega
  rw [e, List.drop_append_of_le_length (by omega), List.drop_of_length_le (by omega), List.nil_append]
def putR (Z : List Nat) (o : Nat) (b : List Nat) : List Nat := Z.take o ++ b ++ Z.drop (o + b.length)
theorem putR_len {Z : List Nat} {o : Nat} {b : List Nat} (h : o + b.length ≤ Z.length) : (putR Z o b).length = Z.length := by
  unfold putR; simp; omega
theorem putR_byt {Z b : List Nat} (h1 : Byt Z) (h2 : Byt b) (o : Nat) : Byt (putR Z o b) := by
  intro x hx
  unfold putR at hx
  rcases List.mem_append.1 hx with hx | hx
  · rcases List.mem_append.1 hx with hx | hx
    · exact h1 x (List.mem_of_mem_take hx)
    · exact h2 x hx
  · exact h1 x (List.mem_of_mem_drop hx)
theorem putR_at {Z b : List Nat} {o : Nat} (h : o + b.length ≤ Z.length) (j : Nat) : (putR Z o b)[j]? = if o ≤ j ∧ j < o + b.length then b[j - o]? else Z[j]? := by
  have hl : (Z.take o).length = o := by simp; omega
  unfold putR
  rcases Nat.lt_or_ge j o with h1 | h1
  · rw [List.append_assoc, List.getElem?_append_left (by omega), List.getElem?_take, if_pos h1, if_neg (by omega)]
  · rw [List.append_assoc, List.getElem?_append_right (by omega), hl]
    rcases Nat.lt_or_ge j (o + b.length) with h2 | h2
    · rw [List.getElem?_append_left (by omega), if_pos ⟨h1, h2⟩]
    · rw [List.getElem?_append_right (by omega), List.getElem?_drop, if_neg (by omega)]
      congr 1; omega
theorem encB_write {Z b : List Nat} {o : Nat} (t : List Value) (h : o + b.length ≤ Z.length) : writeAt (encL iB Z ++ t) o (encL iB b) = encL iB (putR Z o b) ++ t := by
  have hb : (encL iB b).length = b.length := by rw [encL_length iB_len, Nat.mul_one]
  have hz : (encL iB Z).length = Z.length := by rw [encL_length iB_len, Nat.mul_one]
  rw [writeAt_append_left _ _ _ _ (by omega), writeAt_eq _ _ _ (by omega), hb, encB_take _ _ (by omega), encB_drop _ _ h, ← encL_append, ← encL_append]
  rfl
theorem oneCells_B (L : List Nat) : oneCells (encL iB L) = true := by
  unfold oneCells
  rw [List.all_eq_true]
  intro v hv
  simp only [encL, List.mem_flatMap] at hv
  obtain ⟨x, _, hx⟩ := hv
  simp [iB] at hx
  subst hx; rfl
theorem readAt_B {h : Hp} {T q : Nat} {L : List Nat} {t : List Value} (w : Arr iB T h q L t) (o l : Nat) (hl : o + l ≤ L.length) : readAt h q o (encL iB ((L.drop o).take l)) := by
  intro j hj
  rw [encL_length iB_len] at hj
  simp at hj
  obtain ⟨x, hx⟩ : ∃ x, L[o + j]? = some x := ⟨_, List.getElem?_eq_getElem (by omega)⟩
  have hx2 : ((L.drop o).take l)[j]? = some x := by rw [List.getElem?_take, if_pos (by omega), List.getElem?_drop]; exact hx
  have h2 := encL_get iB_len _ j 0 x hx2 (by omega)
  rw [Nat.mul_one, Nat.add_zero] at h2
  rw [arrB_cell w hx, h2]; rfl
theorem encB_inj : ∀ {A B : List Nat}, encL iB A = encL iB B → A = B
  | [], [], _ => rfl
  | [], y :: B, h => by simp [encL, iB] at h
  | x :: A, [], h => by simp [encL, iB] at h
  | x :: A, y :: B, h => by
    rw [encL_cons, encL_cons] at h
    simp only [iB, List.singleton_append, List.cons.injEq, Value.int.injEq, true_and] at h
    rw [encB_inj h.2]
    have := h.1
    congr 1; omega

/-! ## the memory -/
structure MS (h : Hp) (q fb n : Nat) (B : List Nat) : Prop where
  hq : ∃ c, n ≤ c ∧ bk h q = some (blk 115 [.slice (some ⟨fb, 0, none⟩) n c])
  arr : ∃ t, Arr iB 113 h fb B t
  len : B.length = n * 256
  byt : Byt B
  lo : 1 ≤ n
  hi : n ≤ 1024
  ne : fb ≠ q
section
variable {h h' : Hp} {q fb n : Nat} {B : List Nat}
theorem MS.fr (w : MS h q fb n B) {F : List Nat} (k : Fr F h h') (h1 : q ∉ F) (h2 : fb ∉ F) : MS h' q fb n B := by
  obtain ⟨c, hc, hq⟩ := w.hq
  obtain ⟨t, ht⟩ := w.arr
  exact ⟨⟨c, hc, k.at hq h1⟩, ⟨t, ht.fr k h2⟩, w.len, w.byt, w.lo, w.hi, w.ne⟩
theorem MS.lt (w : MS h q fb n B) : q < sz h := by obtain ⟨c, hc, hq⟩ := w.hq; exact lt_of_bk hq
theorem MS.ltf (w : MS h q fb n B) : fb < sz h := by obtain ⟨t, ht⟩ := w.arr; exact ht.lt
theorem MS.row (w : MS h q fb n B) : ∃ c, n ≤ c ∧ cellAt h q 0 = some (.slice (some ⟨fb, 0, none⟩) n c) := by
  obtain ⟨c, hc, hq⟩ := w.hq
  exact ⟨c, hc, (cellAt_of hq 0).trans rfl⟩
theorem MS.cell (w : MS h q fb n B) {k : Nat} {x : Nat} (hx : B[k]? = some x) : cellAt h fb k = some (.int .u8 x) := by obtain ⟨t, ht⟩ := w.arr; exact arrB_cell ht hx
/-- The frames' block is written. -/
theorem MS.to (w : MS h q fb n B) (k : Fr [fb] h h') {B' : List Nat} {t : List Value} (ha : Arr iB 113 h' fb B' t) (hl : B'.length = B.length) (hb : Byt B') : MS h' q fb n B' := by
  obtain ⟨c, hc, hq⟩ := w.hq
  exact ⟨⟨c, hc, k.at hq (by simpa using fun e => w.ne e.symm)⟩, ⟨t, ha⟩, hl.trans w.len, hb, w.lo, w.hi, w.ne⟩
end
def isIn (n : Nat) (i : Int) : Bool := decide (0 ≤ i) && decide (i < n)
theorem isIn_nat {n : Nat} {i : Int} (h : isIn n i = true) : ∃ k : Nat, i = k ∧ k < n := by
  simp only [isIn, Bool.and_eq_true, decide_eq_true_eq] at h
  exact ⟨i.toNat, by omega, by omega⟩
theorem in_nat {n k : Nat} (h : k < n) : isIn n k = true := by simp [isIn]; omega
theorem there_spec {h : Hp} {q fb n : Nat} {B : List Nat} (w : MS h q fb n B) (i : Int) : CallsH Try.prog 83 [.pointer (some ⟨q, 0, none⟩), .int .i64 i] h fun v h' => v = .bool (isIn n i) ∧ h' = h := by
  apply phys_Mem_there.calls
  unfold phys_Mem_there.P
  obtain ⟨c, _, hr⟩ := w.row
  refine ⟨fun c => ⟨_, _, _, hr, ?_, rfl⟩, fun c => ⟨?_, rfl⟩⟩
  · simp at c; simp [isIn, c]
  · simp at c; simp [isIn]; omega
theorem Frames_spec {h : Hp} {q fb n : Nat} {B : List Nat} (w : MS h q fb n B) : CallsH Try.prog 59 [.pointer (some ⟨q, 0, none⟩)] h fun v h' => v = .int .i64 n ∧ h' = h := by
  apply phys_Mem_Frames.calls
  unfold phys_Mem_Frames.P
  obtain ⟨c, _, hr⟩ := w.row
  exact ⟨_, _, _, hr, rfl, rfl⟩
theorem new_bad {h : Hp} {n : Int} (hn : n < 1 ∨ 1024 < n) : CallsH Try.prog 42 [.int .i64 n] h fun v h' => v = .tuple #[.pointer none, .int .i64 11] ∧ h' = h := by
  apply phys_New.calls
  unfold phys_New.P
  refine ⟨fun _ => ⟨rfl, rfl⟩, fun c1 => ⟨fun _ => ⟨rfl, rfl⟩, fun c2 => ?_⟩⟩
  simp only [decide_eq_false_iff_not] at c1 c2; omega
theorem byt_rep (n : Nat) : Byt (List.replicate n 0) := fun x hx => by rw [List.mem_replicate] at hx; omega
theorem new_spec {h : Hp} {n : Nat} (h1n : 1 ≤ n) (hn : n ≤ 1024) : CallsH Try.prog 42 [.int .i64 n] h fun v h' => v = .tuple #[.pointer (some ⟨sz h + 1, 0, none⟩), .int .i64 0] ∧ MS h' (sz h + 1) (sz h) n (List.replicate (n * 256) 0) ∧ Fr [] h h' ∧ sz h' = sz h + 2 := by
  apply phys_New.calls
  unfold phys_New.P
  refine ⟨fun c => ?_, fun c1 => ⟨fun c => ?_, fun c2 => ?_⟩⟩
  · simp only [decide_eq_true_eq] at c; omega
  · simp only [decide_eq_true_eq] at c; omega
  refine ⟨by omega, by omega, by omega, by omega, rfl, ?_⟩
  rintro h1 rfl h2 rfl
  rw [Int.toNat_natCast, zeros_fr, ← List.append_nil (encL iB (List.replicate (n * 256) 0))]
  have k1 := new_at h (blk 113 (encL iB (List.replicate (n * 256) 0) ++ []))
  have f1 : Fr [] h (new h (blk 113 (encL iB (List.replicate (n * 256) 0) ++ []))) := Fr.new _ _ _
  have z1 : sz (new h (blk 113 (encL iB (List.replicate (n * 256) 0) ++ []))) = sz h + 1 := sz_new _ _
  generalize new h (blk 113 (encL iB (List.replicate (n * 256) 0) ++ [])) = h1 at *
  have f2 : Fr [] h1 (new h1 (blk 115 [.slice (some ⟨sz h, 0, none⟩) n n])) := Fr.new _ _ _
  have k2 := new_at h1 (blk 115 [.slice (some ⟨sz h, 0, none⟩) n n])
  refine ⟨by rw [z1], ⟨⟨n, Nat.le_refl _, ?_⟩, ⟨[], ⟨f2.at k1 (by simp)⟩⟩, by simp, byt_rep _, h1n, hn, by omega⟩, f1.trans f2, by rw [sz_new, z1]⟩
  rw [← z1]; exact k2

theorem at_spec {h : Hp} {q fb n : Nat} {B : List Nat} (w : MS h q fb n B) {a : Nat} (ha : a < 4294967296) : CallsH Try.prog 107 [.pointer (some ⟨q, 0, none⟩), .int .u32 a] h fun v h' =>
    v = .tuple #[.pointer (if a < n * 256 then some ⟨fb, a / 256 * 256, none⟩ else none), .int .i64 (if a < n * 256 then ((a % 256 : Nat) : Int) else 0), .bool (decide (a < n * 256))] ∧ h' = h := by
  apply phys_Mem_at.calls
  unfold phys_Mem_at.P
  obtain ⟨c, _, hr⟩ := w.row
  have e1 : Int.tdiv (a : Int) 256 = ((a / 256 : Nat) : Int) := rfl
  have e2 : Int.tmod (a : Int) 256 = ((a % 256 : Nat) : Int) := rfl
  rw [e1, e2, wrapn_u32 _ (by omega), wrapn_i64 _ (by omega), wrapn_i64 _ (by omega)]
  refine ⟨by decide, _, _, _, hr, fun c1 => ⟨?_, rfl⟩, fun c1 => ⟨_, _, _, hr, by omega, ?_, _, _, rfl, by decide, ?_, rfl⟩⟩
  · simp only [decide_eq_true_eq] at c1
    have hn : ¬ a < n * 256 := by omega
    simp [hn]
  · simp only [decide_eq_false_iff_not] at c1; omega
  · simp only [decide_eq_false_iff_not] at c1
    have hn : a < n * 256 := by omega
    simp [hn]

theorem seg_get (B : List Nat) {o l j : Nat} (hj : j < l) : ((B.drop o).take l).getD j 0 = B.getD (o + j) 0 := by
  rw [List.getD_eq_getElem?_getD, List.getD_eq_getElem?_getD, List.getElem?_take, if_pos hj, List.getElem?_drop]
theorem leN_seg (B : List Nat) (o l p : Nat) : ∀ k, p + k ≤ l → leN ((B.drop o).take l) p k = leN B (o + p) k
  | 0, _ => rfl
  | k + 1, h => by
    simp only [leN]
    rw [leN_seg B o l p k (by omega), seg_get B (by omega), show o + (p + k) = o + p + k by omega]
def wordOk (n a : Nat) : Bool := decide (a < n * 256) && decide (a % 4 = 0)
theorem arr0 (b o : Nat) : arrBase b o ((0 : Int)).toNat (((256 : Nat) : Int)).toNat 1 = some ⟨b, o, none⟩ := rfl
theorem Word_spec {h : Hp} {q fb n : Nat} {B : List Nat} (w : MS h q fb n B) {a : Nat} (ha : a < 4294967296) : CallsH Try.prog 85 [.pointer (some ⟨q, 0, none⟩), .int .u32 a] h fun v h' =>
    v = .tuple #[.int .u32 (if wordOk n a then ((leN B a 4 : Nat) : Int) else 0), .bool (wordOk n a)] ∧ h' = h := by
  refine calls_k fun R hR => ?_
  apply phys_Mem_Word.calls
  unfold phys_Mem_Word.P
  refine (at_spec w ha).mono ?_
  rintro v h1 ⟨rfl, rfl⟩
  have no : wordOk n a = false → R (.tuple #[.int .u32 0, .bool false]) h1 := by
    intro e
    rw [e] at hR
    exact hR _ _ ⟨rfl, rfl⟩
  refine ⟨_, _, _, rfl, fun h2 => h2 = h1 ∧ a < n * 256 ∧ a % 4 = 0, ⟨fun c => no ?_, fun c => ⟨by decide, fun c1 => no ?_, fun c1 => ⟨rfl, ?_⟩⟩⟩, ?_⟩
  · have c : ¬ a < n * 256 := by simpa using c
    simp [wordOk, c]
  · have c : a < n * 256 := by simpa using c
    rw [if_pos c] at c1
    have e2 : Int.tmod ((a % 256 : Nat) : Int) 4 = ((a % 256 % 4 : Nat) : Int) := rfl
    rw [e2] at c1
    simp only [bne_iff_ne] at c1
    have : ¬ a % 4 = 0 := by omega
    simp [wordOk, this]
  · have c : a < n * 256 := by simpa using c
    rw [if_pos c] at c1
    have e2 : Int.tmod ((a % 256 : Nat) : Int) 4 = ((a % 256 % 4 : Nat) : Int) := rfl
    rw [e2] at c1
    simp only [bne_eq_false_iff_eq] at c1
    exact ⟨c, by omega⟩
  rintro h2 ⟨rfl, c1, c2⟩
  have hok : wordOk n a = true := by simp [wordOk, c1, c2]
  rw [hok] at hR
  rw [if_pos c1, if_pos c1]
  obtain ⟨t, ht⟩ := w.arr
  have hl := w.len
  have ho : a / 256 * 256 + 256 ≤ B.length := by omega
  refine ⟨_, _, rfl, fun h => h, by omega, by omega, by omega, by omega, ?_⟩
  rw [arr0]
  have hrow := arrB_row ht (a / 256 * 256) 256 ho
  have hlen : ((B.drop (a / 256 * 256)).take 256).length = 256 := by simp; omega
  refine (Get_spec (l := 256) (c := 256) hrow hlen (fun x hx => w.byt x (List.mem_of_mem_drop (List.mem_of_mem_take hx))) (by omega) (by omega) (a % 256) (by omega) (by omega) (.inr trivial)).mono ?_
  rw [leN_seg _ _ _ _ 4 (by omega), show a / 256 * 256 + a % 256 = a by omega]
  rintro v h3 ⟨rfl, rfl⟩
  exact ⟨_, _, rfl, hR _ _ ⟨rfl, rfl⟩⟩

def putW (n : Nat) (B : List Nat) (a x : Nat) : List Nat := if wordOk n a then putK B a x 4 else B
theorem putW_len (n : Nat) (B : List Nat) (a x : Nat) : (putW n B a x).length = B.length := by unfold putW; split; exact putK_len _ _ _ _; rfl
theorem putW_byt {n : Nat} {B : List Nat} (h : Byt B) (a x : Nat) : Byt (putW n B a x) := by unfold putW; split; exact putK_byt h _ _ _; exact h
theorem PutWord_spec {h : Hp} {q fb n : Nat} {B : List Nat} (w : MS h q fb n B) {a : Nat} (ha : a < 4294967296) {x : Nat} (hx : x < 4294967296) : CallsH Try.prog 87 [.pointer (some ⟨q, 0, none⟩), .int .u32 a, .int .u32 x] h fun v h' =>
    v = .bool (wordOk n a) ∧ MS h' q fb n (putW n B a x) ∧ Fr [fb] h h' := by
  refine calls_k fun R hR => ?_
  apply phys_Mem_PutWord.calls
  unfold phys_Mem_PutWord.P
  refine (at_spec w ha).mono ?_
  rintro v h1 ⟨rfl, rfl⟩
  have no : wordOk n a = false → R (.bool false) h1 := by
    intro e
    simp only [e, putW, Bool.false_eq_true, if_false] at hR
    exact hR _ _ ⟨rfl, w, Fr.refl _ _⟩
  have e2 : Int.tmod ((a % 256 : Nat) : Int) 4 = ((a % 256 % 4 : Nat) : Int) := rfl
  refine ⟨_, _, _, rfl, fun c => ⟨by decide, fun c1 => ?_, fun c1 => no ?_⟩, fun c => no ?_⟩
  · have c : a < n * 256 := by simpa using c
    rw [if_pos c, e2] at c1
    simp only [beq_iff_eq] at c1
    have c2 : a % 4 = 0 := by omega
    have hok : wordOk n a = true := by simp [wordOk, c, c2]
    simp only [hok, putW, if_true] at hR
    rw [if_pos c, if_pos c]
    obtain ⟨t, ht⟩ := w.arr
    have hl := w.len
    refine ⟨_, _, rfl, fun h => h, by omega, by omega, by omega, by omega, ?_⟩
    rw [arr0]
    refine (Set_spec (l := 256) (c := 256) ht (o := a / 256 * 256) (by omega) (by omega) (a % 256) (by omega) x hx).mono ?_
    rw [show a / 256 * 256 + a % 256 = a by omega]
    rintro v h2 ⟨rfl, w2, f2⟩
    exact ⟨_, rfl, hR _ _ ⟨rfl, w.to f2 w2 (putK_len _ _ _ _) (putK_byt w.byt _ _ _), f2⟩⟩
  · have c : a < n * 256 := by simpa using c
    rw [if_pos c, e2] at c1
    simp only [beq_eq_false_iff_ne] at c1
    have : ¬ a % 4 = 0 := by omega
    simp [wordOk, this]
  · have c : ¬ a < n * 256 := by simpa using c
    simp [wordOk, c]


/-- A slice of bytes of its own: what a call hands back. -/
theorem clone_row {h : Hp} {a : Option Addr} {T c : Nat} {L : List Nat} (r : rowAtK h a (encL iB L)) (hl : L.length ≤ 1000000) {K : Option Addr → Nat → Nat → Hp → Prop}
    (hK : ∀ a' c' h2, Own h2 5 1 a' L.length c' (encL iB L) → (∀ y ∈ foot a', sz h ≤ y ∧ y < sz h2) → Fr [] h h2 → K a' L.length c' h2) :
    ∀ h1 : Hp, h1 = new h (blk 5 []) → appendN h1 5 1 1 [.int .u8 0] (some ⟨sz h, 0, none⟩) 0 0 a L.length K := by
  rintro h1 rfl
  have f1 : Fr [] h (new h (blk 5 [])) := Fr.new _ _ _
  have o1 : Own (new h (blk 5 [])) 5 1 (some ⟨sz h, 0, none⟩) 0 0 [] := ⟨rfl, .inr ⟨_, [], rfl, new_at _ _, rfl, by omega⟩⟩
  have hn : (encL iB L).length = L.length * 1 := encL_length iB_len L
  have := append_own (K := K) (m := L.length) o1 (z := [.int .u8 0]) rfl hn (oneCells_B L) (r.fr f1 (by simp)) (bytes := 1) (by omega) (by omega)
  refine this ?_
  intro a' c' h2 o2 f2 ha
  rw [Nat.zero_add] at o2 ⊢
  have fx : Fr [] h h2 := f1.later f2 (by simp [foot])
  refine hK a' c' h2 (by simpa using o2) (fun y hy => ⟨?_, o2.foot_lt y hy⟩) fx
  rcases ha with rfl | ⟨rfl, _⟩
  · simp [foot] at hy; omega
  · simp [foot, sz_new] at hy; omega
def frameOf (B : List Nat) (i : Nat) : List Nat := (B.drop (i * 256)).take 256
theorem frameOf_len {B : List Nat} {n i : Nat} (hl : B.length = n * 256) (hi : i < n) : (frameOf B i).length = 256 := by unfold frameOf; simp; omega
theorem frameOf_at {B : List Nat} {i j : Nat} (hj : j < 256) : (frameOf B i)[j]? = B[i * 256 + j]? := by unfold frameOf; rw [List.getElem?_take, if_pos hj, List.getElem?_drop]
def fillE (n : Nat) (i : Int) (l : Nat) : Int := if isIn n i then (if 256 < l then 14 else 0) else 11
def full (b : List Nat) : List Nat := b ++ List.replicate (256 - b.length) 0
theorem full_len {b : List Nat} (h : b.length ≤ 256) : (full b).length = 256 := by simp [full]; omega
theorem full_byt {b : List Nat} (h : Byt b) : Byt (full b) := fun x hx => by
  rcases List.mem_append.1 hx with hx | hx
  · exact h x hx
  · exact byt_rep _ x hx
def fillL (n : Nat) (B : List Nat) (i : Int) (b : List Nat) : List Nat := if fillE n i b.length = 0 then putR B (i.toNat * 256) (full b) else B
theorem fill_ok {n : Nat} {i : Int} {l : Nat} (h : fillE n i l = 0) : ∃ k : Nat, i = k ∧ k < n ∧ l ≤ 256 := by
  unfold fillE at h
  split at h
  · rename_i hi
    obtain ⟨k, rfl, hk⟩ := isIn_nat hi
    split at h
    · simp at h
    · exact ⟨k, rfl, hk, by omega⟩
  · simp at h
theorem fillL_len {n : Nat} {B : List Nat} (hl : B.length = n * 256) (i : Int) (b : List Nat) : (fillL n B i b).length = B.length := by
  unfold fillL
  split
  · rename_i he
    obtain ⟨k, rfl, hk, hb⟩ := fill_ok he
    rw [Int.toNat_natCast]
    exact putR_len (by rw [full_len hb]; omega)
  · rfl
theorem fillL_byt {n : Nat} {B b : List Nat} (h1 : Byt B) (h2 : Byt b) (i : Int) : Byt (fillL n B i b) := by
  unfold fillL; split
  · exact putR_byt h1 (full_byt h2) _
  · exact h1
theorem Clone_spec {h : Hp} {q fb n : Nat} {B : List Nat} (w : MS h q fb n B) : CallsH Try.prog 27 [.pointer (some ⟨q, 0, none⟩)] h fun v h' =>
    ∃ q' fb', v = .pointer (some ⟨q', 0, none⟩) ∧ MS h' q' fb' n B ∧ sz h ≤ q' ∧ sz h ≤ fb' ∧ Fr [] h h' := by
  refine calls_k fun R hR => ?_
  apply phys_Mem_Clone.calls
  unfold phys_Mem_Clone.P
  obtain ⟨c, hc, hr⟩ := w.row
  obtain ⟨t, ht⟩ := w.arr
  have hl := w.len
  have hn1 := w.lo
  have hn2 := w.hi
  refine ⟨_, _, _, hr, ?_⟩
  apply slices_Clone.calls
  unfold slices_Clone.P
  refine ⟨fun c => absurd c (by simp [notIf]), fun _ => ?_⟩
  rintro h1 rfl
  have f1 : Fr [] h (new h (blk 113 [])) := Fr.new _ _ _
  have o1 : Own (new h (blk 113 [])) 113 256 (some ⟨sz h, 0, none⟩) 0 0 [] := ⟨rfl, .inr ⟨_, [], rfl, new_at _ _, rfl, by omega⟩⟩
  have hbl : (encL iB B).length = n * 256 := by rw [encL_length iB_len, hl, Nat.mul_one]
  refine append_own (m := n) o1 (z := List.replicate 256 (.int .u8 0)) List.length_replicate hbl (oneCells_B B) (ht.row.fr f1 (by simp)) (by omega) (by omega) ?_
  intro a' c' h2 o2 f2 ha
  rw [Nat.zero_add, List.nil_append] at o2
  rw [Nat.zero_add]
  have fx : Fr [] h h2 := f1.later f2 (by simp [foot])
  have hlt2 := o2.foot_lt
  rcases o2.2 with ⟨_, h0, _⟩ | ⟨b, rest, rfl, hb, hlen, hle⟩
  · omega
  have hbge : sz h ≤ b := by
    rcases ha with e | ⟨e, _⟩
    · cases e; exact Nat.le_refl _
    · cases e; rw [sz_new]; omega
  refine ⟨_, _, _, rfl, ?_⟩
  rintro h3 rfl
  have f3 : Fr [] h2 (new h2 (blk 115 [.slice (some ⟨b, 0, none⟩) n c'])) := Fr.new _ _ _
  have k3 := new_at h2 (blk 115 [.slice (some ⟨b, 0, none⟩) n c'])
  have hb2 := lt_of_bk hb
  exact hR _ _ ⟨sz h2, b, rfl, ⟨⟨c', hle, k3⟩, ⟨rest, ⟨f3.at hb (by simp)⟩⟩, hl, w.byt, hn1, hn2, by omega⟩, fx.size, hbge, fx.trans f3⟩

/-! ## which frames differ -/
def diffP (B D : List Nat) (i : Nat) : Bool := !decide (frameOf B i = frameOf D i)
def diffs (n : Nat) (B D : List Nat) : List Int := ((List.range n).filter (diffP B D)).map Int.ofNat
theorem diffs_next (k : Nat) (B D : List Nat) : diffs (k + 1) B D = diffs k B D ++ (if diffP B D k then [(k : Int)] else []) := by
  unfold diffs
  rw [List.range_succ, List.filter_append, List.map_append]
  congr 1
  cases h : diffP B D k <;> simp [h]
theorem diffs_len (n : Nat) (B D : List Nat) : (diffs n B D).length ≤ n := by
  unfold diffs
  rw [List.length_map]
  exact Nat.le_trans (List.length_filter_le _ _) (by simp)
theorem diffs_same (n : Nat) (B : List Nat) : diffs n B B = [] := by simp [diffs, diffP]
theorem Differ_spec {h : Hp} {q fb q2 fb2 n : Nat} {B D : List Nat} (w : MS h q fb n B) (w2 : MS h q2 fb2 n D) :
    CallsH Try.prog 31 [.pointer (some ⟨q, 0, none⟩), .pointer (some ⟨q2, 0, none⟩)] h fun v h' => ∃ a c, v = .slice a (diffs n B D).length c ∧ rowAtK h' a (encL iN (diffs n B D)) ∧ (∀ y ∈ foot a, sz h ≤ y ∧ y < sz h') ∧ Fr [] h h' := by
  refine calls_k fun R hR => ?_
  apply phys_Mem_Differ.calls
  unfold phys_Mem_Differ.P
  obtain ⟨c1, _, hr1⟩ := w.row
  obtain ⟨c2, _, hr2⟩ := w2.row
  have hn := w.hi
  have hmax : maxI ((n : Nat) : Int) ((n : Nat) : Int) = n := by unfold maxI; split <;> rfl
  refine ⟨_, _, _, hr1, _, _, _, hr2, ?_⟩
  rw [hmax]
  refine ⟨fun oa ol oc i h1 => ∃ k : Nat, i = k ∧ k ≤ n ∧ ol = (diffs k B D).length ∧ Own h1 3 1 oa ol oc (encL iN (diffs k B D)) ∧ (∀ y ∈ foot oa, sz h ≤ y) ∧ MS h1 q fb n B ∧ MS h1 q2 fb2 n D ∧ Fr [] h h1, fun _ _ _ i _ => n - i.toNat,
    ⟨0, rfl, by omega, rfl, Own.nil _ _ _, by simp [foot], w, w2, Fr.refl _ _⟩, ?_⟩
  rintro oa ol oc i h1 ⟨k, rfl, hk, rfl, o1, fo, v1, v2, f1⟩
  by_cases hkn : k < n
  · refine ⟨fun _ => ?_, fun hf => absurd hf (by simp; omega)⟩
    refine (there_spec v1 k).mono ?_
    rintro v h2 ⟨rfl, rfl⟩
    refine ⟨_, rfl, fun c => absurd c (by rw [in_nat hkn]; simp), fun _ => ?_⟩
    refine (there_spec v2 k).mono ?_
    rintro v h3 ⟨rfl, rfl⟩
    refine ⟨_, rfl, fun c => absurd c (by rw [in_nat hkn]; simp), fun _ => ?_⟩
    obtain ⟨c3, _, hr3⟩ := v1.row
    obtain ⟨c4, _, hr4⟩ := v2.row
    obtain ⟨t1, ht1⟩ := v1.arr
    obtain ⟨t2, ht2⟩ := v2.arr
    have hl1 := w.len
    have hl2 := w2.len
    have hf1 := frameOf_len hl1 hkn
    have hf2 := frameOf_len hl2 hkn
    have ra1 := readAt_B ht1 (k * 256) 256 (by omega)
    have ra2 := readAt_B ht2 (k * 256) 256 (by omega)
    have hdl := diffs_len k B D
    have hnx := diffs_next k B D
    refine ⟨_, _, _, hr3, by omega, by omega, _, _, rfl, encL iB (frameOf B k), by rw [encL_length iB_len, hf1], by rw [Int.toNat_natCast, Nat.zero_add]; exact ra1, _, _, _, hr4, by omega, by omega, _, _, rfl, encL iB (frameOf D k), by rw [encL_length iB_len, hf2], by rw [Int.toNat_natCast, Nat.zero_add]; exact ra2,
      (frameOf B k).map Int.ofNat, (frameOf D k).map Int.ofNat, by rw [List.length_map, hf1], by rw [List.length_map, hf2], enc_map _, enc_map _, fun c => ?_, fun c => ?_⟩
    · have hne : diffP B D k = true := by
        unfold diffP
        by_cases e : frameOf B k = frameOf D k
        · rw [e] at c; simp [notIf] at c
        · simp [e]
      rw [if_pos hne] at hnx
      intro h4 h4e
      refine append_new (h0 := h) (F := []) o1 rfl f1 (fun y hy => .inr (fo y hy)) rfl rfl h4e (by omega) (by omega) ?_
      intro a' c' h5 o5 f5 g5 l5 t5
      have hge : ∀ y ∈ foot a', sz h ≤ y := by
        intro y hy
        rcases t5 with rfl | t5
        · exact fo y hy
        · have := t5 y hy; have := f1.size; omega
      have l1 := w.lt
      have l2 := w.ltf
      have l3 := w2.lt
      have l4 := w2.ltf
      rw [wrapN hkn (by omega)]
      refine ⟨⟨k + 1, rfl, by omega, by rw [hnx]; simp, ?_, hge, v1.fr l5 (fun hq => by have := fo _ hq; omega) (fun hq => by have := fo _ hq; omega), v2.fr l5 (fun hq => by have := fo _ hq; omega) (fun hq => by have := fo _ hq; omega), f5⟩, decM hkn⟩
      rw [hnx, encL_append]
      exact o5
    · have hne : diffP B D k = false := by
        unfold diffP
        by_cases e : frameOf B k = frameOf D k
        · simp [e]
        · exfalso
          have : ¬ (frameOf B k).map Int.ofNat = (frameOf D k).map Int.ofNat := by
            intro h'
            exact e (encB_inj (by rw [enc_map, enc_map, h']))
          simp [notIf, this] at c
      rw [hne, if_neg (by simp), List.append_nil] at hnx
      rw [wrapN hkn (by omega)]
      exact ⟨⟨k + 1, rfl, by omega, by rw [hnx], by rw [hnx]; exact o1, fo, v1, v2, f1⟩, decM hkn⟩
  · have : k = n := by omega
    subst this
    exact ⟨fun hf => absurd hf (by simp), fun _ => hR _ _ ⟨oa, oc, rfl, o1.row, fun y hy => ⟨fo y hy, o1.foot_lt y hy⟩, f1⟩⟩


/-! ## the document's memory -/
structure RS (h : Hp) (q rb : Nat) (B : List Nat) : Prop where
  hq : bk h q = some (blk 103 [.slice (some ⟨rb, 0, none⟩) B.length B.length])
  arr : Arr iB 5 h rb B []
  ne : rb ≠ q
  byt : Byt B
  len : B.length ≤ 262144
section
variable {h h' : Hp} {q rb : Nat} {B : List Nat}
theorem RS.fr (w : RS h q rb B) {F : List Nat} (k : Fr F h h') (h1 : q ∉ F) (h2 : rb ∉ F) : RS h' q rb B := ⟨k.at w.hq h1, w.arr.fr k h2, w.ne, w.byt, w.len⟩
theorem RS.lt (w : RS h q rb B) : q < sz h := lt_of_bk w.hq
theorem RS.ltr (w : RS h q rb B) : rb < sz h := w.arr.lt
theorem RS.row (w : RS h q rb B) : cellAt h q 0 = some (.slice (some ⟨rb, 0, none⟩) B.length B.length) := (cellAt_of w.hq 0).trans rfl
theorem RS.room (w : RS h q rb B) {k : Nat} (hk : k < B.length) : k + 1 ≤ (encL iB B ++ []).length := by rw [arrB_len w.arr]; simp; omega
theorem RS.put (w : RS h q rb B) {k : Nat} (hk : k < B.length) {y : Nat} (hy : y < 256) : RS (upd h rb 5 (writeAt (encL iB B ++ []) k [.int .u8 y])) q rb (B.set k y) := by
  have f : Fr [rb] h (upd h rb 5 (writeAt (encL iB B ++ []) k [.int .u8 y])) := Fr.upd (by simp) _ _ _
  exact ⟨by rw [List.length_set]; exact f.at w.hq (by simpa using fun e => w.ne e.symm), arrB_put w.arr hk y, w.ne, w.byt.set k hy, by simpa using w.len⟩
end
def hiN (L : List Nat) (p : Nat) : Nat → Nat
  | 0 => 0
  | m + 1 => hiN L p m * 256 + L.getD (p + (3 - m)) 0
theorem hiN_lt {L : List Nat} (h : Byt L) (p : Nat) : ∀ m, hiN L p m < 256 ^ m
  | 0 => by simp [hiN]
  | m + 1 => by
    have h1 := hiN_lt h p m
    have h2 := getD_lt h (p + (3 - m))
    have h4 : 256 ^ (m + 1) = 256 ^ m * 256 := Nat.pow_succ _ _
    simp only [hiN]; omega
theorem hiN_le (L : List Nat) (p : Nat) : hiN L p 4 = leN L p 4 := by
  simp only [hiN, leN]
  generalize L.getD (p + (3 - 0)) 0 = b3
  generalize L.getD (p + (3 - 1)) 0 = b2
  generalize L.getD (p + (3 - 2)) 0 = b1
  generalize L.getD (p + (3 - 3)) 0 = b0
  generalize hp0 : L.getD (p + 0) 0 = c0
  generalize hp1 : L.getD (p + 1) 0 = c1
  generalize hp2 : L.getD (p + 2) 0 = c2
  generalize hp3 : L.getD (p + 3) 0 = c3
  omega

end Go.Proofs.Ytmldiibfmhkgjaa
