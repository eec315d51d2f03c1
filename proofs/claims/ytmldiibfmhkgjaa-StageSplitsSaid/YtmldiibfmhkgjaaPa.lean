import Derived.Test.YtmldiibfmhkgjaaP2
import Derived.Test.YtmldiibfmhkgjaaWdBits
namespace Go.Proofs.Ytmldiibfmhkgjaa
open Go Go.Wd
set_option linter.unusedVariables false
set_option linter.unusedSimpArgs false

/-! ## rows of bytes and numbers -/
def iB (x : Nat) : List Value := [.int .u8 (x : Int)]
theorem iB_len (x : Nat) : (iB x).length = 1 := rfl
def iN (x : Int) : List Value := [.int .i64 x]
theorem iN_len (x : Int) : (iN x).length = 1 := rfl
theorem zeros_iB (n : Nat) : zeros [.int .u8 0] n = encL iB (List.replicate n 0) := by
  induction n with
  | zero => rfl
  | succ n ih => rw [List.replicate_succ, encL_cons, ← ih]; simp [zeros, List.replicate_succ, iB]
theorem rep_iB (n : Nat) : List.replicate n (Value.int .u8 0) = encL iB (List.replicate n 0) := by
  induction n with
  | zero => rfl
  | succ n ih => rw [List.replicate_succ, List.replicate_succ, encL_cons, ← ih]; rfl
theorem zeros_fr (n : Nat) : zeros (List.replicate 256 (.int .u8 0)) n = encL iB (List.replicate (n * 256) 0) := by
  induction n with
  | zero => simp [zeros, encL]
  | succ n ih =>
    have e : zeros (List.replicate 256 (Value.int .u8 0)) (n + 1) = List.replicate 256 (.int .u8 0) ++ zeros (List.replicate 256 (.int .u8 0)) n := by rw [zeros, List.replicate_succ, List.flatten_cons]; rfl
    rw [e, ih, rep_iB, ← encL_append, List.replicate_append_replicate]
    congr 2; omega
theorem enc_map (L : List Nat) : encL iB L = (L.map Int.ofNat).map (Value.int .u8) := by
  induction L with
  | nil => rfl
  | cons x L ih => rw [encL_cons, ih]; rfl
theorem arrB_cell {h : Hp} {T q k : Nat} {L : List Nat} {x : Nat} {t : List Value} (w : Arr iB T h q L t) (hx : L[k]? = some x) : cellAt h q k = some (.int .u8 x) := by
  have := w.get iB_len hx 0 (by omega)
  rwa [Nat.mul_one, Nat.add_zero] at this
theorem rowB_cell {h : Hp} {a : Option Addr} {L : List Nat} (r : rowAtK h a (encL iB L)) {k : Nat} {x : Nat} (hx : L[k]? = some x) : ∃ b o, a = some ⟨b, o, none⟩ ∧ cellAt h b (o + k) = some (.int .u8 x) := by
  obtain ⟨b, o, rfl, e⟩ := encL_one iB_len r hx (by omega)
  exact ⟨b, o, rfl, by simpa [iB] using e 0 (by omega)⟩
theorem rowN_cell {h : Hp} {a : Option Addr} {L : List Int} (r : rowAtK h a (encL iN L)) {k : Nat} {x : Int} (hx : L[k]? = some x) : ∃ b o, a = some ⟨b, o, none⟩ ∧ cellAt h b (o + (k : Int).toNat * 1) = some (.int .i64 x) := by
  obtain ⟨b, o, rfl, e⟩ := encL_one iN_len r hx (by omega)
  exact ⟨b, o, rfl, by rw [Int.toNat_natCast]; exact e 0 (by omega)⟩
theorem arrB_len {h : Hp} {T q : Nat} {L : List Nat} {t : List Value} (w : Arr iB T h q L t) : (encL iB L ++ t).length = L.length + t.length := by rw [w.length iB_len, Nat.mul_one]
theorem arrB_put {h : Hp} {T q k : Nat} {L : List Nat} {t : List Value} (w : Arr iB T h q L t) (hk : k < L.length) (y : Nat) : Arr iB T (upd h q T (writeAt (encL iB L ++ t) k [.int .u8 y])) q (L.set k y) t := by
  have := w.put iB_len (k := k) (j := 0) (x := L[k]) (y := y) (vs := [.int .u8 y]) (List.getElem?_eq_getElem hk) (by simp) rfl
  rwa [Nat.mul_one, Nat.add_zero] at this
theorem arrB_row {h : Hp} {T q : Nat} {L : List Nat} {t : List Value} (w : Arr iB T h q L t) (o l : Nat) (hl : o + l ≤ L.length) : rowAtK h (some ⟨q, o, none⟩) (encL iB ((L.drop o).take l)) := by
  refine .inr ⟨q, o, rfl, fun j hj => ?_⟩
  rw [encL_length iB_len] at hj
  simp at hj
  obtain ⟨x, hx⟩ : ∃ x, L[o + j]? = some x := ⟨_, List.getElem?_eq_getElem (by omega)⟩
  have hx2 : ((L.drop o).take l)[j]? = some x := by rw [List.getElem?_take, if_pos (by omega), List.getElem?_drop]; exact hx
  have h2 := encL_get iB_len _ j 0 x hx2 (by omega)
  rw [Nat.mul_one, Nat.add_zero] at h2
  rw [arrB_cell w hx, h2]; rfl
theorem wrapS {n : Int} (h0 : -4611686018427387904 ≤ n) (h1 : n ≤ 4611686018427387904) : IntKind.wrap .i64 n = n := wrap_i64 (by omega) (by omega)
theorem wrapN {j n : Nat} (h : j < n) (hn : n ≤ 1000000) : IntKind.wrap .i64 ((j : Int) + 1) = ((j + 1 : Nat) : Int) := by rw [wrap_i64 (by omega) (by omega)]; omega
theorem wrapP {j n : Nat} (hn : j + n ≤ 100000000000) : IntKind.wrap .i64 ((j : Int) + (n : Int)) = ((j + n : Nat) : Int) := by rw [wrap_i64 (by omega) (by omega)]; omega
theorem decM {n k : Nat} (h : k < n) : n - ((k + 1 : Nat) : Int).toNat < n - (k : Int).toNat := by omega
theorem Fr.on {F : List Nat} {b : Nat} {a h : Hp} (f : Fr F a h) (hb : b ∈ F ∨ sz a ≤ b) (T : TypeId) (l : List Value) : Fr F a (upd h b T l) :=
  f.fresh (Fr.upd (F := [b]) (by simp) h T l) (by simpa using hb)
theorem take_one {α : Type} {L : List α} {k : Nat} {x : α} (hx : L[k]? = some x) : L.take (k + 1) = L.take k ++ [x] := by rw [List.take_add_one, hx]; rfl
def Byt (L : List Nat) : Prop := ∀ x ∈ L, x < 256
theorem Byt.set {L : List Nat} (h : Byt L) (k : Nat) {y : Nat} (hy : y < 256) : Byt (L.set k y) := fun x hx => by
  rcases List.mem_or_eq_of_mem_set hx with h' | rfl
  · exact h x h'
  · exact hy

/-! ## words -/
def leN (L : List Nat) (p : Nat) : Nat → Nat
  | 0 => 0
  | k + 1 => leN L p k + L.getD (p + k) 0 * 2 ^ (8 * k)
theorem getD_lt {L : List Nat} (h : Byt L) (k : Nat) : L.getD k 0 < 256 := by
  rw [List.getD_eq_getElem?_getD]
  cases hx : L[k]? with
  | none => simp
  | some x => simpa using h x (List.mem_of_getElem? hx)
theorem getD_at {L : List Nat} {k x : Nat} (h : L[k]? = some x) : L.getD k 0 = x := by rw [List.getD_eq_getElem?_getD, h]; rfl
theorem leN_lt {L : List Nat} (h : Byt L) (p : Nat) : ∀ k, leN L p k < 2 ^ (8 * k)
  | 0 => by simp [leN]
  | k + 1 => by
    have h1 := leN_lt h p k
    have h2 := getD_lt h (p + k)
    have h3 : L.getD (p + k) 0 * 2 ^ (8 * k) ≤ 255 * 2 ^ (8 * k) := Nat.mul_le_mul_right _ (by omega)
    have h4 : 2 ^ (8 * (k + 1)) = 256 * 2 ^ (8 * k) := by rw [show 8 * (k + 1) = 8 + 8 * k by omega, Nat.pow_add]
    simp only [leN]; omega
def wb (w k : Nat) : Nat := w / 2 ^ (8 * k) % 256
theorem wb_lt (w k : Nat) : wb w k < 256 := Nat.mod_lt _ (by decide)
def putK (B : List Nat) (p w : Nat) : Nat → List Nat
  | 0 => B
  | k + 1 => (putK B p w k).set (p + k) (wb w k)
theorem putK_len (B : List Nat) (p w : Nat) : ∀ k, (putK B p w k).length = B.length
  | 0 => rfl
  | k + 1 => by simp [putK, putK_len B p w k]
theorem putK_byt {B : List Nat} (h : Byt B) (p w : Nat) : ∀ k, Byt (putK B p w k)
  | 0 => h
  | k + 1 => (putK_byt h p w k).set _ (wb_lt w k)

theorem Get_spec {h : Hp} {a : Option Addr} {l c : Nat} {L : List Nat} (r : rowAtK h a (encL iB L)) (hl : L.length = l) (hb : Byt L) (hc : l ≤ c) (h256 : l ≤ 1000000) (p : Nat) (hp : p ≤ 1000000) (hp4 : p + 4 ≤ l) (hlc : l < c ∨ True) :
    CallsH Try.prog 108 [.slice a l c, .int .i64 p] h fun v h' => v = .tuple #[.int .u32 (leN L p 4 : Nat), .bool true] ∧ h' = h := by
  refine calls_k fun R hR => ?_
  apply word_Get.calls
  unfold word_Get.P
  have e1 : IntKind.wrap .i64 (((l : Nat) : Int) - 4) = ((l - 4 : Nat) : Int) := by rw [wrapS (by omega) (by omega)]; omega
  have e2 : IntKind.wrap .i64 ((p : Int) + 4) = ((p + 4 : Nat) : Int) := by rw [wrapS (by omega) (by omega)]; omega
  rw [e1, e2]
  refine ⟨fun h1 => h1 = h, ⟨fun c => absurd c (by simp), fun _ => ⟨fun c => absurd c (by simp; omega), fun _ => rfl⟩⟩, ?_⟩
  rintro h1 rfl
  refine ⟨fun _ => rfl, by omega, by omega, by omega, by omega, ?_⟩
  have e3 : (((p + 4 : Nat) : Int)).toNat - ((p : Int)).toNat = 4 := by omega
  rw [e3]
  refine ⟨fun w x h2 => ∃ k : Nat, x = k ∧ k ≤ 4 ∧ w = (leN L p k : Nat) ∧ h2 = h1, fun _ x _ => 4 - x.toNat, ⟨0, rfl, by omega, rfl, rfl⟩, ?_⟩
  rintro w x h2 ⟨k, rfl, hk, rfl, rfl⟩
  by_cases hk4 : k < 4
  · obtain ⟨y, hy⟩ : ∃ y, L[p + k]? = some y := ⟨_, List.getElem?_eq_getElem (by omega)⟩
    have hy256 := hb y (List.mem_of_getElem? hy)
    obtain ⟨b, o, rfl, e⟩ := rowB_cell r hy
    have e4 : IntKind.wrap .i64 (8 * (k : Int)) = ((8 * k : Nat) : Int) := by rw [wrapS (by omega) (by omega)]; omega
    have esb : ∃ b' o', sliceBase (some (⟨b, o, none⟩ : Addr)) ((p : Int)).toNat (((c : Nat) : Int)).toNat 1 = some ⟨b', o', none⟩ ∧ cellAt h2 b' (o' + (k : Int).toNat * 1) = some (.int .u8 (y : Int)) := by
      unfold sliceBase
      split
      · rename_i hpc
        omega
      · refine ⟨b, o + p, by simp [Addr.add_lit], ?_⟩
        rw [Int.toNat_natCast, show o + p + k * 1 = o + (p + k) by omega]; exact e
    obtain ⟨b', o', es, ec⟩ := esb
    have hlt := leN_lt hb p k
    have hval : borV .u32 ((leN L p k : Nat) : Int) (shlV .u32 (IntKind.wrap .u32 (y : Int)) (IntKind.wrap .i64 (8 * (k : Int)))) = ((leN L p (k + 1) : Nat) : Int) := by
      have hkp : 2 ^ (8 * k) ≤ 2 ^ 24 := Nat.pow_le_pow_right (by decide) (by omega)
      have hyk : y * 2 ^ (8 * k) ≤ 255 * 2 ^ (8 * k) := Nat.mul_le_mul_right _ (by omega)
      have hp24 : (2 : Nat) ^ 24 = 16777216 := by decide
      have hp32 : (2 : Nat) ^ 32 = 4294967296 := by decide
      rw [wrapn_u32 y (by omega), e4, shl32 (by omega), Nat.mod_eq_of_lt (by omega), bor32 (by omega) (by omega), Nat.or_comm, or_apart hlt]
      simp only [leN]
      rw [getD_at hy]
      congr 1; omega
    refine ⟨fun _ => ⟨by omega, by omega, b', o', es, _, ec, by omega, ?_⟩, fun hf => absurd hf (by simp; omega)⟩
    rw [hval, wrapN hk4 (by omega)]
    exact ⟨⟨k + 1, rfl, by omega, rfl, rfl⟩, decM hk4⟩
  · have : k = 4 := by omega
    subst this
    exact ⟨fun hf => absurd hf (by simp), fun _ => hR _ _ ⟨rfl, rfl⟩⟩

theorem Set_spec {h : Hp} {T fb o l c : Nat} {B : List Nat} {t : List Value} (w : Arr iB T h fb B t) (hol : o + l ≤ B.length) (hl : l ≤ 1000000) (p : Nat) (hp4 : p + 4 ≤ l) (x : Nat) (hx : x < 2 ^ 32) :
    CallsH Try.prog 111 [.slice (some ⟨fb, o, none⟩) l c, .int .i64 p, .int .u32 x] h fun v h' => v = .bool true ∧ Arr iB T h' fb (putK B (o + p) x 4) t ∧ Fr [fb] h h' := by
  refine calls_k fun R hR => ?_
  apply word_Set.calls
  unfold word_Set.P
  have e1 : IntKind.wrap .i64 (((l : Nat) : Int) - 4) = ((l - 4 : Nat) : Int) := by rw [wrapS (by omega) (by omega)]; omega
  rw [e1]
  refine ⟨fun h1 => h1 = h, ⟨fun c => absurd c (by simp), fun _ => ⟨fun c => absurd c (by simp; omega), fun _ => rfl⟩⟩, ?_⟩
  rintro h1 rfl
  refine ⟨fun i h2 => ∃ k : Nat, i = k ∧ k ≤ 4 ∧ Arr iB T h2 fb (putK B (o + p) x k) t ∧ Fr [fb] h1 h2, fun i _ => 4 - i.toNat, ⟨0, rfl, by omega, w, Fr.refl _ _⟩, ?_⟩
  rintro i h2 ⟨k, rfl, hk, w2, f2⟩
  by_cases hk4 : k < 4
  · have e4 : IntKind.wrap .i64 (8 * (k : Int)) = ((8 * k : Nat) : Int) := by rw [wrapS (by omega) (by omega)]; omega
    have e5 : IntKind.wrap .i64 ((p : Int) + (k : Int)) = ((p + k : Nat) : Int) := wrapP (by omega)
    have e6 : IntKind.wrap .u8 (shrV .u32 (x : Int) (((8 * k : Nat) : Int))) = ((wb x k : Nat) : Int) := by
      rw [shr32 (by omega), modn_u8]; rfl
    have hlt : o + p + k < (putK B (o + p) x k).length := by rw [putK_len]; omega
    rw [e4, e5, e6, wrapN hk4 (by omega)]
    refine ⟨fun _ => ⟨by omega, by omega, by omega, _, _, rfl, truly_rfl, _, _, w2.hq, by rw [arrB_len w2]; omega, ?_⟩, fun hf => absurd hf (by simp; omega)⟩
    rintro h3 rfl
    have w3 := arrB_put w2 hlt (wb x k)
    have eo : o + ((p + k : Nat) : Int).toNat * 1 = o + p + k := by omega
    rw [eo]
    exact ⟨⟨k + 1, rfl, by omega, w3, f2.trans (Fr.upd (by simp) _ _ _)⟩, decM hk4⟩
  · have : k = 4 := by omega
    subst this
    exact ⟨fun hf => absurd hf (by simp), fun _ => hR _ _ ⟨rfl, w2, f2⟩⟩
end Go.Proofs.Ytmldiibfmhkgjaa
