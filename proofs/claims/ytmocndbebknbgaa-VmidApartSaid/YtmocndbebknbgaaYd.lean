import Derived.Test.YtmocndbebknbgaaYc
import Derived.Test.YtmocndbebknbgaaWdRow
namespace Go.Proofs.Ytmocndbebknbgaa
open Go Go.Wd
set_option linter.unusedVariables false
set_option linter.unusedSimpArgs false
set_option linter.unnecessarySimpa false

theorem decM {n k : Nat} (h : k < n) : n - ((k + 1 : Nat) : Int).toNat < n - (k : Int).toNat := by omega
theorem wrapN {j n : Nat} (h : j < n) (hn : n ≤ 1000000) : IntKind.wrap .i64 ((j : Int) + 1) = ((j + 1 : Nat) : Int) := by rw [wrap_i64 (by omega) (by omega)]; omega
def Vld (L : List Int) : Prop := ∀ x ∈ L, x = 0 ∨ x = 1 ∨ x = 2
theorem Vld.at {L : List Int} (v : Vld L) {k : Nat} {x : Int} (h : L[k]? = some x) : x = 0 ∨ x = 1 ∨ x = 2 := v x (List.mem_of_getElem? h)
theorem Vld.set {L : List Int} (v : Vld L) {k : Nat} {x : Int} (hx : x = 0 ∨ x = 1 ∨ x = 2) : Vld (L.set k x) := by
  intro y hy
  rcases List.mem_or_eq_of_mem_set hy with h | rfl
  · exact v y h
  · exact hx
theorem Vld.drop {L : List Int} (v : Vld L) (k : Nat) : Vld (drL L k) := by
  intro y hy
  unfold drL at hy
  rcases List.mem_append.1 hy with h | h
  · obtain ⟨x, hx, rfl⟩ := List.mem_map.1 h
    split
    · exact .inl rfl
    · exact v x (List.mem_of_mem_take hx)
  · exact v y (List.mem_of_mem_drop h)
structure PS (h : Hp) (T : TypeId) (q sb : Nat) (L : List Int) : Prop where
  hq : bk h q = some (blk T [.slice (some ⟨sb, 0, none⟩) L.length L.length])
  hs : bk h sb = some (blk 3 (encL iN L))
  v : Vld L
  len : 1 ≤ L.length ∧ L.length ≤ 255
section
variable {h h' : Hp} {T : TypeId} {q sb : Nat} {L : List Int}
theorem PS.ne (w : PS h T q sb L) : sb ≠ q := by
  intro e
  have h1 := w.hq
  rw [← e, w.hs] at h1
  have hl := w.len
  cases L with
  | nil => simp at hl
  | cons x L => simp [blk, encL, iN] at h1
theorem PS.fr (w : PS h T q sb L) {F : List Nat} (k : Fr F h h') (h1 : q ∉ F) (h2 : sb ∉ F) : PS h' T q sb L := ⟨k.at w.hq h1, k.at w.hs h2, w.v, w.len⟩
theorem PS.fr0 (w : PS h T q sb L) (k : Fr [] h h') : PS h' T q sb L := w.fr k (by simp) (by simp)
theorem PS.lq (w : PS h T q sb L) : q < sz h := lt_of_bk w.hq
theorem PS.ls (w : PS h T q sb L) : sb < sz h := lt_of_bk w.hs
theorem PS.row (w : PS h T q sb L) : cellAt h q 0 = some (.slice (some ⟨sb, 0, none⟩) L.length L.length) := (cellAt_of w.hq 0).trans rfl
theorem PS.cell (w : PS h T q sb L) {k : Nat} {x : Int} (hx : L[k]? = some x) : cellAt h sb (0 + (k : Int).toNat * 1) = some (.int .i64 x) := by
  rw [Int.toNat_natCast, Nat.mul_one, Nat.zero_add, cellAt_of w.hs]; exact encN_at hx
theorem encN_len (L : List Int) : (encL iN L).length = L.length := by rw [encL_length iN_len]; omega
theorem PS.set (w : PS h T q sb L) {k : Nat} {x : Int} (hx : x = 0 ∨ x = 1 ∨ x = 2) : PS (upd h sb 3 (writeAt (encL iN L) (0 + (k : Int).toNat * 1) [.int .i64 x])) T q sb (L.set k x) := by
  have n1 := w.ne
  rw [Int.toNat_natCast, Nat.mul_one, Nat.zero_add, writeAt_one, encN_set]
  refine ⟨by rw [upd_other (fun e => n1 e.symm), List.length_set]; exact w.hq, upd_same w.hs _ _, w.v.set hx, by simpa using w.len⟩
theorem PS.room (w : PS h T q sb L) {k : Nat} (hk : k < L.length) : 0 + (k : Int).toNat * 1 + 1 ≤ (encL iN L).length := by
  rw [encN_len, Int.toNat_natCast]; omega
end
def ixOf (L : List Int) (v : Int) : Int := idx (fun x => decide (x = v)) L
theorem Index_spec {h : Hp} {sb n c : Nat} {L : List Int} (hs : bk h sb = some (blk 3 (encL iN L))) (hn : n = L.length) (hL : L.length ≤ 1000000) (v : Int) : CallsH Try.prog 23 [.slice (some ⟨sb, 0, none⟩) n c, .int .i64 v] h fun r h' => r = .int .i64 (ixOf L v) ∧ h' = h := by
  subst hn
  refine calls_k fun R hR => ?_
  apply slices_Index.calls
  unfold slices_Index.P
  refine ⟨fun i h1 => ∃ k : Nat, i = k ∧ k ≤ L.length ∧ (∀ j y, j < k → L[j]? = some y → decide (y = v) = false) ∧ h1 = h, fun i _ => L.length - i.toNat, ⟨0, rfl, by omega, by omega, rfl⟩, ?_⟩
  rintro i h1 ⟨k, rfl, hk, hb, hh⟩
  rw [hh]
  refine ⟨fun hc => ?_, fun hc => ?_⟩
  · have hk : k < L.length := by simpa using hc
    obtain ⟨x, hx⟩ : ∃ x, L[k]? = some x := ⟨_, List.getElem?_eq_getElem hk⟩
    rw [wrapN hk hL]
    refine ⟨by omega, by omega, _, _, rfl, x, ?_, fun c1 => ?_, fun c1 => ?_⟩
    · rw [Int.toNat_natCast, Nat.mul_one, Nat.zero_add, cellAt_of hs]; exact encN_at hx
    · have c1 : v = x := by simpa using c1
      have : ixOf L v = k := idx_at hx (by simp [c1]) hb
      rw [this] at hR
      exact hR _ _ ⟨rfl, rfl⟩
    · have c1 : ¬ v = x := by simpa using c1
      refine ⟨⟨k + 1, rfl, by omega, fun j y hj hy => ?_, rfl⟩, decM hk⟩
      by_cases e : j = k
      · subst e; rw [hx] at hy; cases hy
        simp only [decide_eq_false_iff_not]
        exact fun e => c1 e.symm
      · exact hb j y (by omega) hy
  · have hk1 : ¬ k < L.length := by simpa using hc
    have : ixOf L v = -1 := idx_none fun y hy => by
      obtain ⟨j, hj⟩ := List.mem_iff_getElem?.1 hy
      exact hb j y (by have := (List.getElem?_eq_some_iff.1 hj).1; omega) hj
    rw [this] at hR
    exact hR _ _ ⟨rfl, rfl⟩
def tkA (L : List Int) : Int := if 0 ≤ ixOf L 0 then ixOf L 0 + 1 else 0
def tkE (L : List Int) : Int := if 0 ≤ ixOf L 0 then 0 else if 0 ≤ ixOf L 2 then 17 else 15
def tkL (L : List Int) : List Int := if 0 ≤ ixOf L 0 then L.set (ixOf L 0).toNat 1 else L
theorem tk_cases (L : List Int) : (∃ k : Nat, ixOf L 0 = k ∧ L[k]? = some 0 ∧ (∀ i y, i < k → L[i]? = some y → y ≠ 0) ∧ tkA L = (k : Int) + 1 ∧ tkE L = 0 ∧ tkL L = L.set k 1) ∨ (ixOf L 0 = -1 ∧ (∀ x ∈ L, x ≠ 0) ∧ tkA L = 0 ∧ tkE L = (if 0 ≤ ixOf L 2 then 17 else 15) ∧ tkL L = L) := by
  rcases idx_cases (fun x => decide (x = 0)) L with ⟨h1, h2⟩ | ⟨j, x, h1, h2, h3, h4⟩
  · right
    have h1 : ixOf L 0 = -1 := h1
    refine ⟨h1, fun x hx => by simpa using h2 x hx, ?_, ?_, ?_⟩
    · unfold tkA; rw [h1]; rfl
    · unfold tkE; rw [h1]; rfl
    · unfold tkL; rw [h1]; rfl
  · left
    have h1 : ixOf L 0 = j := h1
    have h3 : x = 0 := by simpa using h3
    refine ⟨j, h1, by rw [h2, h3], fun i y hi hy => by simpa using h4 i y hi hy, ?_, ?_, ?_⟩
    · unfold tkA; rw [h1, if_pos (by omega)]
    · unfold tkE; rw [h1, if_pos (by omega)]
    · unfold tkL; rw [h1, if_pos (by omega), Int.toNat_natCast]
theorem Take_spec {h : Hp} {q sb : Nat} {L : List Int} (w : PS h 54 q sb L) : CallsH Try.prog 10 [.pointer (some ⟨q, 0, none⟩)] h fun r h' => r = .tuple #[.int .i64 (tkA L), .int .i64 (tkE L)] ∧ PS h' 54 q sb (tkL L) ∧ Fr [sb] h h' := by
  refine calls_k fun R hR => ?_
  apply vmid_Pool_Take.calls
  unfold vmid_Pool_Take.P
  have hl := w.len
  refine ⟨_, _, _, w.row, ?_⟩
  refine (Index_spec w.hs rfl (by omega) 0).mono ?_
  rintro v h1 ⟨rfl, hh⟩
  rw [hh]; clear hh h1
  refine ⟨_, rfl, ?_⟩
  rcases tk_cases L with ⟨k, e0, e1, e2, e3, e4, e5⟩ | ⟨e0, e1, e3, e4, e5⟩
  · rw [e3, e4, e5] at hR
    rw [e0]
    have hk := (List.getElem?_eq_some_iff.1 e1).1
    rw [wrapN hk (by omega)]
    refine ⟨fun _ => ⟨_, _, _, w.row, by omega, by omega, _, _, rfl, truly_rfl, _, _, w.hs, w.room hk, ?_⟩, fun hn => ?_⟩
    · rintro h2 rfl
      exact hR _ _ ⟨rfl, w.set (.inr (.inl rfl)), Fr.upd (by simp) _ _ _⟩
    · have : ¬ (k : Int) ≥ 0 := by simpa using hn
      omega
  · rw [e3, e4, e5] at hR
    rw [e0]
    refine ⟨fun hn => absurd hn (by decide), fun _ => ⟨_, _, _, w.row, ?_⟩⟩
    apply slices_Contains.calls
    unfold slices_Contains.P
    refine (Index_spec w.hs rfl (by omega) 2).mono ?_
    rintro v h1 ⟨rfl, hh⟩
    rw [hh]; clear hh h1
    refine ⟨_, rfl, _, rfl, fun hc => ?_, fun hc => ?_⟩
    · have hc : 0 ≤ ixOf L 2 := by simpa using hc
      rw [if_pos hc] at hR
      exact hR _ _ ⟨rfl, w, Fr.refl _ _⟩
    · have hc : ¬ 0 ≤ ixOf L 2 := by simpa using hc
      rw [if_neg hc] at hR
      exact hR _ _ ⟨rfl, w, Fr.refl _ _⟩
def stO (L : List Int) (v : Int) : Int := if v < 1 ∨ (L.length : Int) < v then -1 else L.getD (v - 1).toNat 0
theorem st_cases (L : List Int) (v : Int) : ((v < 1 ∨ (L.length : Int) < v) ∧ stO L v = -1) ∨ ∃ (k : Nat) (x : Int), v = (k : Int) + 1 ∧ k < L.length ∧ L[k]? = some x ∧ stO L v = x := by
  by_cases c : v < 1 ∨ (L.length : Int) < v
  · exact .inl ⟨c, if_pos c⟩
  · right
    have hk : (v - 1).toNat < L.length := by omega
    refine ⟨(v - 1).toNat, L[(v - 1).toNat], by omega, hk, List.getElem?_eq_getElem hk, ?_⟩
    unfold stO
    rw [if_neg c, List.getD_eq_getElem?_getD, List.getElem?_eq_getElem hk]; rfl
theorem wrapM {k n : Nat} (h : k < n) (hn : n ≤ 1000000) : IntKind.wrap .i64 ((k : Int) + 1 - 1) = (k : Int) := by rw [wrap_i64 (by omega) (by omega)]; omega
theorem State_spec {h : Hp} {q sb : Nat} {L : List Int} (w : PS h 54 q sb L) (v : Int) : CallsH Try.prog 16 [.pointer (some ⟨q, 0, none⟩), .int .i64 v] h fun r h' => r = .int .i64 (stO L v) ∧ h' = h := by
  refine calls_k fun R hR => ?_
  apply vmid_Pool_State.calls
  unfold vmid_Pool_State.P
  have hl := w.len
  rcases st_cases L v with ⟨c, e⟩ | ⟨k, x, rfl, hk, hx, e⟩
  · rw [e] at hR
    refine ⟨fun _ => False, ⟨fun _ => hR _ _ ⟨rfl, rfl⟩, fun c1 => ⟨_, _, _, w.row, fun _ => hR _ _ ⟨rfl, rfl⟩, fun c2 => ?_⟩⟩, fun _ hf => hf.elim⟩
    have c1 : ¬ v < 1 := by simpa using c1
    have c2 : ¬ v > (L.length : Int) := by simpa using c2
    omega
  · rw [e] at hR
    refine ⟨fun h1 => h1 = h, ⟨fun c1 => ?_, fun _ => ⟨_, _, _, w.row, fun c2 => ?_, fun _ => rfl⟩⟩, ?_⟩
    · have c1 : (k : Int) + 1 < 1 := of_decide_eq_true c1
      omega
    · have c2 : (k : Int) + 1 > (L.length : Int) := of_decide_eq_true c2
      omega
    rintro h1 hh
    rw [hh, wrapM hk (by omega)]
    exact ⟨_, _, _, w.row, by omega, by omega, _, _, rfl, x, w.cell hx, hR _ _ ⟨rfl, rfl⟩⟩
def gvE (L : List Int) (v : Int) : Int := if stO L v = -1 then 11 else if stO L v = 1 then 0 else 12
def gvL (L : List Int) (v : Int) : List Int := if stO L v = 1 then L.set (v - 1).toNat 2 else L
theorem Give_spec {h : Hp} {q sb : Nat} {L : List Int} (w : PS h 54 q sb L) (v : Int) : CallsH Try.prog 12 [.pointer (some ⟨q, 0, none⟩), .int .i64 v] h fun r h' => r = .int .i64 (gvE L v) ∧ PS h' 54 q sb (gvL L v) ∧ Fr [sb] h h' := by
  refine calls_k fun R hR => ?_
  apply vmid_Pool_Give.calls
  unfold vmid_Pool_Give.P
  have hl := w.len
  unfold gvE gvL at hR
  refine (State_spec w v).mono ?_
  rintro r h1 ⟨rfl, hh⟩
  rw [hh]; clear hh h1
  refine ⟨_, rfl, fun c1 => ?_, fun c1 => ⟨fun c2 => ?_, fun c2 => ?_⟩⟩
  · have c1 : stO L v = -1 := by simpa using c1
    rw [c1] at hR
    exact hR _ _ ⟨rfl, w, Fr.refl _ _⟩
  · have c2 : stO L v = 1 := by simpa using c2
    rw [c2, if_pos rfl] at hR
    rcases st_cases L v with ⟨_, e⟩ | ⟨k, x, rfl, hk, hx, e⟩
    · rw [e] at c2; cases c2
    rw [wrapM hk (by omega)]
    rw [show ((k : Int) + 1 - 1).toNat = k by omega] at hR
    refine ⟨_, _, _, w.row, by omega, by omega, _, _, rfl, truly_rfl, _, _, w.hs, w.room hk, ?_⟩
    rintro h2 rfl
    exact hR _ _ ⟨rfl, w.set (.inr (.inr rfl)), Fr.upd (by simp) _ _ _⟩
  · have c1 : ¬ stO L v = -1 := by simpa using c1
    have c2 : ¬ stO L v = 1 := by simpa using c2
    rw [if_neg c1, if_neg c2, if_neg c2] at hR
    exact hR _ _ ⟨rfl, w, Fr.refl _ _⟩
theorem Drop_spec {h : Hp} {q sb : Nat} {L : List Int} (w : PS h 54 q sb L) : CallsH Try.prog 14 [.pointer (some ⟨q, 0, none⟩)] h fun v h' => v = .int .i64 (drN L L.length : Nat) ∧ PS h' 54 q sb (drL L L.length) ∧ Fr [sb] h h' := by
  have hl := w.len
  refine (Dropped_spec (by omega) w.hq w.hs).mono ?_
  rintro v h' ⟨rfl, h1, h2⟩
  refine ⟨rfl, ⟨?_, h1, w.v.drop _, by rw [drL_len]; exact w.len⟩, h2⟩
  rw [drL_len]
  exact h2.at w.hq (by simpa using fun e => w.ne e.symm)
theorem New_spec {h : Hp} (n : Int) : CallsH Try.prog 8 [.int .i64 n] h fun v h' => Fr [] h h' ∧
    ((¬ (1 ≤ n ∧ n ≤ 255) ∧ v = .tuple #[.pointer none, .int .i64 11]) ∨ (1 ≤ n ∧ n ≤ 255 ∧ v = .tuple #[.pointer (some ⟨sz h + 1, 0, none⟩), .int .i64 0] ∧ PS h' 54 (sz h + 1) (sz h) (List.replicate n.toNat 0) ∧ sz h' = sz h + 2)) := by
  refine calls_k fun R hR => ?_
  apply vmid_New.calls
  unfold vmid_New.P
  refine ⟨fun c => ?_, fun c => ⟨fun c2 => ?_, fun c2 => ?_⟩⟩
  · simp only [decide_eq_true_eq] at c
    exact hR _ _ ⟨Fr.refl _ _, .inl ⟨by omega, rfl⟩⟩
  · simp only [decide_eq_true_eq] at c2
    exact hR _ _ ⟨Fr.refl _ _, .inl ⟨by omega, rfl⟩⟩
  simp only [decide_eq_false_iff_not] at c c2
  refine ⟨by omega, by omega, by omega, by omega, rfl, ?_⟩
  intro h1 e1 h2 e2
  have s1 : sz h1 = sz h + 1 := by rw [e1]; exact sz_new _ _
  have hz : zeros [.int .i64 0] n.toNat = encL iN (List.replicate n.toNat 0) := by
    unfold zeros encL
    rw [List.flatMap_replicate]; rfl
  have k1 : bk h2 (sz h) = some (blk 3 (encL iN (List.replicate n.toNat 0))) := by
    rw [e2, bk_new, if_neg (by omega), e1, new_at, hz]
  have k2 : bk h2 (sz h + 1) = some (blk 54 [.slice (some ⟨sz h, 0, none⟩) n.toNat n.toNat]) := by rw [e2, ← s1, new_at]
  have f2 : Fr [] h h2 := by rw [e2, e1]; exact (Fr.new [] h _).trans (Fr.new [] _ _)
  have s2 : sz h2 = sz h + 2 := by rw [e2, sz_new, s1]
  rw [s1]
  exact hR _ _ ⟨f2, .inr ⟨by omega, by omega, rfl, ⟨by rw [k2]; simp, k1, fun x hx => .inl (List.eq_of_mem_replicate hx), by simp; omega⟩, s2⟩⟩

/-! ## the document's -/
theorem rNew_spec {h : Hp} {n : Int} (h1n : 1 ≤ n) (hn : n ≤ 255) : CallsH Try.prog 9 [.int .i64 n] h fun v h' => v = .pointer (some ⟨sz h + 1, 0, none⟩) ∧ PS h' 38 (sz h + 1) (sz h) (List.replicate n.toNat 0) ∧ Fr [] h h' ∧ sz h' = sz h + 2 := by
  refine calls_k fun R hR => ?_
  apply warderref13_New.calls
  unfold warderref13_New.P
  refine ⟨by omega, by omega, by omega, by omega, rfl, ?_⟩
  intro h1 e1 h2 e2
  have s1 : sz h1 = sz h + 1 := by rw [e1]; exact sz_new _ _
  have hz : zeros [.int .i64 0] n.toNat = encL iN (List.replicate n.toNat 0) := by
    unfold zeros encL
    rw [List.flatMap_replicate]; rfl
  have k1 : bk h2 (sz h) = some (blk 3 (encL iN (List.replicate n.toNat 0))) := by
    rw [e2, bk_new, if_neg (by omega), e1, new_at, hz]
  have k2 : bk h2 (sz h + 1) = some (blk 38 [.slice (some ⟨sz h, 0, none⟩) n.toNat n.toNat]) := by rw [e2, ← s1, new_at]
  have f2 : Fr [] h h2 := by rw [e2, e1]; exact (Fr.new [] h _).trans (Fr.new [] _ _)
  have s2 : sz h2 = sz h + 2 := by rw [e2, sz_new, s1]
  rw [s1]
  exact hR _ _ ⟨rfl, ⟨by rw [k2]; simp, k1, fun x hx => .inl (List.eq_of_mem_replicate hx), by simp; omega⟩, f2, s2⟩
theorem rTake_spec {h : Hp} {q sb : Nat} {L : List Int} (w : PS h 38 q sb L) : CallsH Try.prog 11 [.pointer (some ⟨q, 0, none⟩)] h fun r h' => r = .tuple #[.int .i64 (tkA L), .int .i64 (tkE L)] ∧ PS h' 38 q sb (tkL L) ∧ Fr [sb] h h' := by
  refine calls_k fun R hR => ?_
  apply warderref13_Pool_Take.calls
  unfold warderref13_Pool_Take.P
  have hl := w.len
  refine ⟨fun st i h1 => ∃ k : Nat, i = k ∧ k ≤ L.length ∧ (∀ j y, j < k → L[j]? = some y → y ≠ 0) ∧ (st = true ↔ ∃ j, j < k ∧ L[j]? = some 2) ∧ h1 = h, fun _ i _ => L.length - i.toNat, ⟨0, rfl, by omega, by omega, by simp, rfl⟩, ?_⟩
  rintro st i h1 ⟨k, rfl, hk, hb, hst, hh⟩
  rw [hh]; clear hh h1
  refine ⟨_, _, _, w.row, fun hc => ?_, fun hc => ?_⟩
  · have hk : k < L.length := by simpa using hc
    obtain ⟨x, hx⟩ : ∃ x, L[k]? = some x := ⟨_, List.getElem?_eq_getElem hk⟩
    rw [wrapN hk (by omega)]
    refine ⟨_, _, _, w.row, by omega, by omega, _, _, rfl, x, w.cell hx, fun c1 => ?_, fun c1 => ?_⟩
    · have c1 : x = 0 := by simpa using c1
      have e0 : ixOf L 0 = k := idx_at hx (by simp [c1]) fun j y hj hy => by simpa using hb j y hj hy
      have a1 : tkA L = (k : Int) + 1 := by unfold tkA; rw [e0, if_pos (by omega)]
      have a2 : tkE L = 0 := by unfold tkE; rw [e0, if_pos (by omega)]
      have a3 : tkL L = L.set k 1 := by unfold tkL; rw [e0, if_pos (by omega), Int.toNat_natCast]
      rw [a1, a2, a3] at hR
      refine ⟨_, _, _, w.row, by omega, by omega, _, _, rfl, truly_rfl, _, _, w.hs, w.room hk, ?_⟩
      rintro h2 rfl
      exact hR _ _ ⟨rfl, w.set (.inr (.inl rfl)), Fr.upd (by simp) _ _ _⟩
    · have c1 : x ≠ 0 := by simpa using c1
      have hb' : ∀ j y, j < k + 1 → L[j]? = some y → y ≠ 0 := by
        intro j y hj hy
        by_cases e : j = k
        · subst e; rw [hx] at hy; cases hy; exact c1
        · exact hb j y (by omega) hy
      refine ⟨fun c2 => ⟨⟨k + 1, rfl, by omega, hb', ?_, rfl⟩, decM hk⟩, fun c2 => ⟨_, _, _, w.row, by omega, by omega, _, _, rfl, x, w.cell hx, ⟨k + 1, rfl, by omega, hb', ?_, rfl⟩, decM hk⟩⟩
      · obtain ⟨j, hj, e⟩ := hst.1 c2
        exact ⟨fun _ => ⟨j, by omega, e⟩, fun _ => rfl⟩
      · have c2 : ¬ ∃ j, j < k ∧ L[j]? = some 2 := by rw [← hst]; simpa using c2
        constructor
        · intro e
          have e : x = 2 := by simpa using e
          exact ⟨k, by omega, by rw [hx, e]⟩
        · rintro ⟨j, hj, e⟩
          by_cases ej : j = k
          · subst ej; rw [hx] at e; cases e; rfl
          · exact absurd ⟨j, by omega, e⟩ c2
  · have hk1 : ¬ k < L.length := by simpa using hc
    have hkl : k = L.length := by omega
    have e0 : ixOf L 0 = -1 := idx_none fun y hy => by
      obtain ⟨j, hj⟩ := List.mem_iff_getElem?.1 hy
      simpa using hb j y (by have := (List.getElem?_eq_some_iff.1 hj).1; omega) hj
    have a1 : tkA L = 0 := by unfold tkA; rw [e0]; rfl
    have a2 : tkE L = if 0 ≤ ixOf L 2 then 17 else 15 := by unfold tkE; rw [e0]; rfl
    have a3 : tkL L = L := by unfold tkL; rw [e0]; rfl
    have h2 : 0 ≤ ixOf L 2 ↔ ∃ j, j < k ∧ L[j]? = some 2 := by
      rcases idx_cases (fun x => decide (x = 2)) L with ⟨h1, h2⟩ | ⟨j, x, h1, h2, h3, h4⟩
      · have h1 : ixOf L 2 = -1 := h1
        constructor
        · intro h; omega
        · rintro ⟨j, _, hj⟩
          have := h2 2 (List.mem_of_getElem? hj)
          simp at this
      · have h1 : ixOf L 2 = j := h1
        have h3 : x = 2 := by simpa using h3
        exact ⟨fun _ => ⟨j, by have := (List.getElem?_eq_some_iff.1 h2).1; omega, by rw [h2, h3]⟩, fun _ => by omega⟩
    rw [a1, a2, a3] at hR
    refine ⟨fun c => ?_, fun c => ?_⟩
    · rw [if_pos (h2.2 (hst.1 c))] at hR
      exact hR _ _ ⟨rfl, w, Fr.refl _ _⟩
    · rw [if_neg (fun h => by have := hst.2 (h2.1 h); rw [c] at this; cases this)] at hR
      exact hR _ _ ⟨rfl, w, Fr.refl _ _⟩
theorem rGive_spec {h : Hp} {q sb : Nat} {L : List Int} (w : PS h 38 q sb L) (v : Int) : CallsH Try.prog 13 [.pointer (some ⟨q, 0, none⟩), .int .i64 v] h fun r h' => r = .int .i64 (gvE L v) ∧ PS h' 38 q sb (gvL L v) ∧ Fr [sb] h h' := by
  refine calls_k fun R hR => ?_
  apply warderref13_Pool_Give.calls
  unfold warderref13_Pool_Give.P
  have hl := w.len
  unfold gvE gvL at hR
  rcases st_cases L v with ⟨c, e⟩ | ⟨k, x, rfl, hk, hx, e⟩
  · rw [e] at hR
    have hR := hR (.int .i64 11) h ⟨rfl, w, Fr.refl _ _⟩
    refine ⟨fun _ => False, ⟨fun _ => hR, fun c1 => ⟨_, _, _, w.row, fun _ => hR, fun c2 => ?_⟩⟩, fun _ hf => hf.elim⟩
    have c1 : ¬ v < 1 := by simpa using c1
    have c2 : ¬ v > (L.length : Int) := by simpa using c2
    omega
  · rw [e] at hR
    have hx3 := w.v.at hx
    refine ⟨fun h1 => h1 = h, ⟨fun c1 => ?_, fun _ => ⟨_, _, _, w.row, fun c2 => ?_, fun _ => rfl⟩⟩, ?_⟩
    · have c1 : (k : Int) + 1 < 1 := of_decide_eq_true c1
      omega
    · have c2 : (k : Int) + 1 > (L.length : Int) := of_decide_eq_true c2
      omega
    rintro h1 hh
    rw [hh, wrapM hk (by omega)]
    refine ⟨_, _, _, w.row, by omega, by omega, _, _, rfl, x, w.cell hx, fun c => ?_, fun c => ⟨_, _, _, w.row, by omega, by omega, _, _, rfl, truly_rfl, _, _, w.hs, w.room hk, ?_⟩⟩
    · have c : x ≠ 1 := by simpa using c
      rw [if_neg (show ¬ x = -1 by omega), if_neg c, if_neg c] at hR
      exact hR _ _ ⟨rfl, w, Fr.refl _ _⟩
    · have c : x = 1 := by simpa using c
      subst c
      rw [show ((k : Int) + 1 - 1).toNat = k by omega] at hR
      rintro h2 rfl
      exact hR _ _ ⟨rfl, w.set (.inr (.inr rfl)), Fr.upd (by simp) _ _ _⟩
theorem rDrop_spec {h : Hp} {q sb : Nat} {L : List Int} (w : PS h 38 q sb L) : CallsH Try.prog 15 [.pointer (some ⟨q, 0, none⟩)] h fun v h' => v = .int .i64 (drN L L.length : Nat) ∧ PS h' 38 q sb (drL L L.length) ∧ Fr [sb] h h' := by
  refine calls_k fun R hR => ?_
  apply warderref13_Pool_Dropped.calls
  unfold warderref13_Pool_Dropped.P
  have hl := w.len
  refine ⟨fun n i h1 => ∃ k : Nat, i = k ∧ k ≤ L.length ∧ n = (drN L k : Nat) ∧ PS h1 38 q sb (drL L k) ∧ Fr [sb] h h1, fun _ i _ => L.length - i.toNat, ⟨0, rfl, by omega, rfl, by simpa [drL] using w, Fr.refl _ _⟩, ?_⟩
  rintro n i h1 ⟨k, rfl, hk, rfl, w1, f1⟩
  have hlen := drL_len L k
  refine ⟨_, _, _, w1.row, fun hc => ?_, fun hc => ?_⟩
  · rw [hlen] at hc
    have hk : k < L.length := by simpa using hc
    obtain ⟨x, hx⟩ : ∃ x, L[k]? = some x := ⟨_, List.getElem?_eq_getElem hk⟩
    have hx1 := (drL_at hk).trans hx
    have hle : drN L k ≤ k := by
      have := List.countP_le_length (p := fun x => decide (x = (2 : Int))) (l := L.take k)
      rw [List.length_take] at this; unfold drN; omega
    have hw : IntKind.wrap .i64 ((drN L k : Int) + 1) = ((drN L k + 1 : Nat) : Int) := by rw [wrap_i64 (by omega) (by omega)]; omega
    rw [wrapN hk (by omega), hw]
    refine ⟨_, _, _, w1.row, by omega, by omega, _, _, rfl, x, w1.cell hx1, fun c => ?_, fun c => ?_⟩
    · have c : x = 2 := by simpa using c
      refine ⟨_, _, _, w1.row, by omega, by omega, _, _, rfl, truly_rfl, _, _, w1.hs, w1.room (by omega), ?_⟩
      rintro h2 rfl
      have e1 : drL L (k + 1) = (drL L k).set k 0 := by rw [drL_step hx, if_pos c]
      have e2 : drN L (k + 1) = drN L k + 1 := by rw [drN_step hx, if_pos c]
      exact ⟨⟨k + 1, rfl, by omega, by rw [e2], by rw [e1]; exact w1.set (.inl rfl), f1.trans (Fr.upd (by simp) _ _ _)⟩, decM hk⟩
    · have c : x ≠ 2 := by simpa using c
      have e1 : drL L (k + 1) = drL L k := by rw [drL_step hx, if_neg c]; exact set_same' hx1
      have e2 : drN L (k + 1) = drN L k := by rw [drN_step hx, if_neg c, Nat.add_zero]
      exact ⟨⟨k + 1, rfl, by omega, by rw [e2], by rw [e1]; exact w1, f1⟩, decM hk⟩
  · rw [hlen] at hc
    have hk1 : ¬ k < L.length := by simpa using hc
    have hk : k = L.length := by omega
    subst hk
    exact hR _ _ ⟨rfl, w1, f1⟩
theorem SameInts_spec {h : Hp} {a b : Option Addr} {ca cb : Nat} {l : List Int} (g1 : rowAtK h a (encL iN l)) (g2 : rowAtK h b (encL iN l)) (hl : l.length ≤ 1000000) :
    CallsH Try.prog 17 [.slice a l.length ca, .slice b l.length cb] h fun v h' => v = .bool true ∧ h' = h := by
  refine calls_k fun R hR => ?_
  apply warderref00_SameInts.calls
  unfold warderref00_SameInts.P
  refine ⟨fun hn => by simp at hn, fun _ => ?_⟩
  refine ⟨fun i h1 => ∃ k : Nat, i = k ∧ k ≤ l.length ∧ h1 = h, fun i _ => l.length - i.toNat, ⟨0, rfl, by omega, rfl⟩, ?_⟩
  rintro i h1 ⟨k, rfl, hk, hh⟩
  rw [hh]
  refine ⟨fun hc => ?_, fun hc => hR _ _ ⟨rfl, rfl⟩⟩
  have hk : k < l.length := by simpa using hc
  obtain ⟨x, hx⟩ : ∃ o, l[k]? = some o := ⟨_, List.getElem?_eq_getElem hk⟩
  obtain ⟨b1, o1, rfl, e1⟩ := encL_one iN_len g1 hx (by decide)
  obtain ⟨b2, o2, rfl, e2⟩ := encL_one iN_len g2 hx (by decide)
  rw [Int.toNat_natCast, wrapN hk hl]
  refine ⟨by omega, by omega, _, _, rfl, x, e1 0 (by decide), by omega, by omega, _, _, rfl, x, e2 0 (by decide), fun hn => ?_, fun _ => ⟨⟨k + 1, rfl, by omega, rfl⟩, decM hk⟩⟩
  simp at hn
end Go.Proofs.Ytmocndbebknbgaa
