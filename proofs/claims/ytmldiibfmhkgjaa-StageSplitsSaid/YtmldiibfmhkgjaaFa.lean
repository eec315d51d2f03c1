import Derived.Test.YtmldiibfmhkgjaaP2
import Derived.Test.YtmldiibfmhkgjaaWdBits
namespace Go.Proofs.Ytmldiibfmhkgjaa
open Go Go.Wd
set_option linter.unusedVariables false
set_option linter.unusedSimpArgs false

/-! ## rows of numbers -/
def FiN (x : Int) : List Value := [.int .i64 x]
theorem FiN_len (x : Int) : (FiN x).length = 1 := rfl
theorem zeros_iN (n : Nat) : zeros [.int .i64 0] n = encL FiN (List.replicate n 0) := by
  induction n with
  | zero => rfl
  | succ n ih => rw [List.replicate_succ, encL_cons, ← ih]; simp [zeros, List.replicate_succ, FiN]
theorem arr_cell {h : Hp} {T q k : Nat} {L : List Int} {x : Int} {t : List Value} (w : Arr FiN T h q L t) (hx : L[k]? = some x) : cellAt h q (0 + (k : Int).toNat * 1) = some (.int .i64 x) := by
  rw [Nat.zero_add, Int.toNat_natCast]
  exact w.get FiN_len hx 0 (by omega)
theorem row_cell {h : Hp} {a : Option Addr} {L : List Int} (r : rowAtK h a (encL FiN L)) {k : Nat} {x : Int} (hx : L[k]? = some x) : ∃ b o, a = some ⟨b, o, none⟩ ∧ cellAt h b (o + (k : Int).toNat * 1) = some (.int .i64 x) := by
  obtain ⟨b, o, rfl, e⟩ := encL_one FiN_len r hx (by omega)
  exact ⟨b, o, rfl, by rw [Int.toNat_natCast]; exact e 0 (by omega)⟩
theorem arr_room {h : Hp} {T q k : Nat} {L : List Int} (w : Arr FiN T h q L []) (hk : k < L.length) : 0 + (k : Int).toNat * 1 + 1 ≤ (encL FiN L ++ []).length := by
  rw [Nat.zero_add, Int.toNat_natCast]
  exact w.room FiN_len (j := 0) (n := 1) hk (by omega)
theorem arr_put {h : Hp} {T q k : Nat} {L : List Int} (w : Arr FiN T h q L []) (hk : k < L.length) (y : Int) : Arr FiN T (upd h q T (writeAt (encL FiN L ++ []) (0 + (k : Int).toNat * 1) [.int .i64 y])) q (L.set k y) [] := by
  rw [Nat.zero_add, Int.toNat_natCast]
  exact w.put FiN_len (j := 0) (x := L[k]) (y := y) (List.getElem?_eq_getElem hk) (by simp) rfl
theorem FwrapS {n : Int} (h0 : -4611686018427387904 ≤ n) (h1 : n ≤ 4611686018427387904) : IntKind.wrap .i64 n = n := wrap_i64 (by omega) (by omega)
theorem FwrapN {j n : Nat} (h : j < n) (hn : n ≤ 1000000) : IntKind.wrap .i64 ((j : Int) + 1) = ((j + 1 : Nat) : Int) := by rw [wrap_i64 (by omega) (by omega)]; omega
theorem Fr.onF {F : List Nat} {b : Nat} {a h : Hp} (f : Fr F a h) (hb : b ∈ F ∨ sz a ≤ b) (T : TypeId) (l : List Value) : Fr F a (upd h b T l) :=
  f.fresh (Fr.upd (F := [b]) (by simp) h T l) (by simpa using hb)
theorem Ftake_one {α : Type} {L : List α} {k : Nat} {x : α} (hx : L[k]? = some x) : L.take (k + 1) = L.take k ++ [x] := by rw [List.take_add_one, hx]; rfl

/-! ## the table -/
def tcells (S : Value) (f : Nat → Int) : List Value := S :: (List.range 10).map fun i => .int .i64 (f i)
theorem tcells_len (S : Value) (f : Nat → Int) : (tcells S f).length = 11 := by simp [tcells]
theorem tcells_zero (S : Value) (f : Nat → Int) : (tcells S f)[0]? = some S := rfl
theorem tcells_at (S : Value) (f : Nat → Int) {i : Nat} (hi : i < 10) : (tcells S f)[0 + 1 + (i : Int).toNat * 1]? = some (.int .i64 (f i)) := by
  rw [Int.toNat_natCast, show 0 + 1 + i * 1 = i + 1 by omega]
  simp [tcells, hi]
theorem tcells_put (S : Value) (f : Nat → Int) {i : Nat} (hi : i < 10) (v : Int) : writeAt (tcells S f) (0 + 1 + (i : Int).toNat * 1) [.int .i64 v] = tcells S (fun j => if j = i then v else f j) := by
  rw [Int.toNat_natCast, show 0 + 1 + i * 1 = i + 1 by omega, writeAt_one]
  apply List.ext_getElem?
  intro j
  cases j with
  | zero => simp [tcells]
  | succ j =>
    simp only [tcells, List.set_cons_succ, List.getElem?_cons_succ]
    rw [List.getElem?_set]
    by_cases h1 : i = j
    · subst h1; simp [hi]
    · have h2 : ¬ j = i := fun h => h1 h.symm
      simp only [h1, if_false]
      by_cases h3 : j < 10
      · simp [h3, h2]
      · simp [h3]
def cnt (L : List Int) (i : Nat) : Int := (L.count (i : Int) : Nat)

structure FTS (h : Hp) (q ob : Nat) (L : List Int) : Prop where
  hq : bk h q = some (blk 118 (tcells (.slice (some ⟨ob, 0, none⟩) L.length L.length) (cnt L)))
  arr : Arr FiN 3 h ob L []
  ne : ob ≠ q
  ok : ∀ x ∈ L, 0 ≤ x ∧ x ≤ 9
  len : L.length ≤ 1024
section
variable {h h' : Hp} {q ob : Nat} {L : List Int}
theorem FTS.fr (w : FTS h q ob L) {F : List Nat} (k : Fr F h h') (h1 : q ∉ F) (h2 : ob ∉ F) : FTS h' q ob L := ⟨k.at w.hq h1, w.arr.fr k h2, w.ne, w.ok, w.len⟩
theorem FTS.lt (w : FTS h q ob L) : q < sz h := lt_of_bk w.hq
theorem FTS.lto (w : FTS h q ob L) : ob < sz h := w.arr.lt
theorem FTS.row (w : FTS h q ob L) : cellAt h q 0 = some (.slice (some ⟨ob, 0, none⟩) L.length L.length) := (cellAt_of w.hq 0).trans rfl
theorem FTS.count (w : FTS h q ob L) {i : Nat} (hi : i < 10) : cellAt h q (0 + 1 + (i : Int).toNat * 1) = some (.int .i64 (cnt L i)) := by rw [cellAt_of w.hq, tcells_at _ _ hi]
theorem FTS.cell (w : FTS h q ob L) {k : Nat} {x : Int} (hx : L[k]? = some x) : cellAt h ob (0 + (k : Int).toNat * 1) = some (.int .i64 x) := arr_cell w.arr hx
end
theorem count_set {L : List Int} {k : Nat} {x : Int} (hx : L[k]? = some x) (o i : Int) : ((L.set k o).count i : Int) = (L.count i : Int) - (if x = i then 1 else 0) + (if o = i then 1 else 0) := by
  have hk := (List.getElem?_eq_some_iff.1 hx).1
  have he : L[k] = x := by rw [List.getElem?_eq_getElem hk] at hx; cases hx; rfl
  rw [List.count_set hk, he]
  by_cases h1 : x = i
  · have : 0 < L.count i := List.count_pos_iff.2 (h1 ▸ List.mem_of_getElem? hx)
    by_cases h2 : o = i <;> simp [h1, h2] <;> omega
  · by_cases h2 : o = i <;> simp [h1, h2]

def isSome (o : Int) : Bool := decide (1 ≤ o) && decide (o ≤ 9)
theorem some_spec {h : Hp} (i : Int) : CallsH Try.prog 92 [.int .i64 i] h fun v h' => v = .bool (isSome i) ∧ h' = h := by
  apply frames_some.calls
  unfold frames_some.P
  by_cases c : 1 ≤ i
  · have c' : ¬ (i < 1) := by omega
    simp [isSome, c, c']
  · have c' : i < 1 := by omega
    simp [isSome, c, c']
def isThere (L : List Int) (f : Int) : Bool := decide (0 ≤ f) && decide (f < L.length)
theorem Fthere_spec {h : Hp} {q ob : Nat} {L : List Int} (w : FTS h q ob L) (f : Int) : CallsH Try.prog 90 [.pointer (some ⟨q, 0, none⟩), .int .i64 f] h fun v h' => v = .bool (isThere L f) ∧ h' = h := by
  apply frames_Table_there.calls
  unfold frames_Table_there.P
  refine ⟨fun c => ⟨_, _, _, w.row, ?_, rfl⟩, fun c => ⟨?_, rfl⟩⟩
  · simp at c; simp [isThere, c]
  · simp at c; simp [isThere]; omega
theorem isThere_nat {L : List Int} {f : Int} (h : isThere L f = true) : ∃ k : Nat, f = k ∧ k < L.length := by
  simp only [isThere, Bool.and_eq_true, decide_eq_true_eq] at h
  exact ⟨f.toNat, by omega, by omega⟩
theorem there_nat {L : List Int} {k : Nat} (h : k < L.length) : isThere L k = true := by simp [isThere]; omega

theorem set_spec {h : Hp} {q ob : Nat} {L : List Int} (w : FTS h q ob L) {k : Nat} (hk : k < L.length) {o : Int} (h0 : 0 ≤ o) (h9 : o ≤ 9) :
    CallsH Try.prog 114 [.pointer (some ⟨q, 0, none⟩), .int .i64 k, .int .i64 o] h fun v h' => v = .tuple #[] ∧ FTS h' q ob (L.set k o) ∧ Fr [q, ob] h h' := by
  refine calls_k fun R hR => ?_
  apply frames_Table_set.calls
  unfold frames_Table_set.P
  obtain ⟨x, hx⟩ : ∃ x, L[k]? = some x := ⟨_, List.getElem?_eq_getElem hk⟩
  have hxo := w.ok x (List.mem_of_getElem? hx)
  obtain ⟨xn, rfl⟩ : ∃ n : Nat, x = n := ⟨x.toNat, by omega⟩
  obtain ⟨on, rfl⟩ : ∃ n : Nat, o = n := ⟨o.toNat, by omega⟩
  have hc : ∀ i : Int, 0 ≤ (L.count i : Int) ∧ (L.count i : Int) ≤ 1024 := fun i => by have := List.count_le_length (a := i) (l := L); have := w.len; omega
  refine ⟨_, _, _, w.row, by omega, by omega, _, _, rfl, _, w.cell hx, by omega, by omega, _, w.count (by omega), by omega, by omega, truly_rfl, _, _, w.hq, by rw [tcells_len]; omega, ?_⟩
  rintro h1 rfl
  rw [tcells_put _ _ (by omega)]
  have k1 := upd_same w.hq 118 (tcells (.slice (some ⟨ob, 0, none⟩) L.length L.length) (fun j => if j = xn then IntKind.wrap .i64 (cnt L xn - 1) else cnt L j))
  have f1 : Fr [q, ob] h (upd h q 118 (tcells (.slice (some ⟨ob, 0, none⟩) L.length L.length) (fun j => if j = xn then IntKind.wrap .i64 (cnt L xn - 1) else cnt L j))) := Fr.upd (by simp) _ _ _
  have a1 := w.arr.fr (Fr.upd (F := [q]) (b := q) (by simp) h 118 (tcells (.slice (some ⟨ob, 0, none⟩) L.length L.length) (fun j => if j = xn then IntKind.wrap .i64 (cnt L xn - 1) else cnt L j))) (by simpa using w.ne)
  generalize upd h q 118 (tcells (.slice (some ⟨ob, 0, none⟩) L.length L.length) (fun j => if j = xn then IntKind.wrap .i64 (cnt L xn - 1) else cnt L j)) = h1 at *
  refine ⟨by omega, by omega, _, (cellAt_of k1 _).trans (tcells_at _ _ (by omega)), by omega, by omega, truly_rfl, _, _, k1, by rw [tcells_len]; omega, ?_⟩
  rintro h2 rfl
  rw [tcells_put _ _ (by omega)]
  generalize hF : (fun j => if j = on then IntKind.wrap .i64 ((if on = xn then IntKind.wrap .i64 (cnt L xn - 1) else cnt L on) + 1) else (fun j => if j = xn then IntKind.wrap .i64 (cnt L xn - 1) else cnt L j) j) = F
  have k2 := upd_same k1 118 (tcells (.slice (some ⟨ob, 0, none⟩) L.length L.length) F)
  have f2 : Fr [q, ob] h1 (upd h1 q 118 (tcells (.slice (some ⟨ob, 0, none⟩) L.length L.length) F)) := Fr.upd (by simp) _ _ _
  have a2 := a1.fr (Fr.upd (F := [q]) (b := q) (by simp) h1 118 (tcells (.slice (some ⟨ob, 0, none⟩) L.length L.length) F)) (by simpa using w.ne)
  have eF : ∀ j, j < 10 → F j = cnt (L.set k on) j := by
    intro j hj
    rw [← hF]
    have h1 := hc (xn : Int)
    have h2 := hc (on : Int)
    have h3 := hc (j : Int)
    have h4 := count_set hx (on : Int) (j : Int)
    simp only [cnt]
    rw [h4]
    by_cases e1 : j = on
    · subst e1
      by_cases e2 : j = xn
      · subst e2
        simp only [if_true]
        rw [wrap_i64 (n := (L.count (j : Int) : Int) - 1) (by omega) (by omega), wrap_i64 (by omega) (by omega)]
      · have e3 : ¬ ((xn : Int) = (j : Int)) := by omega
        simp only [if_true, if_neg e2, if_neg e3]
        rw [wrap_i64 (by omega) (by omega)]; omega
    · have e4 : ¬ ((on : Int) = (j : Int)) := by omega
      by_cases e2 : j = xn
      · subst e2
        simp only [if_true, if_neg e1, if_neg e4]
        rw [wrap_i64 (by omega) (by omega)]; omega
      · have e3 : ¬ ((xn : Int) = (j : Int)) := by omega
        simp only [if_neg e1, if_neg e2, if_neg e3, if_neg e4]; omega
  have ecells : tcells (.slice (some ⟨ob, 0, none⟩) L.length L.length) F = tcells (.slice (some ⟨ob, 0, none⟩) (L.set k (on : Int)).length (L.set k (on : Int)).length) (cnt (L.set k on)) := by
    simp only [tcells, List.length_set]
    congr 1
    apply List.map_congr_left
    intro j hj
    rw [eF j (List.mem_range.1 hj)]
  generalize upd h1 q 118 (tcells (.slice (some ⟨ob, 0, none⟩) L.length L.length) F) = h2 at *
  refine ⟨_, _, _, (cellAt_of k2 0).trans (tcells_zero _ _), by omega, by omega, _, _, rfl, truly_rfl, _, _, a2.hq, arr_room a2 hk, ?_⟩
  rintro h3 rfl
  have a3 := arr_put a2 hk (on : Int)
  have f3 : Fr [ob] h2 (upd h2 ob 3 (writeAt (encL FiN L ++ []) (0 + (k : Int).toNat * 1) [.int .i64 on])) := Fr.upd (by simp) _ _ _
  refine hR _ _ ⟨rfl, ⟨?_, a3, w.ne, ?_, by simpa using w.len⟩, (f1.trans f2).trans (f3.mono (by simp))⟩
  · rw [← ecells]; exact f3.at k2 (by simpa using fun e => w.ne e.symm)
  · intro y hy
    rcases List.mem_or_eq_of_mem_set hy with h | rfl
    · exact w.ok y h
    · omega
end Go.Proofs.Ytmldiibfmhkgjaa
