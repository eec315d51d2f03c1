import Derived.Test.YtmldiibfmhkgjaaP2
import Derived.Test.YtmldiibfmhkgjaaWdBits
namespace Go.Proofs.Ytmldiibfmhkgjaa
open Go Go.Wd
set_option linter.unusedVariables false
set_option linter.unusedSimpArgs false
set_option linter.unnecessarySimpa false


/-! ## rows of numbers -/
def FiN (x : Int) : List Value := [.int .i64 x]
theorem FiN_len (x : Int) : (FiN x).length = 1 := rfl
theorem zeros_iN (n : Nat) : zeros [.int .i64 0] n = encL FiN (List.replicate n 0) := by
  induction n with
  | zero => rfl
  | succ n ih => rw [List.replicate_succ, encL_cons, ← ih]; simp [zeros, List.replicate_succ, FiN]
theorem arr_cell {h : Hp} {T q k : Nat} {L : List Int} {x : Int} {t : List Value} (w : Arr FiN T h q L t) (hx : L[k]? = some x) : cellAt h q (0 + (k : Int).toNat * 1) = some (.int .i64 x) := by
  rw [Nat.zero_add, Int.toNat_natCast]
  exact w.get FiN_len hx 0 (by omega)
theorem row_cell {h : Hp} {a : Option Addr} {L : List Int} (r : rowAtK h a (encL FiN L)) {k : Nat} {x : Int} (hx : L[k]? = some x) : ∃ b o, a = some ⟨b, o, none⟩ ∧ cellAt h b (o + (k : Int).toNat * 1) = some (.int .i64 x) := by
  obtain ⟨b, o, rfl, e⟩ := encL_one FiN_len r hx (by omega)
  exact ⟨b, o, rfl, by rw [Int.toNat_natCast]; exact e 0 (by omega)⟩
theorem arr_room {h : Hp} {T q k : Nat} {L : List Int} (w : Arr FiN T h q L []) (hk : k < L.length) : 0 + (k : Int).toNat * 1 + 1 ≤ (encL FiN L ++ []).length := by
  rw [Nat.zero_add, Int.toNat_natCast]
  exact w.room FiN_len (j := 0) (n := 1) hk (by omega)
theorem arr_put {h : Hp} {T q k : Nat} {L : List Int} (w : Arr FiN T h q L []) (hk : k < L.length) (y : Int) : Arr FiN T (upd h q T (writeAt (encL FiN L ++ []) (0 + (k : Int).toNat * 1) [.int .i64 y])) q (L.set k y) [] := by
  rw [Nat.zero_add, Int.toNat_natCast]
  exact w.put FiN_len (j := 0) (x := L[k]) (y := y) (List.getElem?_eq_getElem hk) (by simp) rfl
theorem FwrapS {n : Int} (h0 : -4611686018427387904 ≤ n) (h1 : n ≤ 4611686018427387904) : IntKind.wrap .i64 n = n := wrap_i64 (by omega) (by omega)
theorem FwrapN {j n : Nat} (h : j < n) (hn : n ≤ 1000000) : IntKind.wrap .i64 ((j : Int) + 1) = ((j + 1 : Nat) : Int) := by rw [wrap_i64 (by omega) (by omega)]; omega
theorem Fr.onF {F : List Nat} {b : Nat} {a h : Hp} (f : Fr F a h) (hb : b ∈ F ∨ sz a ≤ b) (T : TypeId) (l : List Value) : Fr F a (upd h b T l) :=
  f.fresh (Fr.upd (F := [b]) (by simp) h T l) (by simpa using hb)
theorem Ftake_one {α : Type} {L : List α} {k : Nat} {x : α} (hx : L[k]? = some x) : L.take (k + 1) = L.take k ++ [x] := by rw [List.take_add_one, hx]; rfl

/-! ## the table -/
def tcells (S : Value) (f : Nat → Int) : List Value := S :: (List.range 10).map fun i => .int .i64 (f i)
theorem tcells_len (S : Value) (f : Nat → Int) : (tcells S f).length = 11 := by simp [tcells]
theorem tcells_zero (S : Value) (f : Nat → Int) : (tcells S f)[0]? = some S := rfl
theorem tcells_at (S : Value) (f : Nat → Int) {i : Nat} (hi : i < 10) : (tcells S f)[0 + 1 + (i : Int).toNat * 1]? = some (.int .i64 (f i)) := by
  rw [Int.toNat_natCast, show 0 + 1 + i * 1 = i + 1 by omega]
  simp [tcells, hi]
theorem tcells_put (S : Value) (f : Nat → Int) {i : Nat} (hi : i < 10) (v : Int) : writeAt (tcells S f) (0 + 1 + (i : Int).toNat * 1) [.int .i64 v] = tcells S (fun j => if j = i then v else f j) := by
  rw [Int.toNat_natCast, show 0 + 1 + i * 1 = i + 1 by omega, writeAt_one]
  apply List.ext_getElem?
  intro j
  cases j with
  | zero => simp [tcells]
  | succ j =>
    simp only [tcells, List.set_cons_succ, List.getElem?_cons_succ]
    rw [List.getElem?_set]
    by_cases h1 : i = j
    · subst h1; simp [hi]
    · have h2 : ¬ j = i := fun h => h1 h.symm
      simp only [h1, if_false]
      by_cases h3 : j < 10
      · simp [h3, h2]
      · simp [h3]
def cnt (L : List Int) (i : Nat) : Int := (L.count (i : Int) : Nat)

structure FTS (h : Hp) (q ob : Nat) (L : List Int) : Prop where
  hq : bk h q = some (blk 118 (tcells (.slice (some ⟨ob, 0, none⟩) L.length L.length) (cnt L)))
  arr : Arr FiN 3 h ob L []
  ne : ob ≠ q
  ok : ∀ x ∈ L, 0 ≤ x ∧ x ≤ 9
  len : L.length ≤ 1024
section
variable {h h' : Hp} {q ob : Nat} {L : List Int}
theorem FTS.fr (w : FTS h q ob L) {F : List Nat} (k : Fr F h h') (h1 : q ∉ F) (h2 : ob ∉ F) : FTS h' q ob L := ⟨k.at w.hq h1, w.arr.fr k h2, w.ne, w.ok, w.len⟩
theorem FTS.lt (w : FTS h q ob L) : q < sz h := lt_of_bk w.hq
theorem FTS.lto (w : FTS h q ob L) : ob < sz h := w.arr.lt
theorem FTS.row (w : FTS h q ob L) : cellAt h q 0 = some (.slice (some ⟨ob, 0, none⟩) L.length L.length) := (cellAt_of w.hq 0).trans rfl
theorem FTS.count (w : FTS h q ob L) {i : Nat} (hi : i < 10) : cellAt h q (0 + 1 + (i : Int).toNat * 1) = some (.int .i64 (cnt L i)) := by rw [cellAt_of w.hq, tcells_at _ _ hi]
theorem FTS.cell (w : FTS h q ob L) {k : Nat} {x : Int} (hx : L[k]? = some x) : cellAt h ob (0 + (k : Int).toNat * 1) = some (.int .i64 x) := arr_cell w.arr hx
end
theorem count_set {L : List Int} {k : Nat} {x : Int} (hx : L[k]? = some x) (o i : Int) : ((L.set k o).count i : Int) = (L.count i : Int) - (if x = i then 1 else 0) + (if o = i then 1 else 0) := by
  have hk := (List.getElem?_eq_some_iff.1 hx).1
  have he : L[k] = x := by rw [List.getElem?_eq_getElem hk] at hx; cases hx; rfl
  rw [List.count_set hk, he]
  by_cases h1 : x = i
  · have : 0 < L.count i := List.count_pos_iff.2 (h1 ▸ List.mem_of_getElem? hx)
    by_cases h2 : o = i <;> simp [h1, h2] <;> omega
  · by_cases h2 : o = i <;> simp [h1, h2]

def isSome (o : Int) : Bool := decide (1 ≤ o) && decide (o ≤ 9)
theorem some_spec {h : Hp} (i : Int) : CallsH Try.prog 92 [.int .i64 i] h fun v h' => v = .bool (isSome i) ∧ h' = h := by
  apply frames_some.calls
  unfold frames_some.P
  by_cases c : 1 ≤ i
  · have c' : ¬ (i < 1) := by omega
    simp [isSome, c, c']
  · have c' : i < 1 := by omega
    simp [isSome, c, c']
def isThere (L : List Int) (f : Int) : Bool := decide (0 ≤ f) && decide (f < L.length)
theorem Fthere_spec {h : Hp} {q ob : Nat} {L : List Int} (w : FTS h q ob L) (f : Int) : CallsH Try.prog 90 [.pointer (some ⟨q, 0, none⟩), .int .i64 f] h fun v h' => v = .bool (isThere L f) ∧ h' = h := by
  apply frames_Table_there.calls
  unfold frames_Table_there.P
  refine ⟨fun c => ⟨_, _, _, w.row, ?_, rfl⟩, fun c => ⟨?_, rfl⟩⟩
  · simp at c; simp [isThere, c]
  · simp at c; simp [isThere]; omega
theorem isThere_nat {L : List Int} {f : Int} (h : isThere L f = true) : ∃ k : Nat, f = k ∧ k < L.length := by
  simp only [isThere, Bool.and_eq_true, decide_eq_true_eq] at h
  exact ⟨f.toNat, by omega, by omega⟩
theorem there_nat {L : List Int} {k : Nat} (h : k < L.length) : isThere L k = true := by simp [isThere]; omega

theorem set_spec {h : Hp} {q ob : Nat} {L : List Int} (w : FTS h q ob L) {k : Nat} (hk : k < L.length) {o : Int} (h0 : 0 ≤ o) (h9 : o ≤ 9) :
    CallsH Try.prog 114 [.pointer (some ⟨q, 0, none⟩), .int .i64 k, .int .i64 o] h fun v h' => v = .tuple #[] ∧ FTS h' q ob (L.set k o) ∧ Fr [q, ob] h h' := by
  refine calls_k fun R hR => ?_
  apply frames_Table_set.calls
  unfold frames_Table_set.P
  obtain ⟨x, hx⟩ : ∃ x, L[k]? = some x := ⟨_, List.getElem?_eq_getElem hk⟩
  have hxo := w.ok x (List.mem_of_getElem? hx)
  obtain ⟨xn, rfl⟩ : ∃ n : Nat, x = n := ⟨x.toNat, by omega⟩
  obtain ⟨on, rfl⟩ : ∃ n : Nat, o = n := ⟨o.toNat, by omega⟩
  have hc : ∀ i : Int, 0 ≤ (L.count i : Int) ∧ (L.count i : Int) ≤ 1024 := fun i => by have := List.count_le_length (a := i) (l := L); have := w.len; omega
  refine ⟨_, _, _, w.row, by omega, by omega, _, _, rfl, _, w.cell hx, by omega, by omega, _, w.count (by omega), by omega, by omega, truly_rfl, _, _, w.hq, by rw [tcells_len]; omega, ?_⟩
  rintro h1 rfl
  rw [tcells_put _ _ (by omega)]
  have k1 := upd_same w.hq 118 (tcells (.slice (some ⟨ob, 0, none⟩) L.length L.length) (fun j => if j = xn then IntKind.wrap .i64 (cnt L xn - 1) else cnt L j))
  have f1 : Fr [q, ob] h (upd h q 118 (tcells (.slice (some ⟨ob, 0, none⟩) L.length L.length) (fun j => if j = xn then IntKind.wrap .i64 (cnt L xn - 1) else cnt L j))) := Fr.upd (by simp) _ _ _
  have a1 := w.arr.fr (Fr.upd (F := [q]) (b := q) (by simp) h 118 (tcells (.slice (some ⟨ob, 0, none⟩) L.length L.length) (fun j => if j = xn then IntKind.wrap .i64 (cnt L xn - 1) else cnt L j))) (by simpa using w.ne)
  generalize upd h q 118 (tcells (.slice (some ⟨ob, 0, none⟩) L.length L.length) (fun j => if j = xn then IntKind.wrap .i64 (cnt L xn - 1) else cnt L j)) = h1 at *
  refine ⟨by omega, by omega, _, (cellAt_of k1 _).trans (tcells_at _ _ (by omega)), by omega, by omega, truly_rfl, _, _, k1, by rw [tcells_len]; omega, ?_⟩
  rintro h2 rfl
  rw [tcells_put _ _ (by omega)]
  generalize hF : (fun j => if j = on then IntKind.wrap .i64 ((if on = xn then IntKind.wrap .i64 (cnt L xn - 1) else cnt L on) + 1) else (fun j => if j = xn then IntKind.wrap .i64 (cnt L xn - 1) else cnt L j) j) = F
  have k2 := upd_same k1 118 (tcells (.slice (some ⟨ob, 0, none⟩) L.length L.length) F)
  have f2 : Fr [q, ob] h1 (upd h1 q 118 (tcells (.slice (some ⟨ob, 0, none⟩) L.length L.length) F)) := Fr.upd (by simp) _ _ _
  have a2 := a1.fr (Fr.upd (F := [q]) (b := q) (by simp) h1 118 (tcells (.slice (some ⟨ob, 0, none⟩) L.length L.length) F)) (by simpa using w.ne)
  have eF : ∀ j, j < 10 → F j = cnt (L.set k on) j := by
    intro j hj
    rw [← hF]
    have h1 := hc (xn : Int)
    have h2 := hc (on : Int)
    have h3 := hc (j : Int)
    have h4 := count_set hx (on : Int) (j : Int)
    simp only [cnt]
    rw [h4]
    by_cases e1 : j = on
    · subst e1
      by_cases e2 : j = xn
      · subst e2
        simp only [if_true]
        rw [wrap_i64 (n := (L.count (j : Int) : Int) - 1) (by omega) (by omega), wrap_i64 (by omega) (by omega)]
      · have e3 : ¬ ((xn : Int) = (j : Int)) := by omega
        simp only [if_true, if_neg e2, if_neg e3]
        rw [wrap_i64 (by omega) (by omega)]; omega
    · have e4 : ¬ ((on : Int) = (j : Int)) := by omega
      by_cases e2 : j = xn
      · subst e2
        simp only [if_true, if_neg e1, if_neg e4]
        rw [wrap_i64 (by omega) (by omega)]; omega
      · have e3 : ¬ ((xn : Int) = (j : Int)) := by omega
        simp only [if_neg e1, if_neg e2, if_neg e3, if_neg e4]; omega
  have ecells : tcells (.slice (some ⟨ob, 0, none⟩) L.length L.length) F = tcells (.slice (some ⟨ob, 0, none⟩) (L.set k (on : Int)).length (L.set k (on : Int)).length) (cnt (L.set k on)) := by
    simp only [tcells, List.length_set]
    congr 1
    apply List.map_congr_left
    intro j hj
    rw [eF j (List.mem_range.1 hj)]
  generalize upd h1 q 118 (tcells (.slice (some ⟨ob, 0, none⟩) L.length L.length) F) = h2 at *
  refine ⟨_, _, _, (cellAt_of k2 0).trans (tcells_zero _ _), by omega, by omega, _, _, rfl, truly_rfl, _, _, a2.hq, arr_room a2 hk, ?_⟩
  rintro h3 rfl
  have a3 := arr_put a2 hk (on : Int)
  have f3 : Fr [ob] h2 (upd h2 ob 3 (writeAt (encL FiN L ++ []) (0 + (k : Int).toNat * 1) [.int .i64 on])) := Fr.upd (by simp) _ _ _
  refine hR _ _ ⟨rfl, ⟨?_, a3, w.ne, ?_, by simpa using w.len⟩, (f1.trans f2).trans (f3.mono (by simp))⟩
  · rw [← ecells]; exact f3.at k2 (by simpa using fun e => w.ne e.symm)
  · intro y hy
    rcases List.mem_or_eq_of_mem_set hy with h | rfl
    · exact w.ok y h
    · omega


structure FRS (h : Hp) (q ob : Nat) (L : List Int) : Prop where
  hq : bk h q = some (blk 36 [.slice (some ⟨ob, 0, none⟩) L.length L.length])
  arr : Arr FiN 3 h ob L []
  ne : ob ≠ q
section
variable {h h' : Hp} {q ob : Nat} {L : List Int}
theorem FRS.fr (w : FRS h q ob L) {F : List Nat} (k : Fr F h h') (h1 : q ∉ F) (h2 : ob ∉ F) : FRS h' q ob L := ⟨k.at w.hq h1, w.arr.fr k h2, w.ne⟩
theorem FRS.lt (w : FRS h q ob L) : q < sz h := lt_of_bk w.hq
theorem FRS.lto (w : FRS h q ob L) : ob < sz h := w.arr.lt
theorem FRS.row (w : FRS h q ob L) : cellAt h q 0 = some (.slice (some ⟨ob, 0, none⟩) L.length L.length) := (cellAt_of w.hq 0).trans rfl
theorem FRS.cell (w : FRS h q ob L) {k : Nat} {x : Int} (hx : L[k]? = some x) : cellAt h ob (0 + (k : Int).toNat * 1) = some (.int .i64 x) := arr_cell w.arr hx
theorem FRS.put (w : FRS h q ob L) {k : Nat} (hk : k < L.length) (y : Int) : FRS (upd h ob 3 (writeAt (encL FiN L ++ []) (0 + (k : Int).toNat * 1) [.int .i64 y])) q ob (L.set k y) := by
  have f : Fr [ob] h (upd h ob 3 (writeAt (encL FiN L ++ []) (0 + (k : Int).toNat * 1) [.int .i64 y])) := Fr.upd (by simp) _ _ _
  exact ⟨by rw [List.length_set]; exact f.at w.hq (by simpa using fun e => w.ne e.symm), arr_put w.arr hk y, w.ne⟩
end
theorem count_rep (n : Nat) (i : Nat) : cnt (List.replicate n 0) i = if i = 0 then (n : Int) else 0 := by
  unfold cnt
  rw [List.count_replicate]
  by_cases h : i = 0
  · subst h; simp
  · have : ¬ ((0 : Int) = (i : Int)) := by omega
    have h2 : ((0 : Int) == (i : Int)) = false := by simpa using this
    rw [h2]; simp [h]
theorem Fnew_bad {h : Hp} {n : Int} (hn : n < 1 ∨ 1024 < n) : CallsH Try.prog 43 [.int .i64 n] h fun v h' => v = .tuple #[.pointer none, .int .i64 11] ∧ h' = h := by
  apply frames_New.calls
  unfold frames_New.P
  refine ⟨fun _ => False, ⟨fun _ => ⟨rfl, rfl⟩, fun c1 => ⟨fun _ => ⟨rfl, rfl⟩, fun c2 => ?_⟩⟩, fun _ h => h.elim⟩
  simp only [decide_eq_false_iff_not] at c1 c2; omega
theorem Fnew_spec {h : Hp} {n : Nat} (h1n : 1 ≤ n) (hn : n ≤ 1024) : CallsH Try.prog 43 [.int .i64 n] h fun v h' => v = .tuple #[.pointer (some ⟨sz h + 1, 0, none⟩), .int .i64 0] ∧ FTS h' (sz h + 1) (sz h) (List.replicate n 0) ∧ Fr [] h h' ∧ sz h' = sz h + 2 := by
  apply frames_New.calls
  unfold frames_New.P
  refine ⟨fun h1 => h1 = h, ⟨fun c => ?_, fun c1 => ⟨fun c => ?_, fun c2 => rfl⟩⟩, ?_⟩
  · simp only [decide_eq_true_eq] at c; omega
  · simp only [decide_eq_true_eq] at c; omega
  rintro h0 rfl
  refine ⟨by omega, by omega, by omega, by omega, rfl, ?_⟩
  rintro h1 rfl
  rw [Int.toNat_natCast, zeros_iN, ← List.append_nil (encL FiN (List.replicate n 0))]
  have k1 := new_at h0 (blk 3 (encL FiN (List.replicate n 0) ++ []))
  have f1 : Fr [] h0 (new h0 (blk 3 (encL FiN (List.replicate n 0) ++ []))) := Fr.new _ _ _
  have z1 : sz (new h0 (blk 3 (encL FiN (List.replicate n 0) ++ []))) = sz h0 + 1 := sz_new _ _
  generalize new h0 (blk 3 (encL FiN (List.replicate n 0) ++ [])) = h1 at *
  rintro h3 rfl
  have e : [Value.slice (some ⟨sz h0, 0, none⟩) n n, .int .i64 0, .int .i64 0, .int .i64 0, .int .i64 0, .int .i64 0, .int .i64 0, .int .i64 0, .int .i64 0, .int .i64 0, .int .i64 0] = tcells (.slice (some ⟨sz h0, 0, none⟩) n n) (fun _ => 0) := rfl
  rw [e]
  have k3 := new_at h1 (blk 118 (tcells (.slice (some ⟨sz h0, 0, none⟩) n n) (fun _ => 0)))
  have f3 : Fr [] h1 (new h1 (blk 118 (tcells (.slice (some ⟨sz h0, 0, none⟩) n n) (fun _ => 0)))) := Fr.new _ _ _
  have z3 : sz (new h1 (blk 118 (tcells (.slice (some ⟨sz h0, 0, none⟩) n n) (fun _ => 0)))) = sz h1 + 1 := sz_new _ _
  generalize new h1 (blk 118 (tcells (.slice (some ⟨sz h0, 0, none⟩) n n) (fun _ => 0))) = h3 at *
  refine ⟨by omega, by omega, truly_rfl, _, _, k3, by rw [tcells_len]; decide, ?_⟩
  rintro h4 rfl
  have e2 : writeAt (tcells (.slice (some ⟨sz h0, 0, none⟩) n n) (fun _ => 0)) (1 + (0 : Int).toNat * 1) [.int .i64 (n : Int)] = tcells (.slice (some ⟨sz h0, 0, none⟩) n n) (cnt (List.replicate n 0)) := by
    have := tcells_put (.slice (some ⟨sz h0, 0, none⟩) n n) (fun _ => 0) (i := 0) (by omega) (n : Int)
    rw [show cnt (List.replicate n 0) = fun j => if j = 0 then (n : Int) else 0 from funext (count_rep n)]
    exact this
  rw [e2]
  have k4 := upd_same k3 118 (tcells (.slice (some ⟨sz h0, 0, none⟩) n n) (cnt (List.replicate n 0)))
  have f4 : Fr [sz h1] h3 (upd h3 (sz h1) 118 (tcells (.slice (some ⟨sz h0, 0, none⟩) n n) (cnt (List.replicate n 0)))) := Fr.upd (by simp) _ _ _
  refine ⟨by rw [z1], ⟨?_, ⟨f4.at (f3.at k1 (by simp)) (by simp; omega)⟩, by omega, ?_, by simpa using hn⟩, (f1.trans f3).later f4 (by simp; omega), by rw [sz_upd, z3, z1]⟩
  · rw [← z1, List.length_replicate]; exact k4
  · intro x hx
    rw [List.mem_replicate] at hx
    omega

theorem Count_spec {h : Hp} {q ob : Nat} {L : List Int} (w : FTS h q ob L) (o : Int) : CallsH Try.prog 39 [.pointer (some ⟨q, 0, none⟩), .int .i64 o] h fun v h' => v = .int .i64 (L.count o : Nat) ∧ h' = h := by
  refine calls_k fun R hR => ?_
  apply frames_Table_Count.calls
  unfold frames_Table_Count.P
  refine ⟨fun c => ?_, fun c => ?_⟩
  · refine (some_spec o).mono ?_
    rintro v h1 ⟨rfl, rfl⟩
    refine ⟨_, rfl, fun c1 => ?_, fun c1 => ?_⟩
    · have : L.count o = 0 := List.count_eq_zero.2 fun hm => by
        have := w.ok o hm
        simp only [isSome, Bool.not_eq_true', Bool.and_eq_false_iff, decide_eq_false_iff_not] at c1
        simp only [bne_iff_ne] at c
        omega
      rw [this] at hR
      exact hR _ _ ⟨rfl, rfl⟩
    · have : 1 ≤ o ∧ o ≤ 9 := by simpa [isSome] using c1
      obtain ⟨n, rfl⟩ : ∃ n : Nat, o = n := ⟨o.toNat, by omega⟩
      exact ⟨by omega, by omega, _, w.count (by omega), hR _ _ ⟨rfl, rfl⟩⟩
  · have : o = 0 := by simpa using c
    subst this
    exact ⟨by omega, by omega, _, w.count (i := 0) (by omega), hR _ _ ⟨rfl, rfl⟩⟩
def ownerOf (L : List Int) (f : Int) : Int := if isThere L f then L.getD f.toNat (-1) else -1
theorem ownerOf_nat {L : List Int} {k : Nat} {x : Int} (hx : L[k]? = some x) : ownerOf L k = x := by
  have := (List.getElem?_eq_some_iff.1 hx).1
  simp only [ownerOf, there_nat this, if_true, Int.toNat_natCast, List.getD_eq_getElem?_getD, hx, Option.getD_some]
theorem Owner_spec {h : Hp} {q ob : Nat} {L : List Int} (w : FTS h q ob L) (f : Int) : CallsH Try.prog 36 [.pointer (some ⟨q, 0, none⟩), .int .i64 f] h fun v h' => v = .int .i64 (ownerOf L f) ∧ h' = h := by
  refine calls_k fun R hR => ?_
  apply frames_Table_Owner.calls
  unfold frames_Table_Owner.P
  refine (Fthere_spec w f).mono ?_
  rintro v h1 ⟨rfl, rfl⟩
  refine ⟨_, rfl, fun c => ?_, fun c => ?_⟩
  · have c : isThere L f = false := by simpa using c
    have e : ownerOf L f = -1 := by simp [ownerOf, c]
    rw [e] at hR
    exact hR _ _ ⟨rfl, rfl⟩
  · obtain ⟨k, rfl, hk⟩ := isThere_nat (by simpa using c)
    obtain ⟨x, hx⟩ : ∃ x, L[k]? = some x := ⟨_, List.getElem?_eq_getElem hk⟩
    rw [ownerOf_nat hx] at hR
    exact ⟨_, _, _, w.row, by omega, by omega, _, _, rfl, _, w.cell hx, hR _ _ ⟨rfl, rfl⟩⟩

/-! ## which frames are an owner's -/
def posA (o : Int) : List Int → Nat → List Int
  | [], _ => []
  | x :: r, k => if x = o then (k : Int) :: posA o r (k + 1) else posA o r (k + 1)
def posOf (o : Int) (L : List Int) : List Int := posA o L 0
theorem posA_append (o : Int) : ∀ (A B : List Int) (k : Nat), posA o (A ++ B) k = posA o A k ++ posA o B (k + A.length)
  | [], B, k => by simp [posA]
  | x :: A, B, k => by
    simp only [List.cons_append, posA]
    rw [posA_append o A B (k + 1), show k + 1 + A.length = k + (x :: A).length by simp; omega]
    split <;> rfl
theorem pos_next {o : Int} {L : List Int} {k : Nat} {x : Int} (hx : L[k]? = some x) : posOf o (L.take (k + 1)) = posOf o (L.take k) ++ (if x = o then [(k : Int)] else []) := by
  have hk := (List.getElem?_eq_some_iff.1 hx).1
  unfold posOf
  rw [Ftake_one hx, posA_append, List.length_take, Nat.min_eq_left (by omega)]
  simp [posA]
theorem posA_length (o : Int) : ∀ (L : List Int) (k : Nat), (posA o L k).length = L.count o
  | [], k => rfl
  | x :: r, k => by
    simp only [posA]
    by_cases h : x = o
    · rw [if_pos h, List.length_cons, posA_length o r, h, List.count_cons_self]
    · rw [if_neg h, posA_length o r, List.count_cons_of_ne h]
theorem posOf_length (o : Int) (L : List Int) : (posOf o L).length = L.count o := posA_length o L 0
theorem pos_mem {o : Int} {L : List Int} {f : Int} (h : f ∈ posOf o L) : ∃ k : Nat, f = k ∧ L[k]? = some o := by
  have key : ∀ (L : List Int) (j : Nat), f ∈ posA o L j → ∃ k : Nat, f = (j + k : Nat) ∧ L[k]? = some o := by
    intro L
    induction L with
    | nil => intro j h; simp [posA] at h
    | cons x r ih =>
      intro j h
      simp only [posA] at h
      split at h
      · rename_i e
        rcases List.mem_cons.1 h with rfl | h
        · exact ⟨0, by simp, by simp [e]⟩
        · obtain ⟨k, h1, h2⟩ := ih (j + 1) h
          exact ⟨k + 1, by rw [h1]; congr 1; omega, by simpa using h2⟩
      · obtain ⟨k, h1, h2⟩ := ih (j + 1) h
        exact ⟨k + 1, by rw [h1]; congr 1; omega, by simpa using h2⟩
  obtain ⟨k, h1, h2⟩ := key L 0 h
  exact ⟨k, by simpa using h1, h2⟩

theorem Clip_spec {h : Hp} {T : Nat} {a : Option Addr} {l c : Nat} {cs : List Value} (o : Own h T 1 a l c cs) : CallsH Try.prog 80 [.slice a l c] h fun v h' => v = .slice a l l ∧ h' = h := by
  apply slices_Clip.calls
  unfold slices_Clip.P
  have := o.le
  refine ⟨fun _ => rfl, by omega, by omega, by omega, by omega, ?_, rfl⟩
  have e : sliceBase a ((0 : Int)).toNat (((l : Nat) : Int)).toNat 1 = a := by
    rcases o.2 with ⟨rfl, _⟩ | ⟨b, rest, rfl, _⟩
    · unfold sliceBase; split <;> rfl
    · unfold sliceBase; split <;> rfl
  rw [e]; simp

theorem List_spec {h : Hp} {q ob : Nat} {L : List Int} (w : FTS h q ob L) (o : Int) :
    CallsH Try.prog 28 [.pointer (some ⟨q, 0, none⟩), .int .i64 o] h fun v h' => ∃ a c, v = .slice a (posOf o L).length c ∧ rowAtK h' a (encL FiN (posOf o L)) ∧ (∀ y ∈ foot a, sz h ≤ y ∧ y < sz h') ∧ Fr [] h h' := by
  refine calls_k fun R hR => ?_
  apply frames_Table_List.calls
  unfold frames_Table_List.P
  refine (Count_spec w o).mono ?_
  rintro v h1 ⟨rfl, rfl⟩
  have hl := w.len
  have hcl : L.count o ≤ 1024 := Nat.le_trans List.count_le_length hl
  refine ⟨_, rfl, by omega, by omega, by omega, by omega, rfl, ?_⟩
  rintro h2 rfl
  rw [Int.toNat_natCast]
  have f2 : Fr [] h1 (new h1 (blk 3 (zeros [.int .i64 0] (L.count o)))) := Fr.new _ _ _
  have k2 := new_at h1 (blk 3 (zeros [.int .i64 0] (L.count o)))
  have w2 := w.fr f2 (by simp) (by simp)
  generalize new h1 (blk 3 (zeros [.int .i64 0] (L.count o))) = h2 at *
  refine ⟨_, _, _, w2.row, ?_⟩
  refine ⟨fun oa ol oc i h3 => ∃ k : Nat, i = k ∧ k ≤ L.length ∧ ol = (posOf o (L.take k)).length ∧ Own h3 3 1 oa ol oc (encL FiN (posOf o (L.take k))) ∧ (∀ y ∈ foot oa, sz h1 ≤ y) ∧ FTS h3 q ob L ∧ Fr [] h1 h3, fun _ _ _ i _ => L.length - i.toNat,
    ⟨0, rfl, by omega, rfl, ⟨rfl, .inr ⟨_, zeros [.int .i64 0] (L.count o), rfl, k2, by simp [zeros_length, posOf, posA, encL], by omega⟩⟩, by simp [foot], w2, f2⟩, ?_⟩
  rintro oa ol oc i h3 ⟨k, rfl, hk, rfl, o3, fo, w3, f3⟩
  have lq := w.lt
  have lo := w.lto
  by_cases hkl : k < L.length
  · obtain ⟨x, hx⟩ : ∃ x, L[k]? = some x := ⟨_, List.getElem?_eq_getElem hkl⟩
    have hp := pos_next (o := o) hx
    have hpl : (posOf o (L.take k)).length ≤ k := by
      rw [posOf_length]
      have := List.count_le_length (a := o) (l := L.take k)
      simp at this; omega
    refine ⟨fun _ => ⟨by omega, by omega, _, _, rfl, _, w3.cell hx, fun c => ?_, fun c => ?_⟩, fun hf => absurd hf (by simp; omega)⟩
    · intro h4 h4e
      have c : x = o := by simpa using c
      refine append_new (h0 := h1) (F := []) o3 rfl f3 (fun y hy => .inr (fo y hy)) rfl rfl h4e (by omega) (by omega) ?_
      intro a' c' h5 o5 f5 g5 l5 t5
      have hge : ∀ y ∈ foot a', sz h1 ≤ y := by
        intro y hy
        rcases t5 with rfl | t5
        · exact fo y hy
        · have := t5 y hy; have := f3.size; omega
      rw [FwrapN hkl (by omega)]
      rw [if_pos c] at hp
      refine ⟨⟨k + 1, rfl, by omega, by rw [hp]; simp, ?_, hge, w3.fr l5 (fun hq => by have := fo _ hq; omega) (fun hq => by have := fo _ hq; omega), f5⟩, by show L.length - ((k + 1 : Nat) : Int).toNat < L.length - (k : Int).toNat; omega⟩
      rw [hp, encL_append]
      exact o5
    · rw [FwrapN hkl (by omega)]
      have c : ¬ x = o := by simpa using c
      rw [if_neg c, List.append_nil] at hp
      exact ⟨⟨k + 1, rfl, by omega, by rw [hp], by rw [hp]; exact o3, fo, w3, f3⟩, by show L.length - ((k + 1 : Nat) : Int).toNat < L.length - (k : Int).toNat; omega⟩
  · have : k = L.length := by omega
    subst this
    rw [List.take_length] at o3
    refine ⟨fun hf => absurd hf (by simp), fun _ => ?_⟩
    rw [List.take_length]
    refine (Clip_spec o3).mono ?_
    rintro v h4 ⟨rfl, rfl⟩
    exact ⟨_, _, _, rfl, hR _ _ ⟨oa, _, rfl, o3.row, fun y hy => ⟨fo y hy, o3.foot_lt y hy⟩, f3⟩⟩

theorem Same_spec {h : Hp} {a b : Option Addr} {c d : Nat} {A B : List Int} (ha : rowAtK h a (encL FiN A)) (hb : rowAtK h b (encL FiN B)) (hl : A.length ≤ 1000000) :
    CallsH Try.prog 37 [.slice a A.length c, .slice b B.length d] h fun v h' => v = .bool (decide (A = B)) ∧ h' = h := by
  refine calls_k fun R hR => ?_
  apply warderref00_SameInts.calls
  unfold warderref00_SameInts.P
  refine ⟨fun c => ?_, fun c => ?_⟩
  · have hne : ¬ A = B := by rintro rfl; simp at c
    simp only [hne, decide_false] at hR
    exact hR _ _ ⟨rfl, rfl⟩
  have hlen : A.length = B.length := by
    have : (A.length : Int) = B.length := by simpa using c
    omega
  refine ⟨fun i h1 => ∃ k : Nat, i = k ∧ k ≤ A.length ∧ h1 = h ∧ A.take k = B.take k, fun i _ => A.length - i.toNat, ⟨0, rfl, by omega, rfl, rfl⟩, ?_⟩
  rintro i h1 ⟨k, rfl, hk, rfl, he⟩
  by_cases hkl : k < A.length
  · obtain ⟨x, hx⟩ : ∃ x, A[k]? = some x := ⟨_, List.getElem?_eq_getElem hkl⟩
    obtain ⟨y, hy⟩ : ∃ y, B[k]? = some y := ⟨_, List.getElem?_eq_getElem (by omega)⟩
    obtain ⟨b1, o1, rfl, e1⟩ := row_cell ha hx
    obtain ⟨b2, o2, rfl, e2⟩ := row_cell hb hy
    refine ⟨fun _ => ⟨by omega, by omega, _, _, rfl, _, e1, by omega, by omega, _, _, rfl, _, e2, fun c => ?_, fun c => ?_⟩, fun hf => absurd hf (by simp; omega)⟩
    · have hne : ¬ A = B := by rintro rfl; rw [hx] at hy; cases hy; simp at c
      simp only [hne, decide_false] at hR
      exact hR _ _ ⟨rfl, rfl⟩
    · have c : x = y := by simpa using c
      rw [FwrapN hkl hl]
      exact ⟨⟨k + 1, rfl, by omega, rfl, by rw [Ftake_one hx, Ftake_one hy, he, c]⟩, by show A.length - ((k + 1 : Nat) : Int).toNat < A.length - (k : Int).toNat; omega⟩
  · have : k = A.length := by omega
    subst this
    have hAB : A = B := by rw [List.take_length, hlen, List.take_length] at he; exact he
    simp only [hAB, decide_true] at hR
    exact ⟨fun hf => absurd hf (by simp), fun _ => hR _ _ ⟨rfl, rfl⟩⟩

theorem Fdec {n k : Nat} (h : k < n) : n - ((k + 1 : Nat) : Int).toNat < n - (k : Int).toNat := by omega

/-! ## moves -/
def moveE (L : List Int) (f o : Int) : Int := if !isThere L f || !isSome o then 11 else if ownerOf L f ≠ o then 16 else 0
def moveL (L : List Int) (f o t : Int) : List Int := if moveE L f o = 0 then L.set f.toNat t else L
theorem move_spec {h : Hp} {q ob : Nat} {L : List Int} (w : FTS h q ob L) (f o : Int) {t : Int} (h0 : 0 ≤ t) (h9 : t ≤ 9) :
    CallsH Try.prog 95 [.pointer (some ⟨q, 0, none⟩), .int .i64 f, .int .i64 o, .int .i64 t] h fun v h' => v = .int .i64 (moveE L f o) ∧ FTS h' q ob (moveL L f o t) ∧ Fr [q, ob] h h' := by
  refine calls_k fun R hR => ?_
  apply frames_Table_move.calls
  unfold frames_Table_move.P
  refine ⟨fun b h3 => b = (!isThere L f || !isSome o) ∧ h3 = h, ?_, ?_⟩
  · refine (Fthere_spec w f).mono ?_
    rintro v h1 ⟨rfl, rfl⟩
    refine ⟨_, rfl, fun c => ⟨by rw [c]; rfl, rfl⟩, fun c => ?_⟩
    refine (some_spec o).mono ?_
    rintro v h1 ⟨rfl, rfl⟩
    exact ⟨_, rfl, by rw [c]; rfl, rfl⟩
  rintro b h3 ⟨rfl, rfl⟩
  refine ⟨fun c => ?_, fun c => ?_⟩
  · have e : moveE L f o = 11 := by simp [moveE, c]
    have e2 : moveL L f o t = L := by simp [moveL, e]
    rw [e, e2] at hR
    exact hR _ _ ⟨rfl, w, Fr.refl _ _⟩
  · have c' := c
    simp only [Bool.or_eq_false_iff, Bool.not_eq_false'] at c'
    obtain ⟨k, rfl, hk⟩ := isThere_nat c'.1
    obtain ⟨x, hx⟩ : ∃ x, L[k]? = some x := ⟨_, List.getElem?_eq_getElem hk⟩
    have hE : moveE L k o = if x ≠ o then 16 else 0 := by simp only [moveE, c, ownerOf_nat hx, Bool.false_eq_true, if_false]
    refine ⟨_, _, _, w.row, by omega, by omega, _, _, rfl, _, w.cell hx, fun c2 => ?_, fun c2 => ?_⟩
    · have e : moveE L k o = 16 := by rw [hE]; simp only [bne_iff_ne] at c2; rw [if_pos c2]
      have e2 : moveL L k o t = L := by simp [moveL, e]
      rw [e, e2] at hR
      exact hR _ _ ⟨rfl, w, Fr.refl _ _⟩
    · have e : moveE L k o = 0 := by rw [hE]; simp only [bne_eq_false_iff_eq] at c2; rw [if_neg (by simpa using c2)]
      have e2 : moveL L k o t = L.set k t := by simp [moveL, e]
      rw [e, e2] at hR
      refine (set_spec w hk h0 h9).mono ?_
      rintro v h4 ⟨rfl, w4, f4⟩
      exact ⟨rfl, hR _ _ ⟨rfl, w4, f4⟩⟩
theorem Give_spec {h : Hp} {q ob : Nat} {L : List Int} (w : FTS h q ob L) (o f : Int) :
    CallsH Try.prog 46 [.pointer (some ⟨q, 0, none⟩), .int .i64 o, .int .i64 f] h fun v h' => v = .int .i64 (moveE L f o) ∧ FTS h' q ob (moveL L f o 0) ∧ Fr [q, ob] h h' := by
  apply frames_Table_Give.calls
  unfold frames_Table_Give.P
  refine (move_spec w f o (by omega) (by omega)).mono ?_
  rintro v h1 ⟨rfl, w1, f1⟩
  exact ⟨_, rfl, rfl, w1, f1⟩
def MoveE (L : List Int) (f o t : Int) : Int := if isSome t then moveE L f o else 11
def MoveL (L : List Int) (f o t : Int) : List Int := if isSome t then moveL L f o t else L
theorem isSome_b {t : Int} (h : isSome t = true) : 1 ≤ t ∧ t ≤ 9 := by simpa [isSome] using h
/-! ## all of an owner's given back -/
def freeO (o : Int) (L : List Int) : List Int := L.map fun x => if x = o then 0 else x
def setAll (M : List Int) (fs : List Int) : List Int := fs.foldl (fun M f => M.set f.toNat 0) M
theorem setAll_pos (o : Int) : ∀ (B A : List Int), setAll (A ++ B) (posA o B A.length) = A ++ freeO o B
  | [], A => by simp [setAll, posA, freeO]
  | x :: B, A => by
    simp only [posA, freeO, List.map_cons]
    by_cases h : x = o
    · rw [if_pos h, if_pos h]
      have e : setAll (A ++ x :: B) (((A.length : Nat) : Int) :: posA o B (A.length + 1)) = setAll ((A ++ x :: B).set A.length 0) (posA o B (A.length + 1)) := by simp [setAll]
      have e2 : (A ++ x :: B).set A.length 0 = (A ++ [0]) ++ B := by simp
      have := setAll_pos o B (A ++ [0])
      rw [List.length_append, List.length_singleton] at this
      rw [e, e2, this]
      simp [freeO]
    · rw [if_neg h, if_neg h]
      have := setAll_pos o B (A ++ [x])
      rw [List.length_append, List.length_singleton] at this
      have e2 : A ++ x :: B = (A ++ [x]) ++ B := by simp
      rw [e2, this]
      simp [freeO]
theorem setAll_free (o : Int) (L : List Int) : setAll L (posOf o L) = freeO o L := setAll_pos o L []
theorem setAll_snoc (M fs : List Int) (f : Int) : setAll M (fs ++ [f]) = (setAll M fs).set f.toNat 0 := by simp [setAll]
theorem setAll_len (fs : List Int) : ∀ M : List Int, (setAll M fs).length = M.length := by
  induction fs with
  | nil => intro M; rfl
  | cons f r ih => intro M; show (setAll (M.set f.toNat 0) r).length = _; rw [ih]; simp
def giveL (L : List Int) (o : Int) : List Int := if isSome o then freeO o L else L
def giveA (L : List Int) (o : Int) : List Int := if isSome o then posOf o L else []


/-! ## runs -/
def freeAt (L : List Int) (a n : Nat) : Bool := ((L.drop a).take n).all (· == 0)
def takeP (n : Nat) (L : List Int) (i : Nat) : Bool := decide (i * n + n ≤ L.length) && freeAt L (i * n) n
def takeI (n : Nat) (L : List Int) : Int := idx (takeP n L) (List.range L.length)
def takeE (n : Nat) (L : List Int) (o : Int) : Int := if isSome o then (if takeI n L < 0 then 15 else 0) else 11
def takeN (n : Nat) (L : List Int) (o : Int) : Int := if takeE n L o = 0 then takeI n L * n else -1
def setRun (L : List Int) (a n : Nat) (o : Int) : List Int := L.take a ++ (List.replicate n o ++ L.drop (a + n))
def takeL (n : Nat) (L : List Int) (o : Int) : List Int := if takeE n L o = 0 then setRun L (takeI n L * n).toNat n o else L
theorem setRun_zero (L : List Int) (a : Nat) (o : Int) : setRun L a 0 o = L := by simp [setRun]
theorem setRun_len {L : List Int} {a n : Nat} (h : a + n ≤ L.length) (o : Int) : (setRun L a n o).length = L.length := by simp [setRun]; omega
theorem setRun_at {L : List Int} {a n : Nat} (h : a + n ≤ L.length) (o : Int) (j : Nat) : (setRun L a n o)[j]? = if a ≤ j ∧ j < a + n then some o else L[j]? := by
  have hl : (L.take a).length = a := by simp; omega
  unfold setRun
  rcases Nat.lt_or_ge j a with h1 | h1
  · rw [List.getElem?_append_left (by omega), List.getElem?_take, if_pos h1, if_neg (by omega)]
  · rw [List.getElem?_append_right (by omega), hl]
    rcases Nat.lt_or_ge j (a + n) with h2 | h2
    · rw [List.getElem?_append_left (by rw [List.length_replicate]; omega), List.getElem?_replicate, if_pos (by omega), if_pos ⟨h1, h2⟩]
    · rw [List.getElem?_append_right (by rw [List.length_replicate]; omega), List.length_replicate, List.getElem?_drop, if_neg (by omega)]
      congr 1; omega
theorem setRun_next {L : List Int} {a k : Nat} (h : a + k < L.length) (o : Int) : (setRun L a k o).set (a + k) o = setRun L a (k + 1) o := by
  apply List.ext_getElem?
  intro j
  rw [List.getElem?_set, setRun_len (by omega), setRun_at (by omega), setRun_at (by omega)]
  by_cases h2 : a + k = j
  · rw [if_pos h2, if_pos h, if_pos (by omega)]
  · rw [if_neg h2]
    by_cases h3 : a ≤ j ∧ j < a + k
    · rw [if_pos h3, if_pos (by omega)]
    · rw [if_neg h3, if_neg (by omega)]
theorem free_cases {L : List Int} {a n : Nat} (h : a + n ≤ L.length) : freeAt L a n = true ↔ ∀ j, j < n → L[a + j]? = some 0 := by
  unfold freeAt
  rw [List.all_eq_true]
  constructor
  · intro hx j hj
    have h1 : ((L.drop a).take n)[j]? = L[a + j]? := by rw [List.getElem?_take, if_pos hj, List.getElem?_drop]
    obtain ⟨y, hy⟩ : ∃ y, L[a + j]? = some y := ⟨_, List.getElem?_eq_getElem (by omega)⟩
    have := hx y (List.mem_of_getElem? (h1.trans hy))
    rw [hy, beq_iff_eq.1 this]
  · intro hx y hy
    obtain ⟨j, hj⟩ := List.mem_iff_getElem?.1 hy
    rw [List.getElem?_take] at hj
    split at hj
    · rename_i hlt
      rw [List.getElem?_drop, hx j hlt] at hj
      cases hj; rfl
    · cases hj
theorem range_at {n i : Nat} (h : i < n) : (List.range n)[i]? = some i := by simp [h]
theorem takeI_at {n : Nat} {L : List Int} {i : Nat} (hi : i < L.length) (hp : takeP n L i = true) (hno : ∀ j, j < i → takeP n L j = false) : takeI n L = i :=
  idx_at (range_at hi) hp (fun j y hj hy => by
    rw [range_at (by omega)] at hy; cases hy; exact hno j hj)
theorem takeI_none {n : Nat} {L : List Int} (hno : ∀ j, takeP n L j = false) : takeI n L = -1 := idx_none (fun x _ => hno x)
theorem takeP_past {n : Nat} {L : List Int} {i j : Nat} (h : L.length < i * n + n) (hj : i ≤ j) : takeP n L j = false := by
  have : i * n ≤ j * n := Nat.mul_le_mul_right n hj
  unfold takeP
  rw [decide_eq_false (by omega)]; rfl
theorem take_some {n : Nat} {L : List Int} {o : Int} (ho : isSome o = true) {i : Nat} (hi : takeI n L = i) : takeE n L o = 0 ∧ takeN n L o = (i * n : Nat) ∧ takeL n L o = setRun L (i * n) n o := by
  have h1 : takeE n L o = 0 := by simp only [takeE, ho, if_true, hi]; rw [if_neg (by omega)]
  refine ⟨h1, by simp [takeN, h1, hi], ?_⟩
  simp only [takeL, h1, if_true, hi]
  rw [← Int.natCast_mul, Int.toNat_natCast]
theorem take_full {n : Nat} {L : List Int} {o : Int} (ho : isSome o = true) (hi : takeI n L = -1) : takeE n L o = 15 ∧ takeN n L o = -1 ∧ takeL n L o = L := by
  have h1 : takeE n L o = 15 := by simp only [takeE, ho, if_true, hi]; rfl
  exact ⟨h1, by simp [takeN, h1], by simp [takeL, h1]⟩
theorem take_bad {n : Nat} {L : List Int} {o : Int} (ho : isSome o = false) : takeE n L o = 11 ∧ takeN n L o = -1 ∧ takeL n L o = L := by
  have h1 : takeE n L o = 11 := by simp [takeE, ho]
  exact ⟨h1, by simp [takeN, h1], by simp [takeL, h1]⟩

set_option maxHeartbeats 1000000 in
theorem take_spec {h : Hp} {q ob : Nat} {L : List Int} (w : FTS h q ob L) (o : Int) {n : Nat} (h1n : 1 ≤ n) (hn : n ≤ 64) :
    CallsH Try.prog 94 [.pointer (some ⟨q, 0, none⟩), .int .i64 o, .int .i64 n] h fun v h' => v = .tuple #[.int .i64 (takeN n L o), .int .i64 (takeE n L o)] ∧ FTS h' q ob (takeL n L o) ∧ Fr [q, ob] h h' := by
  refine calls_k fun R hR => ?_
  apply frames_Table_take.calls
  unfold frames_Table_take.P
  refine (some_spec o).mono ?_
  rintro v h1 ⟨rfl, rfl⟩
  refine ⟨_, rfl, fun c => ?_, fun c => ?_⟩
  · obtain ⟨e1, e2, e3⟩ := take_bad (n := n) (L := L) (o := o) (by simpa using c)
    rw [e1, e2, e3] at hR
    exact hR _ _ ⟨rfl, w, Fr.refl _ _⟩
  have ho : isSome o = true := by simpa using c
  have hob := isSome_b ho
  have hl := w.len
  refine ⟨fun at_ h2 => ∃ i : Nat, at_ = (i * n : Nat) ∧ i * n ≤ L.length ∧ h2 = h1 ∧ ∀ j, j < i → takeP n L j = false, fun at_ _ => L.length + n - at_.toNat, ⟨0, by simp, by omega, rfl, fun j hj => by omega⟩, ?_⟩
  rintro at_ h2 ⟨i, rfl, hi, rfl, hno⟩
  have e64 : IntKind.wrap .i64 (((i * n : Nat) : Int) + (n : Int)) = ((i * n + n : Nat) : Int) := by rw [wrap_i64 (by omega) (by omega)]; omega
  rw [e64]
  have esucc : (i + 1) * n = i * n + n := Nat.succ_mul i n
  have hPn : i * n + n ≤ L.length → ∀ j, j < n → L[i * n + j]? ≠ some 0 → takeP n L i = false := by
    intro hle j hj hne
    unfold takeP
    cases hf : freeAt L (i * n) n
    · simp
    · exact absurd ((free_cases hle).1 hf j hj) hne
  have hPy : i * n + n ≤ L.length → (∀ j, j < n → L[i * n + j]? = some 0) → takeP n L i = true := by
    intro hle hj
    unfold takeP
    rw [(free_cases hle).2 hj, decide_eq_true hle]; rfl
  have him : i ≤ i * n := Nat.le_mul_of_pos_right i (by omega)
  generalize hA : i * n = A at *
  refine ⟨_, _, _, w.row, fun c1 => ?_, fun c1 => ?_⟩
  · have hle : A + n ≤ L.length := by simp only [decide_eq_true_eq] at c1; omega
    refine ⟨_, _, _, w.row, fun _ => rfl, by omega, by omega, by omega, by omega, ?_⟩
    refine ⟨fun x h3 => ∃ k : Nat, x = k ∧ k ≤ n ∧ h3 = h2 ∧ ∀ j, j < k → L[A + j]? = some 0, fun x _ => n - x.toNat, ⟨0, rfl, by omega, rfl, fun j hj => by omega⟩, ?_⟩
    rintro x h3 ⟨k, rfl, hk, rfl, hz⟩
    have e5 : ((A + n : Nat) : Int).toNat - ((A : Nat) : Int).toNat = n := by omega
    rw [e5]
    by_cases hkn : k < n
    · obtain ⟨y, hy⟩ : ∃ y, L[A + k]? = some y := ⟨_, List.getElem?_eq_getElem (by omega)⟩
      have esb : sliceBase (some (⟨ob, 0, none⟩ : Addr)) ((A : Nat) : Int).toNat ((L.length : Nat) : Int).toNat 1 = some ⟨ob, A, none⟩ := by
        unfold sliceBase
        rw [if_neg (by omega)]
        simp [Addr.add_lit]
      refine ⟨fun _ => ⟨by omega, by omega, _, _, esb, y, ?_, fun c2 => ?_, fun c2 => ?_⟩, fun hf => absurd hf (by simp; omega)⟩
      · have := w.cell hy
        rw [Int.toNat_natCast] at this ⊢
        rw [show A + k * 1 = 0 + (A + k) * 1 by omega]; exact this
      · refine ⟨⟨i + 1, by rw [esucc], by omega, rfl, fun j hj => ?_⟩, by show L.length + n - ((A + n : Nat) : Int).toNat < L.length + n - ((A : Nat) : Int).toNat; omega⟩
        rcases Nat.lt_or_ge j i with h | h
        · exact hno j h
        · have : j = i := by omega
          subst this
          refine hPn hle k hkn ?_
          rw [hy]; simpa using c2
      · rw [FwrapN hkn (by omega)]
        refine ⟨⟨k + 1, rfl, by omega, rfl, fun j hj => ?_⟩, Fdec hkn⟩
        rcases Nat.lt_or_ge j k with h | h
        · exact hz j h
        · have : j = k := by omega
          subst this
          rw [hy]; simpa using c2
    · have : k = n := by omega
      subst this
      refine ⟨fun hf => absurd hf (by simp), fun _ => ?_⟩
      obtain ⟨t1, t2, t3⟩ := take_some ho (takeI_at (by omega) (hPy hle hz) hno)
      rw [hA] at t2 t3
      rw [t1, t2, t3] at hR
      refine ⟨fun x h4 => ∃ m : Nat, x = m ∧ m ≤ k ∧ FTS h4 q ob (setRun L A m o) ∧ Fr [q, ob] h3 h4, fun x _ => k - x.toNat, ⟨0, rfl, by omega, by rw [setRun_zero]; exact w, Fr.refl _ _⟩, ?_⟩
      rintro x h4 ⟨m, rfl, hm, w4, f4⟩
      by_cases hmk : m < k
      · refine ⟨fun _ => ?_, fun hf => absurd hf (by simp; omega)⟩
        have e6 : IntKind.wrap .i64 (((A : Nat) : Int) + (m : Int)) = ((A + m : Nat) : Int) := by rw [wrap_i64 (by omega) (by omega)]; omega
        rw [e6, FwrapN hmk (by omega)]
        refine (set_spec w4 (k := A + m) (by rw [setRun_len (by omega)]; omega) (o := o) (by omega) (by omega)).mono ?_
        rintro v h5 ⟨rfl, w5, f5⟩
        rw [setRun_next (by omega)] at w5
        exact ⟨rfl, ⟨m + 1, rfl, by omega, w5, f4.trans f5⟩, Fdec hmk⟩
      · have : m = k := by omega
        subst this
        exact ⟨fun hf => absurd hf (by simp), fun _ => hR _ _ ⟨rfl, w4, f4⟩⟩
  · have hgt : L.length < A + n := by simp only [decide_eq_false_iff_not] at c1; omega
    obtain ⟨t1, t2, t3⟩ := take_full ho (takeI_none (n := n) (L := L) fun j => by
      rcases Nat.lt_or_ge j i with h | h
      · exact hno j h
      · exact takeP_past (i := i) (by rw [hA]; exact hgt) h)
    rw [t1, t2, t3] at hR
    exact hR _ _ ⟨rfl, w, Fr.refl _ _⟩
theorem Take_spec {h : Hp} {q ob : Nat} {L : List Int} (w : FTS h q ob L) (o : Int) :
    CallsH Try.prog 45 [.pointer (some ⟨q, 0, none⟩), .int .i64 o] h fun v h' => v = .tuple #[.int .i64 (takeN 1 L o), .int .i64 (takeE 1 L o)] ∧ FTS h' q ob (takeL 1 L o) ∧ Fr [q, ob] h h' := by
  apply frames_Table_Take.calls
  unfold frames_Table_Take.P
  refine (take_spec w o (n := 1) (by omega) (by omega)).mono ?_
  rintro v h1 ⟨rfl, w1, f1⟩
  exact ⟨_, _, rfl, rfl, w1, f1⟩

end Go.Proofs.Ytmldiibfmhkgjaa
