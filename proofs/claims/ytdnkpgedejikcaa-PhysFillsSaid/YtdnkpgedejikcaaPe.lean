import Derived.Test.YtdnkpgedejikcaaPd
namespace Go.Proofs.Ytdnkpgedejikcaa
open Go Go.Wd
set_option linter.unusedVariables false
set_option linter.unusedSimpArgs false

/-- A call that a memory is told. -/
structure Q where
  what : Int
  n : Int
  addr : Nat
  value : Nat
  a : Option Addr
  c : Nat
  bytes : List Nat
def Q.cells (x : Q) : List Value := [.int .i64 x.what, .int .i64 x.n, .int .u32 x.addr, .int .u32 x.value, .slice x.a x.bytes.length x.c]
theorem Q.len (x : Q) : x.cells.length = 5 := rfl
structure Q.ok (h : Hp) (x : Q) : Prop where
  a1 : x.addr < 4294967296
  a2 : x.value < 4294967296
  byt : Byt x.bytes
  row : rowAtK h x.a (encL iB x.bytes)
theorem Q.ok.fr {h h' : Hp} {x : Q} (k : x.ok h) (f : Fr [] h h') : x.ok h' := ⟨k.a1, k.a2, k.byt, k.row.fr f (by simp)⟩

def stepB (n : Nat) (B : List Nat) (x : Q) : List Nat :=
  if x.what = 0 then B.set x.addr (x.value % 256) else if x.what = 1 then putW n B x.addr x.value else if x.what = 2 then fillL n B x.n x.bytes else B
theorem stepB_len {n : Nat} {B : List Nat} (hl : B.length = n * 256) (x : Q) : (stepB n B x).length = n * 256 := by
  unfold stepB
  split
  · simpa using hl
  split
  · rw [putW_len, hl]
  split
  · rw [fillL_len hl, hl]
  · exact hl

theorem putR_next {B F : List Nat} {o k y : Nat} (hy : F[k]? = some y) (h : o + F.length ≤ B.length) : (putR B o (F.take k)).set (o + k) y = putR B o (F.take (k + 1)) := by
  have hk := (List.getElem?_eq_some_iff.1 hy).1
  have h1 : (F.take k).length = k := by simp; omega
  have h2 : (F.take (k + 1)).length = k + 1 := by simp; omega
  apply List.ext_getElem?
  intro j
  rw [List.getElem?_set, putR_len (by omega), putR_at (by omega), putR_at (by omega), h1, h2]
  by_cases e : o + k = j
  · subst e
    rw [if_pos rfl, if_pos (by omega), if_pos (by omega), Nat.add_sub_cancel_left, List.getElem?_take, if_pos (by omega), hy]
  · rw [if_neg e]
    by_cases e2 : o ≤ j ∧ j < o + k
    · rw [if_pos e2, if_pos (by omega), List.getElem?_take, List.getElem?_take, if_pos (by omega), if_pos (by omega)]
    · rw [if_neg e2, if_neg (by omega)]
theorem putR_zero (B F : List Nat) (o : Nat) : putR B o (F.take 0) = B := by simp [putR]

set_option maxHeartbeats 4000000 in
theorem told_spec {h : Hp} {q fb q2 rb n : Nat} {B : List Nat} (w : MS h q fb n B) (r : RS h q2 rb B) (n1 : q ≠ q2) (n2 : q ≠ rb) (n3 : fb ≠ q2) (n4 : fb ≠ rb) (x : Q)
    (a1 : x.addr < 4294967296) (a2 : x.value < 4294967296) (hby : Byt x.bytes) (hbl : x.bytes.length ≤ 1000000) (hrow : ∀ h', Fr [fb, rb] h h' → rowAtK h' x.a (encL iB x.bytes)) :
    CallsH Try.prog 19 [.pointer (some ⟨q, 0, none⟩), .pointer (some ⟨q2, 0, none⟩), .agg ⟨x.cells⟩] h fun v h' => v = .bool true ∧ MS h' q fb n (stepB n B x) ∧ RS h' q2 rb (stepB n B x) ∧ Fr [fb, rb] h h' := by
  refine calls_k fun R hR => ?_
  apply warderlaw04_told.calls
  unfold warderlaw04_told.P
  rintro h1 rfl
  have f1 : Fr [] h (new h (blk 46 x.cells)) := Fr.new _ _ _
  have k1 := new_at h (blk 46 x.cells)
  have w1 := w.fr f1 (by simp) (by simp)
  have r1 := r.fr f1 (by simp) (by simp)
  have z1 : sz (new h (blk 46 x.cells)) = sz h + 1 := sz_new _ _
  have lq := w.lt
  have lf := w.ltf
  have lq2 := r.lt
  have lr := r.ltr
  have hl := w.len
  simp only [Q.cells] at f1 k1 w1 r1 z1
  generalize new h (blk 46 [.int .i64 x.what, .int .i64 x.n, .int .u32 x.addr, .int .u32 x.value, .slice x.a x.bytes.length x.c]) = h1 at *
  have g1 : Fr [fb, rb] h h1 := f1.mono (by simp)
  generalize hb : sz h = b at *
  have c0 := (cellAt_of k1 0).trans rfl
  have c1 := (cellAt_of k1 1).trans rfl
  have c2 := (cellAt_of k1 2).trans rfl
  have c3 := (cellAt_of k1 3).trans rfl
  have c4 := (cellAt_of k1 4).trans rfl
  have hbf : b ∉ [fb] := by simp; omega
  have hbr : b ∉ [rb] := by simp; omega
  have m1 : q2 ∉ [fb] := by simpa using fun e => n3 e.symm
  have m2 : rb ∉ [fb] := by simpa using fun e => n4 e.symm
  have m3 : q ∉ [rb] := by simpa using n2
  have m4 : fb ∉ [rb] := by simpa using n4
  have e8 : IntKind.wrap .u8 (x.value : Int) = ((x.value % 256 : Nat) : Int) := by rw [modn_u8]
  refine ⟨_, c0, fun d => ?_, fun d0 => ⟨fun d => ?_, fun d1 => ⟨fun d => ?_, fun d2 => ?_⟩⟩⟩
  · simp only [beq_iff_eq] at d
    have hst : stepB n B x = B.set x.addr (x.value % 256) := by simp [stepB, d]
    rw [hst] at hR
    refine ⟨_, c2, _, c3, _, c2, _, c3, ?_⟩
    rw [e8]
    refine (PutByte_spec w1 a1 (b := x.value % 256) (by omega)).mono ?_
    rintro v h2 ⟨rfl, w2, f2⟩
    refine ⟨_, rfl, f2.cell c2 hbf, f2.cell c3 hbf, ?_⟩
    refine (rPutByte_spec (r1.fr f2 m1 m2) a1 (b := x.value % 256) (by omega)).mono ?_
    rintro v h3 ⟨rfl, r3, f3⟩
    refine ⟨_, rfl, hR _ _ ⟨by rw [hl]; simp [notIf], w2.fr f3 m3 m4, r3, (g1.trans (f2.mono (by simp))).trans (f3.mono (by simp))⟩⟩
  · simp only [beq_iff_eq] at d
    have hst : stepB n B x = putW n B x.addr x.value := by simp [stepB, d]
    rw [hst] at hR
    refine ⟨_, c2, _, c3, _, c2, _, c3, ?_⟩
    refine (PutWord_spec w1 a1 a2).mono ?_
    rintro v h2 ⟨rfl, w2, f2⟩
    refine ⟨_, rfl, f2.cell c2 hbf, f2.cell c3 hbf, ?_⟩
    refine (rPutWord_spec (r1.fr f2 m1 m2) hl a1 a2).mono ?_
    rintro v h3 ⟨rfl, r3, f3⟩
    refine ⟨_, rfl, hR _ _ ⟨by simp [notIf], w2.fr f3 m3 m4, r3, (g1.trans (f2.mono (by simp))).trans (f3.mono (by simp))⟩⟩
  · simp only [beq_iff_eq] at d
    have hst : stepB n B x = fillL n B x.n x.bytes := by simp [stepB, d]
    rw [hst] at hR
    refine ⟨_, _, _, c4, ?_⟩
    refine (Copy_spec (hrow _ g1) hbl).mono ?_
    rintro v h6 ⟨oa, oc, rfl, o6, fo6, f6⟩
    refine ⟨_, _, _, rfl, _, f6.cell c1 (by simp), ?_⟩
    have w6 := w1.fr f6 (by simp) (by simp)
    have r6 := r1.fr f6 (by simp) (by simp)
    have g6 := g1.trans (f6.mono (G := [fb, rb]) (by simp))
    refine (Fill_spec w6 x.n hby o6.row).mono ?_
    rintro v h7 ⟨rfl, w7, f7⟩
    have r7 := r6.fr f7 m1 m2
    have g7 := g6.trans (f7.mono (G := [fb, rb]) (by simp))
    have hfo : ∀ y ∈ foot oa, y ∉ [fb] := fun y hy => by have := (fo6 y hy).1; simp; omega
    have hfo2 : ∀ y ∈ foot oa, y ∉ [rb] := fun y hy => by have := (fo6 y hy).1; simp; omega
    have o7 := o6.fr f7 hfo
    have c1' := f7.cell (f6.cell c1 (by simp)) hbf
    have c4' := f7.cell (f6.cell c4 (by simp)) hbf
    refine ⟨_, rfl, ?_⟩
    have ed : IntKind.wrap .i64 (Int.tdiv ((B.length : Nat) : Int) 256) = (n : Int) := by
      have : Int.tdiv ((B.length : Nat) : Int) 256 = ((B.length / 256 : Nat) : Int) := rfl
      rw [this, hl, Nat.mul_div_cancel _ (by decide)]
      have := w.hi
      exact wrapS (by omega) (by omega)
    refine ⟨fun h8 => h8 = h7 ∧ isIn n x.n = true, ⟨_, c1', fun e => ?_, fun e => ⟨_, c1', _, _, _, r7.row, by decide, fun e2 => ?_, fun e2 => ⟨rfl, ?_⟩⟩⟩, ?_⟩
    · have hi : isIn n x.n = false := by simp at e; simp [isIn]; omega
      have he : fillE n x.n x.bytes.length = 11 := by simp [fillE, hi]
      simp only [fillL, he] at hR w7
      rw [he]
      exact hR _ _ ⟨rfl, w7, r7, g7⟩
    · rw [ed] at e2
      have hi : isIn n x.n = false := by simp at e2; simp [isIn]; omega
      have he : fillE n x.n x.bytes.length = 11 := by simp [fillE, hi]
      simp only [fillL, he] at hR w7
      rw [he]
      exact hR _ _ ⟨rfl, w7, r7, g7⟩
    · rw [ed] at e2
      simp at e e2; simp [isIn]; omega
    rintro h8 ⟨rfl, hi⟩
    refine ⟨_, _, _, c4', fun e => ?_, fun e => ?_⟩
    · have he : fillE n x.n x.bytes.length = 14 := by simp only [decide_eq_true_eq] at e; simp only [fillE, hi, if_true]; rw [if_pos (by omega)]
      simp only [fillL, he] at hR w7
      rw [he]
      exact hR _ _ ⟨rfl, w7, r7, g7⟩
    have hb256 : x.bytes.length ≤ 256 := by simp only [decide_eq_false_iff_not] at e; omega
    have he : fillE n x.n x.bytes.length = 0 := by simp only [fillE, hi, if_true]; rw [if_neg (by omega)]
    simp only [fillL, he, if_true] at hR w7
    rw [he]
    obtain ⟨k, hk, hkn⟩ := isIn_nat hi
    rw [hk] at c1'
    rw [hk, Int.toNat_natCast] at hR w7
    have hfl := full_len hb256
    have hwn := w.hi
    have ek : IntKind.wrap .i64 (256 * (k : Int)) = ((k * 256 : Nat) : Int) := by rw [wrapS (by omega) (by omega)]; omega
    refine ⟨fun i h9 => ∃ j : Nat, i = j ∧ j ≤ 256 ∧ RS h9 q2 rb (putR B (k * 256) ((full x.bytes).take j)) ∧ Fr [rb] h8 h9, fun i _ => 256 - i.toNat, ⟨0, rfl, by omega, by rw [putR_zero]; exact r7, Fr.refl _ _⟩, ?_⟩
    rintro i h9 ⟨j, rfl, hj, r9, f9⟩
    have g9 := g7.trans (f9.mono (G := [fb, rb]) (by simp))
    have c1'' := f9.cell c1' hbr
    have c4'' := f9.cell c4' hbr
    by_cases hj256 : j < 256
    · have hputl : (putR B (k * 256) ((full x.bytes).take j)).length = B.length := putR_len (by simp; omega)
      have e2 : IntKind.wrap .i64 ((IntKind.wrap .i64 (256 * (k : Int))) + (j : Int)) = ((k * 256 + j : Nat) : Int) := by rw [ek, wrapP (by omega)]
      have hlt : k * 256 + j < (putR B (k * 256) ((full x.bytes).take j)).length := by omega
      refine ⟨fun _ => ⟨_, _, _, r9.row, _, c1'', ?_⟩, fun hf => absurd hf (by simp; omega)⟩
      rw [e2]
      refine ⟨by omega, by omega, _, _, rfl, ?_⟩
      rw [Int.toNat_natCast, Nat.zero_add, Nat.mul_one]
      refine ⟨truly_rfl, _, _, r9.arr.hq, r9.room hlt, ?_⟩
      rintro h10 rfl
      have r10 := r9.put hlt (y := 0) (by decide)
      have f10 : Fr [rb] h9 (upd h9 rb 5 (writeAt (encL iB (putR B (k * 256) ((full x.bytes).take j)) ++ []) (k * 256 + j) [.int .u8 ((0 : Nat) : Int)])) := Fr.upd (by simp) _ _ _
      have hz : ∀ v : Nat, (writeAt (encL iB (putR B (k * 256) ((full x.bytes).take j)) ++ []) (k * 256 + j) [.int .u8 0]) = writeAt (encL iB (putR B (k * 256) ((full x.bytes).take j)) ++ []) (k * 256 + j) [.int .u8 ((0 : Nat) : Int)] := fun _ => rfl
      rw [hz 0]
      generalize upd h9 rb 5 (writeAt (encL iB (putR B (k * 256) ((full x.bytes).take j)) ++ []) (k * 256 + j) [.int .u8 ((0 : Nat) : Int)]) = h10 at *
      have hlt10 : k * 256 + j < ((putR B (k * 256) ((full x.bytes).take j)).set (k * 256 + j) 0).length := by simpa using hlt
      refine ⟨_, _, _, f10.cell c4'' hbr, fun e3 => ?_, fun e3 => ?_⟩
      · have hjl : j < x.bytes.length := by simp only [decide_eq_true_eq] at e3; omega
        obtain ⟨y, hy⟩ : ∃ y, x.bytes[j]? = some y := ⟨_, List.getElem?_eq_getElem hjl⟩
        obtain ⟨b1, o1, ea, ec⟩ := rowB_cell (hrow _ (g9.trans (f10.mono (by simp)))) hy
        refine ⟨_, _, _, r10.row, _, f10.cell c1'' hbr, _, _, _, f10.cell c4'' hbr, by omega, by omega, _, _, ea, (y : Int), by rw [Int.toNat_natCast, Nat.mul_one]; exact ec, ?_⟩
        rw [e2]
        refine ⟨by omega, by omega, _, _, rfl, ?_⟩
        rw [Int.toNat_natCast, Nat.zero_add, Nat.mul_one]
        refine ⟨truly_rfl, _, _, r10.arr.hq, r10.room hlt10, ?_⟩
        rintro h11 rfl
        have hy256 := hby y (List.mem_of_getElem? hy)
        have r11 := r10.put hlt10 (y := y) hy256
        rw [List.set_set, putR_next (y := y) (by unfold full; rw [List.getElem?_append_left hjl]; exact hy) (by omega)] at r11
        rw [wrapN hj256 (by omega)]
        exact ⟨⟨j + 1, rfl, by omega, r11, (f9.trans f10).trans (Fr.upd (by simp) _ _ _)⟩, dec hj256⟩
      · have hjl : x.bytes.length ≤ j := by simp only [decide_eq_false_iff_not] at e3; omega
        rw [putR_next (y := 0) (by unfold full; rw [List.getElem?_append_right hjl, List.getElem?_replicate, if_pos (by omega)]) (by omega)] at r10
        rw [wrapN hj256 (by omega)]
        exact ⟨⟨j + 1, rfl, by omega, r10, f9.trans f10⟩, dec hj256⟩
    have : j = 256 := by omega
    subst this
    rw [List.take_of_length_le (by omega)] at r9
    refine ⟨fun hf => absurd hf (by simp), fun _ => ?_⟩
    have w9 := w7.fr f9 m3 m4
    have o9 := o7.fr f9 hfo2
    have hfoq : ∀ y ∈ foot oa, b < y := fun y hy => by have := (fo6 y hy).1; omega
    have hge : ∀ y ∈ foot oa, sz h ≤ y := fun y hy => by have := hfoq y hy; omega
    rcases o9.2 with ⟨rfl, hn0, _⟩ | ⟨ob, rest, rfl, hob, _, _⟩
    · refine ⟨fun i h12 => i = 0 ∧ h12 = h9, fun _ _ => 0, ⟨rfl, rfl⟩, ?_⟩
      rintro i h12 ⟨rfl, rfl⟩
      exact ⟨fun hf => absurd hf (by simp [hn0]), fun _ => hR _ _ ⟨rfl, w9, r9, g9⟩⟩
    · have hob' := hfoq ob (by simp [foot])
      refine ⟨fun i h12 => ∃ (j : Nat) (M : List Nat), i = j ∧ j ≤ x.bytes.length ∧ M.length = x.bytes.length ∧ Arr iB 5 h12 ob M rest ∧ Fr [ob] h9 h12, fun i _ => x.bytes.length - i.toNat, ⟨0, _, rfl, by omega, rfl, ⟨hob⟩, Fr.refl _ _⟩, ?_⟩
      rintro i h12 ⟨j, M, rfl, hj, hM, w12, f12⟩
      by_cases hjl : j < x.bytes.length
      · obtain ⟨y, hy⟩ : ∃ y, M[j]? = some y := ⟨_, List.getElem?_eq_getElem (by omega)⟩
        have ec := arrB_cell w12 hy
        have e9 : IntKind.wrap .u8 ((y : Int) + 1) = (((y + 1) % 256 : Nat) : Int) := modn_u8 (y + 1)
        refine ⟨fun _ => ⟨by omega, by omega, _, _, rfl, (y : Int), by rw [Int.toNat_natCast, Nat.zero_add, Nat.mul_one]; exact ec, by omega, by omega, _, _, rfl, ?_⟩, fun hf => absurd hf (by simp; omega)⟩
        rw [e9, Int.toNat_natCast, Nat.zero_add, Nat.mul_one]
        refine ⟨truly_rfl, _, _, w12.hq, by rw [arrB_len w12]; omega, ?_⟩
        rintro h13 rfl
        rw [wrapN hjl (by omega)]
        exact ⟨⟨j + 1, _, rfl, by omega, by simpa using hM, arrB_put w12 (by omega) _, f12.trans (Fr.upd (by simp) _ _ _)⟩, dec hjl⟩
      · refine ⟨fun hf => absurd hf (by simp; omega), fun _ => hR _ _ ⟨rfl, w9.fr f12 (by simp; omega) (by simp; omega), r9.fr f12 (by simp; omega) (by simp; omega), g9.later f12 (by simp; omega)⟩⟩
  · simp only [beq_eq_false_iff_ne] at d0 d1 d2
    have hst : stepB n B x = B := by simp [stepB, d0, d1, d2]
    rw [hst] at hR
    exact hR _ _ ⟨rfl, w1, r1, g1⟩
end Go.Proofs.Ytdnkpgedejikcaa
