import Derived.Test.YtdnkpgedejikcaaPe
import Derived.Test.YtdnkpgedejikcaaWdRow
namespace Go.Proofs.Ytdnkpgedejikcaa
open Go Go.Wd
set_option linter.unusedVariables false
set_option linter.unusedSimpArgs false

/-! ## the rows of calls -/
structure Q.fit (h : Hp) (x : Q) : Prop where
  ok : x.ok h
  sz : x.bytes.length ≤ 140737488355328
theorem rows_b {rows : List (List Value)} (hw : ∀ r ∈ rows, wfCells [.int .u8] r) : ∃ l : List Nat, rows.length = l.length ∧ rows.flatten = encL iB l ∧ Byt l :=
  rows_enc (f := iB) (ok := fun x => x < 256) (rows := rows) (fun r hr => by
    obtain ⟨v1, r, rfl, h1, h⟩ := wfCells_cons (hw r hr)
    obtain rfl := wfCells_nil h
    obtain ⟨b1, rfl, g1, g2⟩ := wfInt h1
    simp only [min_u8, max_u8] at g1 g2
    refine ⟨b1.toNat, ?_, by omega⟩
    simp only [iB]
    rw [Int.toNat_of_nonneg g1])
theorem rows_q {h : Hp} {rows : List (List Value)} (hw : ∀ r ∈ rows, wfD h [.one (.int .i64), .one (.int .i64), .one (.int .u32), .one (.int .u32), .row [.int .u8]] r) :
    ∃ l : List Q, rows.length = l.length ∧ rows.flatten = encL Q.cells l ∧ ∀ x ∈ l, x.fit h :=
  rows_enc (f := Q.cells) (ok := Q.fit h) (rows := rows) (fun r hr => by
    obtain ⟨v1, r, rfl, h1, k⟩ := wfD_one (hw r hr)
    obtain ⟨v2, r, rfl, h2, k⟩ := wfD_one k
    obtain ⟨v3, r, rfl, h3, k⟩ := wfD_one k
    obtain ⟨v4, r, rfl, h4, k⟩ := wfD_one k
    obtain ⟨a, n, c, rws, r, rfl, e1, e2, e3, e4, e5, k⟩ := wfD_row k
    obtain rfl := wfD_nil k
    obtain ⟨b1, rfl, _, _⟩ := wfInt h1
    obtain ⟨b2, rfl, _, _⟩ := wfInt h2
    obtain ⟨b3, rfl, g1, g2⟩ := wfInt h3
    obtain ⟨b4, rfl, g3, g4⟩ := wfInt h4
    simp only [min_u32, max_u32] at g1 g2 g3 g4
    obtain ⟨l, l1, l2, l3⟩ := rows_b e4
    rw [l2] at e5
    have hn : n = l.length := by omega
    subst hn
    refine ⟨⟨b1, b2, b3.toNat, b4.toNat, a, c, l⟩, ?_, ⟨⟨by show b3.toNat < _; omega, by show b4.toNat < _; omega, l3, e5⟩, ?_⟩⟩
    · simp only [Q.cells]
      rw [Int.toNat_of_nonneg g1, Int.toNat_of_nonneg g3]
    · show l.length ≤ _
      omega)

theorem great_spec {h : Hp} {a : Option Addr} {c : Nat} {l : List Q} (g1 : rowAtK h a (encL Q.cells l)) (hf : ∀ x ∈ l, x.bytes.length ≤ 140737488355328) :
    CallsH Try.prog 16 [.slice a l.length c] h fun v h' => ∃ b, v = .bool b ∧ h' = h ∧ (b = false → l.length ≤ 60 ∧ ∀ x ∈ l, x.bytes.length ≤ 3000) := by
  refine calls_k fun R hR => ?_
  apply warderlaw04_Great.calls
  unfold warderlaw04_Great.P
  refine ⟨fun _ => hR _ _ ⟨true, rfl, rfl, by simp⟩, fun c1 => ?_⟩
  have hl : l.length ≤ 60 := by simp only [decide_eq_false_iff_not] at c1; omega
  refine ⟨fun n i h1 => ∃ (k m : Nat), i = k ∧ k ≤ l.length ∧ n = m ∧ m ≤ 3000 ∧ h1 = h ∧ ∀ x ∈ l.take k, x.bytes.length ≤ 3000, fun _ i _ => l.length - i.toNat, ⟨0, 0, rfl, by omega, rfl, by omega, rfl, by simp⟩, ?_⟩
  rintro n i h1 ⟨k, m, rfl, hk, rfl, hm, rfl, hno⟩
  by_cases hkl : k < l.length
  · obtain ⟨x, hx⟩ : ∃ x, l[k]? = some x := ⟨_, List.getElem?_eq_getElem hkl⟩
    obtain ⟨b1, o1, rfl, e1⟩ := encL_one (f := Q.cells) (m := 5) Q.len g1 hx (by omega)
    have hxl := hf x (List.mem_of_getElem? hx)
    have e : IntKind.wrap .i64 ((m : Int) + ((x.bytes.length : Nat) : Int)) = ((m + x.bytes.length : Nat) : Int) := by rw [wrap_i64 (by omega) (by omega)]; omega
    refine ⟨fun _ => ⟨by omega, by omega, _, _, rfl, _, _, _, by rw [Int.toNat_natCast]; exact e1 4 (by omega), ?_⟩, fun hf => absurd hf (by simp; omega)⟩
    rw [e]
    refine ⟨fun _ => hR _ _ ⟨true, rfl, rfl, by simp⟩, fun c2 => ?_⟩
    have c2 : m + x.bytes.length ≤ 3000 := by simp only [decide_eq_false_iff_not] at c2; omega
    rw [wrapN hkl (by omega)]
    refine ⟨⟨k + 1, _, rfl, by omega, rfl, c2, rfl, ?_⟩, dec hkl⟩
    intro y hy
    rw [take_one hx] at hy
    rcases List.mem_append.1 hy with hy | hy
    · exact hno y hy
    · simp at hy; subst hy; omega
  · have : k = l.length := by omega
    subst this
    rw [List.take_length] at hno
    exact ⟨fun hf => absurd hf (by simp), fun _ => hR _ _ ⟨false, rfl, rfl, fun _ => ⟨hl, hno⟩⟩⟩

/-- One call more of a law's row. -/
theorem told_step {h0 h : Hp} {q fb q2 rb n : Nat} {B : List Nat} (w : MS h q fb n B) (r : RS h q2 rb B) (n1 : q ≠ q2) (n2 : q ≠ rb) (n3 : fb ≠ q2) (n4 : fb ≠ rb) {x : Q}
    (k : x.ok h0) (hb : x.bytes.length ≤ 3000) (f : Fr [] h0 h) (gf : sz h0 ≤ fb) (gr : sz h0 ≤ rb) :
    CallsH Try.prog 19 [.pointer (some ⟨q, 0, none⟩), .pointer (some ⟨q2, 0, none⟩), .agg ⟨x.cells⟩] h fun v h' => v = .bool true ∧ MS h' q fb n (stepB n B x) ∧ RS h' q2 rb (stepB n B x) ∧ Fr [] h0 h' ∧ Fr [fb, rb] h h' := by
  have late : ∀ h', Fr [fb, rb] h h' → Fr [] h0 h' := fun h' g => f.later g (by simp; omega)
  refine (told_spec w r n1 n2 n3 n4 x k.a1 k.a2 k.byt (by omega) (fun h' g => k.row.fr (late h' g) (by simp))).mono ?_
  rintro v h' ⟨rfl, w', r', f'⟩
  exact ⟨rfl, w', r', late h' f', f'⟩

/-! ## a memory lives -/
def z0 : List Nat := List.replicate (2 * 256) 0
def z1 : List Nat := putW 2 z0 4 16909060
def z2 : List Nat := z1.set 600 1
def z3 : List Nat := fillL 2 z2 1 [7, 8]
set_option maxRecDepth 100000 in
theorem z_facts : wordOk 2 4 = true ∧ decide (600 < 2 * 256) = false ∧ fillE 2 1 2 = 0 ∧ z3.getD 5 0 = 3 ∧ decide (5 < 2 * 256) = true ∧ wordOk 2 256 = true ∧ leN z3 256 4 = 2055 ∧ wordOk 2 5 = false ∧ diffs 2 z3 z2 = [1] := by
  decide +kernel
theorem alive_spec (h : Hp) : CallsH Try.prog 8 [] h fun v h' => v = .bool true ∧ Fr [] h h' := by
  refine calls_k fun R hR => ?_
  apply warderlaw04_alive.calls
  unfold warderlaw04_alive.P
  obtain ⟨e1, e2, e3, e4, e5, e6, e7, e8, e9⟩ := z_facts
  refine (new_spec (n := 2) (by omega) (by omega)).mono ?_
  rintro v h1 ⟨rfl, w1, f1, s1⟩
  have gf : sz h ≤ sz h := Nat.le_refl _
  have gq : sz h ≤ sz h + 1 := by omega
  generalize sz h + 1 = q at *
  generalize hfb : sz h = fb at w1 gq
  have gf : sz h ≤ fb := by omega
  have w1 : MS h1 q fb 2 z0 := w1
  refine ⟨_, _, rfl, fun h2 => h2 = h1, ⟨fun hc => absurd hc (by simp), fun _ => ⟨fun hc => absurd hc (by simp [notIf]), fun _ => rfl⟩⟩, ?_⟩
  rintro h2 rfl
  refine (PutWord_spec w1 (a := 4) (by omega) (x := 16909060) (by omega)).mono ?_
  rintro v h3 ⟨rfl, w3, f3⟩
  have w3 : MS h3 q fb 2 z1 := w3
  refine ⟨_, rfl, ?_⟩
  refine (PutByte_spec w3 (a := 600) (by omega) (b := 1) (by omega)).mono ?_
  rintro v h4 ⟨rfl, w4, f4⟩
  have w4 : MS h4 q fb 2 z2 := w4
  refine ⟨_, rfl, ?_⟩
  refine (Clone_spec w4).mono ?_
  rintro v h5 ⟨q', fb', rfl, v5, gq', gf', f5⟩
  refine ⟨_, rfl, ?_⟩
  rintro h6 rfl
  have f6 : Fr [] h5 (new h5 (blk 5 [.int .u8 7, .int .u8 8])) := Fr.new _ _ _
  have rr : rowAtK (new h5 (blk 5 [.int .u8 7, .int .u8 8])) (some ⟨sz h5, 0, none⟩) (encL iB [7, 8]) := .inr ⟨_, 0, rfl, readAt_of (new_at _ _) 0 _ rfl⟩
  have w5 := w4.fr f5 (by simp) (by simp)
  have w6 := w5.fr f6 (by simp) (by simp)
  have v6 := v5.fr f6 (by simp) (by simp)
  generalize new h5 (blk 5 [.int .u8 7, .int .u8 8]) = h6 at *
  have lf4 := w4.ltf
  refine (Fill_spec (c := 2) w6 1 (b := [7, 8]) (by intro x hx; simp at hx; omega) rr).mono ?_
  rintro v h7 ⟨rfl, w7, f7⟩
  have w7 : MS h7 q fb 2 z3 := w7
  have v7 := v6.fr f7 (by have := w4.lt; simp; omega) (by simp; omega)
  refine ⟨_, rfl, fun hc => absurd hc (by simp [notIf]), fun _ => ?_⟩
  refine (Byte_spec w7 (a := 5) (by omega)).mono ?_
  rintro v h8 ⟨rfl, rfl⟩
  refine ⟨_, _, rfl, ?_⟩
  refine (Word_spec w7 (a := 256) (by omega)).mono ?_
  rintro v h8 ⟨rfl, rfl⟩
  refine ⟨_, _, rfl, ?_⟩
  refine (Word_spec w7 (a := 5) (by omega)).mono ?_
  rintro v h8 ⟨rfl, rfl⟩
  refine ⟨_, _, rfl, ?_⟩
  rw [e1, e2, e4, e5, e6, e7, e8, show ([7, 8] : List Nat).length = 2 from rfl, e3]
  refine ⟨fun _ => ⟨fun _ => ⟨fun _ => ⟨fun _ => ⟨fun _ => ⟨fun _ => ⟨fun _ => ⟨fun _ => ?_, fun c => absurd c (by simp)⟩, fun c => absurd c (by simp)⟩, fun c => absurd c (by simp)⟩, fun c => absurd c (by simp)⟩, fun c => absurd c (by simp)⟩, fun c => absurd c (by simp)⟩, fun c => absurd c (by simp)⟩, fun c => absurd c (by simp)⟩
  refine (Differ_spec w7 v7).mono ?_
  rw [e9]
  rintro v h9 ⟨a9, c9, rfl, r9, _, f9⟩
  refine ⟨_, _, _, rfl, ?_⟩
  rintro h10 rfl
  have f10 : Fr [] h9 (new h9 (blk 3 [.int .i64 1])) := Fr.new _ _ _
  have rr : rowAtK (new h9 (blk 3 [.int .i64 1])) (some ⟨sz h9, 0, none⟩) (encL iN [1]) := .inr ⟨_, 0, rfl, readAt_of (new_at _ _) 0 _ rfl⟩
  refine (SameN_spec (c := c9) (d := 1) (r9.fr f10 (by simp)) rr (by simp)).mono ?_
  rintro v h11 ⟨rfl, rfl⟩
  refine ⟨_, rfl, fun _ => ?_, fun c => absurd c (by simp)⟩
  refine (Frames_spec ((w7.fr f9 (by simp) (by simp)).fr f10 (by simp) (by simp))).mono ?_
  rintro v h12 ⟨rfl, rfl⟩
  refine ⟨_, rfl, hR _ _ ⟨rfl, ?_⟩⟩
  exact ((((((f1.later f3 (by simp; omega)).later f4 (by simp; omega)).trans f5).trans f6).later f7 (by simp; omega)).trans f9).trans f10
end Go.Proofs.Ytdnkpgedejikcaa
