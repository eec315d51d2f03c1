import Derived.Test.YtopfdfcbhclolaaWc
import Derived.Test.YtopfdfcbhclolaaWdRow
namespace Go.Proofs.Ytopfdfcbhclolaa
open Go Go.Wd
set_option linter.unusedVariables false
set_option linter.unusedSimpArgs false

structure Pt where
  addr : Nat
  value : Nat
def Pt.cells (x : Pt) : List Value := [.int .u32 x.addr, .int .u32 x.value]
theorem Pt.len (x : Pt) : x.cells.length = 2 := rfl
def Pt.ok (x : Pt) : Prop := x.addr < 4294967296 ∧ x.value < 4294967296
theorem rows_p {rows : List (List Value)} (hw : ∀ r ∈ rows, wfCells [.int .u32, .int .u32] r) : ∃ l : List Pt, rows.length = l.length ∧ rows.flatten = encL Pt.cells l ∧ ∀ x ∈ l, x.ok :=
  rows_enc (f := Pt.cells) (ok := Pt.ok) (rows := rows) (fun r hr => by
    obtain ⟨v1, r, rfl, h1, h⟩ := wfCells_cons (hw r hr)
    obtain ⟨v2, r, rfl, h2, h⟩ := wfCells_cons h
    obtain rfl := wfCells_nil h
    obtain ⟨b1, rfl, l1, u1⟩ := wfInt h1
    obtain ⟨b2, rfl, l2, u2⟩ := wfInt h2
    rw [min_u32] at l1 l2
    rw [max_u32] at u1 u2
    exact ⟨⟨b1.toNat, b2.toNat⟩, by simp only [Pt.cells]; rw [Int.toNat_of_nonneg l1, Int.toNat_of_nonneg l2], by unfold Pt.ok; dsimp only; omega⟩)

def putsB (n : Nat) (L : List Pt) : List Nat := L.foldl (fun B x => putW n B x.addr x.value) (List.replicate (n * 256) 0)
theorem puts_next {n : Nat} {L : List Pt} {k : Nat} {x : Pt} (hx : L[k]? = some x) : putsB n (L.take (k + 1)) = putW n (putsB n (L.take k)) x.addr x.value := by
  unfold putsB
  rw [take_one hx, List.foldl_append]; rfl
theorem fr_out {a h h' : Hp} {F : List Nat} (f : Fr [] a h) (k : Fr F h h') (hs : ∀ x ∈ F, sz a ≤ x) : Fr [] a h' := f.later k hs

set_option maxHeartbeats 1000000 in
theorem Both_spec {h : Hp} {n : Nat} (h1n : 1 ≤ n) (hn : n ≤ 1024) {a : Option Addr} {c : Nat} {L : List Pt} (g : rowAtK h a (encL Pt.cells L)) (hok : ∀ x ∈ L, x.ok) (hl : L.length ≤ 1000000) :
    CallsH Try.prog 10 [.int .i64 n, .slice a L.length c] h fun v h' => ∃ q fb q2 rb : Nat, v = .tuple #[.pointer (some ⟨q, 0, none⟩), .pointer (some ⟨q2, 0, none⟩)] ∧ MS h' q fb n (putsB n L) ∧ RS h' q2 rb (putsB n L) ∧
      (sz h ≤ q ∧ sz h ≤ fb ∧ sz h ≤ q2 ∧ sz h ≤ rb ∧ q ≠ q2 ∧ q ≠ rb ∧ fb ≠ q2 ∧ fb ≠ rb) ∧ Fr [] h h' := by
  refine calls_k fun R hR => ?_
  apply warderlaw07_Both.calls
  unfold warderlaw07_Both.P
  refine (new_spec h1n hn).mono ?_
  rintro v h3 ⟨rfl, w3, f3, s3⟩
  refine ⟨_, _, rfl, fun h4 => h4 = h3, ⟨fun hc => absurd hc (by simp), fun _ => ⟨fun hc => absurd hc (by simp [notIf]), fun _ => rfl⟩⟩, ?_⟩
  rintro h4 rfl
  refine (rnew_spec (n := n) hn).mono ?_
  rintro v h6 ⟨rfl, r6, f6, s6⟩
  refine ⟨_, rfl, ?_⟩
  have w6 := w3.fr f6 (by simp) (by simp)
  have e1 : sz h + 1 ≠ sz h4 + 1 := by omega
  have e2 : sz h + 1 ≠ sz h4 := by omega
  have e3 : sz h ≠ sz h4 + 1 := by omega
  have e4 : sz h ≠ sz h4 := by omega
  have fr6 := f3.trans f6
  have gq : sz h ≤ sz h + 1 := by omega
  have gf : sz h ≤ sz h := by omega
  have gq2 : sz h ≤ sz h4 + 1 := by omega
  have gr : sz h ≤ sz h4 := by omega
  clear s3 s6
  generalize sz h4 + 1 = q2 at *
  generalize sz h4 = rb at *
  generalize sz h + 1 = q at *
  have hsz : sz h = sz h := rfl
  obtain ⟨fb, hfb⟩ : ∃ fb, fb = sz h := ⟨_, rfl⟩
  rw [← hfb] at w6 e3 e4
  replace gf : sz h ≤ fb := by omega
  have hB : putsB n L = putsB n (L.take L.length) := by rw [List.take_length]
  rw [hB] at hR
  refine ⟨fun i h7 => ∃ k : Nat, i = k ∧ k ≤ L.length ∧ MS h7 q fb n (putsB n (L.take k)) ∧ RS h7 q2 rb (putsB n (L.take k)) ∧ Fr [] h h7, fun i _ => L.length - i.toNat, ⟨0, rfl, by omega, w6, r6, fr6⟩, ?_⟩
  rintro i h7 ⟨k, rfl, hk, w7, r7, f7⟩
  by_cases hkl : k < L.length
  · refine ⟨fun _ => ?_, fun hf => absurd hf (by simp; omega)⟩
    obtain ⟨x, hx⟩ : ∃ x, L[k]? = some x := ⟨_, List.getElem?_eq_getElem hkl⟩
    obtain ⟨ok1, ok2⟩ := hok x (List.mem_of_getElem? hx)
    have key : ∀ h8, Fr [] h h8 → ∃ b o, a = some ⟨b, o, none⟩ ∧ cellAt h8 b (o + (k : Int).toNat * 2) = some (.int .u32 x.addr) ∧ cellAt h8 b (o + (k : Int).toNat * 2 + 1) = some (.int .u32 x.value) := by
      intro h8 f8
      obtain ⟨b1, o1, ha, e1'⟩ := encL_one (f := Pt.cells) (m := 2) Pt.len (g.fr f8 (by simp)) hx (by omega)
      exact ⟨b1, o1, ha, e1' 0 (by omega), e1' 1 (by omega)⟩
    obtain ⟨b, o, ha, c1, c2⟩ := key h7 f7
    refine ⟨by omega, by omega, _, _, ha, _, c1, by omega, by omega, _, _, ha, _, c2, ?_⟩
    refine (PutWord_spec w7 ok1 ok2).mono ?_
    rintro v h8 ⟨rfl, w8, f8⟩
    have fr8 := fr_out f7 f8 (by simpa using gf)
    have r8 := r7.fr f8 (by simpa using e3.symm) (by simpa using e4.symm)
    obtain ⟨b, o, ha, c1, c2⟩ := key h8 fr8
    refine ⟨_, rfl, by omega, by omega, _, _, ha, _, c1, by omega, by omega, _, _, ha, _, c2, ?_⟩
    have hlen : (putsB n (L.take k)).length = n * 256 := w7.len
    refine (rPutWord_spec r8 hlen ok1 ok2).mono ?_
    rintro v h9 ⟨rfl, r9, f9⟩
    have fr9 := fr_out fr8 f9 (by simpa using gr)
    have w9 := w8.fr f9 (by simpa using e2) (by simpa using e4)
    rw [wrapN hkl hl]
    rw [← puts_next hx] at w9 r9
    exact ⟨_, rfl, ⟨k + 1, rfl, by omega, w9, r9, fr9⟩, decM hkl⟩
  · have : k = L.length := by omega
    subst this
    exact ⟨fun hf => absurd hf (by simp), fun _ => hR _ _ ⟨q, fb, q2, rb, rfl, w7, r7, ⟨gq, gf, gq2, gr, e1, e2, e3, e4⟩, f7⟩⟩

def greatB (n : Int) (l : Nat) : Bool := decide (n < 1) || decide (n > 100) || decide (l > 100)
theorem great_no {n : Int} {l : Nat} (h : greatB n l = false) : ∃ m : Nat, n = m ∧ 1 ≤ m ∧ m ≤ 100 ∧ l ≤ 100 := by
  simp only [greatB, Bool.or_eq_false_iff, decide_eq_false_iff_not] at h
  exact ⟨n.toNat, by omega, by omega, by omega, by omega⟩
end Go.Proofs.Ytopfdfcbhclolaa
