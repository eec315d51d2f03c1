import Derived.Test.YtmldiibfmhkgjaaWc
import Derived.Test.YtmldiibfmhkgjaaWdRow
namespace Go.Proofs.Ytmldiibfmhkgjaa
open Go Go.Wd
set_option linter.unusedVariables false
set_option linter.unusedSimpArgs false

structure Pt where
  addr : Nat
  value : Nat
def Pt.cells (x : Pt) : List Value := [.int .u32 x.addr, .int .u32 x.value]
theorem Pt.len (x : Pt) : x.cells.length = 2 := rfl
def Pt.ok (x : Pt) : Prop := x.addr < 4294967296 ∧ x.value < 4294967296
theorem rows_p {rows : List (List Value)} (hw : ∀ r ∈ rows, wfCells [.int .u32, .int .u32] r) : ∃ l : List Pt, rows.length = l.length ∧ rows.flatten = encL Pt.cells l ∧ ∀ x ∈ l, x.ok :=
  rows_enc (f := Pt.cells) (ok := Pt.ok) (rows := rows) (fun r hr => by
    obtain ⟨v1, r, rfl, h1, h⟩ := wfCells_cons (hw r hr)
    obtain ⟨v2, r, rfl, h2, h⟩ := wfCells_cons h
    obtain rfl := wfCells_nil h
    obtain ⟨b1, rfl, l1, u1⟩ := wfInt h1
    obtain ⟨b2, rfl, l2, u2⟩ := wfInt h2
    rw [min_u32] at l1 l2
    rw [max_u32] at u1 u2
    exact ⟨⟨b1.toNat, b2.toNat⟩, by simp only [Pt.cells]; rw [Int.toNat_of_nonneg l1, Int.toNat_of_nonneg l2], by unfold Pt.ok; dsimp only; omega⟩)

def putsB (n : Nat) (L : List Pt) : List Nat := L.foldl (fun B x => putW n B x.addr x.value) (List.replicate (n * 256) 0)
theorem puts_next {n : Nat} {L : List Pt} {k : Nat} {x : Pt} (hx : L[k]? = some x) : putsB n (L.take (k + 1)) = putW n (putsB n (L.take k)) x.addr x.value := by
  unfold putsB
  rw [take_one hx, List.foldl_append]; rfl
theorem fr_out {a h h' : Hp} {F : List Nat} (f : Fr [] a h) (k : Fr F h h') (hs : ∀ x ∈ F, sz a ≤ x) : Fr [] a h' := f.later k hs

def greatB (n : Int) (l : Nat) : Bool := decide (n < 1) || decide (n > 100) || decide (l > 100)
theorem great_no {n : Int} {l : Nat} (h : greatB n l = false) : ∃ m : Nat, n = m ∧ 1 ≤ m ∧ m ≤ 100 ∧ l ≤ 100 := by
  simp only [greatB, Bool.or_eq_false_iff, decide_eq_false_iff_not] at h
  exact ⟨n.toNat, by omega, by omega, by omega, by omega⟩
end Go.Proofs.Ytmldiibfmhkgjaa
