/-
  No cell of these rows narrows 'for every input' (looked for: loops, veiled, ifaces, maps, wideKeys, modest, calm, conditions, laid).
  DERIVED. THE GIVEN ROWS OF THIS SEAT. 4 by the template 'for every input the law returns true; each argument reads behind the call as it read before'; 0 by the template 'total and deterministic' (their statements: YtppoomofmiggcaaTotals.lean).
  GIVEN WITH THE SEED: the statements are not yours to turn. If you find one false, say at which input.
  Laid BY PROGRAM, IN A SANDBOX (cutbox-rows.mjs): the forced cells as the released guide's own fill.sh prints them over the translation c2ccd00a2ccf88b1… (all of the seat's roots in one cut). By AI agents, Wed Nov 11 2026. No macro, syntax, notation, axiom, sorry.
-/
import Derived.Test.YtppoomofmiggcaaChecked
import GoSem.Claim
import GoSem.ClaimJoined
import GoSem.ClaimMapViews
import Derived.JoinedTies
import Derived.KernelRfl
namespace Go.Proofs.Ytppoomofmiggcaa
/- THE CELL 'sum', in the pinned program and in every row, IS THE sha256 OF THE DUMP (.gsa) THAT YtppoomofmiggcaaProg.lean LOADS. Nothing in Lean hashes anything: it is a label: what it is worth is what the hold of that sum in a sandbox is worth. -/
noncomputable def Try.pinned : Pinned := { name := "ytppoomofmiggcaa", sum := "c2ccd00a2ccf88b1dd480dde6f0fe07c565501495f9c3cbd775ac0760098211a", checked := Try.checked }
namespace Rows
def none {H : Type} : Left H := { results := [], args := [] }

/-- 'warderlaw21.LinesGaps': WHATEVER THE INPUT: true; the input reads as it did. -/
def linesGapsSpec : ChangeSpec := { name := "linesGaps", fn := fun _ => fun
  | [d1, d2, d3] => { results := [.lit (.bool true)], args := [d1, d2, d3] }
  | _ => none }
def linesGapsRow : OpenClaim := { program := "ytppoomofmiggcaa", sum := "c2ccd00a2ccf88b1dd480dde6f0fe07c565501495f9c3cbd775ac0760098211a", func := "warder/warderlaw21.LinesGaps", spec := "linesGaps", apart := false }
def LinesGapsSaid : Prop := linesGapsRow.holds Try.pinned (OpenSpec.ofChange linesGapsSpec)

/-- ITS FALSE NEIGHBOUR: 'it returns false'. Refute it at one input. -/
def linesGapsWrong : ChangeSpec := { name := "linesGaps", fn := fun _ => fun
  | [d1, d2, d3] => { results := [.lit (.bool false)], args := [d1, d2, d3] }
  | _ => none }
def LinesGapsWrongFalsely : Prop := linesGapsRow.holds Try.pinned (OpenSpec.ofChange linesGapsWrong)

/-- 'warderlaw21.LinesLatch': WHATEVER THE INPUT: true; the input reads as it did. -/
def linesLatchSpec : ChangeSpec := { name := "linesLatch", fn := fun _ => fun
  | [d1, d2] => { results := [.lit (.bool true)], args := [d1, d2] }
  | _ => none }
def linesLatchRow : OpenClaim := { program := "ytppoomofmiggcaa", sum := "c2ccd00a2ccf88b1dd480dde6f0fe07c565501495f9c3cbd775ac0760098211a", func := "warder/warderlaw21.LinesLatch", spec := "linesLatch", apart := false }
def LinesLatchSaid : Prop := linesLatchRow.holds Try.pinned (OpenSpec.ofChange linesLatchSpec)

/-- ITS FALSE NEIGHBOUR: 'it returns false'. Refute it at one input. -/
def linesLatchWrong : ChangeSpec := { name := "linesLatch", fn := fun _ => fun
  | [d1, d2] => { results := [.lit (.bool false)], args := [d1, d2] }
  | _ => none }
def LinesLatchWrongFalsely : Prop := linesLatchRow.holds Try.pinned (OpenSpec.ofChange linesLatchWrong)

/-- 'warderlaw21.LinesApart': WHATEVER THE INPUT: true; the input reads as it did. -/
def linesApartSpec : ChangeSpec := { name := "linesApart", fn := fun _ => fun
  | [d1, d2, d3, d4] => { results := [.lit (.bool true)], args := [d1, d2, d3, d4] }
  | _ => none }
def linesApartRow : OpenClaim := { program := "ytppoomofmiggcaa", sum := "c2ccd00a2ccf88b1dd480dde6f0fe07c565501495f9c3cbd775ac0760098211a", func := "warder/warderlaw21.LinesApart", spec := "linesApart", apart := false }
def LinesApartSaid : Prop := linesApartRow.holds Try.pinned (OpenSpec.ofChange linesApartSpec)

/-- ITS FALSE NEIGHBOUR: 'it returns false'. Refute it at one input. -/
def linesApartWrong : ChangeSpec := { name := "linesApart", fn := fun _ => fun
  | [d1, d2, d3, d4] => { results := [.lit (.bool false)], args := [d1, d2, d3, d4] }
  | _ => none }
def LinesApartWrongFalsely : Prop := linesApartRow.holds Try.pinned (OpenSpec.ofChange linesApartWrong)

/-- 'warderlaw21.LinesCuts': WHATEVER THE INPUT: true; the input reads as it did. -/
def linesCutsSpec : ChangeSpec := { name := "linesCuts", fn := fun _ => fun
  | [d1, d2, d3] => { results := [.lit (.bool true)], args := [d1, d2, d3] }
  | _ => none }
def linesCutsRow : OpenClaim := { program := "ytppoomofmiggcaa", sum := "c2ccd00a2ccf88b1dd480dde6f0fe07c565501495f9c3cbd775ac0760098211a", func := "warder/warderlaw21.LinesCuts", spec := "linesCuts", apart := false }
def LinesCutsSaid : Prop := linesCutsRow.holds Try.pinned (OpenSpec.ofChange linesCutsSpec)

/-- ITS FALSE NEIGHBOUR: 'it returns false'. Refute it at one input. -/
def linesCutsWrong : ChangeSpec := { name := "linesCuts", fn := fun _ => fun
  | [d1, d2, d3] => { results := [.lit (.bool false)], args := [d1, d2, d3] }
  | _ => none }
def LinesCutsWrongFalsely : Prop := linesCutsRow.holds Try.pinned (OpenSpec.ofChange linesCutsWrong)

/- THE SECOND FORM. 'bulk': how many values and letters a reading holds, each counted each time it is reached (what is shared counts as often as it is met; a slice's spare places count too). A statement '..UptoSaid' is the law's where the arguments, and the package variables that the reading takes, are together of bulk at most 1048576: NARROWER than '..Said'. Prove '..Said' where nothing that the law and all that it calls make is longer than what came in: it says more and counts as full. Else prove '..UptoSaid'. A law counts once. -/
mutual
def uptoBulk {H : Type} : DataW H → Nat
  | .lit (.string bytes) => bytes.length + 1
  | .lit _ => 1
  | .nil => 1
  | .ptr d => uptoBulk d + 1
  | .slice elems spare => uptoBulkAll elems + uptoBulkAll spare + 1
  | .agg parts => uptoBulkAll parts + 1
  | .iface _ d => uptoBulk d + 1
  | .map entries => uptoBulkEntries entries + 1
  | .held _ => 1
def uptoBulkAll {H : Type} : List (DataW H) → Nat
  | [] => 0
  | d :: r => uptoBulk d + uptoBulkAll r
def uptoBulkEntries {H : Type} : List (Lit × DataW H) → Nat
  | [] => 0
  | x :: r => uptoBulkEntry x + uptoBulkEntries r
def uptoBulkEntry {H : Type} : Lit × DataW H → Nat
  | (.string bytes, d) => bytes.length + uptoBulk d + 1
  | (_, d) => uptoBulk d + 1
 end
def uptoSmall : (H : Type) → List (DataW H) → Bool := fun _ ds => decide (uptoBulkAll ds ≤ 1048576)
def OpenSpec.upto (s : _root_.Go.ChangeSpec) : _root_.Go.OpenSpec := { _root_.Go.OpenSpec.ofChange s with cond := some uptoSmall }

/-- 'warderlaw21.LinesGaps', WHERE WHAT IT READS IS OF BULK AT MOST 1048576: true; the input reads as it did. -/
def linesGapsUptoRow : OpenClaim := { program := "ytppoomofmiggcaa", sum := "c2ccd00a2ccf88b1dd480dde6f0fe07c565501495f9c3cbd775ac0760098211a", func := "warder/warderlaw21.LinesGaps", spec := "linesGaps", apart := false, narrowed := true }
def LinesGapsUptoSaid : Prop := linesGapsUptoRow.holds Try.pinned (OpenSpec.upto linesGapsSpec)

/-- 'warderlaw21.LinesLatch', WHERE WHAT IT READS IS OF BULK AT MOST 1048576: true; the input reads as it did. -/
def linesLatchUptoRow : OpenClaim := { program := "ytppoomofmiggcaa", sum := "c2ccd00a2ccf88b1dd480dde6f0fe07c565501495f9c3cbd775ac0760098211a", func := "warder/warderlaw21.LinesLatch", spec := "linesLatch", apart := false, narrowed := true }
def LinesLatchUptoSaid : Prop := linesLatchUptoRow.holds Try.pinned (OpenSpec.upto linesLatchSpec)

/-- 'warderlaw21.LinesApart', WHERE WHAT IT READS IS OF BULK AT MOST 1048576: true; the input reads as it did. -/
def linesApartUptoRow : OpenClaim := { program := "ytppoomofmiggcaa", sum := "c2ccd00a2ccf88b1dd480dde6f0fe07c565501495f9c3cbd775ac0760098211a", func := "warder/warderlaw21.LinesApart", spec := "linesApart", apart := false, narrowed := true }
def LinesApartUptoSaid : Prop := linesApartUptoRow.holds Try.pinned (OpenSpec.upto linesApartSpec)

/-- 'warderlaw21.LinesCuts', WHERE WHAT IT READS IS OF BULK AT MOST 1048576: true; the input reads as it did. -/
def linesCutsUptoRow : OpenClaim := { program := "ytppoomofmiggcaa", sum := "c2ccd00a2ccf88b1dd480dde6f0fe07c565501495f9c3cbd775ac0760098211a", func := "warder/warderlaw21.LinesCuts", spec := "linesCuts", apart := false, narrowed := true }
def LinesCutsUptoSaid : Prop := linesCutsUptoRow.holds Try.pinned (OpenSpec.upto linesCutsSpec)

end Rows
end Go.Proofs.Ytppoomofmiggcaa
