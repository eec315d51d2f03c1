/-
  No cell of these rows narrows 'for every input' (looked for: loops, veiled, ifaces, maps, wideKeys, modest, calm, conditions, laid).
  DERIVED. THE GIVEN ROWS OF THIS SEAT. 4 by the template 'for every input the law returns true; each argument reads behind the call as it read before'; 0 by the template 'total and deterministic' (their statements: YtgajaoophcljnaaTotals.lean).
  GIVEN WITH THE SEED: the statements are not yours to turn. If you find one false, say at which input.
  Laid BY PROGRAM, IN A SANDBOX (cutbox-rows.mjs): the forced cells as the released guide's own fill.sh prints them over the translation 30b79d3e8c5e1c98… (all of the seat's roots in one cut). By AI agents, Wed Nov 11 2026. No macro, syntax, notation, axiom, sorry.
-/
import Derived.Test.YtgajaoophcljnaaChecked
import GoSem.Claim
import GoSem.ClaimJoined
import GoSem.ClaimMapViews
import Derived.JoinedTies
import Derived.KernelRfl
namespace Go.Proofs.Ytgajaoophcljnaa
/- THE CELL 'sum', in the pinned program and in every row, IS THE sha256 OF THE DUMP (.gsa) THAT YtgajaoophcljnaaProg.lean LOADS. Nothing in Lean hashes anything: it is a label: what it is worth is what the hold of that sum in a sandbox is worth. -/
noncomputable def Try.pinned : Pinned := { name := "ytgajaoophcljnaa", sum := "30b79d3e8c5e1c986d0d443038b266f7b74f3ea277e9eb5b1fa466d38dd9b826", checked := Try.checked }
namespace Rows
def none {H : Type} : Left H := { results := [], args := [] }

/-- 'warderlaw16.RefillLater': WHATEVER THE INPUT: true; the input reads as it did. -/
def refillLaterSpec : ChangeSpec := { name := "refillLater", fn := fun _ => fun
  | [d1, d2] => { results := [.lit (.bool true)], args := [d1, d2] }
  | _ => none }
def refillLaterRow : OpenClaim := { program := "ytgajaoophcljnaa", sum := "30b79d3e8c5e1c986d0d443038b266f7b74f3ea277e9eb5b1fa466d38dd9b826", func := "warder/warderlaw16.RefillLater", spec := "refillLater", apart := false }
def RefillLaterSaid : Prop := refillLaterRow.holds Try.pinned (OpenSpec.ofChange refillLaterSpec)

/-- ITS FALSE NEIGHBOUR: 'it returns false'. Refute it at one input. -/
def refillLaterWrong : ChangeSpec := { name := "refillLater", fn := fun _ => fun
  | [d1, d2] => { results := [.lit (.bool false)], args := [d1, d2] }
  | _ => none }
def RefillLaterWrongFalsely : Prop := refillLaterRow.holds Try.pinned (OpenSpec.ofChange refillLaterWrong)

/-- 'warderlaw16.RefillSums': WHATEVER THE INPUT: true; the input reads as it did. -/
def refillSumsSpec : ChangeSpec := { name := "refillSums", fn := fun _ => fun
  | [d1, d2, d3] => { results := [.lit (.bool true)], args := [d1, d2, d3] }
  | _ => none }
def refillSumsRow : OpenClaim := { program := "ytgajaoophcljnaa", sum := "30b79d3e8c5e1c986d0d443038b266f7b74f3ea277e9eb5b1fa466d38dd9b826", func := "warder/warderlaw16.RefillSums", spec := "refillSums", apart := false }
def RefillSumsSaid : Prop := refillSumsRow.holds Try.pinned (OpenSpec.ofChange refillSumsSpec)

/-- ITS FALSE NEIGHBOUR: 'it returns false'. Refute it at one input. -/
def refillSumsWrong : ChangeSpec := { name := "refillSums", fn := fun _ => fun
  | [d1, d2, d3] => { results := [.lit (.bool false)], args := [d1, d2, d3] }
  | _ => none }
def RefillSumsWrongFalsely : Prop := refillSumsRow.holds Try.pinned (OpenSpec.ofChange refillSumsWrong)

/-- 'warderlaw16.RefillOne': WHATEVER THE INPUT: true; the input reads as it did. -/
def refillOneSpec : ChangeSpec := { name := "refillOne", fn := fun _ => fun
  | [d] => { results := [.lit (.bool true)], args := [d] }
  | _ => none }
def refillOneRow : OpenClaim := { program := "ytgajaoophcljnaa", sum := "30b79d3e8c5e1c986d0d443038b266f7b74f3ea277e9eb5b1fa466d38dd9b826", func := "warder/warderlaw16.RefillOne", spec := "refillOne", apart := false }
def RefillOneSaid : Prop := refillOneRow.holds Try.pinned (OpenSpec.ofChange refillOneSpec)

/-- ITS FALSE NEIGHBOUR: 'it returns false'. Refute it at one input. -/
def refillOneWrong : ChangeSpec := { name := "refillOne", fn := fun _ => fun
  | [d] => { results := [.lit (.bool false)], args := [d] }
  | _ => none }
def RefillOneWrongFalsely : Prop := refillOneRow.holds Try.pinned (OpenSpec.ofChange refillOneWrong)

/-- 'warderlaw16.RefillCalls': WHATEVER THE INPUT: true; the input reads as it did. -/
def refillCallsSpec : ChangeSpec := { name := "refillCalls", fn := fun _ => fun
  | [d1, d2] => { results := [.lit (.bool true)], args := [d1, d2] }
  | _ => none }
def refillCallsRow : OpenClaim := { program := "ytgajaoophcljnaa", sum := "30b79d3e8c5e1c986d0d443038b266f7b74f3ea277e9eb5b1fa466d38dd9b826", func := "warder/warderlaw16.RefillCalls", spec := "refillCalls", apart := false }
def RefillCallsSaid : Prop := refillCallsRow.holds Try.pinned (OpenSpec.ofChange refillCallsSpec)

/-- ITS FALSE NEIGHBOUR: 'it returns false'. Refute it at one input. -/
def refillCallsWrong : ChangeSpec := { name := "refillCalls", fn := fun _ => fun
  | [d1, d2] => { results := [.lit (.bool false)], args := [d1, d2] }
  | _ => none }
def RefillCallsWrongFalsely : Prop := refillCallsRow.holds Try.pinned (OpenSpec.ofChange refillCallsWrong)

/- THE SECOND FORM. 'bulk': how many values and letters a reading holds, each counted each time it is reached (what is shared counts as often as it is met; a slice's spare places count too). A statement '..UptoSaid' is the law's where the arguments, and the package variables that the reading takes, are together of bulk at most 1048576: NARROWER than '..Said'. Prove '..Said' where nothing that the law and all that it calls make is longer than what came in: it says more and counts as full. Else prove '..UptoSaid'. A law counts once. -/
mutual
def uptoBulk {H : Type} : DataW H → Nat
  | .lit (.string bytes) => bytes.length + 1
  | .lit _ => 1
  | .nil => 1
  | .ptr d => uptoBulk d + 1
  | .slice elems spare => uptoBulkAll elems + uptoBulkAll spare + 1
  | .agg parts => uptoBulkAll parts + 1
  | .iface _ d => uptoBulk d + 1
  | .map entries => uptoBulkEntries entries + 1
  | .held _ => 1
def uptoBulkAll {H : Type} : List (DataW H) → Nat
  | [] => 0
  | d :: r => uptoBulk d + uptoBulkAll r
def uptoBulkEntries {H : Type} : List (Lit × DataW H) → Nat
  | [] => 0
  | x :: r => uptoBulkEntry x + uptoBulkEntries r
def uptoBulkEntry {H : Type} : Lit × DataW H → Nat
  | (.string bytes, d) => bytes.length + uptoBulk d + 1
  | (_, d) => uptoBulk d + 1
 end
def uptoSmall : (H : Type) → List (DataW H) → Bool := fun _ ds => decide (uptoBulkAll ds ≤ 1048576)
def OpenSpec.upto (s : _root_.Go.ChangeSpec) : _root_.Go.OpenSpec := { _root_.Go.OpenSpec.ofChange s with cond := some uptoSmall }

/-- 'warderlaw16.RefillLater', WHERE WHAT IT READS IS OF BULK AT MOST 1048576: true; the input reads as it did. -/
def refillLaterUptoRow : OpenClaim := { program := "ytgajaoophcljnaa", sum := "30b79d3e8c5e1c986d0d443038b266f7b74f3ea277e9eb5b1fa466d38dd9b826", func := "warder/warderlaw16.RefillLater", spec := "refillLater", apart := false, narrowed := true }
def RefillLaterUptoSaid : Prop := refillLaterUptoRow.holds Try.pinned (OpenSpec.upto refillLaterSpec)

/-- 'warderlaw16.RefillSums', WHERE WHAT IT READS IS OF BULK AT MOST 1048576: true; the input reads as it did. -/
def refillSumsUptoRow : OpenClaim := { program := "ytgajaoophcljnaa", sum := "30b79d3e8c5e1c986d0d443038b266f7b74f3ea277e9eb5b1fa466d38dd9b826", func := "warder/warderlaw16.RefillSums", spec := "refillSums", apart := false, narrowed := true }
def RefillSumsUptoSaid : Prop := refillSumsUptoRow.holds Try.pinned (OpenSpec.upto refillSumsSpec)

/-- 'warderlaw16.RefillOne', WHERE WHAT IT READS IS OF BULK AT MOST 1048576: true; the input reads as it did. -/
def refillOneUptoRow : OpenClaim := { program := "ytgajaoophcljnaa", sum := "30b79d3e8c5e1c986d0d443038b266f7b74f3ea277e9eb5b1fa466d38dd9b826", func := "warder/warderlaw16.RefillOne", spec := "refillOne", apart := false, narrowed := true }
def RefillOneUptoSaid : Prop := refillOneUptoRow.holds Try.pinned (OpenSpec.upto refillOneSpec)

/-- 'warderlaw16.RefillCalls', WHERE WHAT IT READS IS OF BULK AT MOST 1048576: true; the input reads as it did. -/
def refillCallsUptoRow : OpenClaim := { program := "ytgajaoophcljnaa", sum := "30b79d3e8c5e1c986d0d443038b266f7b74f3ea277e9eb5b1fa466d38dd9b826", func := "warder/warderlaw16.RefillCalls", spec := "refillCalls", apart := false, narrowed := true }
def RefillCallsUptoSaid : Prop := refillCallsUptoRow.holds Try.pinned (OpenSpec.upto refillCallsSpec)

end Rows
end Go.Proofs.Ytgajaoophcljnaa
