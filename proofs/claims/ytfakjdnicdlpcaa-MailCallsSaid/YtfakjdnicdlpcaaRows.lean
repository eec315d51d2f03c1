/-
  No cell of these rows narrows 'for every input' (looked for: loops, veiled, ifaces, maps, wideKeys, modest, calm, conditions, laid).
  DERIVED. THE GIVEN ROWS OF THIS SEAT. 4 by the template 'for every input the law returns true; each argument reads behind the call as it read before'; 0 by the template 'total and deterministic' (their statements: YtfakjdnicdlpcaaTotals.lean).
  GIVEN WITH THE SEED: the statements are not yours to turn. If you find one false, say at which input.
  Laid BY PROGRAM, IN A SANDBOX (cutbox-rows.mjs): the forced cells as the released guide's own fill.sh prints them over the translation 6e4d86300aabeed9… (all of the seat's roots in one cut). By AI agents, Wed Nov 11 2026. No macro, syntax, notation, axiom, sorry.
-/
import Derived.Test.YtfakjdnicdlpcaaChecked
import GoSem.Claim
import GoSem.ClaimJoined
import GoSem.ClaimMapViews
import Derived.JoinedTies
import Derived.KernelRfl
namespace Go.Proofs.Ytfakjdnicdlpcaa
/- THE CELL 'sum', in the pinned program and in every row, IS THE sha256 OF THE DUMP (.gsa) THAT YtfakjdnicdlpcaaProg.lean LOADS. Nothing in Lean hashes anything: it is a label: what it is worth is what the hold of that sum in a sandbox is worth. -/
noncomputable def Try.pinned : Pinned := { name := "ytfakjdnicdlpcaa", sum := "6e4d86300aabeed971826f1c789fc0aeefdb59feef63f87b05bb281a510a759d", checked := Try.checked }
namespace Rows
def none {H : Type} : Left H := { results := [], args := [] }

/-- 'warderlaw22.MailCalls': WHATEVER THE INPUT: true; the input reads as it did. -/
def mailCallsSpec : ChangeSpec := { name := "mailCalls", fn := fun _ => fun
  | [d1, d2] => { results := [.lit (.bool true)], args := [d1, d2] }
  | _ => none }
def mailCallsRow : OpenClaim := { program := "ytfakjdnicdlpcaa", sum := "6e4d86300aabeed971826f1c789fc0aeefdb59feef63f87b05bb281a510a759d", func := "warder/warderlaw22.MailCalls", spec := "mailCalls", apart := false }
def MailCallsSaid : Prop := mailCallsRow.holds Try.pinned (OpenSpec.ofChange mailCallsSpec)

/-- ITS FALSE NEIGHBOUR: 'it returns false'. Refute it at one input. -/
def mailCallsWrong : ChangeSpec := { name := "mailCalls", fn := fun _ => fun
  | [d1, d2] => { results := [.lit (.bool false)], args := [d1, d2] }
  | _ => none }
def MailCallsWrongFalsely : Prop := mailCallsRow.holds Try.pinned (OpenSpec.ofChange mailCallsWrong)

/-- 'warderlaw22.MailOrder': WHATEVER THE INPUT: true; the input reads as it did. -/
def mailOrderSpec : ChangeSpec := { name := "mailOrder", fn := fun _ => fun
  | [d1, d2, d3] => { results := [.lit (.bool true)], args := [d1, d2, d3] }
  | _ => none }
def mailOrderRow : OpenClaim := { program := "ytfakjdnicdlpcaa", sum := "6e4d86300aabeed971826f1c789fc0aeefdb59feef63f87b05bb281a510a759d", func := "warder/warderlaw22.MailOrder", spec := "mailOrder", apart := false }
def MailOrderSaid : Prop := mailOrderRow.holds Try.pinned (OpenSpec.ofChange mailOrderSpec)

/-- ITS FALSE NEIGHBOUR: 'it returns false'. Refute it at one input. -/
def mailOrderWrong : ChangeSpec := { name := "mailOrder", fn := fun _ => fun
  | [d1, d2, d3] => { results := [.lit (.bool false)], args := [d1, d2, d3] }
  | _ => none }
def MailOrderWrongFalsely : Prop := mailOrderRow.holds Try.pinned (OpenSpec.ofChange mailOrderWrong)

/-- 'warderlaw22.MailApart': WHATEVER THE INPUT: true; the input reads as it did. -/
def mailApartSpec : ChangeSpec := { name := "mailApart", fn := fun _ => fun
  | [d1, d2] => { results := [.lit (.bool true)], args := [d1, d2] }
  | _ => none }
def mailApartRow : OpenClaim := { program := "ytfakjdnicdlpcaa", sum := "6e4d86300aabeed971826f1c789fc0aeefdb59feef63f87b05bb281a510a759d", func := "warder/warderlaw22.MailApart", spec := "mailApart", apart := false }
def MailApartSaid : Prop := mailApartRow.holds Try.pinned (OpenSpec.ofChange mailApartSpec)

/-- ITS FALSE NEIGHBOUR: 'it returns false'. Refute it at one input. -/
def mailApartWrong : ChangeSpec := { name := "mailApart", fn := fun _ => fun
  | [d1, d2] => { results := [.lit (.bool false)], args := [d1, d2] }
  | _ => none }
def MailApartWrongFalsely : Prop := mailApartRow.holds Try.pinned (OpenSpec.ofChange mailApartWrong)

/-- 'warderlaw22.MailRoom': WHATEVER THE INPUT: true; the input reads as it did. -/
def mailRoomSpec : ChangeSpec := { name := "mailRoom", fn := fun _ => fun
  | [d] => { results := [.lit (.bool true)], args := [d] }
  | _ => none }
def mailRoomRow : OpenClaim := { program := "ytfakjdnicdlpcaa", sum := "6e4d86300aabeed971826f1c789fc0aeefdb59feef63f87b05bb281a510a759d", func := "warder/warderlaw22.MailRoom", spec := "mailRoom", apart := false }
def MailRoomSaid : Prop := mailRoomRow.holds Try.pinned (OpenSpec.ofChange mailRoomSpec)

/-- ITS FALSE NEIGHBOUR: 'it returns false'. Refute it at one input. -/
def mailRoomWrong : ChangeSpec := { name := "mailRoom", fn := fun _ => fun
  | [d] => { results := [.lit (.bool false)], args := [d] }
  | _ => none }
def MailRoomWrongFalsely : Prop := mailRoomRow.holds Try.pinned (OpenSpec.ofChange mailRoomWrong)

/- THE SECOND FORM. 'bulk': how many values and letters a reading holds, each counted each time it is reached (what is shared counts as often as it is met; a slice's spare places count too). A statement '..UptoSaid' is the law's where the arguments, and the package variables that the reading takes, are together of bulk at most 1048576: NARROWER than '..Said'. Prove '..Said' where nothing that the law and all that it calls make is longer than what came in: it says more and counts as full. Else prove '..UptoSaid'. A law counts once. -/
mutual
def uptoBulk {H : Type} : DataW H → Nat
  | .lit (.string bytes) => bytes.length + 1
  | .lit _ => 1
  | .nil => 1
  | .ptr d => uptoBulk d + 1
  | .slice elems spare => uptoBulkAll elems + uptoBulkAll spare + 1
  | .agg parts => uptoBulkAll parts + 1
  | .iface _ d => uptoBulk d + 1
  | .map entries => uptoBulkEntries entries + 1
  | .held _ => 1
def uptoBulkAll {H : Type} : List (DataW H) → Nat
  | [] => 0
  | d :: r => uptoBulk d + uptoBulkAll r
def uptoBulkEntries {H : Type} : List (Lit × DataW H) → Nat
  | [] => 0
  | x :: r => uptoBulkEntry x + uptoBulkEntries r
def uptoBulkEntry {H : Type} : Lit × DataW H → Nat
  | (.string bytes, d) => bytes.length + uptoBulk d + 1
  | (_, d) => uptoBulk d + 1
 end
def uptoSmall : (H : Type) → List (DataW H) → Bool := fun _ ds => decide (uptoBulkAll ds ≤ 1048576)
def OpenSpec.upto (s : _root_.Go.ChangeSpec) : _root_.Go.OpenSpec := { _root_.Go.OpenSpec.ofChange s with cond := some uptoSmall }

/-- 'warderlaw22.MailCalls', WHERE WHAT IT READS IS OF BULK AT MOST 1048576: true; the input reads as it did. -/
def mailCallsUptoRow : OpenClaim := { program := "ytfakjdnicdlpcaa", sum := "6e4d86300aabeed971826f1c789fc0aeefdb59feef63f87b05bb281a510a759d", func := "warder/warderlaw22.MailCalls", spec := "mailCalls", apart := false, narrowed := true }
def MailCallsUptoSaid : Prop := mailCallsUptoRow.holds Try.pinned (OpenSpec.upto mailCallsSpec)

/-- 'warderlaw22.MailOrder', WHERE WHAT IT READS IS OF BULK AT MOST 1048576: true; the input reads as it did. -/
def mailOrderUptoRow : OpenClaim := { program := "ytfakjdnicdlpcaa", sum := "6e4d86300aabeed971826f1c789fc0aeefdb59feef63f87b05bb281a510a759d", func := "warder/warderlaw22.MailOrder", spec := "mailOrder", apart := false, narrowed := true }
def MailOrderUptoSaid : Prop := mailOrderUptoRow.holds Try.pinned (OpenSpec.upto mailOrderSpec)

/-- 'warderlaw22.MailApart', WHERE WHAT IT READS IS OF BULK AT MOST 1048576: true; the input reads as it did. -/
def mailApartUptoRow : OpenClaim := { program := "ytfakjdnicdlpcaa", sum := "6e4d86300aabeed971826f1c789fc0aeefdb59feef63f87b05bb281a510a759d", func := "warder/warderlaw22.MailApart", spec := "mailApart", apart := false, narrowed := true }
def MailApartUptoSaid : Prop := mailApartUptoRow.holds Try.pinned (OpenSpec.upto mailApartSpec)

/-- 'warderlaw22.MailRoom', WHERE WHAT IT READS IS OF BULK AT MOST 1048576: true; the input reads as it did. -/
def mailRoomUptoRow : OpenClaim := { program := "ytfakjdnicdlpcaa", sum := "6e4d86300aabeed971826f1c789fc0aeefdb59feef63f87b05bb281a510a759d", func := "warder/warderlaw22.MailRoom", spec := "mailRoom", apart := false, narrowed := true }
def MailRoomUptoSaid : Prop := mailRoomUptoRow.holds Try.pinned (OpenSpec.upto mailRoomSpec)

end Rows
end Go.Proofs.Ytfakjdnicdlpcaa
