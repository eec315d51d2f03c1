/-
  DERIVED. GIVEN WITH THE SEED: THE CARDS: each row of YthhancpnaleknaaDoorRows.lean that lists a variable, with what it lists TIED to the program's text (the seventh form; the later family's looks); each row that meets fmt, with fmt's text TOLD by the authors' own Lean function (tested against real Go, not proved from fmt's source: count such statements apart). THE CARD IS WHAT COUNTS. Prove the row's statement (the work); the ties are given (YthhancpnaleknaaDoorTie.lean); close each card by the builder's one call (the guide's Derived/Test/ToyasCard.lean, 'card_holds'). Laid BY PROGRAM, IN A SANDBOX (cutbox-door.mjs). By AI agents, Wed Nov 11 2026. No macro, syntax, notation, axiom, sorry.
-/
import Derived.Test.YthhancpnaleknaaDoorRows
import GoSem.ClaimSeven
namespace Go.Proofs.YthhancpnaleknaaDoor
namespace Rows

/-- THE TIED CARD OF 'warderlaw20.VicStack'. -/
def vicStackCard : Claim7 := { stood := { row := vicStackRow, standIns := [], harness := (true, "1224a877b6a6b1821ff94c0554d292c010ce485875014bc33eda5c9475558730"), looks := false }, kinds := [], alts := [], laidByText := true, laidKinds := [.data], laidTests := true, laidLooks := .later }
def VicStackCardSaid : Prop := Claim7.holds Tryd.pinned (.plain (OpenSpec.ofChange vicStackSpec)) vicStackCard

/-- THE TIED CARD OF 'warderlaw20.VicCalls'. -/
def vicCallsCard : Claim7 := { stood := { row := vicCallsRow, standIns := [], harness := (true, "1224a877b6a6b1821ff94c0554d292c010ce485875014bc33eda5c9475558730"), looks := false }, kinds := [], alts := [], laidByText := true, laidKinds := [.data], laidTests := true, laidLooks := .later }
def VicCallsCardSaid : Prop := Claim7.holds Tryd.pinned (.plain (OpenSpec.ofChange vicCallsSpec)) vicCallsCard

/-- THE TIED CARD OF 'warderlaw20.VicNests'. -/
def vicNestsCard : Claim7 := { stood := { row := vicNestsRow, standIns := [], harness := (true, "1224a877b6a6b1821ff94c0554d292c010ce485875014bc33eda5c9475558730"), looks := false }, kinds := [], alts := [], laidByText := true, laidKinds := [.data], laidTests := true, laidLooks := .later }
def VicNestsCardSaid : Prop := Claim7.holds Tryd.pinned (.plain (OpenSpec.ofChange vicNestsSpec)) vicNestsCard

/-- THE TIED CARD OF 'warderlaw20.VicMasks'. -/
def vicMasksCard : Claim7 := { stood := { row := vicMasksRow, standIns := [], harness := (true, "1224a877b6a6b1821ff94c0554d292c010ce485875014bc33eda5c9475558730"), looks := false }, kinds := [], alts := [], laidByText := true, laidKinds := [.data], laidTests := true, laidLooks := .later }
def VicMasksCardSaid : Prop := Claim7.holds Tryd.pinned (.plain (OpenSpec.ofChange vicMasksSpec)) vicMasksCard

/-- THE SECOND FORM's CARD OF 'warderlaw20.VicStack'. -/
def vicStackUptoCard : Claim7 := { stood := { row := vicStackUptoRow, standIns := [], harness := (true, "1224a877b6a6b1821ff94c0554d292c010ce485875014bc33eda5c9475558730"), looks := false }, kinds := [], alts := [], laidByText := true, laidKinds := [.data], laidTests := true, laidLooks := .later }
def VicStackUptoCardSaid : Prop := Claim7.holds Tryd.pinned (.plain (OpenSpec.upto vicStackSpec)) vicStackUptoCard

/-- THE SECOND FORM's CARD OF 'warderlaw20.VicCalls'. -/
def vicCallsUptoCard : Claim7 := { stood := { row := vicCallsUptoRow, standIns := [], harness := (true, "1224a877b6a6b1821ff94c0554d292c010ce485875014bc33eda5c9475558730"), looks := false }, kinds := [], alts := [], laidByText := true, laidKinds := [.data], laidTests := true, laidLooks := .later }
def VicCallsUptoCardSaid : Prop := Claim7.holds Tryd.pinned (.plain (OpenSpec.upto vicCallsSpec)) vicCallsUptoCard

/-- THE SECOND FORM's CARD OF 'warderlaw20.VicNests'. -/
def vicNestsUptoCard : Claim7 := { stood := { row := vicNestsUptoRow, standIns := [], harness := (true, "1224a877b6a6b1821ff94c0554d292c010ce485875014bc33eda5c9475558730"), looks := false }, kinds := [], alts := [], laidByText := true, laidKinds := [.data], laidTests := true, laidLooks := .later }
def VicNestsUptoCardSaid : Prop := Claim7.holds Tryd.pinned (.plain (OpenSpec.upto vicNestsSpec)) vicNestsUptoCard

/-- THE SECOND FORM's CARD OF 'warderlaw20.VicMasks'. -/
def vicMasksUptoCard : Claim7 := { stood := { row := vicMasksUptoRow, standIns := [], harness := (true, "1224a877b6a6b1821ff94c0554d292c010ce485875014bc33eda5c9475558730"), looks := false }, kinds := [], alts := [], laidByText := true, laidKinds := [.data], laidTests := true, laidLooks := .later }
def VicMasksUptoCardSaid : Prop := Claim7.holds Tryd.pinned (.plain (OpenSpec.upto vicMasksSpec)) vicMasksUptoCard
end Rows
end Go.Proofs.YthhancpnaleknaaDoor
