/-
  DERIVED. GIVEN WITH THE SEED: THE CARDS: each row of YtkbchgbpglamcaaDoorRows.lean that lists a variable, with what it lists TIED to the program's text (the seventh form; the later family's looks); each row that meets fmt, with fmt's text TOLD by the authors' own Lean function (tested against real Go, not proved from fmt's source: count such statements apart). THE CARD IS WHAT COUNTS. Prove the row's statement (the work); the ties are given (YtkbchgbpglamcaaDoorTie.lean); close each card by the builder's one call (the guide's Derived/Test/ToyasCard.lean, 'card_holds'). Laid BY PROGRAM, IN A SANDBOX (cutbox-door.mjs). By AI agents, Wed Nov 11 2026. No macro, syntax, notation, axiom, sorry.
-/
import Derived.Test.YtkbchgbpglamcaaDoorRows
import GoSem.ClaimSeven
namespace Go.Proofs.YtkbchgbpglamcaaDoor
namespace Rows

/-- THE TIED CARD OF 'frankpledgelaw1.FaultOthers'. -/
def faultOthersCard : Claim7 := { stood := { row := faultOthersRow, standIns := [], harness := (true, "a28e1e50fcf78e082c745357d533de632828173b37d428fd26f8e8330b90da1e"), looks := true }, kinds := [], alts := [], laidByText := true, laidKinds := [.handle], laidTests := true, laidLooks := .later }
def FaultOthersCardSaid : Prop := Claim7.holds Tryd.pinned (.plain (OpenSpec.ofChange faultOthersSpec)) faultOthersCard

/-- THE TIED CARD OF 'frankpledgelaw1.FaultTells'. -/
def faultTellsCard : Claim7 := { stood := { row := faultTellsRow, standIns := [], harness := (true, "a28e1e50fcf78e082c745357d533de632828173b37d428fd26f8e8330b90da1e"), looks := true }, kinds := [], alts := [], laidByText := true, laidKinds := [.handle], laidTests := true, laidLooks := .later }
def FaultTellsCardSaid : Prop := Claim7.holds Tryd.pinned (.plain (OpenSpec.ofChange faultTellsSpec)) faultTellsCard

/-- THE TIED CARD OF 'frankpledgelaw1.FaultWraps'. -/
def faultWrapsCard : Claim7 := { stood := { row := faultWrapsRow, standIns := [], harness := (true, "a28e1e50fcf78e082c745357d533de632828173b37d428fd26f8e8330b90da1e"), looks := true }, kinds := [], alts := [], laidByText := true, laidKinds := [.handle], laidTests := true, laidLooks := .later }
def FaultWrapsCardSaid : Prop := Claim7.holds Tryd.pinned (.plain (OpenSpec.ofChange faultWrapsSpec)) faultWrapsCard

/-- THE TIED CARD OF 'frankpledgelaw1.FaultNumbers'. -/
def faultNumbersCard : Claim7 := { stood := { row := faultNumbersRow, standIns := [], harness := (true, "a28e1e50fcf78e082c745357d533de632828173b37d428fd26f8e8330b90da1e"), looks := true }, kinds := [], alts := [], laidByText := true, laidKinds := [.handle], laidTests := true, laidLooks := .later }
def FaultNumbersCardSaid : Prop := Claim7.holds Tryd.pinned (.plain (OpenSpec.ofChange faultNumbersSpec)) faultNumbersCard

/-- THE SECOND FORM's CARD OF 'frankpledgelaw1.FaultOthers'. -/
def faultOthersUptoCard : Claim7 := { stood := { row := faultOthersUptoRow, standIns := [], harness := (true, "a28e1e50fcf78e082c745357d533de632828173b37d428fd26f8e8330b90da1e"), looks := true }, kinds := [], alts := [], laidByText := true, laidKinds := [.handle], laidTests := true, laidLooks := .later }
def FaultOthersUptoCardSaid : Prop := Claim7.holds Tryd.pinned (.plain (OpenSpec.upto faultOthersSpec)) faultOthersUptoCard

/-- THE SECOND FORM's CARD OF 'frankpledgelaw1.FaultTells'. -/
def faultTellsUptoCard : Claim7 := { stood := { row := faultTellsUptoRow, standIns := [], harness := (true, "a28e1e50fcf78e082c745357d533de632828173b37d428fd26f8e8330b90da1e"), looks := true }, kinds := [], alts := [], laidByText := true, laidKinds := [.handle], laidTests := true, laidLooks := .later }
def FaultTellsUptoCardSaid : Prop := Claim7.holds Tryd.pinned (.plain (OpenSpec.upto faultTellsSpec)) faultTellsUptoCard

/-- THE SECOND FORM's CARD OF 'frankpledgelaw1.FaultWraps'. -/
def faultWrapsUptoCard : Claim7 := { stood := { row := faultWrapsUptoRow, standIns := [], harness := (true, "a28e1e50fcf78e082c745357d533de632828173b37d428fd26f8e8330b90da1e"), looks := true }, kinds := [], alts := [], laidByText := true, laidKinds := [.handle], laidTests := true, laidLooks := .later }
def FaultWrapsUptoCardSaid : Prop := Claim7.holds Tryd.pinned (.plain (OpenSpec.upto faultWrapsSpec)) faultWrapsUptoCard

/-- THE SECOND FORM's CARD OF 'frankpledgelaw1.FaultNumbers'. -/
def faultNumbersUptoCard : Claim7 := { stood := { row := faultNumbersUptoRow, standIns := [], harness := (true, "a28e1e50fcf78e082c745357d533de632828173b37d428fd26f8e8330b90da1e"), looks := true }, kinds := [], alts := [], laidByText := true, laidKinds := [.handle], laidTests := true, laidLooks := .later }
def FaultNumbersUptoCardSaid : Prop := Claim7.holds Tryd.pinned (.plain (OpenSpec.upto faultNumbersSpec)) faultNumbersUptoCard
end Rows
end Go.Proofs.YtkbchgbpglamcaaDoor
