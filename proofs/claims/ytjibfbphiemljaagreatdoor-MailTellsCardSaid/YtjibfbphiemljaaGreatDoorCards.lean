/-
  DERIVED. GIVEN WITH THE SEED: THE CARDS: each row of YtjibfbphiemljaaGreatDoorRows.lean that lists a variable, with what it lists TIED to the program's text (the seventh form; the later family's looks); each row that meets fmt, with fmt's text TOLD by the authors' own Lean function (tested against real Go, not proved from fmt's source: count such statements apart). THE CARD IS WHAT COUNTS. Prove the row's statement (the work); the ties are given (YtjibfbphiemljaaGreatDoorTie.lean); close each card by the builder's one call (the guide's Derived/Test/ToyasCard.lean, 'card_holds'). Laid BY PROGRAM, IN A SANDBOX (cutbox-door.mjs). By AI agents, Wed Nov 11 2026. No macro, syntax, notation, axiom, sorry.
-/
import Derived.Test.YtjibfbphiemljaaGreatDoorRows
import GoSem.ClaimSeven
namespace Go.Proofs.YtjibfbphiemljaaGreatDoor
namespace Rows

/-- THE TIED CARD OF 'frankpledgelaw6.MailNumbers'. -/
def mailNumbersCard : Claim7 := { stood := { row := mailNumbersRow, standIns := [], harness := (true, "9548579f5e8ff12eb41530fd62bdbb486ad478630fe312bf561a33a9f8a174dd"), looks := true }, kinds := [], alts := [], laidByText := true, laidKinds := [.handle], laidTests := true, laidLooks := .later }
def MailNumbersCardSaid : Prop := Claim7.holds Tryz.pinned (.plain (OpenSpec.ofChange mailNumbersSpec)) mailNumbersCard

/-- THE TIED CARD OF 'frankpledgelaw6.MailTells'. -/
def mailTellsCard : Claim7 := { stood := { row := mailTellsRow, standIns := [], harness := (true, "9548579f5e8ff12eb41530fd62bdbb486ad478630fe312bf561a33a9f8a174dd"), looks := true }, kinds := [], alts := [], laidByText := true, laidKinds := [.handle], laidTests := true, laidLooks := .later }
def MailTellsCardSaid : Prop := Claim7.holds Tryz.pinned (.plain (OpenSpec.ofChange mailTellsSpec)) mailTellsCard

/-- THE SECOND FORM's CARD OF 'frankpledgelaw6.MailNumbers'. -/
def mailNumbersUptoCard : Claim7 := { stood := { row := mailNumbersUptoRow, standIns := [], harness := (true, "9548579f5e8ff12eb41530fd62bdbb486ad478630fe312bf561a33a9f8a174dd"), looks := true }, kinds := [], alts := [], laidByText := true, laidKinds := [.handle], laidTests := true, laidLooks := .later }
def MailNumbersUptoCardSaid : Prop := Claim7.holds Tryz.pinned (.plain (OpenSpec.upto mailNumbersSpec)) mailNumbersUptoCard

/-- THE SECOND FORM's CARD OF 'frankpledgelaw6.MailTells'. -/
def mailTellsUptoCard : Claim7 := { stood := { row := mailTellsUptoRow, standIns := [], harness := (true, "9548579f5e8ff12eb41530fd62bdbb486ad478630fe312bf561a33a9f8a174dd"), looks := true }, kinds := [], alts := [], laidByText := true, laidKinds := [.handle], laidTests := true, laidLooks := .later }
def MailTellsUptoCardSaid : Prop := Claim7.holds Tryz.pinned (.plain (OpenSpec.upto mailTellsSpec)) mailTellsUptoCard
end Rows
end Go.Proofs.YtjibfbphiemljaaGreatDoor
