/-
  DERIVED. GIVEN WITH THE SEED: THE CARDS: each row of YtjibfbphiemljaaDoorRows.lean that lists a variable, with what it lists TIED to the program's text (the seventh form; the later family's looks); each row that meets fmt, with fmt's text TOLD by the authors' own Lean function (tested against real Go, not proved from fmt's source: count such statements apart). THE CARD IS WHAT COUNTS. Prove the row's statement (the work); the ties are given (YtjibfbphiemljaaDoorTie.lean); close each card by the builder's one call (the guide's Derived/Test/ToyasCard.lean, 'card_holds'). Laid BY PROGRAM, IN A SANDBOX (cutbox-door.mjs). By AI agents, Wed Nov 11 2026. No macro, syntax, notation, axiom, sorry.
-/
import Derived.Test.YtjibfbphiemljaaDoorRows
import GoSem.ClaimSeven
namespace Go.Proofs.YtjibfbphiemljaaDoor
namespace Rows

/-- THE TIED CARD OF 'frankpledgelaw6.MailBack'. -/
def mailBackCard : Claim7 := { stood := { row := mailBackRow, standIns := [], harness := (true, "aff867231a3944dd510cc4eb11a7fecd0fa495755da563ddfa9aec903cc29540"), looks := true }, kinds := [], alts := [], laidByText := true, laidKinds := [.handle], laidTests := true, laidLooks := .later }
def MailBackCardSaid : Prop := Claim7.holds Tryd.pinned (.plain (OpenSpec.ofChange mailBackSpec)) mailBackCard

/-- THE TIED CARD OF 'frankpledgelaw6.MailKinds'. -/
def mailKindsCard : Claim7 := { stood := { row := mailKindsRow, standIns := [], harness := (true, "aff867231a3944dd510cc4eb11a7fecd0fa495755da563ddfa9aec903cc29540"), looks := true }, kinds := [], alts := [], laidByText := true, laidKinds := [.handle], laidTests := true, laidLooks := .later }
def MailKindsCardSaid : Prop := Claim7.holds Tryd.pinned (.plain (OpenSpec.ofChange mailKindsSpec)) mailKindsCard

/-- THE TIED CARD OF 'frankpledgelaw6.MailOnce'. -/
def mailOnceCard : Claim7 := { stood := { row := mailOnceRow, standIns := [], harness := (true, "aff867231a3944dd510cc4eb11a7fecd0fa495755da563ddfa9aec903cc29540"), looks := true }, kinds := [], alts := [], laidByText := true, laidKinds := [.handle], laidTests := true, laidLooks := .later }
def MailOnceCardSaid : Prop := Claim7.holds Tryd.pinned (.plain (OpenSpec.ofChange mailOnceSpec)) mailOnceCard

/-- THE SECOND FORM's CARD OF 'frankpledgelaw6.MailBack'. -/
def mailBackUptoCard : Claim7 := { stood := { row := mailBackUptoRow, standIns := [], harness := (true, "aff867231a3944dd510cc4eb11a7fecd0fa495755da563ddfa9aec903cc29540"), looks := true }, kinds := [], alts := [], laidByText := true, laidKinds := [.handle], laidTests := true, laidLooks := .later }
def MailBackUptoCardSaid : Prop := Claim7.holds Tryd.pinned (.plain (OpenSpec.upto mailBackSpec)) mailBackUptoCard

/-- THE SECOND FORM's CARD OF 'frankpledgelaw6.MailKinds'. -/
def mailKindsUptoCard : Claim7 := { stood := { row := mailKindsUptoRow, standIns := [], harness := (true, "aff867231a3944dd510cc4eb11a7fecd0fa495755da563ddfa9aec903cc29540"), looks := true }, kinds := [], alts := [], laidByText := true, laidKinds := [.handle], laidTests := true, laidLooks := .later }
def MailKindsUptoCardSaid : Prop := Claim7.holds Tryd.pinned (.plain (OpenSpec.upto mailKindsSpec)) mailKindsUptoCard

/-- THE SECOND FORM's CARD OF 'frankpledgelaw6.MailOnce'. -/
def mailOnceUptoCard : Claim7 := { stood := { row := mailOnceUptoRow, standIns := [], harness := (true, "aff867231a3944dd510cc4eb11a7fecd0fa495755da563ddfa9aec903cc29540"), looks := true }, kinds := [], alts := [], laidByText := true, laidKinds := [.handle], laidTests := true, laidLooks := .later }
def MailOnceUptoCardSaid : Prop := Claim7.holds Tryd.pinned (.plain (OpenSpec.upto mailOnceSpec)) mailOnceUptoCard
end Rows
end Go.Proofs.YtjibfbphiemljaaDoor
