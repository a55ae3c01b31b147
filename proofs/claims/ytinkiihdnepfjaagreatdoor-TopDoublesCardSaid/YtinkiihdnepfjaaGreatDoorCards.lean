/-
  DERIVED. GIVEN WITH THE SEED: THE CARDS: each row of YtinkiihdnepfjaaGreatDoorRows.lean that lists a variable, with what it lists TIED to the program's text (the seventh form; the later family's looks); each row that meets fmt, with fmt's text TOLD by the authors' own Lean function (tested against real Go, not proved from fmt's source: count such statements apart). THE CARD IS WHAT COUNTS. Prove the row's statement (the work); the ties are given (YtinkiihdnepfjaaGreatDoorTie.lean); close each card by the builder's one call (the guide's Derived/Test/ToyasCard.lean, 'card_holds'). Laid BY PROGRAM, IN A SANDBOX (cutbox-door.mjs). By AI agents, Wed Nov 11 2026. No macro, syntax, notation, axiom, sorry.
-/
import Derived.Test.YtinkiihdnepfjaaGreatDoorRows
import GoSem.ClaimSeven
namespace Go.Proofs.YtinkiihdnepfjaaGreatDoor
namespace Rows

/-- THE TIED CARD OF 'frankpledgetop.TopOverrides'. -/
def topOverridesCard : Claim7 := { stood := { row := topOverridesRow, standIns := [], harness := (true, "19539e6ee88e9a080915b7af3355c66236e00c1593056159402ead13211ce364"), looks := true }, kinds := [], alts := [], laidByText := true, laidKinds := [.data, .data, .data], laidTests := true, laidLooks := .later }
def TopOverridesCardSaid : Prop := Claim7.holds Tryz.pinned (.plain (OpenSpec.ofChange topOverridesSpec)) topOverridesCard

/-- THE TIED CARD OF 'frankpledgetop.TopGone'. -/
def topGoneCard : Claim7 := { stood := { row := topGoneRow, standIns := [], harness := (true, "19539e6ee88e9a080915b7af3355c66236e00c1593056159402ead13211ce364"), looks := true }, kinds := [], alts := [], laidByText := true, laidKinds := [.data, .data, .data], laidTests := true, laidLooks := .later }
def TopGoneCardSaid : Prop := Claim7.holds Tryz.pinned (.plain (OpenSpec.ofChange topGoneSpec)) topGoneCard

/-- THE TIED CARD OF 'frankpledgetop.TopDoubles'. -/
def topDoublesCard : Claim7 := { stood := { row := topDoublesRow, standIns := [], harness := (true, "19539e6ee88e9a080915b7af3355c66236e00c1593056159402ead13211ce364"), looks := true }, kinds := [], alts := [], laidByText := true, laidKinds := [.data, .data, .data], laidTests := true, laidLooks := .later }
def TopDoublesCardSaid : Prop := Claim7.holds Tryz.pinned (.plain (OpenSpec.ofChange topDoublesSpec)) topDoublesCard

/-- THE TIED CARD OF 'frankpledgetop.TopLeaves'. -/
def topLeavesCard : Claim7 := { stood := { row := topLeavesRow, standIns := [], harness := (true, "19539e6ee88e9a080915b7af3355c66236e00c1593056159402ead13211ce364"), looks := true }, kinds := [], alts := [], laidByText := true, laidKinds := [.data, .data, .data], laidTests := true, laidLooks := .later }
def TopLeavesCardSaid : Prop := Claim7.holds Tryz.pinned (.plain (OpenSpec.ofChange topLeavesSpec)) topLeavesCard

/-- THE TIED CARD OF 'frankpledgetop.TopDowns'. -/
def topDownsCard : Claim7 := { stood := { row := topDownsRow, standIns := [], harness := (true, "19539e6ee88e9a080915b7af3355c66236e00c1593056159402ead13211ce364"), looks := true }, kinds := [], alts := [], laidByText := true, laidKinds := [.data, .data, .data], laidTests := true, laidLooks := .later }
def TopDownsCardSaid : Prop := Claim7.holds Tryz.pinned (.plain (OpenSpec.ofChange topDownsSpec)) topDownsCard

/-- THE TIED CARD OF 'frankpledgetop.TopGuards'. -/
def topGuardsCard : Claim7 := { stood := { row := topGuardsRow, standIns := [], harness := (true, "19539e6ee88e9a080915b7af3355c66236e00c1593056159402ead13211ce364"), looks := true }, kinds := [], alts := [], laidByText := true, laidKinds := [.data, .data, .data], laidTests := true, laidLooks := .later }
def TopGuardsCardSaid : Prop := Claim7.holds Tryz.pinned (.plain (OpenSpec.ofChange topGuardsSpec)) topGuardsCard

/-- THE TIED CARD OF 'frankpledgetop.TopSweeps'. -/
def topSweepsCard : Claim7 := { stood := { row := topSweepsRow, standIns := [], harness := (true, "19539e6ee88e9a080915b7af3355c66236e00c1593056159402ead13211ce364"), looks := true }, kinds := [], alts := [], laidByText := true, laidKinds := [.data, .data, .data], laidTests := true, laidLooks := .later }
def TopSweepsCardSaid : Prop := Claim7.holds Tryz.pinned (.plain (OpenSpec.ofChange topSweepsSpec)) topSweepsCard

/-- THE TIED CARD OF 'frankpledgetop.TopTwice'. -/
def topTwiceCard : Claim7 := { stood := { row := topTwiceRow, standIns := [], harness := (true, "19539e6ee88e9a080915b7af3355c66236e00c1593056159402ead13211ce364"), looks := true }, kinds := [], alts := [], laidByText := true, laidKinds := [.data, .data, .data], laidTests := true, laidLooks := .later }
def TopTwiceCardSaid : Prop := Claim7.holds Tryz.pinned (.plain (OpenSpec.ofChange topTwiceSpec)) topTwiceCard

/-- THE TIED CARD OF 'frankpledgetop.TopQueues'. -/
def topQueuesCard : Claim7 := { stood := { row := topQueuesRow, standIns := [], harness := (true, "19539e6ee88e9a080915b7af3355c66236e00c1593056159402ead13211ce364"), looks := true }, kinds := [], alts := [], laidByText := true, laidKinds := [.data, .data, .data], laidTests := true, laidLooks := .later }
def TopQueuesCardSaid : Prop := Claim7.holds Tryz.pinned (.plain (OpenSpec.ofChange topQueuesSpec)) topQueuesCard

/-- THE TIED CARD OF 'frankpledgetop.TopClocks'. -/
def topClocksCard : Claim7 := { stood := { row := topClocksRow, standIns := [], harness := (true, "19539e6ee88e9a080915b7af3355c66236e00c1593056159402ead13211ce364"), looks := true }, kinds := [], alts := [], laidByText := true, laidKinds := [.data, .data, .data], laidTests := true, laidLooks := .later }
def TopClocksCardSaid : Prop := Claim7.holds Tryz.pinned (.plain (OpenSpec.ofChange topClocksSpec)) topClocksCard

/-- THE TIED CARD OF 'frankpledgetop.TopRejoins'. -/
def topRejoinsCard : Claim7 := { stood := { row := topRejoinsRow, standIns := [], harness := (true, "19539e6ee88e9a080915b7af3355c66236e00c1593056159402ead13211ce364"), looks := true }, kinds := [], alts := [], laidByText := true, laidKinds := [.data, .data, .data], laidTests := true, laidLooks := .later }
def TopRejoinsCardSaid : Prop := Claim7.holds Tryz.pinned (.plain (OpenSpec.ofChange topRejoinsSpec)) topRejoinsCard

/-- THE TIED CARD OF 'frankpledgetop.TopLate'. -/
def topLateCard : Claim7 := { stood := { row := topLateRow, standIns := [], harness := (true, "19539e6ee88e9a080915b7af3355c66236e00c1593056159402ead13211ce364"), looks := true }, kinds := [], alts := [], laidByText := true, laidKinds := [.data, .data, .data], laidTests := true, laidLooks := .later }
def TopLateCardSaid : Prop := Claim7.holds Tryz.pinned (.plain (OpenSpec.ofChange topLateSpec)) topLateCard

/-- THE TIED CARD OF 'frankpledgetop.TopFull'. -/
def topFullCard : Claim7 := { stood := { row := topFullRow, standIns := [], harness := (true, "19539e6ee88e9a080915b7af3355c66236e00c1593056159402ead13211ce364"), looks := true }, kinds := [], alts := [], laidByText := true, laidKinds := [.data, .data, .data], laidTests := true, laidLooks := .later }
def TopFullCardSaid : Prop := Claim7.holds Tryz.pinned (.plain (OpenSpec.ofChange topFullSpec)) topFullCard

/-- THE SECOND FORM's CARD OF 'frankpledgetop.TopOverrides'. -/
def topOverridesUptoCard : Claim7 := { stood := { row := topOverridesUptoRow, standIns := [], harness := (true, "19539e6ee88e9a080915b7af3355c66236e00c1593056159402ead13211ce364"), looks := true }, kinds := [], alts := [], laidByText := true, laidKinds := [.data, .data, .data], laidTests := true, laidLooks := .later }
def TopOverridesUptoCardSaid : Prop := Claim7.holds Tryz.pinned (.plain (OpenSpec.upto topOverridesSpec)) topOverridesUptoCard

/-- THE SECOND FORM's CARD OF 'frankpledgetop.TopGone'. -/
def topGoneUptoCard : Claim7 := { stood := { row := topGoneUptoRow, standIns := [], harness := (true, "19539e6ee88e9a080915b7af3355c66236e00c1593056159402ead13211ce364"), looks := true }, kinds := [], alts := [], laidByText := true, laidKinds := [.data, .data, .data], laidTests := true, laidLooks := .later }
def TopGoneUptoCardSaid : Prop := Claim7.holds Tryz.pinned (.plain (OpenSpec.upto topGoneSpec)) topGoneUptoCard

/-- THE SECOND FORM's CARD OF 'frankpledgetop.TopDoubles'. -/
def topDoublesUptoCard : Claim7 := { stood := { row := topDoublesUptoRow, standIns := [], harness := (true, "19539e6ee88e9a080915b7af3355c66236e00c1593056159402ead13211ce364"), looks := true }, kinds := [], alts := [], laidByText := true, laidKinds := [.data, .data, .data], laidTests := true, laidLooks := .later }
def TopDoublesUptoCardSaid : Prop := Claim7.holds Tryz.pinned (.plain (OpenSpec.upto topDoublesSpec)) topDoublesUptoCard

/-- THE SECOND FORM's CARD OF 'frankpledgetop.TopLeaves'. -/
def topLeavesUptoCard : Claim7 := { stood := { row := topLeavesUptoRow, standIns := [], harness := (true, "19539e6ee88e9a080915b7af3355c66236e00c1593056159402ead13211ce364"), looks := true }, kinds := [], alts := [], laidByText := true, laidKinds := [.data, .data, .data], laidTests := true, laidLooks := .later }
def TopLeavesUptoCardSaid : Prop := Claim7.holds Tryz.pinned (.plain (OpenSpec.upto topLeavesSpec)) topLeavesUptoCard

/-- THE SECOND FORM's CARD OF 'frankpledgetop.TopDowns'. -/
def topDownsUptoCard : Claim7 := { stood := { row := topDownsUptoRow, standIns := [], harness := (true, "19539e6ee88e9a080915b7af3355c66236e00c1593056159402ead13211ce364"), looks := true }, kinds := [], alts := [], laidByText := true, laidKinds := [.data, .data, .data], laidTests := true, laidLooks := .later }
def TopDownsUptoCardSaid : Prop := Claim7.holds Tryz.pinned (.plain (OpenSpec.upto topDownsSpec)) topDownsUptoCard

/-- THE SECOND FORM's CARD OF 'frankpledgetop.TopGuards'. -/
def topGuardsUptoCard : Claim7 := { stood := { row := topGuardsUptoRow, standIns := [], harness := (true, "19539e6ee88e9a080915b7af3355c66236e00c1593056159402ead13211ce364"), looks := true }, kinds := [], alts := [], laidByText := true, laidKinds := [.data, .data, .data], laidTests := true, laidLooks := .later }
def TopGuardsUptoCardSaid : Prop := Claim7.holds Tryz.pinned (.plain (OpenSpec.upto topGuardsSpec)) topGuardsUptoCard

/-- THE SECOND FORM's CARD OF 'frankpledgetop.TopSweeps'. -/
def topSweepsUptoCard : Claim7 := { stood := { row := topSweepsUptoRow, standIns := [], harness := (true, "19539e6ee88e9a080915b7af3355c66236e00c1593056159402ead13211ce364"), looks := true }, kinds := [], alts := [], laidByText := true, laidKinds := [.data, .data, .data], laidTests := true, laidLooks := .later }
def TopSweepsUptoCardSaid : Prop := Claim7.holds Tryz.pinned (.plain (OpenSpec.upto topSweepsSpec)) topSweepsUptoCard

/-- THE SECOND FORM's CARD OF 'frankpledgetop.TopTwice'. -/
def topTwiceUptoCard : Claim7 := { stood := { row := topTwiceUptoRow, standIns := [], harness := (true, "19539e6ee88e9a080915b7af3355c66236e00c1593056159402ead13211ce364"), looks := true }, kinds := [], alts := [], laidByText := true, laidKinds := [.data, .data, .data], laidTests := true, laidLooks := .later }
def TopTwiceUptoCardSaid : Prop := Claim7.holds Tryz.pinned (.plain (OpenSpec.upto topTwiceSpec)) topTwiceUptoCard

/-- THE SECOND FORM's CARD OF 'frankpledgetop.TopQueues'. -/
def topQueuesUptoCard : Claim7 := { stood := { row := topQueuesUptoRow, standIns := [], harness := (true, "19539e6ee88e9a080915b7af3355c66236e00c1593056159402ead13211ce364"), looks := true }, kinds := [], alts := [], laidByText := true, laidKinds := [.data, .data, .data], laidTests := true, laidLooks := .later }
def TopQueuesUptoCardSaid : Prop := Claim7.holds Tryz.pinned (.plain (OpenSpec.upto topQueuesSpec)) topQueuesUptoCard

/-- THE SECOND FORM's CARD OF 'frankpledgetop.TopClocks'. -/
def topClocksUptoCard : Claim7 := { stood := { row := topClocksUptoRow, standIns := [], harness := (true, "19539e6ee88e9a080915b7af3355c66236e00c1593056159402ead13211ce364"), looks := true }, kinds := [], alts := [], laidByText := true, laidKinds := [.data, .data, .data], laidTests := true, laidLooks := .later }
def TopClocksUptoCardSaid : Prop := Claim7.holds Tryz.pinned (.plain (OpenSpec.upto topClocksSpec)) topClocksUptoCard

/-- THE SECOND FORM's CARD OF 'frankpledgetop.TopRejoins'. -/
def topRejoinsUptoCard : Claim7 := { stood := { row := topRejoinsUptoRow, standIns := [], harness := (true, "19539e6ee88e9a080915b7af3355c66236e00c1593056159402ead13211ce364"), looks := true }, kinds := [], alts := [], laidByText := true, laidKinds := [.data, .data, .data], laidTests := true, laidLooks := .later }
def TopRejoinsUptoCardSaid : Prop := Claim7.holds Tryz.pinned (.plain (OpenSpec.upto topRejoinsSpec)) topRejoinsUptoCard

/-- THE SECOND FORM's CARD OF 'frankpledgetop.TopLate'. -/
def topLateUptoCard : Claim7 := { stood := { row := topLateUptoRow, standIns := [], harness := (true, "19539e6ee88e9a080915b7af3355c66236e00c1593056159402ead13211ce364"), looks := true }, kinds := [], alts := [], laidByText := true, laidKinds := [.data, .data, .data], laidTests := true, laidLooks := .later }
def TopLateUptoCardSaid : Prop := Claim7.holds Tryz.pinned (.plain (OpenSpec.upto topLateSpec)) topLateUptoCard

/-- THE SECOND FORM's CARD OF 'frankpledgetop.TopFull'. -/
def topFullUptoCard : Claim7 := { stood := { row := topFullUptoRow, standIns := [], harness := (true, "19539e6ee88e9a080915b7af3355c66236e00c1593056159402ead13211ce364"), looks := true }, kinds := [], alts := [], laidByText := true, laidKinds := [.data, .data, .data], laidTests := true, laidLooks := .later }
def TopFullUptoCardSaid : Prop := Claim7.holds Tryz.pinned (.plain (OpenSpec.upto topFullSpec)) topFullUptoCard
end Rows
end Go.Proofs.YtinkiihdnepfjaaGreatDoor
