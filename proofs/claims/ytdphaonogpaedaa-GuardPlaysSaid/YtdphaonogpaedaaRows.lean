/-
  No cell of these rows narrows 'for every input' (looked for: loops, veiled, ifaces, maps, wideKeys, modest, calm, conditions, laid).
  DERIVED. THE GIVEN ROWS OF THIS SEAT. 4 by the template 'for every input the law returns true; each argument reads behind the call as it read before'; 0 by the template 'total and deterministic' (their statements: YtdphaonogpaedaaTotals.lean).
  GIVEN WITH THE SEED: the statements are not yours to turn. If you find one false, say at which input.
  Laid BY PROGRAM, IN A SANDBOX (cutbox-rows.mjs): the forced cells as the released guide's own fill.sh prints them over the translation 794709222620b7bd… (all of the seat's roots in one cut). By AI agents, Wed Nov 11 2026. No macro, syntax, notation, axiom, sorry.
-/
import Derived.Test.YtdphaonogpaedaaChecked
import GoSem.Claim
import GoSem.ClaimJoined
import GoSem.ClaimMapViews
import Derived.JoinedTies
import Derived.KernelRfl
namespace Go.Proofs.Ytdphaonogpaedaa
/- THE CELL 'sum', in the pinned program and in every row, IS THE sha256 OF THE DUMP (.gsa) THAT YtdphaonogpaedaaProg.lean LOADS. Nothing in Lean hashes anything: it is a label: what it is worth is what the hold of that sum in a sandbox is worth. -/
noncomputable def Try.pinned : Pinned := { name := "ytdphaonogpaedaa", sum := "794709222620b7bd47823c028d9d7c8b68bd35df996d3744623ea13e76420a27", checked := Try.checked }
namespace Rows
def none {H : Type} : Left H := { results := [], args := [] }

/-- 'frankpledgelaw11.GuardNumbers': WHATEVER THE INPUT: true; the input reads as it did. -/
def guardNumbersSpec : ChangeSpec := { name := "guardNumbers", fn := fun _ => fun
  | [] => { results := [.lit (.bool true)], args := [] }
  | _ => none }
def guardNumbersRow : OpenClaim := { program := "ytdphaonogpaedaa", sum := "794709222620b7bd47823c028d9d7c8b68bd35df996d3744623ea13e76420a27", func := "frankpledge/frankpledgelaw11.GuardNumbers", spec := "guardNumbers", apart := false }
def GuardNumbersSaid : Prop := guardNumbersRow.holds Try.pinned (OpenSpec.ofChange guardNumbersSpec)

/-- ITS FALSE NEIGHBOUR: 'it returns false'. Refute it at one input. -/
def guardNumbersWrong : ChangeSpec := { name := "guardNumbers", fn := fun _ => fun
  | [] => { results := [.lit (.bool false)], args := [] }
  | _ => none }
def GuardNumbersWrongFalsely : Prop := guardNumbersRow.holds Try.pinned (OpenSpec.ofChange guardNumbersWrong)

/-- 'frankpledgelaw11.GuardPlays': WHATEVER THE INPUT: true; the input reads as it did. -/
def guardPlaysSpec : ChangeSpec := { name := "guardPlays", fn := fun _ => fun
  | [d1, d2, d3] => { results := [.lit (.bool true)], args := [d1, d2, d3] }
  | _ => none }
def guardPlaysRow : OpenClaim := { program := "ytdphaonogpaedaa", sum := "794709222620b7bd47823c028d9d7c8b68bd35df996d3744623ea13e76420a27", func := "frankpledge/frankpledgelaw11.GuardPlays", spec := "guardPlays", apart := false }
def GuardPlaysSaid : Prop := guardPlaysRow.holds Try.pinned (OpenSpec.ofChange guardPlaysSpec)

/-- ITS FALSE NEIGHBOUR: 'it returns false'. Refute it at one input. -/
def guardPlaysWrong : ChangeSpec := { name := "guardPlays", fn := fun _ => fun
  | [d1, d2, d3] => { results := [.lit (.bool false)], args := [d1, d2, d3] }
  | _ => none }
def GuardPlaysWrongFalsely : Prop := guardPlaysRow.holds Try.pinned (OpenSpec.ofChange guardPlaysWrong)

/-- 'frankpledgelaw11.GuardHolds': WHATEVER THE INPUT: true; the input reads as it did. -/
def guardHoldsSpec : ChangeSpec := { name := "guardHolds", fn := fun _ => fun
  | [d1, d2] => { results := [.lit (.bool true)], args := [d1, d2] }
  | _ => none }
def guardHoldsRow : OpenClaim := { program := "ytdphaonogpaedaa", sum := "794709222620b7bd47823c028d9d7c8b68bd35df996d3744623ea13e76420a27", func := "frankpledge/frankpledgelaw11.GuardHolds", spec := "guardHolds", apart := false }
def GuardHoldsSaid : Prop := guardHoldsRow.holds Try.pinned (OpenSpec.ofChange guardHoldsSpec)

/-- ITS FALSE NEIGHBOUR: 'it returns false'. Refute it at one input. -/
def guardHoldsWrong : ChangeSpec := { name := "guardHolds", fn := fun _ => fun
  | [d1, d2] => { results := [.lit (.bool false)], args := [d1, d2] }
  | _ => none }
def GuardHoldsWrongFalsely : Prop := guardHoldsRow.holds Try.pinned (OpenSpec.ofChange guardHoldsWrong)

/-- 'frankpledgelaw11.GuardNeeds': WHATEVER THE INPUT: true; the input reads as it did. -/
def guardNeedsSpec : ChangeSpec := { name := "guardNeeds", fn := fun _ => fun
  | [d1, d2] => { results := [.lit (.bool true)], args := [d1, d2] }
  | _ => none }
def guardNeedsRow : OpenClaim := { program := "ytdphaonogpaedaa", sum := "794709222620b7bd47823c028d9d7c8b68bd35df996d3744623ea13e76420a27", func := "frankpledge/frankpledgelaw11.GuardNeeds", spec := "guardNeeds", apart := false }
def GuardNeedsSaid : Prop := guardNeedsRow.holds Try.pinned (OpenSpec.ofChange guardNeedsSpec)

/-- ITS FALSE NEIGHBOUR: 'it returns false'. Refute it at one input. -/
def guardNeedsWrong : ChangeSpec := { name := "guardNeeds", fn := fun _ => fun
  | [d1, d2] => { results := [.lit (.bool false)], args := [d1, d2] }
  | _ => none }
def GuardNeedsWrongFalsely : Prop := guardNeedsRow.holds Try.pinned (OpenSpec.ofChange guardNeedsWrong)

/- THE SECOND FORM. 'bulk': how many values and letters a reading holds, each counted each time it is reached (what is shared counts as often as it is met; a slice's spare places count too). A statement '..UptoSaid' is the law's where the arguments, and the package variables that the reading takes, are together of bulk at most 1048576: NARROWER than '..Said'. Prove '..Said' where nothing that the law and all that it calls make is longer than what came in: it says more and counts as full. Else prove '..UptoSaid'. A law counts once. -/
mutual
def uptoBulk {H : Type} : DataW H → Nat
  | .lit (.string bytes) => bytes.length + 1
  | .lit _ => 1
  | .nil => 1
  | .ptr d => uptoBulk d + 1
  | .slice elems spare => uptoBulkAll elems + uptoBulkAll spare + 1
  | .agg parts => uptoBulkAll parts + 1
  | .iface _ d => uptoBulk d + 1
  | .map entries => uptoBulkEntries entries + 1
  | .held _ => 1
def uptoBulkAll {H : Type} : List (DataW H) → Nat
  | [] => 0
  | d :: r => uptoBulk d + uptoBulkAll r
def uptoBulkEntries {H : Type} : List (Lit × DataW H) → Nat
  | [] => 0
  | x :: r => uptoBulkEntry x + uptoBulkEntries r
def uptoBulkEntry {H : Type} : Lit × DataW H → Nat
  | (.string bytes, d) => bytes.length + uptoBulk d + 1
  | (_, d) => uptoBulk d + 1
 end
def uptoSmall : (H : Type) → List (DataW H) → Bool := fun _ ds => decide (uptoBulkAll ds ≤ 1048576)
def OpenSpec.upto (s : _root_.Go.ChangeSpec) : _root_.Go.OpenSpec := { _root_.Go.OpenSpec.ofChange s with cond := some uptoSmall }

/-- 'frankpledgelaw11.GuardNumbers', WHERE WHAT IT READS IS OF BULK AT MOST 1048576: true; the input reads as it did. -/
def guardNumbersUptoRow : OpenClaim := { program := "ytdphaonogpaedaa", sum := "794709222620b7bd47823c028d9d7c8b68bd35df996d3744623ea13e76420a27", func := "frankpledge/frankpledgelaw11.GuardNumbers", spec := "guardNumbers", apart := false, narrowed := true }
def GuardNumbersUptoSaid : Prop := guardNumbersUptoRow.holds Try.pinned (OpenSpec.upto guardNumbersSpec)

/-- 'frankpledgelaw11.GuardPlays', WHERE WHAT IT READS IS OF BULK AT MOST 1048576: true; the input reads as it did. -/
def guardPlaysUptoRow : OpenClaim := { program := "ytdphaonogpaedaa", sum := "794709222620b7bd47823c028d9d7c8b68bd35df996d3744623ea13e76420a27", func := "frankpledge/frankpledgelaw11.GuardPlays", spec := "guardPlays", apart := false, narrowed := true }
def GuardPlaysUptoSaid : Prop := guardPlaysUptoRow.holds Try.pinned (OpenSpec.upto guardPlaysSpec)

/-- 'frankpledgelaw11.GuardHolds', WHERE WHAT IT READS IS OF BULK AT MOST 1048576: true; the input reads as it did. -/
def guardHoldsUptoRow : OpenClaim := { program := "ytdphaonogpaedaa", sum := "794709222620b7bd47823c028d9d7c8b68bd35df996d3744623ea13e76420a27", func := "frankpledge/frankpledgelaw11.GuardHolds", spec := "guardHolds", apart := false, narrowed := true }
def GuardHoldsUptoSaid : Prop := guardHoldsUptoRow.holds Try.pinned (OpenSpec.upto guardHoldsSpec)

/-- 'frankpledgelaw11.GuardNeeds', WHERE WHAT IT READS IS OF BULK AT MOST 1048576: true; the input reads as it did. -/
def guardNeedsUptoRow : OpenClaim := { program := "ytdphaonogpaedaa", sum := "794709222620b7bd47823c028d9d7c8b68bd35df996d3744623ea13e76420a27", func := "frankpledge/frankpledgelaw11.GuardNeeds", spec := "guardNeeds", apart := false, narrowed := true }
def GuardNeedsUptoSaid : Prop := guardNeedsUptoRow.holds Try.pinned (OpenSpec.upto guardNeedsSpec)

end Rows
end Go.Proofs.Ytdphaonogpaedaa
