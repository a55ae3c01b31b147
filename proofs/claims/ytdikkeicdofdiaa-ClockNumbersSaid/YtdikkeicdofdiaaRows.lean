/-
  No cell of these rows narrows 'for every input' (looked for: loops, veiled, ifaces, maps, wideKeys, modest, calm, conditions, laid).
  DERIVED. THE GIVEN ROWS OF THIS SEAT. 4 by the template 'for every input the law returns true; each argument reads behind the call as it read before'; 0 by the template 'total and deterministic' (their statements: YtdikkeicdofdiaaTotals.lean).
  GIVEN WITH THE SEED: the statements are not yours to turn. If you find one false, say at which input.
  Laid BY PROGRAM, IN A SANDBOX (cutbox-rows.mjs): the forced cells as the released guide's own fill.sh prints them over the translation 4a6a9e793436d81b… (all of the seat's roots in one cut). By AI agents, Wed Nov 11 2026. No macro, syntax, notation, axiom, sorry.
-/
import Derived.Test.YtdikkeicdofdiaaChecked
import GoSem.Claim
import GoSem.ClaimJoined
import GoSem.ClaimMapViews
import Derived.JoinedTies
import Derived.KernelRfl
namespace Go.Proofs.Ytdikkeicdofdiaa
/- THE CELL 'sum', in the pinned program and in every row, IS THE sha256 OF THE DUMP (.gsa) THAT YtdikkeicdofdiaaProg.lean LOADS. Nothing in Lean hashes anything: it is a label: what it is worth is what the hold of that sum in a sandbox is worth. -/
noncomputable def Try.pinned : Pinned := { name := "ytdikkeicdofdiaa", sum := "4a6a9e793436d81b5da52037f6e2c043b8c6a57d61f5565ee11d841f4946666a", checked := Try.checked }
namespace Rows
def none {H : Type} : Left H := { results := [], args := [] }

/-- 'frankpledgelaw7.ClockNumbers': WHATEVER THE INPUT: true; the input reads as it did. -/
def clockNumbersSpec : ChangeSpec := { name := "clockNumbers", fn := fun _ => fun
  | [] => { results := [.lit (.bool true)], args := [] }
  | _ => none }
def clockNumbersRow : OpenClaim := { program := "ytdikkeicdofdiaa", sum := "4a6a9e793436d81b5da52037f6e2c043b8c6a57d61f5565ee11d841f4946666a", func := "frankpledge/frankpledgelaw7.ClockNumbers", spec := "clockNumbers", apart := false }
def ClockNumbersSaid : Prop := clockNumbersRow.holds Try.pinned (OpenSpec.ofChange clockNumbersSpec)

/-- ITS FALSE NEIGHBOUR: 'it returns false'. Refute it at one input. -/
def clockNumbersWrong : ChangeSpec := { name := "clockNumbers", fn := fun _ => fun
  | [] => { results := [.lit (.bool false)], args := [] }
  | _ => none }
def ClockNumbersWrongFalsely : Prop := clockNumbersRow.holds Try.pinned (OpenSpec.ofChange clockNumbersWrong)

/-- 'frankpledgelaw7.ClockPlays': WHATEVER THE INPUT: true; the input reads as it did. -/
def clockPlaysSpec : ChangeSpec := { name := "clockPlays", fn := fun _ => fun
  | [d1, d2, d3] => { results := [.lit (.bool true)], args := [d1, d2, d3] }
  | _ => none }
def clockPlaysRow : OpenClaim := { program := "ytdikkeicdofdiaa", sum := "4a6a9e793436d81b5da52037f6e2c043b8c6a57d61f5565ee11d841f4946666a", func := "frankpledge/frankpledgelaw7.ClockPlays", spec := "clockPlays", apart := false }
def ClockPlaysSaid : Prop := clockPlaysRow.holds Try.pinned (OpenSpec.ofChange clockPlaysSpec)

/-- ITS FALSE NEIGHBOUR: 'it returns false'. Refute it at one input. -/
def clockPlaysWrong : ChangeSpec := { name := "clockPlays", fn := fun _ => fun
  | [d1, d2, d3] => { results := [.lit (.bool false)], args := [d1, d2, d3] }
  | _ => none }
def ClockPlaysWrongFalsely : Prop := clockPlaysRow.holds Try.pinned (OpenSpec.ofChange clockPlaysWrong)

/-- 'frankpledgelaw7.ClockSums': WHATEVER THE INPUT: true; the input reads as it did. -/
def clockSumsSpec : ChangeSpec := { name := "clockSums", fn := fun _ => fun
  | [d1, d2] => { results := [.lit (.bool true)], args := [d1, d2] }
  | _ => none }
def clockSumsRow : OpenClaim := { program := "ytdikkeicdofdiaa", sum := "4a6a9e793436d81b5da52037f6e2c043b8c6a57d61f5565ee11d841f4946666a", func := "frankpledge/frankpledgelaw7.ClockSums", spec := "clockSums", apart := false }
def ClockSumsSaid : Prop := clockSumsRow.holds Try.pinned (OpenSpec.ofChange clockSumsSpec)

/-- ITS FALSE NEIGHBOUR: 'it returns false'. Refute it at one input. -/
def clockSumsWrong : ChangeSpec := { name := "clockSums", fn := fun _ => fun
  | [d1, d2] => { results := [.lit (.bool false)], args := [d1, d2] }
  | _ => none }
def ClockSumsWrongFalsely : Prop := clockSumsRow.holds Try.pinned (OpenSpec.ofChange clockSumsWrong)

/-- 'frankpledgelaw7.ClockRefuses': WHATEVER THE INPUT: true; the input reads as it did. -/
def clockRefusesSpec : ChangeSpec := { name := "clockRefuses", fn := fun _ => fun
  | [d1, d2] => { results := [.lit (.bool true)], args := [d1, d2] }
  | _ => none }
def clockRefusesRow : OpenClaim := { program := "ytdikkeicdofdiaa", sum := "4a6a9e793436d81b5da52037f6e2c043b8c6a57d61f5565ee11d841f4946666a", func := "frankpledge/frankpledgelaw7.ClockRefuses", spec := "clockRefuses", apart := false }
def ClockRefusesSaid : Prop := clockRefusesRow.holds Try.pinned (OpenSpec.ofChange clockRefusesSpec)

/-- ITS FALSE NEIGHBOUR: 'it returns false'. Refute it at one input. -/
def clockRefusesWrong : ChangeSpec := { name := "clockRefuses", fn := fun _ => fun
  | [d1, d2] => { results := [.lit (.bool false)], args := [d1, d2] }
  | _ => none }
def ClockRefusesWrongFalsely : Prop := clockRefusesRow.holds Try.pinned (OpenSpec.ofChange clockRefusesWrong)

/- THE SECOND FORM. 'bulk': how many values and letters a reading holds, each counted each time it is reached (what is shared counts as often as it is met; a slice's spare places count too). A statement '..UptoSaid' is the law's where the arguments, and the package variables that the reading takes, are together of bulk at most 1048576: NARROWER than '..Said'. Prove '..Said' where nothing that the law and all that it calls make is longer than what came in: it says more and counts as full. Else prove '..UptoSaid'. A law counts once. -/
mutual
def uptoBulk {H : Type} : DataW H → Nat
  | .lit (.string bytes) => bytes.length + 1
  | .lit _ => 1
  | .nil => 1
  | .ptr d => uptoBulk d + 1
  | .slice elems spare => uptoBulkAll elems + uptoBulkAll spare + 1
  | .agg parts => uptoBulkAll parts + 1
  | .iface _ d => uptoBulk d + 1
  | .map entries => uptoBulkEntries entries + 1
  | .held _ => 1
def uptoBulkAll {H : Type} : List (DataW H) → Nat
  | [] => 0
  | d :: r => uptoBulk d + uptoBulkAll r
def uptoBulkEntries {H : Type} : List (Lit × DataW H) → Nat
  | [] => 0
  | x :: r => uptoBulkEntry x + uptoBulkEntries r
def uptoBulkEntry {H : Type} : Lit × DataW H → Nat
  | (.string bytes, d) => bytes.length + uptoBulk d + 1
  | (_, d) => uptoBulk d + 1
 end
def uptoSmall : (H : Type) → List (DataW H) → Bool := fun _ ds => decide (uptoBulkAll ds ≤ 1048576)
def OpenSpec.upto (s : _root_.Go.ChangeSpec) : _root_.Go.OpenSpec := { _root_.Go.OpenSpec.ofChange s with cond := some uptoSmall }

/-- 'frankpledgelaw7.ClockNumbers', WHERE WHAT IT READS IS OF BULK AT MOST 1048576: true; the input reads as it did. -/
def clockNumbersUptoRow : OpenClaim := { program := "ytdikkeicdofdiaa", sum := "4a6a9e793436d81b5da52037f6e2c043b8c6a57d61f5565ee11d841f4946666a", func := "frankpledge/frankpledgelaw7.ClockNumbers", spec := "clockNumbers", apart := false, narrowed := true }
def ClockNumbersUptoSaid : Prop := clockNumbersUptoRow.holds Try.pinned (OpenSpec.upto clockNumbersSpec)

/-- 'frankpledgelaw7.ClockPlays', WHERE WHAT IT READS IS OF BULK AT MOST 1048576: true; the input reads as it did. -/
def clockPlaysUptoRow : OpenClaim := { program := "ytdikkeicdofdiaa", sum := "4a6a9e793436d81b5da52037f6e2c043b8c6a57d61f5565ee11d841f4946666a", func := "frankpledge/frankpledgelaw7.ClockPlays", spec := "clockPlays", apart := false, narrowed := true }
def ClockPlaysUptoSaid : Prop := clockPlaysUptoRow.holds Try.pinned (OpenSpec.upto clockPlaysSpec)

/-- 'frankpledgelaw7.ClockSums', WHERE WHAT IT READS IS OF BULK AT MOST 1048576: true; the input reads as it did. -/
def clockSumsUptoRow : OpenClaim := { program := "ytdikkeicdofdiaa", sum := "4a6a9e793436d81b5da52037f6e2c043b8c6a57d61f5565ee11d841f4946666a", func := "frankpledge/frankpledgelaw7.ClockSums", spec := "clockSums", apart := false, narrowed := true }
def ClockSumsUptoSaid : Prop := clockSumsUptoRow.holds Try.pinned (OpenSpec.upto clockSumsSpec)

/-- 'frankpledgelaw7.ClockRefuses', WHERE WHAT IT READS IS OF BULK AT MOST 1048576: true; the input reads as it did. -/
def clockRefusesUptoRow : OpenClaim := { program := "ytdikkeicdofdiaa", sum := "4a6a9e793436d81b5da52037f6e2c043b8c6a57d61f5565ee11d841f4946666a", func := "frankpledge/frankpledgelaw7.ClockRefuses", spec := "clockRefuses", apart := false, narrowed := true }
def ClockRefusesUptoSaid : Prop := clockRefusesUptoRow.holds Try.pinned (OpenSpec.upto clockRefusesSpec)

end Rows
end Go.Proofs.Ytdikkeicdofdiaa
