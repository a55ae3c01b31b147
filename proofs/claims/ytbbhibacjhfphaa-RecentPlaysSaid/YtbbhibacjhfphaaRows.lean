/-
  No cell of these rows narrows 'for every input' (looked for: loops, veiled, ifaces, maps, wideKeys, modest, calm, conditions, laid).
  DERIVED. THE GIVEN ROWS OF THIS SEAT. 4 by the template 'for every input the law returns true; each argument reads behind the call as it read before'; 0 by the template 'total and deterministic' (their statements: YtbbhibacjhfphaaTotals.lean).
  GIVEN WITH THE SEED: the statements are not yours to turn. If you find one false, say at which input.
  Laid BY PROGRAM, IN A SANDBOX (cutbox-rows.mjs): the forced cells as the released guide's own fill.sh prints them over the translation ad9852feabec5527… (all of the seat's roots in one cut). By AI agents, Wed Nov 11 2026. No macro, syntax, notation, axiom, sorry.
-/
import Derived.Test.YtbbhibacjhfphaaChecked
import GoSem.Claim
import GoSem.ClaimJoined
import GoSem.ClaimMapViews
import Derived.JoinedTies
import Derived.KernelRfl
namespace Go.Proofs.Ytbbhibacjhfphaa
/- THE CELL 'sum', in the pinned program and in every row, IS THE sha256 OF THE DUMP (.gsa) THAT YtbbhibacjhfphaaProg.lean LOADS. Nothing in Lean hashes anything: it is a label: what it is worth is what the hold of that sum in a sandbox is worth. -/
noncomputable def Try.pinned : Pinned := { name := "ytbbhibacjhfphaa", sum := "ad9852feabec5527d802cfb93e417160666b2e18f5311a74e1e1e426b59c576c", checked := Try.checked }
namespace Rows
def none {H : Type} : Left H := { results := [], args := [] }

/-- 'frankpledgelaw13.RecentNumbers': WHATEVER THE INPUT: true; the input reads as it did. -/
def recentNumbersSpec : ChangeSpec := { name := "recentNumbers", fn := fun _ => fun
  | [] => { results := [.lit (.bool true)], args := [] }
  | _ => none }
def recentNumbersRow : OpenClaim := { program := "ytbbhibacjhfphaa", sum := "ad9852feabec5527d802cfb93e417160666b2e18f5311a74e1e1e426b59c576c", func := "frankpledge/frankpledgelaw13.RecentNumbers", spec := "recentNumbers", apart := false }
def RecentNumbersSaid : Prop := recentNumbersRow.holds Try.pinned (OpenSpec.ofChange recentNumbersSpec)

/-- ITS FALSE NEIGHBOUR: 'it returns false'. Refute it at one input. -/
def recentNumbersWrong : ChangeSpec := { name := "recentNumbers", fn := fun _ => fun
  | [] => { results := [.lit (.bool false)], args := [] }
  | _ => none }
def RecentNumbersWrongFalsely : Prop := recentNumbersRow.holds Try.pinned (OpenSpec.ofChange recentNumbersWrong)

/-- 'frankpledgelaw13.RecentPlays': WHATEVER THE INPUT: true; the input reads as it did. -/
def recentPlaysSpec : ChangeSpec := { name := "recentPlays", fn := fun _ => fun
  | [d1, d2, d3] => { results := [.lit (.bool true)], args := [d1, d2, d3] }
  | _ => none }
def recentPlaysRow : OpenClaim := { program := "ytbbhibacjhfphaa", sum := "ad9852feabec5527d802cfb93e417160666b2e18f5311a74e1e1e426b59c576c", func := "frankpledge/frankpledgelaw13.RecentPlays", spec := "recentPlays", apart := false }
def RecentPlaysSaid : Prop := recentPlaysRow.holds Try.pinned (OpenSpec.ofChange recentPlaysSpec)

/-- ITS FALSE NEIGHBOUR: 'it returns false'. Refute it at one input. -/
def recentPlaysWrong : ChangeSpec := { name := "recentPlays", fn := fun _ => fun
  | [d1, d2, d3] => { results := [.lit (.bool false)], args := [d1, d2, d3] }
  | _ => none }
def RecentPlaysWrongFalsely : Prop := recentPlaysRow.holds Try.pinned (OpenSpec.ofChange recentPlaysWrong)

/-- 'frankpledgelaw13.RecentEach': WHATEVER THE INPUT: true; the input reads as it did. -/
def recentEachSpec : ChangeSpec := { name := "recentEach", fn := fun _ => fun
  | [d1, d2] => { results := [.lit (.bool true)], args := [d1, d2] }
  | _ => none }
def recentEachRow : OpenClaim := { program := "ytbbhibacjhfphaa", sum := "ad9852feabec5527d802cfb93e417160666b2e18f5311a74e1e1e426b59c576c", func := "frankpledge/frankpledgelaw13.RecentEach", spec := "recentEach", apart := false }
def RecentEachSaid : Prop := recentEachRow.holds Try.pinned (OpenSpec.ofChange recentEachSpec)

/-- ITS FALSE NEIGHBOUR: 'it returns false'. Refute it at one input. -/
def recentEachWrong : ChangeSpec := { name := "recentEach", fn := fun _ => fun
  | [d1, d2] => { results := [.lit (.bool false)], args := [d1, d2] }
  | _ => none }
def RecentEachWrongFalsely : Prop := recentEachRow.holds Try.pinned (OpenSpec.ofChange recentEachWrong)

/-- 'frankpledgelaw13.RecentNow': WHATEVER THE INPUT: true; the input reads as it did. -/
def recentNowSpec : ChangeSpec := { name := "recentNow", fn := fun _ => fun
  | [d] => { results := [.lit (.bool true)], args := [d] }
  | _ => none }
def recentNowRow : OpenClaim := { program := "ytbbhibacjhfphaa", sum := "ad9852feabec5527d802cfb93e417160666b2e18f5311a74e1e1e426b59c576c", func := "frankpledge/frankpledgelaw13.RecentNow", spec := "recentNow", apart := false }
def RecentNowSaid : Prop := recentNowRow.holds Try.pinned (OpenSpec.ofChange recentNowSpec)

/-- ITS FALSE NEIGHBOUR: 'it returns false'. Refute it at one input. -/
def recentNowWrong : ChangeSpec := { name := "recentNow", fn := fun _ => fun
  | [d] => { results := [.lit (.bool false)], args := [d] }
  | _ => none }
def RecentNowWrongFalsely : Prop := recentNowRow.holds Try.pinned (OpenSpec.ofChange recentNowWrong)

/- THE SECOND FORM. 'bulk': how many values and letters a reading holds, each counted each time it is reached (what is shared counts as often as it is met; a slice's spare places count too). A statement '..UptoSaid' is the law's where the arguments, and the package variables that the reading takes, are together of bulk at most 1048576: NARROWER than '..Said'. Prove '..Said' where nothing that the law and all that it calls make is longer than what came in: it says more and counts as full. Else prove '..UptoSaid'. A law counts once. -/
mutual
def uptoBulk {H : Type} : DataW H → Nat
  | .lit (.string bytes) => bytes.length + 1
  | .lit _ => 1
  | .nil => 1
  | .ptr d => uptoBulk d + 1
  | .slice elems spare => uptoBulkAll elems + uptoBulkAll spare + 1
  | .agg parts => uptoBulkAll parts + 1
  | .iface _ d => uptoBulk d + 1
  | .map entries => uptoBulkEntries entries + 1
  | .held _ => 1
def uptoBulkAll {H : Type} : List (DataW H) → Nat
  | [] => 0
  | d :: r => uptoBulk d + uptoBulkAll r
def uptoBulkEntries {H : Type} : List (Lit × DataW H) → Nat
  | [] => 0
  | x :: r => uptoBulkEntry x + uptoBulkEntries r
def uptoBulkEntry {H : Type} : Lit × DataW H → Nat
  | (.string bytes, d) => bytes.length + uptoBulk d + 1
  | (_, d) => uptoBulk d + 1
 end
def uptoSmall : (H : Type) → List (DataW H) → Bool := fun _ ds => decide (uptoBulkAll ds ≤ 1048576)
def OpenSpec.upto (s : _root_.Go.ChangeSpec) : _root_.Go.OpenSpec := { _root_.Go.OpenSpec.ofChange s with cond := some uptoSmall }

/-- 'frankpledgelaw13.RecentNumbers', WHERE WHAT IT READS IS OF BULK AT MOST 1048576: true; the input reads as it did. -/
def recentNumbersUptoRow : OpenClaim := { program := "ytbbhibacjhfphaa", sum := "ad9852feabec5527d802cfb93e417160666b2e18f5311a74e1e1e426b59c576c", func := "frankpledge/frankpledgelaw13.RecentNumbers", spec := "recentNumbers", apart := false, narrowed := true }
def RecentNumbersUptoSaid : Prop := recentNumbersUptoRow.holds Try.pinned (OpenSpec.upto recentNumbersSpec)

/-- 'frankpledgelaw13.RecentPlays', WHERE WHAT IT READS IS OF BULK AT MOST 1048576: true; the input reads as it did. -/
def recentPlaysUptoRow : OpenClaim := { program := "ytbbhibacjhfphaa", sum := "ad9852feabec5527d802cfb93e417160666b2e18f5311a74e1e1e426b59c576c", func := "frankpledge/frankpledgelaw13.RecentPlays", spec := "recentPlays", apart := false, narrowed := true }
def RecentPlaysUptoSaid : Prop := recentPlaysUptoRow.holds Try.pinned (OpenSpec.upto recentPlaysSpec)

/-- 'frankpledgelaw13.RecentEach', WHERE WHAT IT READS IS OF BULK AT MOST 1048576: true; the input reads as it did. -/
def recentEachUptoRow : OpenClaim := { program := "ytbbhibacjhfphaa", sum := "ad9852feabec5527d802cfb93e417160666b2e18f5311a74e1e1e426b59c576c", func := "frankpledge/frankpledgelaw13.RecentEach", spec := "recentEach", apart := false, narrowed := true }
def RecentEachUptoSaid : Prop := recentEachUptoRow.holds Try.pinned (OpenSpec.upto recentEachSpec)

/-- 'frankpledgelaw13.RecentNow', WHERE WHAT IT READS IS OF BULK AT MOST 1048576: true; the input reads as it did. -/
def recentNowUptoRow : OpenClaim := { program := "ytbbhibacjhfphaa", sum := "ad9852feabec5527d802cfb93e417160666b2e18f5311a74e1e1e426b59c576c", func := "frankpledge/frankpledgelaw13.RecentNow", spec := "recentNow", apart := false, narrowed := true }
def RecentNowUptoSaid : Prop := recentNowUptoRow.holds Try.pinned (OpenSpec.upto recentNowSpec)

end Rows
end Go.Proofs.Ytbbhibacjhfphaa
