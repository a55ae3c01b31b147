/-
  No cell of these rows narrows 'for every input' (looked for: loops, veiled, ifaces, maps, wideKeys, modest, calm, conditions, laid).
  DERIVED. THE GIVEN ROWS OF THIS SEAT. 5 by the template 'for every input the law returns true; each argument reads behind the call as it read before'; 0 by the template 'total and deterministic' (their statements: YtkmegdliingbjaaTotals.lean).
  GIVEN WITH THE SEED: the statements are not yours to turn. If you find one false, say at which input.
  Laid BY PROGRAM, IN A SANDBOX (cutbox-rows.mjs): the forced cells as the released guide's own fill.sh prints them over the translation 2031587a23d2806e… (all of the seat's roots in one cut). By AI agents, Wed Nov 11 2026. No macro, syntax, notation, axiom, sorry.
-/
import Derived.Test.YtkmegdliingbjaaChecked
import GoSem.Claim
import GoSem.ClaimJoined
import GoSem.ClaimMapViews
import Derived.JoinedTies
import Derived.KernelRfl
namespace Go.Proofs.Ytkmegdliingbjaa
/- THE CELL 'sum', in the pinned program and in every row, IS THE sha256 OF THE DUMP (.gsa) THAT YtkmegdliingbjaaProg.lean LOADS. Nothing in Lean hashes anything: it is a label: what it is worth is what the hold of that sum in a sandbox is worth. -/
noncomputable def Try.pinned : Pinned := { name := "ytkmegdliingbjaa", sum := "2031587a23d2806e1620288037e9d98ce7a76cbd8ec101265690cf2972b2a7a8", checked := Try.checked }
namespace Rows
def none {H : Type} : Left H := { results := [], args := [] }

/-- 'frankpledgelaw9.LeaseLate': WHATEVER THE INPUT: true; the input reads as it did. -/
def leaseLateSpec : ChangeSpec := { name := "leaseLate", fn := fun _ => fun
  | [d1, d2, d3] => { results := [.lit (.bool true)], args := [d1, d2, d3] }
  | _ => none }
def leaseLateRow : OpenClaim := { program := "ytkmegdliingbjaa", sum := "2031587a23d2806e1620288037e9d98ce7a76cbd8ec101265690cf2972b2a7a8", func := "frankpledge/frankpledgelaw9.LeaseLate", spec := "leaseLate", apart := false }
def LeaseLateSaid : Prop := leaseLateRow.holds Try.pinned (OpenSpec.ofChange leaseLateSpec)

/-- ITS FALSE NEIGHBOUR: 'it returns false'. Refute it at one input. -/
def leaseLateWrong : ChangeSpec := { name := "leaseLate", fn := fun _ => fun
  | [d1, d2, d3] => { results := [.lit (.bool false)], args := [d1, d2, d3] }
  | _ => none }
def LeaseLateWrongFalsely : Prop := leaseLateRow.holds Try.pinned (OpenSpec.ofChange leaseLateWrong)

/-- 'frankpledgelaw9.LeaseNumbers': WHATEVER THE INPUT: true; the input reads as it did. -/
def leaseNumbersSpec : ChangeSpec := { name := "leaseNumbers", fn := fun _ => fun
  | [] => { results := [.lit (.bool true)], args := [] }
  | _ => none }
def leaseNumbersRow : OpenClaim := { program := "ytkmegdliingbjaa", sum := "2031587a23d2806e1620288037e9d98ce7a76cbd8ec101265690cf2972b2a7a8", func := "frankpledge/frankpledgelaw9.LeaseNumbers", spec := "leaseNumbers", apart := false }
def LeaseNumbersSaid : Prop := leaseNumbersRow.holds Try.pinned (OpenSpec.ofChange leaseNumbersSpec)

/-- ITS FALSE NEIGHBOUR: 'it returns false'. Refute it at one input. -/
def leaseNumbersWrong : ChangeSpec := { name := "leaseNumbers", fn := fun _ => fun
  | [] => { results := [.lit (.bool false)], args := [] }
  | _ => none }
def LeaseNumbersWrongFalsely : Prop := leaseNumbersRow.holds Try.pinned (OpenSpec.ofChange leaseNumbersWrong)

/-- 'frankpledgelaw9.LeaseTells': WHATEVER THE INPUT: true; the input reads as it did. -/
def leaseTellsSpec : ChangeSpec := { name := "leaseTells", fn := fun _ => fun
  | [d1, d2, d3, d4, d5, d6, d7] => { results := [.lit (.bool true)], args := [d1, d2, d3, d4, d5, d6, d7] }
  | _ => none }
def leaseTellsRow : OpenClaim := { program := "ytkmegdliingbjaa", sum := "2031587a23d2806e1620288037e9d98ce7a76cbd8ec101265690cf2972b2a7a8", func := "frankpledge/frankpledgelaw9.LeaseTells", spec := "leaseTells", apart := false }
def LeaseTellsSaid : Prop := leaseTellsRow.holds Try.pinned (OpenSpec.ofChange leaseTellsSpec)

/-- ITS FALSE NEIGHBOUR: 'it returns false'. Refute it at one input. -/
def leaseTellsWrong : ChangeSpec := { name := "leaseTells", fn := fun _ => fun
  | [d1, d2, d3, d4, d5, d6, d7] => { results := [.lit (.bool false)], args := [d1, d2, d3, d4, d5, d6, d7] }
  | _ => none }
def LeaseTellsWrongFalsely : Prop := leaseTellsRow.holds Try.pinned (OpenSpec.ofChange leaseTellsWrong)

/-- 'frankpledgelaw9.LeaseTurns': WHATEVER THE INPUT: true; the input reads as it did. -/
def leaseTurnsSpec : ChangeSpec := { name := "leaseTurns", fn := fun _ => fun
  | [d1, d2, d3] => { results := [.lit (.bool true)], args := [d1, d2, d3] }
  | _ => none }
def leaseTurnsRow : OpenClaim := { program := "ytkmegdliingbjaa", sum := "2031587a23d2806e1620288037e9d98ce7a76cbd8ec101265690cf2972b2a7a8", func := "frankpledge/frankpledgelaw9.LeaseTurns", spec := "leaseTurns", apart := false }
def LeaseTurnsSaid : Prop := leaseTurnsRow.holds Try.pinned (OpenSpec.ofChange leaseTurnsSpec)

/-- ITS FALSE NEIGHBOUR: 'it returns false'. Refute it at one input. -/
def leaseTurnsWrong : ChangeSpec := { name := "leaseTurns", fn := fun _ => fun
  | [d1, d2, d3] => { results := [.lit (.bool false)], args := [d1, d2, d3] }
  | _ => none }
def LeaseTurnsWrongFalsely : Prop := leaseTurnsRow.holds Try.pinned (OpenSpec.ofChange leaseTurnsWrong)

/-- 'frankpledgelaw9.LeaseSeen': WHATEVER THE INPUT: true; the input reads as it did. -/
def leaseSeenSpec : ChangeSpec := { name := "leaseSeen", fn := fun _ => fun
  | [d1, d2] => { results := [.lit (.bool true)], args := [d1, d2] }
  | _ => none }
def leaseSeenRow : OpenClaim := { program := "ytkmegdliingbjaa", sum := "2031587a23d2806e1620288037e9d98ce7a76cbd8ec101265690cf2972b2a7a8", func := "frankpledge/frankpledgelaw9.LeaseSeen", spec := "leaseSeen", apart := false }
def LeaseSeenSaid : Prop := leaseSeenRow.holds Try.pinned (OpenSpec.ofChange leaseSeenSpec)

/-- ITS FALSE NEIGHBOUR: 'it returns false'. Refute it at one input. -/
def leaseSeenWrong : ChangeSpec := { name := "leaseSeen", fn := fun _ => fun
  | [d1, d2] => { results := [.lit (.bool false)], args := [d1, d2] }
  | _ => none }
def LeaseSeenWrongFalsely : Prop := leaseSeenRow.holds Try.pinned (OpenSpec.ofChange leaseSeenWrong)

/- THE SECOND FORM. 'bulk': how many values and letters a reading holds, each counted each time it is reached (what is shared counts as often as it is met; a slice's spare places count too). A statement '..UptoSaid' is the law's where the arguments, and the package variables that the reading takes, are together of bulk at most 1048576: NARROWER than '..Said'. Prove '..Said' where nothing that the law and all that it calls make is longer than what came in: it says more and counts as full. Else prove '..UptoSaid'. A law counts once. -/
mutual
def uptoBulk {H : Type} : DataW H → Nat
  | .lit (.string bytes) => bytes.length + 1
  | .lit _ => 1
  | .nil => 1
  | .ptr d => uptoBulk d + 1
  | .slice elems spare => uptoBulkAll elems + uptoBulkAll spare + 1
  | .agg parts => uptoBulkAll parts + 1
  | .iface _ d => uptoBulk d + 1
  | .map entries => uptoBulkEntries entries + 1
  | .held _ => 1
def uptoBulkAll {H : Type} : List (DataW H) → Nat
  | [] => 0
  | d :: r => uptoBulk d + uptoBulkAll r
def uptoBulkEntries {H : Type} : List (Lit × DataW H) → Nat
  | [] => 0
  | x :: r => uptoBulkEntry x + uptoBulkEntries r
def uptoBulkEntry {H : Type} : Lit × DataW H → Nat
  | (.string bytes, d) => bytes.length + uptoBulk d + 1
  | (_, d) => uptoBulk d + 1
 end
def uptoSmall : (H : Type) → List (DataW H) → Bool := fun _ ds => decide (uptoBulkAll ds ≤ 1048576)
def OpenSpec.upto (s : _root_.Go.ChangeSpec) : _root_.Go.OpenSpec := { _root_.Go.OpenSpec.ofChange s with cond := some uptoSmall }

/-- 'frankpledgelaw9.LeaseLate', WHERE WHAT IT READS IS OF BULK AT MOST 1048576: true; the input reads as it did. -/
def leaseLateUptoRow : OpenClaim := { program := "ytkmegdliingbjaa", sum := "2031587a23d2806e1620288037e9d98ce7a76cbd8ec101265690cf2972b2a7a8", func := "frankpledge/frankpledgelaw9.LeaseLate", spec := "leaseLate", apart := false, narrowed := true }
def LeaseLateUptoSaid : Prop := leaseLateUptoRow.holds Try.pinned (OpenSpec.upto leaseLateSpec)

/-- 'frankpledgelaw9.LeaseNumbers', WHERE WHAT IT READS IS OF BULK AT MOST 1048576: true; the input reads as it did. -/
def leaseNumbersUptoRow : OpenClaim := { program := "ytkmegdliingbjaa", sum := "2031587a23d2806e1620288037e9d98ce7a76cbd8ec101265690cf2972b2a7a8", func := "frankpledge/frankpledgelaw9.LeaseNumbers", spec := "leaseNumbers", apart := false, narrowed := true }
def LeaseNumbersUptoSaid : Prop := leaseNumbersUptoRow.holds Try.pinned (OpenSpec.upto leaseNumbersSpec)

/-- 'frankpledgelaw9.LeaseTells', WHERE WHAT IT READS IS OF BULK AT MOST 1048576: true; the input reads as it did. -/
def leaseTellsUptoRow : OpenClaim := { program := "ytkmegdliingbjaa", sum := "2031587a23d2806e1620288037e9d98ce7a76cbd8ec101265690cf2972b2a7a8", func := "frankpledge/frankpledgelaw9.LeaseTells", spec := "leaseTells", apart := false, narrowed := true }
def LeaseTellsUptoSaid : Prop := leaseTellsUptoRow.holds Try.pinned (OpenSpec.upto leaseTellsSpec)

/-- 'frankpledgelaw9.LeaseTurns', WHERE WHAT IT READS IS OF BULK AT MOST 1048576: true; the input reads as it did. -/
def leaseTurnsUptoRow : OpenClaim := { program := "ytkmegdliingbjaa", sum := "2031587a23d2806e1620288037e9d98ce7a76cbd8ec101265690cf2972b2a7a8", func := "frankpledge/frankpledgelaw9.LeaseTurns", spec := "leaseTurns", apart := false, narrowed := true }
def LeaseTurnsUptoSaid : Prop := leaseTurnsUptoRow.holds Try.pinned (OpenSpec.upto leaseTurnsSpec)

/-- 'frankpledgelaw9.LeaseSeen', WHERE WHAT IT READS IS OF BULK AT MOST 1048576: true; the input reads as it did. -/
def leaseSeenUptoRow : OpenClaim := { program := "ytkmegdliingbjaa", sum := "2031587a23d2806e1620288037e9d98ce7a76cbd8ec101265690cf2972b2a7a8", func := "frankpledge/frankpledgelaw9.LeaseSeen", spec := "leaseSeen", apart := false, narrowed := true }
def LeaseSeenUptoSaid : Prop := leaseSeenUptoRow.holds Try.pinned (OpenSpec.upto leaseSeenSpec)

end Rows
end Go.Proofs.Ytkmegdliingbjaa
