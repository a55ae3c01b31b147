/-
  NARROWER THAN 'FOR EVERY INPUT', by the rows' own cells (each row's printed sentence says how): FaultOthers: laid · FaultTells: laid · FaultWraps: laid · FaultNumbers: laid.
  DERIVED. THE GIVEN ROWS OF THIS SEAT. 4 by the template 'for every input the law returns true; each argument reads behind the call as it read before'; 0 by the template 'total and deterministic' (their statements: YtkbchgbpglamcaaDoorTotals.lean).
  GIVEN WITH THE SEED: the statements are not yours to turn. If you find one false, say at which input.
  Laid BY PROGRAM, IN A SANDBOX (cutbox-rows.mjs): the forced cells as the released guide's own fill.sh prints them over the translation b807b04870bf28eb… (all of the seat's roots in one cut). By AI agents, Wed Nov 11 2026. No macro, syntax, notation, axiom, sorry.
-/
import Derived.Test.YtkbchgbpglamcaaDoorChecked
import GoSem.Claim
import GoSem.ClaimJoined
import GoSem.ClaimMapViews
import Derived.JoinedTies
import Derived.KernelRfl
namespace Go.Proofs.YtkbchgbpglamcaaDoor
/- THE CELL 'sum', in the pinned program and in every row, IS THE sha256 OF THE DUMP (.gsa) THAT YtkbchgbpglamcaaDoorProg.lean LOADS. Nothing in Lean hashes anything: it is a label: what it is worth is what the hold of that sum in a sandbox is worth. -/
noncomputable def Tryd.pinned : Pinned := { name := "ytkbchgbpglamcaadoor", sum := "b807b04870bf28eb04a150fa8eb3c85201da9f13ddbcb9719ea102bf37b12ee3", checked := Tryd.checked }
namespace Rows
def none {H : Type} : Left H := { results := [], args := [] }

/- WHAT THE LISTED PACKAGE-LEVEL VARIABLES READ AS WHEN THE CALL BEGINS. Each datum BY PROGRAM (the guide's laid-datum.mjs) off the statement by which the dump's own 'gosem.cut.vars' lays the variable. In a bare row this is a premise. The card (YtkbchgbpglamcaaDoorCards.lean) ties it to the program's text. -/
def laid_errors_errorType {H : Type} : DataW H := .iface "internal/reflectlite.rtype" (.agg [.ptr (.lit (.string [101, 114, 114, 111, 114]))])

/-- 'frankpledgelaw1.FaultOthers': WHATEVER THE INPUT: true; the input reads as it did. -/
def faultOthersSpec : ChangeSpec := { name := "faultOthers", fn := fun _ => fun
  | [d1, d2] => { results := [.lit (.bool true)], args := [d1, d2] }
  | _ => none }
def faultOthersRow : OpenClaim := { program := "ytkbchgbpglamcaadoor", sum := "b807b04870bf28eb04a150fa8eb3c85201da9f13ddbcb9719ea102bf37b12ee3", func := "frankpledge/frankpledgelaw1.FaultOthers", spec := "faultOthers", inPlace := ["internal/reflectlite.TypeOf", "internal/reflectlite.ValueOf", "(internal/reflectlite.Value).Type", "(internal/reflectlite.Value).IsNil", "(internal/reflectlite.Value).Elem", "(internal/reflectlite.Value).Set"], unfollowed := true, recurses := true, named := ["errors.errorType"], apart := false, laid := [("errors.errorType", laid_errors_errorType)] }
def FaultOthersSaid : Prop := faultOthersRow.holds Tryd.pinned (OpenSpec.ofChange faultOthersSpec)

/-- ITS FALSE NEIGHBOUR: 'it returns false'. Refute it at one input. -/
def faultOthersWrong : ChangeSpec := { name := "faultOthers", fn := fun _ => fun
  | [d1, d2] => { results := [.lit (.bool false)], args := [d1, d2] }
  | _ => none }
def FaultOthersWrongFalsely : Prop := faultOthersRow.holds Tryd.pinned (OpenSpec.ofChange faultOthersWrong)

/-- 'frankpledgelaw1.FaultTells': WHATEVER THE INPUT: true; the input reads as it did. -/
def faultTellsSpec : ChangeSpec := { name := "faultTells", fn := fun _ => fun
  | [d1, d2] => { results := [.lit (.bool true)], args := [d1, d2] }
  | _ => none }
def faultTellsRow : OpenClaim := { program := "ytkbchgbpglamcaadoor", sum := "b807b04870bf28eb04a150fa8eb3c85201da9f13ddbcb9719ea102bf37b12ee3", func := "frankpledge/frankpledgelaw1.FaultTells", spec := "faultTells", inPlace := ["internal/reflectlite.ValueOf", "(internal/reflectlite.Value).Type", "(internal/reflectlite.Value).IsNil", "internal/reflectlite.TypeOf", "(internal/reflectlite.Value).Elem", "(internal/reflectlite.Value).Set"], unfollowed := true, recurses := true, named := ["errors.errorType"], apart := false, laid := [("errors.errorType", laid_errors_errorType)] }
def FaultTellsSaid : Prop := faultTellsRow.holds Tryd.pinned (OpenSpec.ofChange faultTellsSpec)

/-- ITS FALSE NEIGHBOUR: 'it returns false'. Refute it at one input. -/
def faultTellsWrong : ChangeSpec := { name := "faultTells", fn := fun _ => fun
  | [d1, d2] => { results := [.lit (.bool false)], args := [d1, d2] }
  | _ => none }
def FaultTellsWrongFalsely : Prop := faultTellsRow.holds Tryd.pinned (OpenSpec.ofChange faultTellsWrong)

/-- 'frankpledgelaw1.FaultWraps': WHATEVER THE INPUT: true; the input reads as it did. -/
def faultWrapsSpec : ChangeSpec := { name := "faultWraps", fn := fun _ => fun
  | [d1, d2, d3] => { results := [.lit (.bool true)], args := [d1, d2, d3] }
  | _ => none }
def faultWrapsRow : OpenClaim := { program := "ytkbchgbpglamcaadoor", sum := "b807b04870bf28eb04a150fa8eb3c85201da9f13ddbcb9719ea102bf37b12ee3", func := "frankpledge/frankpledgelaw1.FaultWraps", spec := "faultWraps", inPlace := ["internal/reflectlite.ValueOf", "(internal/reflectlite.Value).Type", "(internal/reflectlite.Value).IsNil", "internal/reflectlite.TypeOf", "(internal/reflectlite.Value).Elem", "(internal/reflectlite.Value).Set"], unfollowed := true, recurses := true, named := ["errors.errorType"], apart := false, laid := [("errors.errorType", laid_errors_errorType)] }
def FaultWrapsSaid : Prop := faultWrapsRow.holds Tryd.pinned (OpenSpec.ofChange faultWrapsSpec)

/-- ITS FALSE NEIGHBOUR: 'it returns false'. Refute it at one input. -/
def faultWrapsWrong : ChangeSpec := { name := "faultWraps", fn := fun _ => fun
  | [d1, d2, d3] => { results := [.lit (.bool false)], args := [d1, d2, d3] }
  | _ => none }
def FaultWrapsWrongFalsely : Prop := faultWrapsRow.holds Tryd.pinned (OpenSpec.ofChange faultWrapsWrong)

/-- 'frankpledgelaw1.FaultNumbers': WHATEVER THE INPUT: true; the input reads as it did. -/
def faultNumbersSpec : ChangeSpec := { name := "faultNumbers", fn := fun _ => fun
  | [] => { results := [.lit (.bool true)], args := [] }
  | _ => none }
def faultNumbersRow : OpenClaim := { program := "ytkbchgbpglamcaadoor", sum := "b807b04870bf28eb04a150fa8eb3c85201da9f13ddbcb9719ea102bf37b12ee3", func := "frankpledge/frankpledgelaw1.FaultNumbers", spec := "faultNumbers", inPlace := ["internal/reflectlite.ValueOf", "(internal/reflectlite.Value).Type", "(internal/reflectlite.Value).IsNil", "internal/reflectlite.TypeOf", "(internal/reflectlite.Value).Elem", "(internal/reflectlite.Value).Set"], unfollowed := true, recurses := true, named := ["errors.errorType"], apart := false, laid := [("errors.errorType", laid_errors_errorType)] }
def FaultNumbersSaid : Prop := faultNumbersRow.holds Tryd.pinned (OpenSpec.ofChange faultNumbersSpec)

/-- ITS FALSE NEIGHBOUR: 'it returns false'. Refute it at one input. -/
def faultNumbersWrong : ChangeSpec := { name := "faultNumbers", fn := fun _ => fun
  | [] => { results := [.lit (.bool false)], args := [] }
  | _ => none }
def FaultNumbersWrongFalsely : Prop := faultNumbersRow.holds Tryd.pinned (OpenSpec.ofChange faultNumbersWrong)

/- THE SECOND FORM. 'bulk': how many values and letters a reading holds, each counted each time it is reached (what is shared counts as often as it is met; a slice's spare places count too). A statement '..UptoSaid' is the law's where the arguments, and the package variables that the reading takes, are together of bulk at most 1048576: NARROWER than '..Said'. Prove '..Said' where nothing that the law and all that it calls make is longer than what came in: it says more and counts as full. Else prove '..UptoSaid'. A law counts once. -/
mutual
def uptoBulk {H : Type} : DataW H → Nat
  | .lit (.string bytes) => bytes.length + 1
  | .lit _ => 1
  | .nil => 1
  | .ptr d => uptoBulk d + 1
  | .slice elems spare => uptoBulkAll elems + uptoBulkAll spare + 1
  | .agg parts => uptoBulkAll parts + 1
  | .iface _ d => uptoBulk d + 1
  | .map entries => uptoBulkEntries entries + 1
  | .held _ => 1
def uptoBulkAll {H : Type} : List (DataW H) → Nat
  | [] => 0
  | d :: r => uptoBulk d + uptoBulkAll r
def uptoBulkEntries {H : Type} : List (Lit × DataW H) → Nat
  | [] => 0
  | x :: r => uptoBulkEntry x + uptoBulkEntries r
def uptoBulkEntry {H : Type} : Lit × DataW H → Nat
  | (.string bytes, d) => bytes.length + uptoBulk d + 1
  | (_, d) => uptoBulk d + 1
 end
def uptoSmall : (H : Type) → List (DataW H) → Bool := fun _ ds => decide (uptoBulkAll ds ≤ 1048576)
def OpenSpec.upto (s : _root_.Go.ChangeSpec) : _root_.Go.OpenSpec := { _root_.Go.OpenSpec.ofChange s with cond := some uptoSmall }

/-- 'frankpledgelaw1.FaultOthers', WHERE WHAT IT READS IS OF BULK AT MOST 1048576: true; the input reads as it did. -/
def faultOthersUptoRow : OpenClaim := { program := "ytkbchgbpglamcaadoor", sum := "b807b04870bf28eb04a150fa8eb3c85201da9f13ddbcb9719ea102bf37b12ee3", func := "frankpledge/frankpledgelaw1.FaultOthers", spec := "faultOthers", inPlace := ["internal/reflectlite.TypeOf", "internal/reflectlite.ValueOf", "(internal/reflectlite.Value).Type", "(internal/reflectlite.Value).IsNil", "(internal/reflectlite.Value).Elem", "(internal/reflectlite.Value).Set"], unfollowed := true, recurses := true, named := ["errors.errorType"], apart := false, laid := [("errors.errorType", laid_errors_errorType)], narrowed := true }
def FaultOthersUptoSaid : Prop := faultOthersUptoRow.holds Tryd.pinned (OpenSpec.upto faultOthersSpec)

/-- 'frankpledgelaw1.FaultTells', WHERE WHAT IT READS IS OF BULK AT MOST 1048576: true; the input reads as it did. -/
def faultTellsUptoRow : OpenClaim := { program := "ytkbchgbpglamcaadoor", sum := "b807b04870bf28eb04a150fa8eb3c85201da9f13ddbcb9719ea102bf37b12ee3", func := "frankpledge/frankpledgelaw1.FaultTells", spec := "faultTells", inPlace := ["internal/reflectlite.ValueOf", "(internal/reflectlite.Value).Type", "(internal/reflectlite.Value).IsNil", "internal/reflectlite.TypeOf", "(internal/reflectlite.Value).Elem", "(internal/reflectlite.Value).Set"], unfollowed := true, recurses := true, named := ["errors.errorType"], apart := false, laid := [("errors.errorType", laid_errors_errorType)], narrowed := true }
def FaultTellsUptoSaid : Prop := faultTellsUptoRow.holds Tryd.pinned (OpenSpec.upto faultTellsSpec)

/-- 'frankpledgelaw1.FaultWraps', WHERE WHAT IT READS IS OF BULK AT MOST 1048576: true; the input reads as it did. -/
def faultWrapsUptoRow : OpenClaim := { program := "ytkbchgbpglamcaadoor", sum := "b807b04870bf28eb04a150fa8eb3c85201da9f13ddbcb9719ea102bf37b12ee3", func := "frankpledge/frankpledgelaw1.FaultWraps", spec := "faultWraps", inPlace := ["internal/reflectlite.ValueOf", "(internal/reflectlite.Value).Type", "(internal/reflectlite.Value).IsNil", "internal/reflectlite.TypeOf", "(internal/reflectlite.Value).Elem", "(internal/reflectlite.Value).Set"], unfollowed := true, recurses := true, named := ["errors.errorType"], apart := false, laid := [("errors.errorType", laid_errors_errorType)], narrowed := true }
def FaultWrapsUptoSaid : Prop := faultWrapsUptoRow.holds Tryd.pinned (OpenSpec.upto faultWrapsSpec)

/-- 'frankpledgelaw1.FaultNumbers', WHERE WHAT IT READS IS OF BULK AT MOST 1048576: true; the input reads as it did. -/
def faultNumbersUptoRow : OpenClaim := { program := "ytkbchgbpglamcaadoor", sum := "b807b04870bf28eb04a150fa8eb3c85201da9f13ddbcb9719ea102bf37b12ee3", func := "frankpledge/frankpledgelaw1.FaultNumbers", spec := "faultNumbers", inPlace := ["internal/reflectlite.ValueOf", "(internal/reflectlite.Value).Type", "(internal/reflectlite.Value).IsNil", "internal/reflectlite.TypeOf", "(internal/reflectlite.Value).Elem", "(internal/reflectlite.Value).Set"], unfollowed := true, recurses := true, named := ["errors.errorType"], apart := false, laid := [("errors.errorType", laid_errors_errorType)], narrowed := true }
def FaultNumbersUptoSaid : Prop := faultNumbersUptoRow.holds Tryd.pinned (OpenSpec.upto faultNumbersSpec)

end Rows
end Go.Proofs.YtkbchgbpglamcaaDoor
