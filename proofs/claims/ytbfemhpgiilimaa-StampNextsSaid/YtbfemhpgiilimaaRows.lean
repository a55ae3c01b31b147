/-
  No cell of these rows narrows 'for every input' (looked for: loops, veiled, ifaces, maps, wideKeys, modest, calm, conditions, laid).
  DERIVED. THE GIVEN ROWS OF THIS SEAT. 4 by the template 'for every input the law returns true; each argument reads behind the call as it read before'; 0 by the template 'total and deterministic' (their statements: YtbfemhpgiilimaaTotals.lean).
  GIVEN WITH THE SEED: the statements are not yours to turn. If you find one false, say at which input.
  Laid BY PROGRAM, IN A SANDBOX (cutbox-rows.mjs): the forced cells as the released guide's own fill.sh prints them over the translation 76aadc2e11bfece3… (all of the seat's roots in one cut). By AI agents, Wed Nov 11 2026. No macro, syntax, notation, axiom, sorry.
-/
import Derived.Test.YtbfemhpgiilimaaChecked
import GoSem.Claim
import GoSem.ClaimJoined
import GoSem.ClaimMapViews
import Derived.JoinedTies
import Derived.KernelRfl
namespace Go.Proofs.Ytbfemhpgiilimaa
/- THE CELL 'sum', in the pinned program and in every row, IS THE sha256 OF THE DUMP (.gsa) THAT YtbfemhpgiilimaaProg.lean LOADS. Nothing in Lean hashes anything: it is a label: what it is worth is what the hold of that sum in a sandbox is worth. -/
noncomputable def Try.pinned : Pinned := { name := "ytbfemhpgiilimaa", sum := "76aadc2e11bfece301b9396a6e0efa00d0612fbdd02c3947205f5522a74202bd", checked := Try.checked }
namespace Rows
def none {H : Type} : Left H := { results := [], args := [] }

/-- 'frankpledgelaw4.StampNumbers': WHATEVER THE INPUT: true; the input reads as it did. -/
def stampNumbersSpec : ChangeSpec := { name := "stampNumbers", fn := fun _ => fun
  | [] => { results := [.lit (.bool true)], args := [] }
  | _ => none }
def stampNumbersRow : OpenClaim := { program := "ytbfemhpgiilimaa", sum := "76aadc2e11bfece301b9396a6e0efa00d0612fbdd02c3947205f5522a74202bd", func := "frankpledge/frankpledgelaw4.StampNumbers", spec := "stampNumbers", apart := false }
def StampNumbersSaid : Prop := stampNumbersRow.holds Try.pinned (OpenSpec.ofChange stampNumbersSpec)

/-- ITS FALSE NEIGHBOUR: 'it returns false'. Refute it at one input. -/
def stampNumbersWrong : ChangeSpec := { name := "stampNumbers", fn := fun _ => fun
  | [] => { results := [.lit (.bool false)], args := [] }
  | _ => none }
def StampNumbersWrongFalsely : Prop := stampNumbersRow.holds Try.pinned (OpenSpec.ofChange stampNumbersWrong)

/-- 'frankpledgelaw4.StampTells': WHATEVER THE INPUT: true; the input reads as it did. -/
def stampTellsSpec : ChangeSpec := { name := "stampTells", fn := fun _ => fun
  | [d1, d2, d3, d4] => { results := [.lit (.bool true)], args := [d1, d2, d3, d4] }
  | _ => none }
def stampTellsRow : OpenClaim := { program := "ytbfemhpgiilimaa", sum := "76aadc2e11bfece301b9396a6e0efa00d0612fbdd02c3947205f5522a74202bd", func := "frankpledge/frankpledgelaw4.StampTells", spec := "stampTells", apart := false }
def StampTellsSaid : Prop := stampTellsRow.holds Try.pinned (OpenSpec.ofChange stampTellsSpec)

/-- ITS FALSE NEIGHBOUR: 'it returns false'. Refute it at one input. -/
def stampTellsWrong : ChangeSpec := { name := "stampTells", fn := fun _ => fun
  | [d1, d2, d3, d4] => { results := [.lit (.bool false)], args := [d1, d2, d3, d4] }
  | _ => none }
def StampTellsWrongFalsely : Prop := stampTellsRow.holds Try.pinned (OpenSpec.ofChange stampTellsWrong)

/-- 'frankpledgelaw4.StampOrder': WHATEVER THE INPUT: true; the input reads as it did. -/
def stampOrderSpec : ChangeSpec := { name := "stampOrder", fn := fun _ => fun
  | [d1, d2, d3, d4, d5] => { results := [.lit (.bool true)], args := [d1, d2, d3, d4, d5] }
  | _ => none }
def stampOrderRow : OpenClaim := { program := "ytbfemhpgiilimaa", sum := "76aadc2e11bfece301b9396a6e0efa00d0612fbdd02c3947205f5522a74202bd", func := "frankpledge/frankpledgelaw4.StampOrder", spec := "stampOrder", apart := false }
def StampOrderSaid : Prop := stampOrderRow.holds Try.pinned (OpenSpec.ofChange stampOrderSpec)

/-- ITS FALSE NEIGHBOUR: 'it returns false'. Refute it at one input. -/
def stampOrderWrong : ChangeSpec := { name := "stampOrder", fn := fun _ => fun
  | [d1, d2, d3, d4, d5] => { results := [.lit (.bool false)], args := [d1, d2, d3, d4, d5] }
  | _ => none }
def StampOrderWrongFalsely : Prop := stampOrderRow.holds Try.pinned (OpenSpec.ofChange stampOrderWrong)

/-- 'frankpledgelaw4.StampNexts': WHATEVER THE INPUT: true; the input reads as it did. -/
def stampNextsSpec : ChangeSpec := { name := "stampNexts", fn := fun _ => fun
  | [d1, d2] => { results := [.lit (.bool true)], args := [d1, d2] }
  | _ => none }
def stampNextsRow : OpenClaim := { program := "ytbfemhpgiilimaa", sum := "76aadc2e11bfece301b9396a6e0efa00d0612fbdd02c3947205f5522a74202bd", func := "frankpledge/frankpledgelaw4.StampNexts", spec := "stampNexts", apart := false }
def StampNextsSaid : Prop := stampNextsRow.holds Try.pinned (OpenSpec.ofChange stampNextsSpec)

/-- ITS FALSE NEIGHBOUR: 'it returns false'. Refute it at one input. -/
def stampNextsWrong : ChangeSpec := { name := "stampNexts", fn := fun _ => fun
  | [d1, d2] => { results := [.lit (.bool false)], args := [d1, d2] }
  | _ => none }
def StampNextsWrongFalsely : Prop := stampNextsRow.holds Try.pinned (OpenSpec.ofChange stampNextsWrong)

/- THE SECOND FORM. 'bulk': how many values and letters a reading holds, each counted each time it is reached (what is shared counts as often as it is met; a slice's spare places count too). A statement '..UptoSaid' is the law's where the arguments, and the package variables that the reading takes, are together of bulk at most 1048576: NARROWER than '..Said'. Prove '..Said' where nothing that the law and all that it calls make is longer than what came in: it says more and counts as full. Else prove '..UptoSaid'. A law counts once. -/
mutual
def uptoBulk {H : Type} : DataW H → Nat
  | .lit (.string bytes) => bytes.length + 1
  | .lit _ => 1
  | .nil => 1
  | .ptr d => uptoBulk d + 1
  | .slice elems spare => uptoBulkAll elems + uptoBulkAll spare + 1
  | .agg parts => uptoBulkAll parts + 1
  | .iface _ d => uptoBulk d + 1
  | .map entries => uptoBulkEntries entries + 1
  | .held _ => 1
def uptoBulkAll {H : Type} : List (DataW H) → Nat
  | [] => 0
  | d :: r => uptoBulk d + uptoBulkAll r
def uptoBulkEntries {H : Type} : List (Lit × DataW H) → Nat
  | [] => 0
  | x :: r => uptoBulkEntry x + uptoBulkEntries r
def uptoBulkEntry {H : Type} : Lit × DataW H → Nat
  | (.string bytes, d) => bytes.length + uptoBulk d + 1
  | (_, d) => uptoBulk d + 1
 end
def uptoSmall : (H : Type) → List (DataW H) → Bool := fun _ ds => decide (uptoBulkAll ds ≤ 1048576)
def OpenSpec.upto (s : _root_.Go.ChangeSpec) : _root_.Go.OpenSpec := { _root_.Go.OpenSpec.ofChange s with cond := some uptoSmall }

/-- 'frankpledgelaw4.StampNumbers', WHERE WHAT IT READS IS OF BULK AT MOST 1048576: true; the input reads as it did. -/
def stampNumbersUptoRow : OpenClaim := { program := "ytbfemhpgiilimaa", sum := "76aadc2e11bfece301b9396a6e0efa00d0612fbdd02c3947205f5522a74202bd", func := "frankpledge/frankpledgelaw4.StampNumbers", spec := "stampNumbers", apart := false, narrowed := true }
def StampNumbersUptoSaid : Prop := stampNumbersUptoRow.holds Try.pinned (OpenSpec.upto stampNumbersSpec)

/-- 'frankpledgelaw4.StampTells', WHERE WHAT IT READS IS OF BULK AT MOST 1048576: true; the input reads as it did. -/
def stampTellsUptoRow : OpenClaim := { program := "ytbfemhpgiilimaa", sum := "76aadc2e11bfece301b9396a6e0efa00d0612fbdd02c3947205f5522a74202bd", func := "frankpledge/frankpledgelaw4.StampTells", spec := "stampTells", apart := false, narrowed := true }
def StampTellsUptoSaid : Prop := stampTellsUptoRow.holds Try.pinned (OpenSpec.upto stampTellsSpec)

/-- 'frankpledgelaw4.StampOrder', WHERE WHAT IT READS IS OF BULK AT MOST 1048576: true; the input reads as it did. -/
def stampOrderUptoRow : OpenClaim := { program := "ytbfemhpgiilimaa", sum := "76aadc2e11bfece301b9396a6e0efa00d0612fbdd02c3947205f5522a74202bd", func := "frankpledge/frankpledgelaw4.StampOrder", spec := "stampOrder", apart := false, narrowed := true }
def StampOrderUptoSaid : Prop := stampOrderUptoRow.holds Try.pinned (OpenSpec.upto stampOrderSpec)

/-- 'frankpledgelaw4.StampNexts', WHERE WHAT IT READS IS OF BULK AT MOST 1048576: true; the input reads as it did. -/
def stampNextsUptoRow : OpenClaim := { program := "ytbfemhpgiilimaa", sum := "76aadc2e11bfece301b9396a6e0efa00d0612fbdd02c3947205f5522a74202bd", func := "frankpledge/frankpledgelaw4.StampNexts", spec := "stampNexts", apart := false, narrowed := true }
def StampNextsUptoSaid : Prop := stampNextsUptoRow.holds Try.pinned (OpenSpec.upto stampNextsSpec)

end Rows
end Go.Proofs.Ytbfemhpgiilimaa
