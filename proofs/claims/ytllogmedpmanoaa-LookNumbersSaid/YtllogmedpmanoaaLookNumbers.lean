/- Chapter 23's finding over forty tapes is the document's own, for each app, for turns at the bounds, and known runs come out; the statement has no arguments, and no conditions. -/
import Derived.Test.YtllogmedpmanoaaRows
import Derived.Test.YtllogmedpmanoaaKnown
import Derived.WalkKit
import Derived.ProofKit
import Derived.OpenShut
import Derived.SizedLaws
namespace Go.Proofs.Ytllogmedpmanoaa.lookNumbers
open Go.ChangeShapes Go.WideShapes Go.ChangeAt Go.RowKit
set_option linter.unusedVariables false

theorem own : ownKnob Try.prog.godebug = none := by kernel_rfl

theorem laid : laidOutB Try.prog = true := by kernel_rfl

theorem readable : ∀ t ∈ Try.f3.params.toList, Try.prog.readableRec t = true ∧ t < Try.prog.types.size := by
  rw [Try.params3]
  intro t ht
  cases ht

/-! ### THE ROW's STEP -/
set_option maxRecDepth 100000 in
theorem lifted (os : Os) (started : os.Started) (H : Type) (enc : TypeId × Value → H) :
    ReturnsInHanded {} Try.checked os 3 .any (Rows.lookNumbersSpec.pre6 enc Try.prog Try.f3 Rows.lookNumbersRow.domain false) (Rows.lookNumbersSpec.post enc Try.prog Try.f3 false true false false) := by
  refine returnsInHanded_of_change_sized (C := Try.checked) own started (by kernel_rfl) Try.func3
    (ChangeSpec.witness6 (enc := enc) (C := Try.checked) false ⟨#[], #[], []⟩ 8 (by kernel_rfl) (by kernel_rfl) (by kernel_rfl) (by kernel_rfl)) ?_
  intro W base args ds gs before hval0 hW hcnd hwt0 _
  have hval : ∀ (j : Nat) t v, Try.f3.params[j]? = some t → args[j]? = some v → Value.okWide Try.prog W .any base t v := hval0
  have hW' := hW
  obtain ⟨p, q, hA0, hV, rfl, hfz, hnd⟩ := hW
  have hA : DataW.TrodAll enc Try.prog W 0 (fun _ => true) true Try.f3.params.toList args.toList ds p := hA0
  have hwt1 : (DataW.weightsEach Try.prog (Try.f3.params.toList ++ Rows.lookNumbersSpec.plain.varTypes Try.prog) (ds ++ gs)).all (· ≤ reachBytes) = true := hwt0
  rw [Try.params3] at hA hval hwt1
  obtain ⟨hargs, rfl, rfl⟩ := trodAll_nil hA
  obtain rfl : args = #[] := by cases args; simp_all
  have hwt : (DataW.weightsEach (H := H) Try.prog [] []).all (· ≤ reachBytes) = true := by
    obtain ⟨rfl, _⟩ := trodVars_none hV
    exact hwt1
  
  obtain ⟨h', hr⟩ := Code.lookNumbers_true (Go.Fw.roHeap []) 
  refine (Go.Fw.call_with Code.prog_ok (by kernel_rfl) (vs := #[]) (u := .bool true) (Go.Fw.roHeap_rel (fun b hb => absurd hb (Nat.not_lt_zero b)) (fun p hp => by cases hp)) (Go.Fw.roHeap_no _) (args := []) trivial hr (fun φ x hx => by unfold Go.Fw.VRel at hx; exact hx)).mono fun e W' ⟨he, hg⟩ => ?_
  subst he
  exact ⟨_, rfl, Go.Fw.law_post laid readable rfl Try.underlying4 rfl rfl hW' hg⟩

theorem over : Rows.lookNumbersRow.holds Try.pinned (OpenSpec.ofChange Rows.lookNumbersSpec) :=
  OpenClaim.holds_of_wide 3 Try.f3 rfl rfl rfl rfl rfl rfl rfl ⟨rfl, rfl, rfl, rfl, rfl⟩ rfl rfl rfl rfl rfl (by kernel_rfl) Try.func3 (by kernel_rfl)
    (of_decide_eq_true (by kernel_rfl)) (by unfold Func.isWrapper; first | (rw [if_pos (by decide +kernel)]; kernel_rfl) | (rw [if_neg (by decide +kernel)]; exact ⟨rfl, rfl⟩))
    (fun os started H enc _ => lifted os started H enc)

/-- ████ THE STATEMENT ████ -/
theorem proved : Rows.LookNumbersSaid :=
  over
#print axioms proved
end Go.Proofs.Ytllogmedpmanoaa.lookNumbers
