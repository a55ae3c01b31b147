/- Turn by turn each that is up is picked as often as the others, and who is gone never, for any tape and any turn; no conditions. -/
import Derived.Test.YtllogmedpmanoaaRows
import Derived.Test.YtllogmedpmanoaaMapL
import Derived.WalkKit
import Derived.ProofKit
import Derived.OpenShut
import Derived.SizedLaws
namespace Go.Proofs.Ytllogmedpmanoaa.lookTurns
open Go.ChangeShapes Go.WideShapes Go.ChangeAt Go.RowKit
set_option linter.unusedVariables false

theorem own : ownKnob Try.prog.godebug = none := by kernel_rfl

theorem laid : laidOutB Try.prog = true := by kernel_rfl

theorem readable : ∀ t ∈ Try.f4.params.toList, Try.prog.readableRec t = true ∧ t < Try.prog.types.size := by
  rw [Try.params4]
  intro t ht
  simp only [List.mem_cons, List.not_mem_nil, or_false] at ht
  rcases ht with rfl | rfl <;> exact ⟨by kernel_rfl, by decide +kernel⟩

/-! ### THE ROW's STEP -/
set_option maxRecDepth 100000 in
theorem lifted (os : Os) (started : os.Started) (H : Type) (enc : TypeId × Value → H) :
    ReturnsInHanded {} Try.checked os 4 .any (Rows.lookTurnsSpec.pre6 enc Try.prog Try.f4 Rows.lookTurnsRow.domain false) (Rows.lookTurnsSpec.post enc Try.prog Try.f4 false true false false) := by
  refine returnsInHanded_of_change_sized (C := Try.checked) own started (by kernel_rfl) Try.func4
    (ChangeSpec.witness6 (enc := enc) (C := Try.checked) false ⟨#[], #[.slice none 0 0, .int .i64 0], []⟩ 8 (by kernel_rfl) (by kernel_rfl) (by kernel_rfl) (by kernel_rfl)) ?_
  intro W base args ds gs before hval0 hW hcnd hwt0 _
  have hval : ∀ (j : Nat) t v, Try.f4.params[j]? = some t → args[j]? = some v → Value.okWide Try.prog W .any base t v := hval0
  have hW' := hW
  obtain ⟨p, q, hA0, hV, rfl, hfz, hnd⟩ := hW
  have hA : DataW.TrodAll enc Try.prog W 0 (fun _ => true) true Try.f4.params.toList args.toList ds p := hA0
  have hwt1 : (DataW.weightsEach Try.prog (Try.f4.params.toList ++ Rows.lookTurnsSpec.plain.varTypes Try.prog) (ds ++ gs)).all (· ≤ reachBytes) = true := hwt0
  rw [Try.params4] at hA hval hwt1
  obtain ⟨v0, vs0, d0, ds0, p0, q0, hargs, rfl, rfl, h0, r0⟩ := trodAll_cons hA
  obtain ⟨v1, vs1, d1, ds1, p1, q1, rfl, rfl, rfl, h1, r1⟩ := trodAll_cons r0
  obtain ⟨rfl, rfl, rfl⟩ := trodAll_nil r1
  obtain rfl : args = #[v0, v1] := by cases args; simp_all
  have hwt : (DataW.weightsEach (H := H) Try.prog [22, 2] [d0, d1]).all (· ≤ reachBytes) = true := by
    obtain ⟨rfl, _⟩ := trodVars_none hV
    exact hwt1
  obtain ⟨bs0, mk0, l0, A0, z0⟩ := Go.Fw.ints_arg Try.underlying22 Try.underlying3 (by kernel_rfl) (hval 0 22 v0 rfl rfl) h0
  have y0 := z0 (Go.Fw.weights_of hwt (j := 0) rfl rfl)
  have u0 : Try.prog.bytesOf 3 = 8 := by kernel_rfl
  rw [u0] at y0
  obtain ⟨a1, rfl, rfl, rfl, w1⟩ := open_int Try.underlying2 (hval 1 2 v1 rfl rfl) h1
  obtain ⟨R0, I0, lt0, ro0⟩ := A0.here (B := (bs0 ++ [])) (pre := []) (post := []) (by simp)
  refine (Go.Fw.lookTurns_call (vs := #[v0, .int .i64 a1]) (s := mk0 ([]).length) (from_ := a1) (Go.Fw.roHeap_rel (fun b hb => absurd hb (Nat.not_lt_zero b)) (fun p hp => by
    simp only [List.mem_append, List.not_mem_nil, or_false] at hp
    exact ro0 p hp)) (Go.Fw.roHeap_no _) ⟨R0, by unfold Go.Fw.VRel; rfl, trivial⟩ I0 lt0 (by unfold reachBytes at y0; omega)).mono fun e W' ⟨he, hg⟩ => ?_
  subst he
  exact ⟨_, rfl, Go.Fw.law_post laid readable rfl Try.underlying4 rfl rfl hW' hg⟩

theorem over : Rows.lookTurnsRow.holds Try.pinned (OpenSpec.ofChange Rows.lookTurnsSpec) :=
  OpenClaim.holds_of_wide 4 Try.f4 rfl rfl rfl rfl rfl rfl rfl ⟨rfl, rfl, rfl, rfl, rfl⟩ rfl rfl rfl rfl rfl (by kernel_rfl) Try.func4 (by kernel_rfl)
    (of_decide_eq_true (by kernel_rfl)) (by unfold Func.isWrapper; first | (rw [if_pos (by decide +kernel)]; kernel_rfl) | (rw [if_neg (by decide +kernel)]; exact ⟨rfl, rfl⟩))
    (fun os started H enc _ => lifted os started H enc)

/-- ████ THE STATEMENT ████ -/
theorem proved : Rows.LookTurnsSaid :=
  over
#print axioms proved
end Go.Proofs.Ytllogmedpmanoaa.lookTurns
