/- However a row of frames is cut into pieces, the same frames come; no conditions. -/
import Derived.Test.YtmmfcgbcocmkgaaRows
import Derived.Test.YtmmfcgbcocmkgaaPieces
import Derived.WalkKit
import Derived.ProofKit
import Derived.OpenShut
import Derived.SizedLaws
namespace Go.Proofs.Ytmmfcgbcocmkgaa.framePieces
open Go.ChangeShapes Go.WideShapes Go.ChangeAt Go.RowKit
set_option linter.unusedVariables false

theorem own : ownKnob Try.prog.godebug = none := by kernel_rfl

theorem laid : laidOutB Try.prog = true := by kernel_rfl

theorem readable : ∀ t ∈ Try.f7.params.toList, Try.prog.readableRec t = true ∧ t < Try.prog.types.size := by
  rw [Try.params7]
  intro t ht
  simp only [List.mem_cons, List.not_mem_nil, or_false] at ht
  rcases ht with rfl | rfl <;> exact ⟨by kernel_rfl, by decide +kernel⟩

/-! ### THE ROW's STEP -/
set_option maxRecDepth 100000 in
theorem lifted (os : Os) (started : os.Started) (H : Type) (enc : TypeId × Value → H) :
    ReturnsInHanded {} Try.checked os 7 .any (Rows.framePiecesSpec.pre6 enc Try.prog Try.f7 Rows.framePiecesRow.domain false) (Rows.framePiecesSpec.post enc Try.prog Try.f7 false true false false) := by
  refine returnsInHanded_of_change_sized (C := Try.checked) own started (by kernel_rfl) Try.func7
    (ChangeSpec.witness6 (enc := enc) (C := Try.checked) false ⟨#[], #[.slice none 0 0, .slice none 0 0], []⟩ 8 (by kernel_rfl) (by kernel_rfl) (by kernel_rfl) (by kernel_rfl)) ?_
  intro W base args ds gs before hval0 hW hcnd hwt0 _
  have hval : ∀ (j : Nat) t v, Try.f7.params[j]? = some t → args[j]? = some v → Value.okWide Try.prog W .any base t v := hval0
  have hW' := hW
  obtain ⟨p, q, hA0, hV, rfl, hfz, hnd⟩ := hW
  have hA : DataW.TrodAll enc Try.prog W 0 (fun _ => true) true Try.f7.params.toList args.toList ds p := hA0
  have hwt1 : (DataW.weightsEach Try.prog (Try.f7.params.toList ++ Rows.framePiecesSpec.plain.varTypes Try.prog) (ds ++ gs)).all (· ≤ reachBytes) = true := hwt0
  rw [Try.params7] at hA hval hwt1
  obtain ⟨v0, vs0, d0, ds0, p0, q0, hargs, rfl, rfl, h0, r0⟩ := trodAll_cons hA
  obtain ⟨v1, vs1, d1, ds1, p1, q1, rfl, rfl, rfl, h1, r1⟩ := trodAll_cons r0
  obtain ⟨rfl, rfl, rfl⟩ := trodAll_nil r1
  obtain rfl : args = #[v0, v1] := by cases args; simp_all
  have hwt : (DataW.weightsEach (H := H) Try.prog [24, 26] [d0, d1]).all (· ≤ reachBytes) = true := by
    obtain ⟨rfl, _⟩ := trodVars_none hV
    exact hwt1
  obtain ⟨bs1, mk1, l1, A1, z1⟩ := Go.Fw.ints_arg Try.underlying26 Try.underlying3 (by kernel_rfl) (hval 1 26 v1 rfl rfl) h1
  have y1 := z1 (Go.Fw.weights_of hwt (j := 1) rfl rfl)
  have u1 : Try.prog.bytesOf 3 = 8 := by kernel_rfl
  rw [u1] at y1
  obtain ⟨bs0, mk0, A0⟩ := Go.Fw.nest_arg Try.underlying24 Try.underlying22 Try.underlying5 (by kernel_rfl) (by kernel_rfl) (hval 0 24 v0 rfl rfl) h0
  obtain ⟨R0, ro0, RW0, I0, z0⟩ := A0 (bs0 0 ++ (bs1 ++ [])) [] (bs1 ++ []) (by simp)
  obtain ⟨y0, yy0⟩ := z0 (Go.Fw.weights_of hwt (j := 0) rfl rfl)
  have u0 : Try.prog.bytesOf 22 = 24 := by kernel_rfl
  have uu0 : Try.prog.bytesOf 5 = 1 := by kernel_rfl
  rw [u0] at y0
  rw [uu0] at yy0
  obtain ⟨R1, I1, lt1, ro1⟩ := A1.here (B := (bs0 0 ++ (bs1 ++ []))) (pre := bs0 0) (post := []) (by simp)
  obtain ⟨h', hr⟩ := Code.framePieces_true (Go.Fw.roHeap (bs0 0 ++ (bs1 ++ []))) I0 (by unfold reachBytes at y0; omega) (fun x hx => by have := yy0 x hx; unfold reachBytes at this; omega) I1 lt1 A1.wf (by unfold reachBytes at y1; omega)
  refine (Go.Fw.call_with Code.prog_ok (vs := #[v0, v1]) (u := .bool true) (Go.Fw.roHeap_rel fun p hp => by
    simp only [List.mem_append, List.not_mem_nil, or_false] at hp
    rcases hp with hp | hp
    · exact ro0 p hp
    · exact ro1 p hp) (Go.Fw.roHeap_no _) (args := [mk0 ([]).length, mk1 (bs0 0).length]) ⟨R0, R1, trivial⟩ hr (fun φ x hx => by unfold Go.Fw.VRel at hx; exact hx)).mono fun e W' ⟨he, hg⟩ => ?_
  subst he
  exact ⟨_, rfl, Go.Fw.law_post laid readable rfl Try.underlying4 rfl rfl hW' hg⟩

theorem over : Rows.framePiecesRow.holds Try.pinned (OpenSpec.ofChange Rows.framePiecesSpec) :=
  OpenClaim.holds_of_wide 7 Try.f7 rfl rfl rfl rfl rfl rfl rfl ⟨rfl, rfl, rfl, rfl, rfl⟩ rfl rfl rfl rfl rfl (by kernel_rfl) Try.func7 (by kernel_rfl)
    (of_decide_eq_true (by kernel_rfl)) (by unfold Func.isWrapper; first | (rw [if_pos (by decide +kernel)]; kernel_rfl) | (rw [if_neg (by decide +kernel)]; exact ⟨rfl, rfl⟩))
    (fun os started H enc _ => lifted os started H enc)

/-- ████ THE STATEMENT ████ -/
theorem proved : Rows.FramePiecesSaid :=
  over
#print axioms proved
end Go.Proofs.Ytmmfcgbcocmkgaa.framePieces
