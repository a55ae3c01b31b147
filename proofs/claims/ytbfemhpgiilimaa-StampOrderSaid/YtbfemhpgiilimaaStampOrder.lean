/- Chapter 4, StampOrder: for every three stamps and two numbers the law answers true; its arguments read as they did. No condition. -/
import Derived.Test.YtbfemhpgiilimaaRows
import Derived.Test.YtbfemhpgiilimaaMore
import Derived.WalkKit
import Derived.ProofKit
import Derived.OpenShut
import Derived.SizedLaws
namespace Go.Proofs.Ytbfemhpgiilimaa.stampOrder
open Go.ChangeShapes Go.WideShapes Go.ChangeAt Go.RowKit
set_option linter.unusedVariables false

theorem own : ownKnob Try.prog.godebug = none := by kernel_rfl

theorem laid : laidOutB Try.prog = true := by kernel_rfl

theorem readable : ∀ t ∈ Try.f5.params.toList, Try.prog.readableRec t = true ∧ t < Try.prog.types.size := by
  rw [Try.params5]
  intro t ht
  simp only [List.mem_cons, List.not_mem_nil, or_false] at ht
  rcases ht with rfl | rfl | rfl | rfl | rfl <;> exact ⟨by kernel_rfl, by decide +kernel⟩

/-! ### THE ROW's STEP -/
set_option maxRecDepth 100000 in
theorem lifted (os : Os) (started : os.Started) (H : Type) (enc : TypeId × Value → H) :
    ReturnsInHanded {} Try.checked os 5 .any (Rows.stampOrderSpec.pre6 enc Try.prog Try.f5 Rows.stampOrderRow.domain false) (Rows.stampOrderSpec.post enc Try.prog Try.f5 false true false false) := by
  refine returnsInHanded_of_change_sized (C := Try.checked) own started (by kernel_rfl) Try.func5
    (ChangeSpec.witness6 (enc := enc) (C := Try.checked) false ⟨#[], #[.agg #[.int .i64 0, .int .i64 0, .int .i64 0], .agg #[.int .i64 0, .int .i64 0, .int .i64 0], .agg #[.int .i64 0, .int .i64 0, .int .i64 0], .int .i64 0, .int .i64 0], []⟩ 8 (by kernel_rfl) (by kernel_rfl) (by kernel_rfl) (by kernel_rfl)) ?_
  intro W base args ds gs before hval0 hW hcnd hwt0 _
  have hval : ∀ (j : Nat) t v, Try.f5.params[j]? = some t → args[j]? = some v → Value.okWide Try.prog W .any base t v := hval0
  have hW' := hW
  obtain ⟨p, q, hA0, hV, rfl, hfz, hnd⟩ := hW
  have hA : DataW.TrodAll enc Try.prog W 0 (fun _ => true) true Try.f5.params.toList args.toList ds p := hA0
  have hwt1 : (DataW.weightsEach Try.prog (Try.f5.params.toList ++ Rows.stampOrderSpec.plain.varTypes Try.prog) (ds ++ gs)).all (· ≤ reachBytes) = true := hwt0
  rw [Try.params5] at hA hval hwt1
  obtain ⟨v0, vs0, d0, ds0, p0, q0, hargs, rfl, rfl, h0, r0⟩ := trodAll_cons hA
  obtain ⟨v1, vs1, d1, ds1, p1, q1, rfl, rfl, rfl, h1, r1⟩ := trodAll_cons r0
  obtain ⟨v2, vs2, d2, ds2, p2, q2, rfl, rfl, rfl, h2, r2⟩ := trodAll_cons r1
  obtain ⟨v3, vs3, d3, ds3, p3, q3, rfl, rfl, rfl, h3, r3⟩ := trodAll_cons r2
  obtain ⟨v4, vs4, d4, ds4, p4, q4, rfl, rfl, rfl, h4, r4⟩ := trodAll_cons r3
  obtain ⟨rfl, rfl, rfl⟩ := trodAll_nil r4
  obtain rfl : args = #[v0, v1, v2, v3, v4] := by cases args; simp_all
  have hwt : (DataW.weightsEach (H := H) Try.prog [25, 25, 25, 2, 3] [d0, d1, d2, d3, d4]).all (· ≤ reachBytes) = true := by
    obtain ⟨rfl, _⟩ := trodVars_none hV
    exact hwt1
  obtain ⟨cs0_0, rfl, F0_0⟩ := Go.Fw.open_flat Try.underlying25 (ts := [2, 3, 2]) (by kernel_rfl) (by kernel_rfl) (hval 0 25 v0 rfl rfl)
  obtain ⟨x0_0, cs0_1, rfl, c0_0, F0_1⟩ := F0_0.cons
  obtain ⟨x0_1, cs0_2, rfl, c0_1, F0_2⟩ := F0_1.cons
  obtain ⟨x0_2, cs0_3, rfl, c0_2, F0_3⟩ := F0_2.cons
  obtain rfl := F0_3.nil
  obtain ⟨a0_0, rfl, w0_0⟩ := Go.Fw.cell_int Try.underlying2 c0_0
  obtain ⟨a0_1, rfl, w0_1⟩ := Go.Fw.cell_int Try.underlying3 c0_1
  obtain ⟨a0_2, rfl, w0_2⟩ := Go.Fw.cell_int Try.underlying2 c0_2
  obtain ⟨cs1_0, rfl, F1_0⟩ := Go.Fw.open_flat Try.underlying25 (ts := [2, 3, 2]) (by kernel_rfl) (by kernel_rfl) (hval 1 25 v1 rfl rfl)
  obtain ⟨x1_0, cs1_1, rfl, c1_0, F1_1⟩ := F1_0.cons
  obtain ⟨x1_1, cs1_2, rfl, c1_1, F1_2⟩ := F1_1.cons
  obtain ⟨x1_2, cs1_3, rfl, c1_2, F1_3⟩ := F1_2.cons
  obtain rfl := F1_3.nil
  obtain ⟨a1_0, rfl, w1_0⟩ := Go.Fw.cell_int Try.underlying2 c1_0
  obtain ⟨a1_1, rfl, w1_1⟩ := Go.Fw.cell_int Try.underlying3 c1_1
  obtain ⟨a1_2, rfl, w1_2⟩ := Go.Fw.cell_int Try.underlying2 c1_2
  obtain ⟨cs2_0, rfl, F2_0⟩ := Go.Fw.open_flat Try.underlying25 (ts := [2, 3, 2]) (by kernel_rfl) (by kernel_rfl) (hval 2 25 v2 rfl rfl)
  obtain ⟨x2_0, cs2_1, rfl, c2_0, F2_1⟩ := F2_0.cons
  obtain ⟨x2_1, cs2_2, rfl, c2_1, F2_2⟩ := F2_1.cons
  obtain ⟨x2_2, cs2_3, rfl, c2_2, F2_3⟩ := F2_2.cons
  obtain rfl := F2_3.nil
  obtain ⟨a2_0, rfl, w2_0⟩ := Go.Fw.cell_int Try.underlying2 c2_0
  obtain ⟨a2_1, rfl, w2_1⟩ := Go.Fw.cell_int Try.underlying3 c2_1
  obtain ⟨a2_2, rfl, w2_2⟩ := Go.Fw.cell_int Try.underlying2 c2_2
  obtain ⟨a3, rfl, rfl, rfl, w3⟩ := open_int Try.underlying2 (hval 3 2 v3 rfl rfl) h3
  obtain ⟨a4, rfl, rfl, rfl, w4⟩ := open_int Try.underlying3 (hval 4 3 v4 rfl rfl) h4
  obtain ⟨h', hr⟩ := Code.stampOrder_law (Go.Fw.roHeap []) a0_0 w0_0 a0_1 w0_1 a0_2 w0_2 a1_0 w1_0 a1_1 w1_1 a1_2 w1_2 a2_0 w2_0 a2_1 w2_1 a2_2 w2_2 a3 w3 a4 w4
  refine (Go.Fw.call_with Code.prog_ok (vs := #[.agg ⟨[.int .i64 a0_0, .int .i64 a0_1, .int .i64 a0_2]⟩, .agg ⟨[.int .i64 a1_0, .int .i64 a1_1, .int .i64 a1_2]⟩, .agg ⟨[.int .i64 a2_0, .int .i64 a2_1, .int .i64 a2_2]⟩, .int .i64 a3, .int .i64 a4]) (u := .bool true) (Go.Fw.roHeap_rel fun p hp => by cases hp) (Go.Fw.roHeap_no _) (args := [.agg [.int .i64 a0_0, .int .i64 a0_1, .int .i64 a0_2], .agg [.int .i64 a1_0, .int .i64 a1_1, .int .i64 a1_2], .agg [.int .i64 a2_0, .int .i64 a2_1, .int .i64 a2_2], .int .i64 a3, .int .i64 a4]) ⟨Go.Fw.vrel_flat (by simp [Go.Fw.VRels, Go.Fw.vrel_int, Go.Fw.vrel_bool, Go.Fw.vrel_str]) (by simp [Value.oneCell']), Go.Fw.vrel_flat (by simp [Go.Fw.VRels, Go.Fw.vrel_int, Go.Fw.vrel_bool, Go.Fw.vrel_str]) (by simp [Value.oneCell']), Go.Fw.vrel_flat (by simp [Go.Fw.VRels, Go.Fw.vrel_int, Go.Fw.vrel_bool, Go.Fw.vrel_str]) (by simp [Value.oneCell']), by unfold Go.Fw.VRel; rfl, by unfold Go.Fw.VRel; rfl, trivial⟩ hr (fun φ x hx => by unfold Go.Fw.VRel at hx; exact hx)).mono fun e W' ⟨he, hg⟩ => ?_
  subst he
  exact ⟨_, rfl, Go.Fw.law_post laid readable rfl Try.underlying4 rfl rfl hW' hg⟩

theorem over : Rows.stampOrderRow.holds Try.pinned (OpenSpec.ofChange Rows.stampOrderSpec) :=
  OpenClaim.holds_of_wide 5 Try.f5 rfl rfl rfl rfl rfl rfl rfl ⟨rfl, rfl, rfl, rfl, rfl⟩ rfl rfl rfl rfl rfl (by kernel_rfl) Try.func5 (by kernel_rfl)
    (of_decide_eq_true (by kernel_rfl)) (by unfold Func.isWrapper; first | (rw [if_pos (by decide +kernel)]; kernel_rfl) | (rw [if_neg (by decide +kernel)]; exact ⟨rfl, rfl⟩))
    (fun os started H enc _ => lifted os started H enc)

/-- ████ THE STATEMENT ████ -/
theorem proved : Rows.StampOrderSaid :=
  over
#print axioms proved
end Go.Proofs.Ytbfemhpgiilimaa.stampOrder
