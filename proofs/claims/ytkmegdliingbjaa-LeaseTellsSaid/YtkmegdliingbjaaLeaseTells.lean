/- What becomes of a card is what the document says. -/
import Derived.Test.YtkmegdliingbjaaRows
import Derived.Test.YtkmegdliingbjaaLaws
import Derived.WalkKit
import Derived.ProofKit
import Derived.OpenShut
import Derived.SizedLaws
namespace Go.Proofs.Ytkmegdliingbjaa.leaseTells
open Go.ChangeShapes Go.WideShapes Go.ChangeAt Go.RowKit
set_option linter.unusedVariables false

theorem own : ownKnob Try.prog.godebug = none := by kernel_rfl

theorem laid : laidOutB Try.prog = true := by kernel_rfl

theorem readable : ∀ t ∈ Try.f5.params.toList, Try.prog.readableRec t = true ∧ t < Try.prog.types.size := by
  rw [Try.params5]
  intro t ht
  simp only [List.mem_cons, List.not_mem_nil, or_false] at ht
  rcases ht with rfl | rfl | rfl | rfl | rfl | rfl | rfl <;> exact ⟨by kernel_rfl, by decide +kernel⟩

/-! ### THE ROW's STEP -/
set_option maxRecDepth 100000 in
theorem lifted (os : Os) (started : os.Started) (H : Type) (enc : TypeId × Value → H) :
    ReturnsInHanded {} Try.checked os 5 .any (Rows.leaseTellsSpec.pre6 enc Try.prog Try.f5 Rows.leaseTellsRow.domain false) (Rows.leaseTellsSpec.post enc Try.prog Try.f5 false true false false) := by
  refine returnsInHanded_of_change_sized (C := Try.checked) own started (by kernel_rfl) Try.func5
    (ChangeSpec.witness6 (enc := enc) (C := Try.checked) false ⟨#[], #[.slice none 0 0, .agg #[.string .empty, .string .empty, .int .i64 0, .int .i64 0, .int .i64 0, .int .i64 0, .int .i64 0, .int .i64 0, .bool false, .int .i64 0], .bool false, .agg #[.string .empty, .string .empty, .int .i64 0, .int .i64 0, .int .i64 0, .int .i64 0, .int .i64 0, .int .i64 0, .bool false], .int .i64 0, .agg #[.int .i64 0, .int .i64 0, .int .i64 0], .int .i64 0], []⟩ 8 (by kernel_rfl) (by kernel_rfl) (by kernel_rfl) (by kernel_rfl)) ?_
  intro W base args ds gs before hval0 hW hcnd hwt0 _
  have hval : ∀ (j : Nat) t v, Try.f5.params[j]? = some t → args[j]? = some v → Value.okWide Try.prog W .any base t v := hval0
  have hW' := hW
  obtain ⟨p, q, hA0, hV, rfl, hfz, hnd⟩ := hW
  have hA : DataW.TrodAll enc Try.prog W 0 (fun _ => true) true Try.f5.params.toList args.toList ds p := hA0
  have hwt1 : (DataW.weightsEach Try.prog (Try.f5.params.toList ++ Rows.leaseTellsSpec.plain.varTypes Try.prog) (ds ++ gs)).all (· ≤ reachBytes) = true := hwt0
  rw [Try.params5] at hA hval hwt1
  obtain ⟨v0, vs0, d0, ds0, p0, q0, hargs, rfl, rfl, h0, r0⟩ := trodAll_cons hA
  obtain ⟨v1, vs1, d1, ds1, p1, q1, rfl, rfl, rfl, h1, r1⟩ := trodAll_cons r0
  obtain ⟨v2, vs2, d2, ds2, p2, q2, rfl, rfl, rfl, h2, r2⟩ := trodAll_cons r1
  obtain ⟨v3, vs3, d3, ds3, p3, q3, rfl, rfl, rfl, h3, r3⟩ := trodAll_cons r2
  obtain ⟨v4, vs4, d4, ds4, p4, q4, rfl, rfl, rfl, h4, r4⟩ := trodAll_cons r3
  obtain ⟨v5, vs5, d5, ds5, p5, q5, rfl, rfl, rfl, h5, r5⟩ := trodAll_cons r4
  obtain ⟨v6, vs6, d6, ds6, p6, q6, rfl, rfl, rfl, h6, r6⟩ := trodAll_cons r5
  obtain ⟨rfl, rfl, rfl⟩ := trodAll_nil r6
  obtain rfl : args = #[v0, v1, v2, v3, v4, v5, v6] := by cases args; simp_all
  have hwt : (DataW.weightsEach (H := H) Try.prog [22, 35, 4, 31, 3, 29, 2] [d0, d1, d2, d3, d4, d5, d6]).all (· ≤ reachBytes) = true := by
    obtain ⟨rfl, _⟩ := trodVars_none hV
    exact hwt1
  obtain ⟨bs0, mk0, l0, A0, z0⟩ := Go.Fw.ints_arg Try.underlying22 Try.underlying3 (by kernel_rfl) (hval 0 22 v0 rfl rfl) h0
  have y0 := z0 (Go.Fw.weights_of hwt (j := 0) rfl rfl)
  have u0 : Try.prog.bytesOf 3 = 8 := by kernel_rfl
  rw [u0] at y0
  obtain ⟨cs1_0, rfl, F1_0⟩ := Go.Fw.open_flat Try.underlying35 (ts := [9, 9, 3, 3, 2, 2, 3, 2, 4, 2]) (by kernel_rfl) (by kernel_rfl) (hval 1 35 v1 rfl rfl)
  obtain ⟨x1_0, cs1_1, rfl, c1_0, F1_1⟩ := F1_0.cons
  obtain ⟨x1_1, cs1_2, rfl, c1_1, F1_2⟩ := F1_1.cons
  obtain ⟨x1_2, cs1_3, rfl, c1_2, F1_3⟩ := F1_2.cons
  obtain ⟨x1_3, cs1_4, rfl, c1_3, F1_4⟩ := F1_3.cons
  obtain ⟨x1_4, cs1_5, rfl, c1_4, F1_5⟩ := F1_4.cons
  obtain ⟨x1_5, cs1_6, rfl, c1_5, F1_6⟩ := F1_5.cons
  obtain ⟨x1_6, cs1_7, rfl, c1_6, F1_7⟩ := F1_6.cons
  obtain ⟨x1_7, cs1_8, rfl, c1_7, F1_8⟩ := F1_7.cons
  obtain ⟨x1_8, cs1_9, rfl, c1_8, F1_9⟩ := F1_8.cons
  obtain ⟨x1_9, cs1_10, rfl, c1_9, F1_10⟩ := F1_9.cons
  obtain rfl := F1_10.nil
  obtain ⟨a1_0, rfl, w1_0⟩ := Go.Fw.cell_str Try.underlying9 c1_0
  obtain ⟨a1_1, rfl, w1_1⟩ := Go.Fw.cell_str Try.underlying9 c1_1
  obtain ⟨a1_2, rfl, w1_2⟩ := Go.Fw.cell_int Try.underlying3 c1_2
  obtain ⟨a1_3, rfl, w1_3⟩ := Go.Fw.cell_int Try.underlying3 c1_3
  obtain ⟨a1_4, rfl, w1_4⟩ := Go.Fw.cell_int Try.underlying2 c1_4
  obtain ⟨a1_5, rfl, w1_5⟩ := Go.Fw.cell_int Try.underlying2 c1_5
  obtain ⟨a1_6, rfl, w1_6⟩ := Go.Fw.cell_int Try.underlying3 c1_6
  obtain ⟨a1_7, rfl, w1_7⟩ := Go.Fw.cell_int Try.underlying2 c1_7
  obtain ⟨a1_8, rfl⟩ := Go.Fw.cell_bool Try.underlying4 c1_8
  obtain ⟨a1_9, rfl, w1_9⟩ := Go.Fw.cell_int Try.underlying2 c1_9
  obtain ⟨a2, rfl, rfl, rfl⟩ := open_bool Try.underlying4 (hval 2 4 v2 rfl rfl) h2
  obtain ⟨cs3_0, rfl, F3_0⟩ := Go.Fw.open_flat Try.underlying31 (ts := [9, 9, 3, 3, 2, 2, 3, 2, 4]) (by kernel_rfl) (by kernel_rfl) (hval 3 31 v3 rfl rfl)
  obtain ⟨x3_0, cs3_1, rfl, c3_0, F3_1⟩ := F3_0.cons
  obtain ⟨x3_1, cs3_2, rfl, c3_1, F3_2⟩ := F3_1.cons
  obtain ⟨x3_2, cs3_3, rfl, c3_2, F3_3⟩ := F3_2.cons
  obtain ⟨x3_3, cs3_4, rfl, c3_3, F3_4⟩ := F3_3.cons
  obtain ⟨x3_4, cs3_5, rfl, c3_4, F3_5⟩ := F3_4.cons
  obtain ⟨x3_5, cs3_6, rfl, c3_5, F3_6⟩ := F3_5.cons
  obtain ⟨x3_6, cs3_7, rfl, c3_6, F3_7⟩ := F3_6.cons
  obtain ⟨x3_7, cs3_8, rfl, c3_7, F3_8⟩ := F3_7.cons
  obtain ⟨x3_8, cs3_9, rfl, c3_8, F3_9⟩ := F3_8.cons
  obtain rfl := F3_9.nil
  obtain ⟨a3_0, rfl, w3_0⟩ := Go.Fw.cell_str Try.underlying9 c3_0
  obtain ⟨a3_1, rfl, w3_1⟩ := Go.Fw.cell_str Try.underlying9 c3_1
  obtain ⟨a3_2, rfl, w3_2⟩ := Go.Fw.cell_int Try.underlying3 c3_2
  obtain ⟨a3_3, rfl, w3_3⟩ := Go.Fw.cell_int Try.underlying3 c3_3
  obtain ⟨a3_4, rfl, w3_4⟩ := Go.Fw.cell_int Try.underlying2 c3_4
  obtain ⟨a3_5, rfl, w3_5⟩ := Go.Fw.cell_int Try.underlying2 c3_5
  obtain ⟨a3_6, rfl, w3_6⟩ := Go.Fw.cell_int Try.underlying3 c3_6
  obtain ⟨a3_7, rfl, w3_7⟩ := Go.Fw.cell_int Try.underlying2 c3_7
  obtain ⟨a3_8, rfl⟩ := Go.Fw.cell_bool Try.underlying4 c3_8
  obtain ⟨a4, rfl, rfl, rfl, w4⟩ := open_int Try.underlying3 (hval 4 3 v4 rfl rfl) h4
  obtain ⟨cs5_0, rfl, F5_0⟩ := Go.Fw.open_flat Try.underlying29 (ts := [2, 3, 2]) (by kernel_rfl) (by kernel_rfl) (hval 5 29 v5 rfl rfl)
  obtain ⟨x5_0, cs5_1, rfl, c5_0, F5_1⟩ := F5_0.cons
  obtain ⟨x5_1, cs5_2, rfl, c5_1, F5_2⟩ := F5_1.cons
  obtain ⟨x5_2, cs5_3, rfl, c5_2, F5_3⟩ := F5_2.cons
  obtain rfl := F5_3.nil
  obtain ⟨a5_0, rfl, w5_0⟩ := Go.Fw.cell_int Try.underlying2 c5_0
  obtain ⟨a5_1, rfl, w5_1⟩ := Go.Fw.cell_int Try.underlying3 c5_1
  obtain ⟨a5_2, rfl, w5_2⟩ := Go.Fw.cell_int Try.underlying2 c5_2
  obtain ⟨a6, rfl, rfl, rfl, w6⟩ := open_int Try.underlying2 (hval 6 2 v6 rfl rfl) h6
  obtain ⟨R0, I0, lt0, ro0⟩ := A0.here (B := (bs0 ++ [])) (pre := []) (post := []) (by simp)
  obtain ⟨h', hr⟩ := Code.leaseTells_law (Go.Fw.roHeap (bs0 ++ [])) I0 lt0 A0.wf (by unfold reachBytes at y0; omega) a1_0 w1_0 a1_1 w1_1 a1_2 w1_2 a1_3 w1_3 a1_4 w1_4 a1_5 w1_5 a1_6 w1_6 a1_7 w1_7 a1_8 a1_9 w1_9 a2 a3_0 w3_0 a3_1 w3_1 a3_2 w3_2 a3_3 w3_3 a3_4 w3_4 a3_5 w3_5 a3_6 w3_6 a3_7 w3_7 a3_8 a4 w4 a5_0 w5_0 a5_1 w5_1 a5_2 w5_2 a6 w6
  refine (Go.Fw.call_with Code.prog_ok (vs := #[v0, .agg ⟨[.string ⟨a1_0.toArray⟩, .string ⟨a1_1.toArray⟩, .int .i64 a1_2, .int .i64 a1_3, .int .i64 a1_4, .int .i64 a1_5, .int .i64 a1_6, .int .i64 a1_7, .bool a1_8, .int .i64 a1_9]⟩, .bool a2, .agg ⟨[.string ⟨a3_0.toArray⟩, .string ⟨a3_1.toArray⟩, .int .i64 a3_2, .int .i64 a3_3, .int .i64 a3_4, .int .i64 a3_5, .int .i64 a3_6, .int .i64 a3_7, .bool a3_8]⟩, .int .i64 a4, .agg ⟨[.int .i64 a5_0, .int .i64 a5_1, .int .i64 a5_2]⟩, .int .i64 a6]) (u := .bool true) (Go.Fw.roHeap_rel fun p hp => by
    simp only [List.mem_append, List.not_mem_nil, or_false] at hp
    rcases hp with hp
    · exact ro0 p hp) (Go.Fw.roHeap_no _) (args := [mk0 ([]).length, .agg [.str a1_0, .str a1_1, .int .i64 a1_2, .int .i64 a1_3, .int .i64 a1_4, .int .i64 a1_5, .int .i64 a1_6, .int .i64 a1_7, .bool a1_8, .int .i64 a1_9], .bool a2, .agg [.str a3_0, .str a3_1, .int .i64 a3_2, .int .i64 a3_3, .int .i64 a3_4, .int .i64 a3_5, .int .i64 a3_6, .int .i64 a3_7, .bool a3_8], .int .i64 a4, .agg [.int .i64 a5_0, .int .i64 a5_1, .int .i64 a5_2], .int .i64 a6]) ⟨R0, Go.Fw.vrel_flat (by simp [Go.Fw.VRels, Go.Fw.vrel_int, Go.Fw.vrel_bool, Go.Fw.vrel_str]) (by simp [Value.oneCell']), by unfold Go.Fw.VRel; rfl, Go.Fw.vrel_flat (by simp [Go.Fw.VRels, Go.Fw.vrel_int, Go.Fw.vrel_bool, Go.Fw.vrel_str]) (by simp [Value.oneCell']), by unfold Go.Fw.VRel; rfl, Go.Fw.vrel_flat (by simp [Go.Fw.VRels, Go.Fw.vrel_int, Go.Fw.vrel_bool, Go.Fw.vrel_str]) (by simp [Value.oneCell']), by unfold Go.Fw.VRel; rfl, trivial⟩ hr (fun φ x hx => by unfold Go.Fw.VRel at hx; exact hx)).mono fun e W' ⟨he, hg⟩ => ?_
  subst he
  exact ⟨_, rfl, Go.Fw.law_post laid readable rfl Try.underlying4 rfl rfl hW' hg⟩

theorem over : Rows.leaseTellsRow.holds Try.pinned (OpenSpec.ofChange Rows.leaseTellsSpec) :=
  OpenClaim.holds_of_wide 5 Try.f5 rfl rfl rfl rfl rfl rfl rfl ⟨rfl, rfl, rfl, rfl, rfl⟩ rfl rfl rfl rfl rfl (by kernel_rfl) Try.func5 (by kernel_rfl)
    (of_decide_eq_true (by kernel_rfl)) (by unfold Func.isWrapper; first | (rw [if_pos (by decide +kernel)]; kernel_rfl) | (rw [if_neg (by decide +kernel)]; exact ⟨rfl, rfl⟩))
    (fun os started H enc _ => lifted os started H enc)

/-- ████ THE STATEMENT ████ -/
theorem proved : Rows.LeaseTellsSaid :=
  over
#print axioms proved
end Go.Proofs.Ytkmegdliingbjaa.leaseTells
