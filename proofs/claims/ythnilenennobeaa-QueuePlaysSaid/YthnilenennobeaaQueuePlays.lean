/- Queues are the document's own, for any peers, any tape, any cards; no conditions. -/
import Derived.Test.YthnilenennobeaaRows
import Derived.Test.YthnilenennobeaaLaws
import Derived.WalkKit
import Derived.ProofKit
import Derived.OpenShut
import Derived.SizedLaws
namespace Go.Proofs.Ythnilenennobeaa.queuePlays
open Go.ChangeShapes Go.WideShapes Go.ChangeAt Go.RowKit
set_option linter.unusedVariables false

theorem own : ownKnob Try.prog.godebug = none := by kernel_rfl

theorem laid : laidOutB Try.prog = true := by kernel_rfl

theorem readable : ∀ t ∈ Try.f4.params.toList, Try.prog.readableRec t = true ∧ t < Try.prog.types.size := by
  rw [Try.params4]
  intro t ht
  simp only [List.mem_cons, List.not_mem_nil, or_false] at ht
  rcases ht with rfl | rfl | rfl <;> exact ⟨by kernel_rfl, by decide +kernel⟩

/-! ### THE ROW's STEP -/
set_option maxRecDepth 100000 in
theorem lifted (os : Os) (started : os.Started) (H : Type) (enc : TypeId × Value → H) :
    ReturnsInHanded {} Try.checked os 4 .any (Rows.queuePlaysSpec.pre6 enc Try.prog Try.f4 Rows.queuePlaysRow.domain false) (Rows.queuePlaysSpec.post enc Try.prog Try.f4 false true false false) := by
  refine returnsInHanded_of_change_sized (C := Try.checked) own started (by kernel_rfl) Try.func4
    (ChangeSpec.witness6 (enc := enc) (C := Try.checked) false ⟨#[], #[.slice none 0 0, .slice none 0 0, .slice none 0 0], []⟩ 8 (by kernel_rfl) (by kernel_rfl) (by kernel_rfl) (by kernel_rfl)) ?_
  intro W base args ds gs before hval0 hW hcnd hwt0 _
  have hval : ∀ (j : Nat) t v, Try.f4.params[j]? = some t → args[j]? = some v → Value.okWide Try.prog W .any base t v := hval0
  have hW' := hW
  obtain ⟨p, q, hA0, hV, rfl, hfz, hnd⟩ := hW
  have hA : DataW.TrodAll enc Try.prog W 0 (fun _ => true) true Try.f4.params.toList args.toList ds p := hA0
  have hwt1 : (DataW.weightsEach Try.prog (Try.f4.params.toList ++ Rows.queuePlaysSpec.plain.varTypes Try.prog) (ds ++ gs)).all (· ≤ reachBytes) = true := hwt0
  rw [Try.params4] at hA hval hwt1
  obtain ⟨v0, vs0, d0, ds0, p0, q0, hargs, rfl, rfl, h0, r0⟩ := trodAll_cons hA
  obtain ⟨v1, vs1, d1, ds1, p1, q1, rfl, rfl, rfl, h1, r1⟩ := trodAll_cons r0
  obtain ⟨v2, vs2, d2, ds2, p2, q2, rfl, rfl, rfl, h2, r2⟩ := trodAll_cons r1
  obtain ⟨rfl, rfl, rfl⟩ := trodAll_nil r2
  obtain rfl : args = #[v0, v1, v2] := by cases args; simp_all
  have hwt : (DataW.weightsEach (H := H) Try.prog [22, 22, 25] [d0, d1, d2]).all (· ≤ reachBytes) = true := by
    obtain ⟨rfl, _⟩ := trodVars_none hV
    exact hwt1
  obtain ⟨bs0, mk0, l0, A0, z0⟩ := Go.Fw.ints_arg Try.underlying22 Try.underlying3 (by kernel_rfl) (hval 0 22 v0 rfl rfl) h0
  have y0 := z0 (Go.Fw.weights_of hwt (j := 0) rfl rfl)
  have u0 : Try.prog.bytesOf 3 = 8 := by kernel_rfl
  rw [u0] at y0
  obtain ⟨bs1, mk1, l1, A1, z1⟩ := Go.Fw.ints_arg Try.underlying22 Try.underlying3 (by kernel_rfl) (hval 1 22 v1 rfl rfl) h1
  have y1 := z1 (Go.Fw.weights_of hwt (j := 1) rfl rfl)
  have u1 : Try.prog.bytesOf 3 = 8 := by kernel_rfl
  rw [u1] at y1
  obtain ⟨bs2, mk2, RR2, A2, z2, m2⟩ := Go.Fw.rows_arg (nn := 8) (L := [.str, .str, .int .i64, .int .i64, .int .i64, .int .i64, .int .i64, .int .i64, .bool]) Try.underlying25 (by kernel_rfl) (by kernel_rfl) (by decide) (hval 2 25 v2 rfl rfl) h2
  have y2 := z2 (Go.Fw.weights_of hwt (j := 2) rfl rfl)
  have u2 : Try.prog.bytesOf 39 = 88 := by kernel_rfl
  rw [u2] at y2
  obtain ⟨R0, I0, lt0, ro0⟩ := A0.here (B := (bs0 ++ (bs1 ++ (bs2 ++ [])))) (pre := []) (post := (bs1 ++ (bs2 ++ []))) (by simp)
  obtain ⟨R1, I1, lt1, ro1⟩ := A1.here (B := (bs0 ++ (bs1 ++ (bs2 ++ [])))) (pre := bs0) (post := (bs2 ++ [])) (by simp)
  obtain ⟨R2, I2, ro2⟩ := A2.here (B := (bs0 ++ (bs1 ++ (bs2 ++ [])))) (pre := (bs0 ++ bs1)) (post := []) (by simp)
  obtain ⟨h', hr⟩ := Code.queuePlays_true (Go.Fw.roHeap (bs0 ++ (bs1 ++ (bs2 ++ [])))) I0 lt0 A0.wf (by unfold reachBytes at y0; omega) (A0.room _) I1 lt1 A1.wf (by unfold reachBytes at y1; omega) (A1.room _) I2 m2 (by unfold reachBytes at y2; omega)
  refine (Go.Fw.call_with Code.prog_ok (vs := #[v0, v1, v2]) (u := .bool true) (Go.Fw.roHeap_rel fun p hp => by
    simp only [List.mem_append, List.not_mem_nil, or_false] at hp
    rcases hp with hp | hp | hp
    · exact ro0 p hp
    · exact ro1 p hp
    · exact ro2 p hp) (Go.Fw.roHeap_no _) (args := [mk0 ([]).length, mk1 (bs0).length, mk2 ((bs0 ++ bs1)).length]) ⟨R0, R1, R2, trivial⟩ hr (fun φ x hx => by unfold Go.Fw.VRel at hx; exact hx)).mono fun e W' ⟨he, hg⟩ => ?_
  subst he
  exact ⟨_, rfl, Go.Fw.law_post laid readable rfl Try.underlying4 rfl rfl hW' hg⟩

theorem over : Rows.queuePlaysRow.holds Try.pinned (OpenSpec.ofChange Rows.queuePlaysSpec) :=
  OpenClaim.holds_of_wide 4 Try.f4 rfl rfl rfl rfl rfl rfl rfl ⟨rfl, rfl, rfl, rfl, rfl⟩ rfl rfl rfl rfl rfl (by kernel_rfl) Try.func4 (by kernel_rfl)
    (of_decide_eq_true (by kernel_rfl)) (by unfold Func.isWrapper; first | (rw [if_pos (by decide +kernel)]; kernel_rfl) | (rw [if_neg (by decide +kernel)]; exact ⟨rfl, rfl⟩))
    (fun os started H enc _ => lifted os started H enc)

/-- ████ THE STATEMENT ████ -/
theorem proved : Rows.QueuePlaysSaid :=
  over
#print axioms proved
end Go.Proofs.Ythnilenennobeaa.queuePlays
