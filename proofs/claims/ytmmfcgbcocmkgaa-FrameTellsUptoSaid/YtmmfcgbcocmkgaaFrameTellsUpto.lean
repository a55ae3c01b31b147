/- Frames are written, and taken from a stream, as the document's own are, for any bytes and any pieces; the condition: what is handed in is of bulk at most 1048576. -/
import Derived.Test.YtmmfcgbcocmkgaaRows
import Derived.Test.YtmmfcgbcocmkgaaTells
import Derived.WalkKit
import Derived.ProofKit
import Derived.OpenShut
import Derived.SizedLaws
import Derived.Deep.CondSized
namespace Go.Proofs.Ytmmfcgbcocmkgaa.frameTells
open Go.ChangeShapes Go.WideShapes Go.ChangeAt Go.RowKit
set_option linter.unusedVariables false

theorem one_le {H : Type} (d : DataW H) : 1 ≤ Rows.uptoBulk d := by
  cases d with
  | lit l => cases l <;> simp [Rows.uptoBulk]
  | _ => simp [Rows.uptoBulk]
theorem length_le {H : Type} (l : List (DataW H)) : l.length ≤ Rows.uptoBulkAll l := by
  induction l with
  | nil => simp [Rows.uptoBulkAll]
  | cons x r ih => have := one_le x; simp only [Rows.uptoBulkAll, List.length_cons]; omega
theorem slice_le {H : Type} (elems spare : List (DataW H)) : elems.length ≤ Rows.uptoBulk (.slice elems spare) := by
  have h1 := length_le elems
  simp only [Rows.uptoBulk]
  omega
theorem part_all {H : Type} {d : DataW H} {l : List (DataW H)} (h : d ∈ l) : Rows.uptoBulk d ≤ Rows.uptoBulkAll l := by
  induction l with
  | nil => cases h
  | cons x r ih =>
    simp only [Rows.uptoBulkAll]
    rcases List.mem_cons.1 h with e | e
    · subst e; omega
    · have := ih e; omega
theorem part_le {H : Type} {l : List (DataW H)} {n : Nat} (hk : Rows.uptoBulkAll l ≤ n) {d : DataW H} (h : d ∈ l) : Rows.uptoBulk d ≤ n := Nat.le_trans (part_all h) hk

theorem own : ownKnob Try.prog.godebug = none := by kernel_rfl

theorem laid : laidOutB Try.prog = true := by kernel_rfl

theorem readable : ∀ t ∈ Try.f4.params.toList, Try.prog.readableRec t = true ∧ t < Try.prog.types.size := by
  rw [Try.params4]
  intro t ht
  simp only [List.mem_cons, List.not_mem_nil, or_false] at ht
  rcases ht with rfl | rfl | rfl | rfl | rfl <;> exact ⟨by kernel_rfl, by decide +kernel⟩

/-! ### THE ROW's STEP -/
set_option maxRecDepth 100000 in
theorem lifted (os : Os) (started : os.Started) (H : Type) (enc : TypeId × Value → H) (F : Stop.Interp) :
    ReturnsInHanded {} Try.checked os 4 .any ((Rows.OpenSpec.upto Rows.frameTellsSpec).pre6 enc Try.prog Try.f4 Rows.frameTellsUptoRow.domain false) (((Rows.OpenSpec.upto Rows.frameTellsSpec).at F).post enc Try.prog Try.f4 false true false false) := by
  refine returnsInHanded_of_cond_sized (C := Try.checked) (s := Rows.OpenSpec.upto Rows.frameTellsSpec) (k := Rows.uptoSmall) rfl own started (by kernel_rfl) Try.func4
    (OpenSpec.witness (enc := enc) (C := Try.checked) (s := Rows.OpenSpec.upto Rows.frameTellsSpec) (k := Rows.uptoSmall) rfl false ⟨#[], #[.slice none 0 0, .slice none 0 0, .slice none 0 0, .int .i64 0, .int .u8 0], []⟩ 8 (by kernel_rfl) (by kernel_rfl) (by kernel_rfl)
      (x := ([.nil, .nil, .nil, .lit (.int .i64 0), .lit (.int .u8 0)], [], [])) (by kernel_rfl) rfl (by kernel_rfl)) ?_
  intro W base args ds gs before hval0 hW hcnd hk0 hwt0 _
  have hval : ∀ (j : Nat) t v, Try.f4.params[j]? = some t → args[j]? = some v → Value.okWide Try.prog W .any base t v := hval0
  have hW' := hW
  obtain ⟨p, q, hA0, hV, rfl, hfz, hnd⟩ := hW
  have hA : DataW.TrodAll enc Try.prog W 0 (fun _ => true) true Try.f4.params.toList args.toList ds p := hA0
  have hwt1 : (DataW.weightsEach Try.prog (Try.f4.params.toList ++ Rows.frameTellsSpec.plain.varTypes Try.prog) (ds ++ gs)).all (· ≤ reachBytes) = true := hwt0
  rw [Try.params4] at hA hval hwt1
  obtain ⟨v0, vs0, d0, ds0, p0, q0, hargs, rfl, rfl, h0, r0⟩ := trodAll_cons hA
  obtain ⟨v1, vs1, d1, ds1, p1, q1, rfl, rfl, rfl, h1, r1⟩ := trodAll_cons r0
  obtain ⟨v2, vs2, d2, ds2, p2, q2, rfl, rfl, rfl, h2, r2⟩ := trodAll_cons r1
  obtain ⟨v3, vs3, d3, ds3, p3, q3, rfl, rfl, rfl, h3, r3⟩ := trodAll_cons r2
  obtain ⟨v4, vs4, d4, ds4, p4, q4, rfl, rfl, rfl, h4, r4⟩ := trodAll_cons r3
  obtain ⟨rfl, rfl, rfl⟩ := trodAll_nil r4
  obtain rfl : args = #[v0, v1, v2, v3, v4] := by cases args; simp_all
  have hk : Rows.uptoBulkAll [d0, d1, d2, d3, d4] ≤ 1048576 := by
    obtain ⟨rfl, _⟩ := trodVars_none hV
    exact of_decide_eq_true hk0
  have hwt : (DataW.weightsEach (H := H) Try.prog [24, 22, 26, 3, 5] [d0, d1, d2, d3, d4]).all (· ≤ reachBytes) = true := by
    obtain ⟨rfl, _⟩ := trodVars_none hV
    exact hwt1
  obtain ⟨bs1, mk1, l1, A1, z1, b1⟩ := Go.Fw.ints_arg_bulk Try.underlying22 Try.underlying5 (by kernel_rfl) (hval 1 22 v1 rfl rfl) h1
  have y1 := z1 (Go.Fw.weights_of hwt (j := 1) rfl rfl)
  have u1 : Try.prog.bytesOf 5 = 1 := by kernel_rfl
  rw [u1] at y1
  obtain ⟨bs2, mk2, l2, A2, z2, b2⟩ := Go.Fw.ints_arg_bulk Try.underlying26 Try.underlying3 (by kernel_rfl) (hval 2 26 v2 rfl rfl) h2
  have y2 := z2 (Go.Fw.weights_of hwt (j := 2) rfl rfl)
  have u2 : Try.prog.bytesOf 3 = 8 := by kernel_rfl
  rw [u2] at y2
  obtain ⟨a3, rfl, rfl, rfl, w3⟩ := open_int Try.underlying3 (hval 3 3 v3 rfl rfl) h3
  obtain ⟨a4, rfl, rfl, rfl, w4⟩ := open_int Try.underlying5 (hval 4 5 v4 rfl rfl) h4
  obtain ⟨bs0, mk0, A0⟩ := Go.Fw.nest_arg Try.underlying24 Try.underlying22 Try.underlying5 (by kernel_rfl) (by kernel_rfl) (hval 0 24 v0 rfl rfl) h0
  obtain ⟨R0, ro0, RW0, I0, z0⟩ := A0 (bs0 0 ++ (bs1 ++ (bs2 ++ []))) [] (bs1 ++ (bs2 ++ [])) (by simp)
  obtain ⟨y0, yy0⟩ := z0 (Go.Fw.weights_of hwt (j := 0) rfl rfl)
  have u0 : Try.prog.bytesOf 22 = 24 := by kernel_rfl
  have uu0 : Try.prog.bytesOf 5 = 1 := by kernel_rfl
  rw [u0] at y0
  rw [uu0] at yy0
  obtain ⟨R1, I1, lt1, ro1⟩ := A1.here (B := (bs0 0 ++ (bs1 ++ (bs2 ++ [])))) (pre := bs0 0) (post := (bs2 ++ [])) (by simp)
  obtain ⟨R2, I2, lt2, ro2⟩ := A2.here (B := (bs0 0 ++ (bs1 ++ (bs2 ++ [])))) (pre := (bs0 0 ++ bs1)) (post := []) (by simp)
  obtain ⟨h', hr⟩ := Code.frameTells_upto (Go.Fw.roHeap (bs0 0 ++ (bs1 ++ (bs2 ++ [])))) I0 (by unfold reachBytes at y0; omega) (fun x hx => by have := yy0 x hx; unfold reachBytes at this; omega) I1 lt1 A1.wf (by unfold reachBytes at y1; omega) (A1.room _) (Nat.le_trans (b1 Rows.uptoBulk slice_le) (part_le hk (d := d1) (by simp))) I2 lt2 A2.wf (by unfold reachBytes at y2; omega) (A2.room _) (Nat.le_trans (b2 Rows.uptoBulk slice_le) (part_le hk (d := d2) (by simp))) a3 w3 a4 w4
  refine (Go.Fw.call_with Code.prog_ok (vs := #[v0, v1, v2, .int .i64 a3, .int .u8 a4]) (u := .bool true) (Go.Fw.roHeap_rel fun p hp => by
    simp only [List.mem_append, List.not_mem_nil, or_false] at hp
    rcases hp with hp | hp | hp
    · exact ro0 p hp
    · exact ro1 p hp
    · exact ro2 p hp) (Go.Fw.roHeap_no _) (args := [mk0 ([]).length, mk1 (bs0 0).length, mk2 ((bs0 0 ++ bs1)).length, .int .i64 a3, .int .u8 a4]) ⟨R0, R1, R2, by unfold Go.Fw.VRel; rfl, by unfold Go.Fw.VRel; rfl, trivial⟩ hr (fun φ x hx => by unfold Go.Fw.VRel at hx; exact hx)).mono fun e W' ⟨he, hg⟩ => ?_
  subst he
  exact ⟨_, rfl, Go.Fw.law_post laid readable rfl Try.underlying4 rfl rfl hW' hg⟩

theorem over : Rows.frameTellsUptoRow.holds Try.pinned (Rows.OpenSpec.upto Rows.frameTellsSpec) :=
  OpenClaim.holds_of_cond 4 Try.f4 rfl rfl rfl rfl rfl rfl rfl ⟨rfl, rfl, rfl, rfl, rfl⟩ rfl rfl rfl rfl rfl (by kernel_rfl) Try.func4 (by kernel_rfl)
    (of_decide_eq_true (by kernel_rfl)) (by unfold Func.isWrapper; first | (rw [if_pos (by decide +kernel)]; kernel_rfl) | (rw [if_neg (by decide +kernel)]; exact ⟨rfl, rfl⟩))
    (fun os started H enc _ F => lifted os started H enc F)

/-- ████ THE STATEMENT ████ -/
theorem proved : Rows.FrameTellsUptoSaid :=
  over
#print axioms proved
end Go.Proofs.Ytmmfcgbcocmkgaa.frameTells

