/- Messages are right, written, and read, or refused with where and why, as the document says, for any tape, any message, any bytes; no conditions. -/
import Derived.Test.YtjibfbphiemljaaGreatDoorCards
import Derived.Test.YtjibfbphiemljaaGreatDoorTie
import Derived.Test.YtjibfbphiemljaaGreatDoorRaw
import Derived.WalkKit
import Derived.ProofKit
import Derived.OpenShut
import Derived.SizedLaws
import Derived.Deep.DeepHandedRow
import Derived.LaidLaws
import Derived.LaidHandle
import Derived.FnData
import Derived.ChangeMaps5
namespace Go.Proofs.YtjibfbphiemljaaGreatDoor.mailTells
open Go.ChangeShapes Go.WideShapes Go.ChangeAt Go.RowKit
set_option linter.unusedVariables false

theorem own : ownKnob Tryz.prog.godebug = none := by kernel_rfl
theorem laid : laidOutB Tryz.prog = true := by kernel_rfl
theorem glob : Tryz.prog.globalNamed "errors.errorType" = some 0 := by kernel_rfl
theorem rtyp : (Tryz.prog.cutTypes.find? (·.1 == "internal/reflectlite.rtype")).map (·.2) = some 135 := by kernel_rfl
theorem oneRow : ((List.range 175).filter fun t => Tryz.prog.rowNamed t [101, 114, 114, 111, 114]) = [54] := by kernel_rfl
theorem nTypes : Tryz.prog.types.size = 175 := by kernel_rfl
theorem nGlob : Tryz.prog.globals.size = 1 := by kernel_rfl

/-- What the row's list gives: the variable's one cell. -/
theorem cell_of {W : World} (h : laidMetH Tryz.prog Rows.mailTellsRow.laid W) : W.cell? ⟨0, 0, none⟩ = some (.iface 135 (.agg #[.pointer (some ⟨1, 54, none⟩)])) := by
  have h' : laidMet Tryz.prog [] W ∧ handlesMet Tryz.prog Rows.mailTellsRow.laid W := h
  obtain ⟨name, u, ty, e1, e2, e3, e4, e5⟩ := h'.2 _ (List.mem_singleton.2 rfl)
  have en : name = [101, 114, 114, 111, 114] := (Option.some.inj e1).symm
  subst en
  obtain rfl := Option.some.inj (rtyp.symm.trans e2)
  have hm : ty ∈ (List.range 175).filter fun t => Tryz.prog.rowNamed t [101, 114, 114, 111, 114] := List.mem_filter.2 ⟨List.mem_range.2 (by rw [← nTypes]; exact e3), e4⟩
  rw [oneRow] at hm
  obtain rfl := List.mem_singleton.1 hm
  have hh : typeHandle Tryz.prog 54 = .pointer (some ⟨1, 54, none⟩) := by kernel_rfl
  rw [hh] at e5
  simpa using World.var?_cell glob e5 0

theorem two_lt : 1 < (begin Tryz.prog (fun _ _ => 0) default).world.heap.size := of_decide_eq_true (by kernel_rfl)
theorem row0 : (((begin Tryz.prog (fun _ _ => 0) default).world.heap[0]?).bind Obj.row?).map (fun p => (p.1.size, p.2)) = some (1, 125) := by kernel_rfl
/-- The blocks that the program brings. -/
theorem start {W : World} (h : laidMetH Tryz.prog Rows.mailTellsRow.laid W) (hs : W.ShapedOpen Tryz.prog) :
    1 < W.heap.size ∧ ∃ c e fz, W.heap[0]? = some (.cells c e fz) ∧ c.size = 1 ∧ c[0]? = some (.iface 135 (.agg #[.pointer (some ⟨1, 54, none⟩)])) := by
  have hc := cell_of h
  constructor
  · obtain ⟨o, o0, h1, _⟩ := hs.2 1 (by rw [nGlob]; exact Nat.le_refl _) two_lt
    exact (Array.getElem?_eq_some_iff.1 h1).1
  · obtain ⟨p, hp1, hp2⟩ := Option.map_eq_some_iff.1 row0
    obtain ⟨cs, h1, h2, _⟩ := hs.1 0 p.1 p.2 (by rw [nGlob]; exact Nat.zero_lt_one) hp1
    refine ⟨cs, p.2, _, h1, ?_, ?_⟩
    · rw [h2]
      exact (Prod.mk.inj hp2).1
    · simp only [World.cell?, h1] at hc
      exact hc

theorem readable : ∀ t ∈ Tryz.f4.params.toList, Tryz.prog.readableRec t = true ∧ t < Tryz.prog.types.size := by
  rw [Tryz.params4]
  intro t ht
  simp only [List.mem_cons, List.not_mem_nil, or_false] at ht
  rcases ht with rfl | rfl | rfl | rfl | rfl | rfl | rfl <;> exact ⟨by kernel_rfl, by decide +kernel⟩

set_option maxRecDepth 100000 in
theorem contract (H : Type) (enc : TypeId × Value → H) (W : World) (base : Nat) (args : Array Value) (ds gs : List (DataW H)) (before : List MemPlace)
    (hval0 : ∀ (j : Nat) t v, Tryz.f4.params[j]? = some t → args[j]? = some v → Value.okWide Tryz.prog W .any base t v)
    (hW : DataW.Whole enc Tryz.prog Tryz.f4.params.toList Rows.mailTellsSpec.vars false W args.toList ds gs before)
    (hwt0 : (DataW.weightsEach Tryz.prog (Tryz.f4.params.toList ++ Rows.mailTellsSpec.plain.varTypes Tryz.prog) (ds ++ gs)).all (· ≤ reachBytes) = true)
    (hL : laidMetH Tryz.prog Rows.mailTellsRow.laid W) (hS : W.ShapedOpen Tryz.prog) :
    Calls Tryz.prog 4 args W fun e W' => ∃ v, e = .returned v ∧ Rows.mailTellsSpec.post enc Tryz.prog Tryz.f4 false true false false W args v W' := by
  have hval : ∀ (j : Nat) t v, Tryz.f4.params[j]? = some t → args[j]? = some v → Value.okWide Tryz.prog W .any base t v := hval0
  have hW' := hW
  obtain ⟨p, q, hA0, hV, rfl, hfz, hnd⟩ := hW
  have hA : DataW.TrodAll enc Tryz.prog W 0 (fun _ => true) true Tryz.f4.params.toList args.toList ds p := hA0
  have hwt1 : (DataW.weightsEach Tryz.prog (Tryz.f4.params.toList ++ Rows.mailTellsSpec.plain.varTypes Tryz.prog) (ds ++ gs)).all (· ≤ reachBytes) = true := hwt0
  rw [Tryz.params4] at hA hval hwt1
  obtain ⟨v0, vs0, d0, ds0, p0, q0, hargs, rfl, rfl, h0, r0⟩ := trodAll_cons hA
  obtain ⟨v1, vs1, d1, ds1, p1, q1, rfl, rfl, rfl, h1, r1⟩ := trodAll_cons r0
  obtain ⟨v2, vs2, d2, ds2, p2, q2, rfl, rfl, rfl, h2, r2⟩ := trodAll_cons r1
  obtain ⟨v3, vs3, d3, ds3, p3, q3, rfl, rfl, rfl, h3, r3⟩ := trodAll_cons r2
  obtain ⟨v4, vs4, d4, ds4, p4, q4, rfl, rfl, rfl, h4, r4⟩ := trodAll_cons r3
  obtain ⟨v5, vs5, d5, ds5, p5, q5, rfl, rfl, rfl, h5, r5⟩ := trodAll_cons r4
  obtain ⟨v6, vs6, d6, ds6, p6, q6, rfl, rfl, rfl, h6, r6⟩ := trodAll_cons r5
  obtain ⟨rfl, rfl, rfl⟩ := trodAll_nil r6
  obtain rfl : args = #[v0, v1, v2, v3, v4, v5, v6] := by cases args; simp_all
  have hwt : (DataW.weightsEach (H := H) Tryz.prog [30, 3, 2, 28, 38, 3, 5] [d0, d1, d2, d3, d4, d5, d6]).all (· ≤ reachBytes) = true := by
    obtain ⟨rfl, _⟩ := trodVars_none hV
    exact hwt1
  obtain ⟨bs0, mk0, l0, A0, z0⟩ := Go.Fw.ints_arg Tryz.underlying30 Tryz.underlying3 (by kernel_rfl) (hval 0 30 v0 rfl rfl) h0
  have y0 := z0 (Go.Fw.weights_of hwt (j := 0) rfl rfl)
  have u0 : Tryz.prog.bytesOf 3 = 8 := by kernel_rfl
  rw [u0] at y0
  obtain ⟨a1, rfl, rfl, rfl, w1⟩ := open_int Tryz.underlying3 (hval 1 3 v1 rfl rfl) h1
  obtain ⟨a2, rfl, rfl, rfl, w2⟩ := open_int Tryz.underlying2 (hval 2 2 v2 rfl rfl) h2
  obtain ⟨bs4, mk4, l4, A4, z4⟩ := Go.Fw.ints_arg Tryz.underlying38 Tryz.underlying5 (by kernel_rfl) (hval 4 38 v4 rfl rfl) h4
  have y4 := z4 (Go.Fw.weights_of hwt (j := 4) rfl rfl)
  have u4 : Tryz.prog.bytesOf 5 = 1 := by kernel_rfl
  rw [u4] at y4
  obtain ⟨a5, rfl, rfl, rfl, w5⟩ := open_int Tryz.underlying3 (hval 5 3 v5 rfl rfl) h5
  obtain ⟨a6, rfl, rfl, rfl, w6⟩ := open_int Tryz.underlying5 (hval 6 5 v6 rfl rfl) h6
  obtain ⟨bs3, aa3, vv3, ma3, mb3, Ra3, Rb3, A3, L3, z3, ka3, kb3⟩ := Go.Fw.struct_arg (nn := 8) (L := Code.kMs) (L1 := Code.kCd) (L2 := Code.kKy) Tryz.underlying28 (List.take_append_drop 10 _).symm (by kernel_rfl) (by kernel_rfl) (by kernel_rfl) (by kernel_rfl) (by kernel_rfl) (by kernel_rfl) Tryz.underlying25 Tryz.underlying26 (by kernel_rfl) (by kernel_rfl) (by kernel_rfl) (by kernel_rfl) (by decide) (by decide) (ts := [3, 3, 3, 3, 2, 2, 2, 9, 9, 4, 24, 25, 26]) (by kernel_rfl) (by kernel_rfl) rfl rfl (hval 3 28 v3 rfl rfl) h3
  have y3 := z3 (Go.Fw.weights_of hwt (j := 3) rfl rfl)
  have u3 : Tryz.prog.bytesOf 63 = 88 := by kernel_rfl
  have uu3 : Tryz.prog.bytesOf 23 = 32 := by kernel_rfl
  rw [u3, uu3] at y3
  obtain ⟨R0, I0, lt0, ro0⟩ := A0.hereP 1 [.iface 135 (.agg [.ptr 1 54])] (B := (bs0 ++ (bs3 ++ (bs4 ++ [])))) (pre := []) (post := (bs3 ++ (bs4 ++ []))) (by simp)
  obtain ⟨R3, I3, ro3⟩ := A3.hereP 1 [.iface 135 (.agg [.ptr 1 54])] (B := (bs0 ++ (bs3 ++ (bs4 ++ [])))) (pre := bs0) (post := (bs4 ++ [])) (by simp)
  obtain ⟨R4, I4, lt4, ro4⟩ := A4.hereP 1 [.iface 135 (.agg [.ptr 1 54])] (B := (bs0 ++ (bs3 ++ (bs4 ++ [])))) (pre := (bs0 ++ bs3)) (post := []) (by simp)
  obtain ⟨hz, hc0⟩ := start hL hS
  obtain ⟨h', hr⟩ := Code.mailTellsL (h := Go.Fw.pinHeap [.iface 135 (.agg [.ptr 1 54])] (bs0 ++ (bs3 ++ (bs4 ++ [])))) ⟨by show 2 ≤ ((bs0 ++ (bs3 ++ (bs4 ++ []))) : List (Go.Fw.Loc × List Go.Fw.AVal)).length + 2; omega, Nat.le_refl _, false, rfl⟩ I0 lt0 A0.wf (by unfold reachBytes at y0; omega) (A0.room _) a1 w1 a2 w2 L3 ka3 kb3 y3 I3 I4 lt4 A4.wf (by unfold reachBytes at y4; omega) (A4.room _) a5 w5 a6 w6
  refine (Go.Fw.call_with Code.prog_ok (by kernel_rfl) (vs := #[v0, .int .i64 a1, .int .i64 a2, v3, v4, .int .i64 a5, .int .u8 a6]) (u := .bool true) (Go.Fw.pinHeap_rel rfl (n := 1) (Go.Fw.laid_ok (by omega) hc0) hz (fun p hp => by
    simp only [List.mem_append, List.not_mem_nil, or_false] at hp
    rcases hp with hp | hp | hp
    · exact ro0 p hp
    · exact ro3 p hp
    · exact ro4 p hp)) (Go.Fw.pinHeap_no _ _) (args := [mk0 (([] : List (Go.Fw.Loc × List Go.Fw.AVal)).length + 2), .int .i64 a1, .int .i64 a2, .agg (aa3 ++ [ma3 ((bs0 : List (Go.Fw.Loc × List Go.Fw.AVal)).length + 2), mb3 ((bs0 : List (Go.Fw.Loc × List Go.Fw.AVal)).length + 2)]), mk4 (((bs0 ++ bs3) : List (Go.Fw.Loc × List Go.Fw.AVal)).length + 2), .int .i64 a5, .int .u8 a6]) ⟨R0, by unfold Go.Fw.VRel; rfl, by unfold Go.Fw.VRel; rfl, R3, R4, by unfold Go.Fw.VRel; rfl, by unfold Go.Fw.VRel; rfl, trivial⟩ hr (fun φ x hx => by unfold Go.Fw.VRel at hx; exact hx)).mono fun e W' ⟨he, hg⟩ => ?_
  subst he
  exact ⟨_, rfl, Go.Fw.law_post laid readable rfl Tryz.underlying4 rfl rfl hW' hg⟩

/-- A world for the witness: the settled one, the variable laid. -/
noncomputable def laidWorld (os : Os) : World :=
  { World.holding Tryz.prog os ⟨#[], #[], []⟩ with heap := (World.holding Tryz.prog os ⟨#[], #[], []⟩).heap.modify 0 fun
      | .cells _ t frozen => .cells #[.iface 135 (.agg #[.pointer (some ⟨1, 54, none⟩)])] t frozen
      | o => o }
theorem laid_met (os : Os) : laidMetH Tryz.prog Rows.mailTellsRow.laid ((laidWorld os).forCall (fun _ _ => 0) ⟨#[], #[.slice none 0 0, .int .i64 0, .int .i64 0, .agg #[.int .i64 0, .int .i64 0, .int .i64 0, .int .i64 0, .int .i64 0, .int .i64 0, .int .i64 0, .string .empty, .string .empty, .bool false, .int .u32 0, .slice none 0 0, .slice none 0 0], .slice none 0 0, .int .i64 0, .int .u8 0], []⟩).memory :=
  laidMetH_of_parts (laidMet_nil _ _) (by kernel_rfl)
theorem reads (os : Os) {H : Type} (enc : TypeId × Value → H) : ∃ places, DataW.whole enc Tryz.prog ((laidWorld os).forCall (fun _ _ => 0) ⟨#[], #[.slice none 0 0, .int .i64 0, .int .i64 0, .agg #[.int .i64 0, .int .i64 0, .int .i64 0, .int .i64 0, .int .i64 0, .int .i64 0, .int .i64 0, .string .empty, .string .empty, .bool false, .int .u32 0, .slice none 0 0, .slice none 0 0], .slice none 0 0, .int .i64 0, .int .u8 0], []⟩).memory Tryz.f4.params.toList Rows.mailTellsSpec.vars false (#[.slice none 0 0, .int .i64 0, .int .i64 0, .agg #[.int .i64 0, .int .i64 0, .int .i64 0, .int .i64 0, .int .i64 0, .int .i64 0, .int .i64 0, .string .empty, .string .empty, .bool false, .int .u32 0, .slice none 0 0, .slice none 0 0], .slice none 0 0, .int .i64 0, .int .u8 0] : Array Value).toList 8 = some ([.nil, .lit (.int .i64 0), .lit (.int .i64 0), .agg [.lit (.int .i64 0), .lit (.int .i64 0), .lit (.int .i64 0), .lit (.int .i64 0), .lit (.int .i64 0), .lit (.int .i64 0), .lit (.int .i64 0), .agg [.lit (.string []), .lit (.string [])], .lit (.bool false), .lit (.int .u32 0), .nil, .nil], .nil, .lit (.int .i64 0), .lit (.int .u8 0)], [], places) :=
  ⟨[], by kernel_rfl⟩
set_option maxRecDepth 100000 in
theorem lifted (os : Os) (started : os.Started) (H : Type) (enc : TypeId × Value → H) (F : Stop.Interp) :
    ReturnsInHanded {} Tryz.checked os 4 .any ((OpenSpec.ofChange Rows.mailTellsSpec).preRow enc Tryz.prog Tryz.f4 Rows.mailTellsRow.domain false Rows.mailTellsRow.laid) (((OpenSpec.ofChange Rows.mailTellsSpec).at F).post enc Tryz.prog Tryz.f4 false true false false) := by
  obtain ⟨places, hx⟩ := reads os enc
  refine returnsInHanded_of_row (C := Tryz.checked) (s := (OpenSpec.ofChange Rows.mailTellsSpec)) own started (by kernel_rfl) Tryz.func4
    (witness_row_at (enc := enc) (C := Tryz.checked) false (laidWorld os) #[.slice none 0 0, .int .i64 0, .int .i64 0, .agg #[.int .i64 0, .int .i64 0, .int .i64 0, .int .i64 0, .int .i64 0, .int .i64 0, .int .i64 0, .string .empty, .string .empty, .bool false, .int .u32 0, .slice none 0 0, .slice none 0 0], .slice none 0 0, .int .i64 0, .int .u8 0] rfl (by kernel_rfl) (by kernel_rfl) (by kernel_rfl)
      (OpenSpec.preRow_of_cond 8 hx (by kernel_rfl) (fun k hk => by cases hk) (by kernel_rfl) (laid_met os))) ?_
  intro W base args ds gs before hval hW _ _ hwt hL hS _
  exact contract H enc W base args ds gs before hval hW hwt hL hS
theorem said : Rows.MailTellsSaid :=
  OpenClaim.holds_of_cond 4 Tryz.f4 rfl rfl rfl rfl rfl rfl rfl ⟨rfl, rfl, rfl, rfl, rfl⟩ rfl rfl rfl rfl rfl (by kernel_rfl) Tryz.func4 (by kernel_rfl)
    (of_decide_eq_true (by kernel_rfl)) (by unfold Func.isWrapper; first | (rw [if_pos (by decide +kernel)]; kernel_rfl) | (rw [if_neg (by decide +kernel)]; exact ⟨rfl, rfl⟩))
    (fun os started H enc _ F => by rw [OpenClaim.pre_eq_preRow]; exact lifted os started H enc F)

theorem plain (f : FuncId) (fn : Func) (hf : Tryz.pinned.checked.prog.funcNamed "frankpledge/frankpledgelaw6.MailTells" = some f) (hfn : Tryz.pinned.checked.prog.funcs[f]? = some fn) :
    true = Tryz.pinned.checked.prog.looks [] ∧ ∀ (j : Nat) t, fn.params[j]? = some t → Tryz.pinned.checked.prog.wantsStandIn t = false := by
  obtain rfl : f = 4 := Option.some.inj ((show Tryz.prog.funcNamed "frankpledge/frankpledgelaw6.MailTells" = some 4 by kernel_rfl).symm.trans hf) |>.symm
  obtain rfl : fn = Tryz.f4 := (Option.some.inj (Tryz.func4.symm.trans hfn)).symm
  refine ⟨by kernel_rfl, fun j t ht => ?_⟩
  rw [Tryz.params4] at ht
  have hm := Array.mem_of_getElem? ht
  simp only [List.mem_toArray, List.mem_cons, List.not_mem_nil, or_false] at hm
  rcases hm with rfl | rfl | rfl | rfl | rfl | rfl | rfl
  · exact (show Tryz.prog.wantsStandIn 30 = false by kernel_rfl)
  · exact (show Tryz.prog.wantsStandIn 3 = false by kernel_rfl)
  · exact (show Tryz.prog.wantsStandIn 2 = false by kernel_rfl)
  · exact (show Tryz.prog.wantsStandIn 28 = false by kernel_rfl)
  · exact (show Tryz.prog.wantsStandIn 38 = false by kernel_rfl)
  · exact (show Tryz.prog.wantsStandIn 3 = false by kernel_rfl)
  · exact (show Tryz.prog.wantsStandIn 5 = false by kernel_rfl)

/-- ████ THE CARD ████ -/
theorem proved : Rows.MailTellsCardSaid :=
  Claim7.holds_tied_plain_at .later [] _ _ _ _ said (fun _ h => by cases h) (by kernel_rfl) (fun _ h => by cases h) mailTells_row_tie rfl ⟨rfl, rfl⟩ (by kernel_rfl) rfl plain (by kernel_rfl)
#print axioms proved
end Go.Proofs.YtjibfbphiemljaaGreatDoor.mailTells
