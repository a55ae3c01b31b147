/- Chapter 6's runs, messages of sixty tapes with each thing turned, bytes cut off and turned, come out as the document says; no arguments, no conditions. -/
import Derived.Test.YtjibfbphiemljaaGreatDoorCards
import Derived.Test.YtjibfbphiemljaaGreatDoorTie
import Derived.Test.YtjibfbphiemljaaGreatDoorRefG
import Derived.WalkKit
import Derived.ProofKit
import Derived.OpenShut
import Derived.SizedLaws
import Derived.Deep.DeepHandedRow
import Derived.LaidLaws
import Derived.LaidHandle
import Derived.FnData
import Derived.ChangeMaps5
namespace Go.Proofs.YtjibfbphiemljaaGreatDoor.mailNumbers
open Go.ChangeShapes Go.WideShapes Go.ChangeAt Go.RowKit
set_option linter.unusedVariables false

theorem own : ownKnob Tryz.prog.godebug = none := by kernel_rfl
theorem laid : laidOutB Tryz.prog = true := by kernel_rfl
theorem glob : Tryz.prog.globalNamed "errors.errorType" = some 0 := by kernel_rfl
theorem rtyp : (Tryz.prog.cutTypes.find? (·.1 == "internal/reflectlite.rtype")).map (·.2) = some 135 := by kernel_rfl
theorem oneRow : ((List.range 175).filter fun t => Tryz.prog.rowNamed t [101, 114, 114, 111, 114]) = [54] := by kernel_rfl
theorem nTypes : Tryz.prog.types.size = 175 := by kernel_rfl
theorem nGlob : Tryz.prog.globals.size = 1 := by kernel_rfl

/-- What the row's list gives: the variable's one cell. -/
theorem cell_of {W : World} (h : laidMetH Tryz.prog Rows.mailNumbersRow.laid W) : W.cell? ⟨0, 0, none⟩ = some (.iface 135 (.agg #[.pointer (some ⟨1, 54, none⟩)])) := by
  have h' : laidMet Tryz.prog [] W ∧ handlesMet Tryz.prog Rows.mailNumbersRow.laid W := h
  obtain ⟨name, u, ty, e1, e2, e3, e4, e5⟩ := h'.2 _ (List.mem_singleton.2 rfl)
  have en : name = [101, 114, 114, 111, 114] := (Option.some.inj e1).symm
  subst en
  obtain rfl := Option.some.inj (rtyp.symm.trans e2)
  have hm : ty ∈ (List.range 175).filter fun t => Tryz.prog.rowNamed t [101, 114, 114, 111, 114] := List.mem_filter.2 ⟨List.mem_range.2 (by rw [← nTypes]; exact e3), e4⟩
  rw [oneRow] at hm
  obtain rfl := List.mem_singleton.1 hm
  have hh : typeHandle Tryz.prog 54 = .pointer (some ⟨1, 54, none⟩) := by kernel_rfl
  rw [hh] at e5
  simpa using World.var?_cell glob e5 0

theorem two_lt : 1 < (begin Tryz.prog (fun _ _ => 0) default).world.heap.size := of_decide_eq_true (by kernel_rfl)
theorem row0 : (((begin Tryz.prog (fun _ _ => 0) default).world.heap[0]?).bind Obj.row?).map (fun p => (p.1.size, p.2)) = some (1, 125) := by kernel_rfl
/-- The blocks that the program brings. -/
theorem start {W : World} (h : laidMetH Tryz.prog Rows.mailNumbersRow.laid W) (hs : W.ShapedOpen Tryz.prog) :
    1 < W.heap.size ∧ ∃ c e fz, W.heap[0]? = some (.cells c e fz) ∧ c.size = 1 ∧ c[0]? = some (.iface 135 (.agg #[.pointer (some ⟨1, 54, none⟩)])) := by
  have hc := cell_of h
  constructor
  · obtain ⟨o, o0, h1, _⟩ := hs.2 1 (by rw [nGlob]; exact Nat.le_refl _) two_lt
    exact (Array.getElem?_eq_some_iff.1 h1).1
  · obtain ⟨p, hp1, hp2⟩ := Option.map_eq_some_iff.1 row0
    obtain ⟨cs, h1, h2, _⟩ := hs.1 0 p.1 p.2 (by rw [nGlob]; exact Nat.zero_lt_one) hp1
    refine ⟨cs, p.2, _, h1, ?_, ?_⟩
    · rw [h2]
      exact (Prod.mk.inj hp2).1
    · simp only [World.cell?, h1] at hc
      exact hc

theorem readable : ∀ t ∈ Tryz.f3.params.toList, Tryz.prog.readableRec t = true ∧ t < Tryz.prog.types.size := by
  rw [Tryz.params3]
  intro t ht
  cases ht

set_option maxRecDepth 100000 in
theorem contract (H : Type) (enc : TypeId × Value → H) (W : World) (base : Nat) (args : Array Value) (ds gs : List (DataW H)) (before : List MemPlace)
    (hval0 : ∀ (j : Nat) t v, Tryz.f3.params[j]? = some t → args[j]? = some v → Value.okWide Tryz.prog W .any base t v)
    (hW : DataW.Whole enc Tryz.prog Tryz.f3.params.toList Rows.mailNumbersSpec.vars false W args.toList ds gs before)
    (hwt0 : (DataW.weightsEach Tryz.prog (Tryz.f3.params.toList ++ Rows.mailNumbersSpec.plain.varTypes Tryz.prog) (ds ++ gs)).all (· ≤ reachBytes) = true)
    (hL : laidMetH Tryz.prog Rows.mailNumbersRow.laid W) (hS : W.ShapedOpen Tryz.prog) :
    Calls Tryz.prog 3 args W fun e W' => ∃ v, e = .returned v ∧ Rows.mailNumbersSpec.post enc Tryz.prog Tryz.f3 false true false false W args v W' := by
  have hval : ∀ (j : Nat) t v, Tryz.f3.params[j]? = some t → args[j]? = some v → Value.okWide Tryz.prog W .any base t v := hval0
  have hW' := hW
  obtain ⟨p, q, hA0, hV, rfl, hfz, hnd⟩ := hW
  have hA : DataW.TrodAll enc Tryz.prog W 0 (fun _ => true) true Tryz.f3.params.toList args.toList ds p := hA0
  have hwt1 : (DataW.weightsEach Tryz.prog (Tryz.f3.params.toList ++ Rows.mailNumbersSpec.plain.varTypes Tryz.prog) (ds ++ gs)).all (· ≤ reachBytes) = true := hwt0
  rw [Tryz.params3] at hA hval hwt1
  obtain ⟨hargs, rfl, rfl⟩ := trodAll_nil hA
  obtain rfl : args = #[] := by cases args; simp_all
  have hwt : (DataW.weightsEach (H := H) Tryz.prog [] []).all (· ≤ reachBytes) = true := by
    obtain ⟨rfl, _⟩ := trodVars_none hV
    exact hwt1
  obtain ⟨hz, hc0⟩ := start hL hS
  obtain ⟨h', hr⟩ := Code.mailNumbersL (h := Go.Fw.pinHeap [.iface 135 (.agg [.ptr 1 54])] []) ⟨by show 2 ≤ ([] : List (Go.Fw.Loc × List Go.Fw.AVal)).length + 2; omega, Nat.le_refl _, false, rfl⟩ 
  refine (Go.Fw.call_with Code.prog_ok (by kernel_rfl) (vs := #[]) (u := .bool true) (Go.Fw.pinHeap_rel rfl (n := 1) (Go.Fw.laid_ok (by omega) hc0) hz (fun p hp => by cases hp)) (Go.Fw.pinHeap_no _ _) (args := []) trivial hr (fun φ x hx => by unfold Go.Fw.VRel at hx; exact hx)).mono fun e W' ⟨he, hg⟩ => ?_
  subst he
  exact ⟨_, rfl, Go.Fw.law_post laid readable rfl Tryz.underlying4 rfl rfl hW' hg⟩

/-- A world for the witness: the settled one, the variable laid. -/
noncomputable def laidWorld (os : Os) : World :=
  { World.holding Tryz.prog os ⟨#[], #[], []⟩ with heap := (World.holding Tryz.prog os ⟨#[], #[], []⟩).heap.modify 0 fun
      | .cells _ t frozen => .cells #[.iface 135 (.agg #[.pointer (some ⟨1, 54, none⟩)])] t frozen
      | o => o }
theorem laid_met (os : Os) : laidMetH Tryz.prog Rows.mailNumbersRow.laid ((laidWorld os).forCall (fun _ _ => 0) ⟨#[], #[], []⟩).memory :=
  laidMetH_of_parts (laidMet_nil _ _) (by kernel_rfl)
theorem reads (os : Os) {H : Type} (enc : TypeId × Value → H) : ∃ places, DataW.whole enc Tryz.prog ((laidWorld os).forCall (fun _ _ => 0) ⟨#[], #[], []⟩).memory Tryz.f3.params.toList Rows.mailNumbersSpec.vars false (#[] : Array Value).toList 8 = some ([], [], places) :=
  ⟨[], by kernel_rfl⟩
set_option maxRecDepth 100000 in
theorem lifted (os : Os) (started : os.Started) (H : Type) (enc : TypeId × Value → H) (F : Stop.Interp) :
    ReturnsInHanded {} Tryz.checked os 3 .any ((OpenSpec.ofChange Rows.mailNumbersSpec).preRow enc Tryz.prog Tryz.f3 Rows.mailNumbersRow.domain false Rows.mailNumbersRow.laid) (((OpenSpec.ofChange Rows.mailNumbersSpec).at F).post enc Tryz.prog Tryz.f3 false true false false) := by
  obtain ⟨places, hx⟩ := reads os enc
  refine returnsInHanded_of_row (C := Tryz.checked) (s := (OpenSpec.ofChange Rows.mailNumbersSpec)) own started (by kernel_rfl) Tryz.func3
    (witness_row_at (enc := enc) (C := Tryz.checked) false (laidWorld os) #[] rfl (by kernel_rfl) (by kernel_rfl) (by kernel_rfl)
      (OpenSpec.preRow_of_cond 8 hx (by kernel_rfl) (fun k hk => by cases hk) (by kernel_rfl) (laid_met os))) ?_
  intro W base args ds gs before hval hW _ _ hwt hL hS _
  exact contract H enc W base args ds gs before hval hW hwt hL hS
theorem said : Rows.MailNumbersSaid :=
  OpenClaim.holds_of_cond 3 Tryz.f3 rfl rfl rfl rfl rfl rfl rfl ⟨rfl, rfl, rfl, rfl, rfl⟩ rfl rfl rfl rfl rfl (by kernel_rfl) Tryz.func3 (by kernel_rfl)
    (of_decide_eq_true (by kernel_rfl)) (by unfold Func.isWrapper; first | (rw [if_pos (by decide +kernel)]; kernel_rfl) | (rw [if_neg (by decide +kernel)]; exact ⟨rfl, rfl⟩))
    (fun os started H enc _ F => by rw [OpenClaim.pre_eq_preRow]; exact lifted os started H enc F)

theorem plain (f : FuncId) (fn : Func) (hf : Tryz.pinned.checked.prog.funcNamed "frankpledge/frankpledgelaw6.MailNumbers" = some f) (hfn : Tryz.pinned.checked.prog.funcs[f]? = some fn) :
    true = Tryz.pinned.checked.prog.looks [] ∧ ∀ (j : Nat) t, fn.params[j]? = some t → Tryz.pinned.checked.prog.wantsStandIn t = false := by
  obtain rfl : f = 3 := Option.some.inj ((show Tryz.prog.funcNamed "frankpledge/frankpledgelaw6.MailNumbers" = some 3 by kernel_rfl).symm.trans hf) |>.symm
  obtain rfl : fn = Tryz.f3 := (Option.some.inj (Tryz.func3.symm.trans hfn)).symm
  refine ⟨by kernel_rfl, fun j t ht => ?_⟩
  rw [Tryz.params3] at ht
  simp at ht

/-- ████ THE CARD ████ -/
theorem proved : Rows.MailNumbersCardSaid :=
  Claim7.holds_tied_plain_at .later [] _ _ _ _ said (fun _ h => by cases h) (by kernel_rfl) (fun _ h => by cases h) mailNumbers_row_tie rfl ⟨rfl, rfl⟩ (by kernel_rfl) rfl plain (by kernel_rfl)
#print axioms proved
end Go.Proofs.YtjibfbphiemljaaGreatDoor.mailNumbers
