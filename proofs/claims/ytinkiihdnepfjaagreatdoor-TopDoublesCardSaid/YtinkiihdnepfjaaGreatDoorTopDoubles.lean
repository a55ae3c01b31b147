/- Letters between servers that come twice do what they do once: for any tape of numbers; no conditions. -/
import Derived.Test.YtinkiihdnepfjaaGreatDoorCards
import Derived.Test.YtinkiihdnepfjaaGreatDoorTie
import Derived.Test.YtinkiihdnepfjaaGreatDoorDO
import Derived.Test.YtinkiihdnepfjaaGreatDoorDAr
import Derived.Test.YtinkiihdnepfjaaGreatDoorFc
import Derived.WalkKit
import Derived.ProofKit
import Derived.OpenShut
import Derived.SizedLaws
import Derived.Deep.DeepHandedRow
import Derived.LaidLaws
import Derived.LaidHandle
import Derived.FnData
import Derived.ChangeMaps5
import Derived.LaidMore
import Derived.Lay
import Derived.Stop.Joined
import Derived.JoinedCond
namespace Go.Proofs.YtinkiihdnepfjaaGreatDoor.topDoubles
open Go.ChangeShapes Go.WideShapes Go.ChangeAt Go.RowKit
set_option linter.unusedVariables false

theorem own : ownKnob Tryz.prog.godebug = none := by kernel_rfl
theorem laid : laidOutB Tryz.prog = true := by kernel_rfl
theorem readable : ∀ t ∈ Tryz.f5.params.toList, Tryz.prog.readableRec t = true ∧ t < Tryz.prog.types.size := by
  rw [Tryz.params5]
  intro t ht
  simp only [List.mem_cons, List.not_mem_nil, or_false] at ht
  rcases ht with rfl <;> exact ⟨by kernel_rfl, by decide +kernel⟩

set_option maxRecDepth 100000 in
theorem contract (H : Type) (enc : TypeId × Value → H) (W : World) (base : Nat) (args : Array Value) (ds gs : List (DataW H)) (before : List MemPlace)
    (hval0 : ∀ (j : Nat) t v, Tryz.f5.params[j]? = some t → args[j]? = some v → Value.okWide Tryz.prog W .any base t v)
    (hW : DataW.Whole enc Tryz.prog Tryz.f5.params.toList Rows.topDoublesSpec.vars false W args.toList ds gs before)
    (hwt0 : (DataW.weightsEach Tryz.prog (Tryz.f5.params.toList ++ Rows.topDoublesSpec.plain.varTypes Tryz.prog) (ds ++ gs)).all (· ≤ reachBytes) = true)
    (hL : laidMetH Tryz.prog Rows.topDoublesRow.laid W) (hS : W.ShapedOpen Tryz.prog) :
    Calls Tryz.prog 5 args W fun e W' => ∃ v, e = .returned v ∧ Rows.topDoublesSpec.post enc Tryz.prog Tryz.f5 false true false false W args v W' := by
  have hval : ∀ (j : Nat) t v, Tryz.f5.params[j]? = some t → args[j]? = some v → Value.okWide Tryz.prog W .any base t v := hval0
  have hW' := hW
  obtain ⟨p, q, hA0, hV, rfl, hfz, hnd⟩ := hW
  have hA : DataW.TrodAll enc Tryz.prog W 0 (fun _ => true) true Tryz.f5.params.toList args.toList ds p := hA0
  have hwt1 : (DataW.weightsEach Tryz.prog (Tryz.f5.params.toList ++ Rows.topDoublesSpec.plain.varTypes Tryz.prog) (ds ++ gs)).all (· ≤ reachBytes) = true := hwt0
  rw [Tryz.params5] at hA hval hwt1
  obtain ⟨v0, vs0, d0, ds0, p0, q0, hargs, rfl, rfl, h0, r0⟩ := trodAll_cons hA
  obtain ⟨rfl, rfl, rfl⟩ := trodAll_nil r0
  obtain rfl : args = #[v0] := by cases args; simp_all
  have hwt : (DataW.weightsEach (H := H) Tryz.prog [50] [d0]).all (· ≤ reachBytes) = true := by
    obtain ⟨rfl, _⟩ := trodVars_none hV
    exact hwt1
  obtain ⟨bs0, mk0, l0, A0, z0⟩ := Go.Fw.ints_arg Tryz.underlying50 Tryz.underlying3 (by kernel_rfl) (hval 0 50 v0 rfl rfl) h0
  have y0 := z0 (Go.Fw.weights_of hwt (j := 0) rfl rfl)
  have u0 : Tryz.prog.bytesOf 3 = 8 := by kernel_rfl
  rw [u0] at y0
  obtain ⟨R0, I0, lt0, ro0⟩ := A0.here (B := (bs0 ++ [])) (pre := []) (post := []) (by simp)
  obtain ⟨h', hr⟩ := Code.topDoublesL I0 lt0 A0.wf (by unfold reachBytes at y0; omega)
  refine (Go.Fw.call_with Code.progX_ok (by kernel_rfl) (vs := #[v0]) (u := .bool true) (Go.Fw.roHeap_rel (fun b hb => absurd hb (Nat.not_lt_zero b)) fun p hp => by
    simp only [List.mem_append, List.not_mem_nil, or_false] at hp
    exact ro0 p hp) (Go.Fw.roHeap_no _) (args := [mk0 ([] : List (Go.Fw.Loc × List Go.Fw.AVal)).length]) ⟨R0, trivial⟩ hr (fun φ x hx => by unfold Go.Fw.VRel at hx; exact hx)).mono fun e W' ⟨he, hg⟩ => ?_
  subst he
  exact ⟨_, rfl, Go.Fw.law_post laid readable rfl Tryz.underlying4 rfl rfl hW' hg⟩

theorem laid_met (os : Os) : laidMetH Tryz.prog Rows.topDoublesRow.laid ((World.laidAll Tryz.prog os Rows.topDoublesRow.laid).forCall (fun _ _ => 0) ⟨#[], #[.slice none 0 0], []⟩).memory := by
  rw [MakeChecks.laidMetH_plain _ _ _ (by kernel_rfl)]; exact laidMet_laidAll _ (by kernel_rfl) (by kernel_rfl)
theorem reads (os : Os) {H : Type} (enc : TypeId × Value → H) : ∃ places, DataW.whole enc Tryz.prog ((World.laidAll Tryz.prog os Rows.topDoublesRow.laid).forCall (fun _ _ => 0) ⟨#[], #[.slice none 0 0], []⟩).memory Tryz.f5.params.toList Rows.topDoublesSpec.vars false (#[.slice none 0 0] : Array Value).toList 8 = some ([.nil], [], places) :=
  ⟨[], by kernel_rfl⟩
set_option maxRecDepth 100000 in
theorem lifted (os : Os) (started : os.Started) (H : Type) (enc : TypeId × Value → H) (F : Stop.Interp) :
    ReturnsInHanded {} Tryz.checked os 5 .any ((OpenSpec.ofChange Rows.topDoublesSpec).preRow enc Tryz.prog Tryz.f5 Rows.topDoublesRow.domain false Rows.topDoublesRow.laid) (((OpenSpec.ofChange Rows.topDoublesSpec).at F).post enc Tryz.prog Tryz.f5 false true false false) := by
  obtain ⟨places, hx⟩ := reads os enc
  refine returnsInHanded_of_row (C := Tryz.checked) (s := (OpenSpec.ofChange Rows.topDoublesSpec)) own started (by kernel_rfl) Tryz.func5
    (witness_row_at (enc := enc) (C := Tryz.checked) false (World.laidAll Tryz.prog os Rows.topDoublesRow.laid) #[.slice none 0 0] (World.laidAll_os _ _ _) (by kernel_rfl) (by kernel_rfl) (by kernel_rfl)
      (OpenSpec.preRow_of_cond 8 hx (by kernel_rfl) (fun k hk => by cases hk) (by kernel_rfl) (laid_met os))) ?_
  intro W base args ds gs before hval hW _ _ hwt hL hS _
  exact contract H enc W base args ds gs before hval hW hwt hL hS
theorem and_t {a b : Bool} (h : a = true) (k : b = true) : (a && b) = true := by rw [h, k]; rfl
theorem k0 : (Rows.topDoublesRow.wf (OpenSpec.ofChange (OpenSpec.ofChange Rows.topDoublesSpec).bare)) = true := by kernel_rfl
theorem k1 : (laidOutB Tryz.prog) = true := Go.Proofs.YtinkiihdnepfjaaGreatDoor.facts.k1
theorem k2 : (mapsRowed Tryz.prog) = true := Go.Proofs.YtinkiihdnepfjaaGreatDoor.facts.k2
theorem k3 : (Tryz.f5.params.all (Tryz.prog.readableRec ·)) = true := by kernel_rfl
theorem k4 : (namedTie Tryz.prog Rows.topDoublesRow.named (OpenSpec.ofChange Rows.topDoublesSpec).bare.vars) = true := by kernel_rfl
theorem k5 : ((Rows.topDoublesRow.stops == [])) = true := by kernel_rfl
theorem k6 : ((Tryz.prog.stops == [])) = true := Go.Proofs.YtinkiihdnepfjaaGreatDoor.facts.k6
theorem k7 : ((Rows.topDoublesRow.knobs == [])) = true := by kernel_rfl
theorem k8 : ((Tryz.prog.stopKnobs == [])) = true := Go.Proofs.YtinkiihdnepfjaaGreatDoor.facts.k8
theorem k9 : ((Rows.topDoublesRow.inPlace == Tryz.prog.inPlace  5)) = true := by kernel_rfl
theorem k10 : ((Rows.topDoublesRow.unfollowed == Tryz.prog.unfollowed  5)) = true := by kernel_rfl
theorem k11 : ((Rows.topDoublesRow.recurses == Tryz.prog.recurses  5)) = true := by kernel_rfl
theorem k12 : ((Rows.topDoublesRow.named == Tryz.prog.varsNamed  5)) = true := by kernel_rfl
theorem k13 : ((Rows.topDoublesRow.maps == (Tryz.f5.params.toList ++ (OpenSpec.ofChange Rows.topDoublesSpec).bare.plain.varTypes Tryz.prog).any (Tryz.prog.mapsRec ·))) = true := by kernel_rfl
theorem k14 : ((Rows.topDoublesRow.ifaces == (Tryz.f5.params.toList ++ (OpenSpec.ofChange Rows.topDoublesSpec).bare.plain.varTypes Tryz.prog).any (Tryz.prog.ifacesRec ·))) = true := by kernel_rfl
theorem k15 : ((Rows.topDoublesRow.mapsOut == Tryz.prog.mapsAmong Tryz.f5.resultTypes.toList)) = true := by kernel_rfl
theorem k16 : ((Rows.topDoublesRow.loops == (Tryz.f5.params.toList ++ (OpenSpec.ofChange Rows.topDoublesSpec).bare.plain.varTypes Tryz.prog).any (Tryz.prog.loopsFrom ·))) = true := by kernel_rfl
theorem k17 : ((Rows.topDoublesRow.wideKeys == (Tryz.f5.params.toList ++ (OpenSpec.ofChange Rows.topDoublesSpec).bare.plain.varTypes Tryz.prog ++ Tryz.f5.resultTypes.toList).any (Tryz.prog.wideKeysFrom ·))) = true := by kernel_rfl
theorem k18 : ((OpenSpec.ofChange Rows.topDoublesSpec).bare.vars.all (Tryz.prog.varReadable ·)) = true := by kernel_rfl
theorem k19 : (Tryz.f5.resultTypes.all (fun t => Tryz.prog.readableRec t && decide (t < Tryz.prog.types.size))) = true := by kernel_rfl
theorem k20 : ((Rows.topDoublesRow.ifacesOut == Tryz.f5.resultTypes.toList.any (Tryz.prog.ifacesRec ·))) = true := by kernel_rfl
theorem k21 : ((Rows.topDoublesRow.loopsOut == Tryz.f5.resultTypes.toList.any (Tryz.prog.loopsFrom ·))) = true := by kernel_rfl
theorem k22 : ((Rows.topDoublesRow.plainKeys == Tryz.prog.plainKeys)) = true := Go.Proofs.YtinkiihdnepfjaaGreatDoor.facts.k22
theorem k23 : (Rows.topDoublesRow.shortTexts.isNone) = true := by kernel_rfl
theorem k24 : (Tryz.prog.stopsHeard) = true := Go.Proofs.YtinkiihdnepfjaaGreatDoor.facts.k24
theorem k25 : (Tryz.prog.mayEnter) = true := Go.Proofs.YtinkiihdnepfjaaGreatDoor.facts.k25
theorem k26 : ((Rows.topDoublesRow.lifted == Tryz.prog.liftsFinal)) = true := Go.Proofs.YtinkiihdnepfjaaGreatDoor.facts.k26
theorem k27 : ((Tryz.prog.make == some Rows.topDoublesRow.make)) = true := Go.Proofs.YtinkiihdnepfjaaGreatDoor.facts.k27
theorem k28 : ((Rows.topDoublesRow.kinds == (if Rows.topDoublesRow.domain.isEmpty then [] else Tryz.f5.params.toList.map fun t => match Tryz.prog.underlying t with | some (.int k) => some k | _ => none))) = true := by kernel_rfl
theorem k29 : ((Rows.topDoublesRow.pinned == Rows.topDoublesRow.pinnedBy)) = true := by kernel_rfl
theorem k30 : ((Rows.topDoublesRow.veiled == (Tryz.f5.params.toList ++ (OpenSpec.ofChange Rows.topDoublesSpec).bare.plain.varTypes Tryz.prog ++ Tryz.f5.resultTypes.toList).any (Tryz.prog.veiledRec ·))) = true := by kernel_rfl
theorem k31 : (Rows.topDoublesRow.veiledFits Tryz.prog Tryz.f5.params.toList (Tryz.f5.params.toList ++ (OpenSpec.ofChange Rows.topDoublesSpec).bare.plain.varTypes Tryz.prog ++ Tryz.f5.resultTypes.toList)) = true := by kernel_rfl
theorem closed : joinedFacts Tryz.prog 5 Tryz.f5 (OpenSpec.ofChange Rows.topDoublesSpec).bare Rows.topDoublesRow = true := by
  unfold joinedFacts
  exact and_t (and_t (and_t (and_t (and_t (and_t (and_t (and_t (and_t (and_t (and_t (and_t (and_t (and_t (and_t (and_t (and_t (and_t (and_t (and_t (and_t (and_t (and_t (and_t (and_t (and_t (and_t (and_t (and_t (and_t (and_t (k0) k1) k2) k3) k4) k5) k6) k7) k8) k9) k10) k11) k12) k13) k14) k15) k16) k17) k18) k19) k20) k21) k22) k23) k24) k25) k26) k27) (by kernel_rfl)) k29) k30) k31
theorem named : Tryz.pinned.checked.prog.funcNamed Rows.topDoublesRow.func = some 5 := by kernel_rfl
theorem inst : Tryz.f5.isInstance Tryz.pinned.checked.prog Rows.topDoublesRow.origin Rows.topDoublesRow.targs := of_decide_eq_true (by kernel_rfl)
theorem wrap : Tryz.f5.isWrapper Tryz.pinned.checked.prog Rows.topDoublesRow.wrapper Rows.topDoublesRow.mainSum := by unfold Func.isWrapper; first | (rw [if_pos (by decide +kernel)]; kernel_rfl) | (rw [if_neg (by decide +kernel)]; exact ⟨rfl, rfl⟩)
theorem said : Rows.TopDoublesSaid :=
  OpenClaim.holds_of_cond 5 Tryz.f5 rfl rfl rfl rfl rfl rfl rfl ⟨rfl, rfl, rfl, rfl, rfl⟩ rfl rfl rfl rfl rfl named Tryz.func5 closed inst wrap
    (fun os started H enc _ F => by rw [OpenClaim.pre_eq_preRow]; exact lifted os started H enc F)

theorem plain (f : FuncId) (fn : Func) (hf : Tryz.pinned.checked.prog.funcNamed "frankpledge/frankpledgetop.TopDoubles" = some f) (hfn : Tryz.pinned.checked.prog.funcs[f]? = some fn) :
    true = Tryz.pinned.checked.prog.looks [] ∧ ∀ (j : Nat) t, fn.params[j]? = some t → Tryz.pinned.checked.prog.wantsStandIn t = false := by
  obtain rfl : f = 5 := Option.some.inj ((show Tryz.prog.funcNamed "frankpledge/frankpledgetop.TopDoubles" = some 5 by kernel_rfl).symm.trans hf) |>.symm
  obtain rfl : fn = Tryz.f5 := (Option.some.inj (Tryz.func5.symm.trans hfn)).symm
  refine ⟨by kernel_rfl, fun j t ht => ?_⟩
  rw [Tryz.params5] at ht
  have hm := Array.mem_of_getElem? ht
  simp only [List.mem_toArray, List.mem_cons, List.not_mem_nil, or_false] at hm
  rcases hm with rfl
  · exact (show Tryz.prog.wantsStandIn 50 = false by kernel_rfl)

/-- ████ THE CARD ████ -/
theorem proved : Rows.TopDoublesCardSaid :=
  Claim7.holds_tied_plain_at .later [] _ _ _ _ said (fun _ h => by cases h) (by as_aux_lemma => kernel_rfl) (fun _ h => by cases h) topDoubles_row_tie rfl ⟨rfl, rfl⟩ (by as_aux_lemma => kernel_rfl) rfl plain (by as_aux_lemma => kernel_rfl)
#print axioms proved
end Go.Proofs.YtinkiihdnepfjaaGreatDoor.topDoubles
