/- What one server is told is at the other one a tick and a letter later: for any number of clients; no conditions. -/
import Derived.Test.YtinkiihdnepfjaaGreatDoorCards
import Derived.Test.YtinkiihdnepfjaaGreatDoorTie
import Derived.Test.YtinkiihdnepfjaaGreatDoorIL11
import Derived.Test.YtinkiihdnepfjaaGreatDoorFc
import Derived.WalkKit
import Derived.ProofKit
import Derived.OpenShut
import Derived.SizedLaws
import Derived.Deep.DeepHandedRow
import Derived.LaidLaws
import Derived.LaidHandle
import Derived.FnData
import Derived.ChangeMaps5
import Derived.LaidMore
import Derived.Lay
import Derived.Stop.Joined
import Derived.JoinedCond
namespace Go.Proofs.YtinkiihdnepfjaaGreatDoor.topQueues
open Go.ChangeShapes Go.WideShapes Go.ChangeAt Go.RowKit
set_option linter.unusedVariables false

theorem own : ownKnob Tryz.prog.godebug = none := by kernel_rfl
theorem laid : laidOutB Tryz.prog = true := by kernel_rfl
theorem readable : ∀ t ∈ Tryz.f11.params.toList, Tryz.prog.readableRec t = true ∧ t < Tryz.prog.types.size := by
  rw [Tryz.params11]
  intro t ht
  simp only [List.mem_cons, List.not_mem_nil, or_false] at ht
  rcases ht with rfl <;> exact ⟨by kernel_rfl, by decide +kernel⟩

set_option maxRecDepth 100000 in
theorem contract (H : Type) (enc : TypeId × Value → H) (W : World) (base : Nat) (args : Array Value) (ds gs : List (DataW H)) (before : List MemPlace)
    (hval0 : ∀ (j : Nat) t v, Tryz.f11.params[j]? = some t → args[j]? = some v → Value.okWide Tryz.prog W .any base t v)
    (hW : DataW.Whole enc Tryz.prog Tryz.f11.params.toList Rows.topQueuesSpec.vars false W args.toList ds gs before)
    (hwt0 : (DataW.weightsEach Tryz.prog (Tryz.f11.params.toList ++ Rows.topQueuesSpec.plain.varTypes Tryz.prog) (ds ++ gs)).all (· ≤ reachBytes) = true)
    (hL : laidMetH Tryz.prog Rows.topQueuesRow.laid W) (hS : W.ShapedOpen Tryz.prog) :
    Calls Tryz.prog 11 args W fun e W' => ∃ v, e = .returned v ∧ Rows.topQueuesSpec.post enc Tryz.prog Tryz.f11 false true false false W args v W' := by
  have hval : ∀ (j : Nat) t v, Tryz.f11.params[j]? = some t → args[j]? = some v → Value.okWide Tryz.prog W .any base t v := hval0
  have hW' := hW
  obtain ⟨p, q, hA0, hV, rfl, hfz, hnd⟩ := hW
  have hA : DataW.TrodAll enc Tryz.prog W 0 (fun _ => true) true Tryz.f11.params.toList args.toList ds p := hA0
  have hwt1 : (DataW.weightsEach Tryz.prog (Tryz.f11.params.toList ++ Rows.topQueuesSpec.plain.varTypes Tryz.prog) (ds ++ gs)).all (· ≤ reachBytes) = true := hwt0
  rw [Tryz.params11] at hA hval hwt1
  obtain ⟨v0, vs0, d0, ds0, p0, q0, hargs, rfl, rfl, h0, r0⟩ := trodAll_cons hA
  obtain ⟨rfl, rfl, rfl⟩ := trodAll_nil r0
  obtain rfl : args = #[v0] := by cases args; simp_all
  have hwt : (DataW.weightsEach (H := H) Tryz.prog [3] [d0]).all (· ≤ reachBytes) = true := by
    obtain ⟨rfl, _⟩ := trodVars_none hV
    exact hwt1
  obtain ⟨a0, rfl, rfl, rfl, w0⟩ := open_int Tryz.underlying3 (hval 0 3 v0 rfl rfl) h0
  obtain ⟨h', hr⟩ := Code.topQueuesL a0
  refine (Go.Fw.call_of rfl Code.prog_ok (by kernel_rfl) (vs := #[.int .i64 a0]) (u := .bool true) (args := [.int .i64 a0]) ⟨by unfold Go.Fw.VRel; rfl, trivial⟩ hr (fun φ x hx => by unfold Go.Fw.VRel at hx; exact hx) W).mono fun e W' ⟨he, hg⟩ => ?_
  subst he
  exact ⟨_, rfl, Go.Fw.law_post laid readable rfl Tryz.underlying4 rfl rfl hW' hg⟩

theorem laid_met (os : Os) : laidMetH Tryz.prog Rows.topQueuesRow.laid ((World.laidAll Tryz.prog os Rows.topQueuesRow.laid).forCall (fun _ _ => 0) ⟨#[], #[.int .i64 0], []⟩).memory := by
  rw [MakeChecks.laidMetH_plain _ _ _ (by kernel_rfl)]; exact laidMet_laidAll _ (by kernel_rfl) (by kernel_rfl)
theorem reads (os : Os) {H : Type} (enc : TypeId × Value → H) : ∃ places, DataW.whole enc Tryz.prog ((World.laidAll Tryz.prog os Rows.topQueuesRow.laid).forCall (fun _ _ => 0) ⟨#[], #[.int .i64 0], []⟩).memory Tryz.f11.params.toList Rows.topQueuesSpec.vars false (#[.int .i64 0] : Array Value).toList 8 = some ([.lit (.int .i64 0)], [], places) :=
  ⟨[], by kernel_rfl⟩
set_option maxRecDepth 100000 in
theorem lifted (os : Os) (started : os.Started) (H : Type) (enc : TypeId × Value → H) (F : Stop.Interp) :
    ReturnsInHanded {} Tryz.checked os 11 .any ((OpenSpec.ofChange Rows.topQueuesSpec).preRow enc Tryz.prog Tryz.f11 Rows.topQueuesRow.domain false Rows.topQueuesRow.laid) (((OpenSpec.ofChange Rows.topQueuesSpec).at F).post enc Tryz.prog Tryz.f11 false true false false) := by
  obtain ⟨places, hx⟩ := reads os enc
  refine returnsInHanded_of_row (C := Tryz.checked) (s := (OpenSpec.ofChange Rows.topQueuesSpec)) own started (by kernel_rfl) Tryz.func11
    (witness_row_at (enc := enc) (C := Tryz.checked) false (World.laidAll Tryz.prog os Rows.topQueuesRow.laid) #[.int .i64 0] (World.laidAll_os _ _ _) (by kernel_rfl) (by kernel_rfl) (by kernel_rfl)
      (OpenSpec.preRow_of_cond 8 hx (by kernel_rfl) (fun k hk => by cases hk) (by kernel_rfl) (laid_met os))) ?_
  intro W base args ds gs before hval hW _ _ hwt hL hS _
  exact contract H enc W base args ds gs before hval hW hwt hL hS
theorem and_t {a b : Bool} (h : a = true) (k : b = true) : (a && b) = true := by rw [h, k]; rfl
theorem k0 : (Rows.topQueuesRow.wf (OpenSpec.ofChange (OpenSpec.ofChange Rows.topQueuesSpec).bare)) = true := by kernel_rfl
theorem k1 : (laidOutB Tryz.prog) = true := Go.Proofs.YtinkiihdnepfjaaGreatDoor.facts.k1
theorem k2 : (mapsRowed Tryz.prog) = true := Go.Proofs.YtinkiihdnepfjaaGreatDoor.facts.k2
theorem k3 : (Tryz.f11.params.all (Tryz.prog.readableRec ·)) = true := by kernel_rfl
theorem k4 : (namedTie Tryz.prog Rows.topQueuesRow.named (OpenSpec.ofChange Rows.topQueuesSpec).bare.vars) = true := by kernel_rfl
theorem k5 : ((Rows.topQueuesRow.stops == [])) = true := by kernel_rfl
theorem k6 : ((Tryz.prog.stops == [])) = true := Go.Proofs.YtinkiihdnepfjaaGreatDoor.facts.k6
theorem k7 : ((Rows.topQueuesRow.knobs == [])) = true := by kernel_rfl
theorem k8 : ((Tryz.prog.stopKnobs == [])) = true := Go.Proofs.YtinkiihdnepfjaaGreatDoor.facts.k8
theorem k9 : ((Rows.topQueuesRow.inPlace == Tryz.prog.inPlace  11)) = true := by kernel_rfl
theorem k10 : ((Rows.topQueuesRow.unfollowed == Tryz.prog.unfollowed  11)) = true := by kernel_rfl
theorem k11 : ((Rows.topQueuesRow.recurses == Tryz.prog.recurses  11)) = true := by kernel_rfl
theorem k12 : ((Rows.topQueuesRow.named == Tryz.prog.varsNamed  11)) = true := by kernel_rfl
theorem k13 : ((Rows.topQueuesRow.maps == (Tryz.f11.params.toList ++ (OpenSpec.ofChange Rows.topQueuesSpec).bare.plain.varTypes Tryz.prog).any (Tryz.prog.mapsRec ·))) = true := by kernel_rfl
theorem k14 : ((Rows.topQueuesRow.ifaces == (Tryz.f11.params.toList ++ (OpenSpec.ofChange Rows.topQueuesSpec).bare.plain.varTypes Tryz.prog).any (Tryz.prog.ifacesRec ·))) = true := by kernel_rfl
theorem k15 : ((Rows.topQueuesRow.mapsOut == Tryz.prog.mapsAmong Tryz.f11.resultTypes.toList)) = true := by kernel_rfl
theorem k16 : ((Rows.topQueuesRow.loops == (Tryz.f11.params.toList ++ (OpenSpec.ofChange Rows.topQueuesSpec).bare.plain.varTypes Tryz.prog).any (Tryz.prog.loopsFrom ·))) = true := by kernel_rfl
theorem k17 : ((Rows.topQueuesRow.wideKeys == (Tryz.f11.params.toList ++ (OpenSpec.ofChange Rows.topQueuesSpec).bare.plain.varTypes Tryz.prog ++ Tryz.f11.resultTypes.toList).any (Tryz.prog.wideKeysFrom ·))) = true := by kernel_rfl
theorem k18 : ((OpenSpec.ofChange Rows.topQueuesSpec).bare.vars.all (Tryz.prog.varReadable ·)) = true := by kernel_rfl
theorem k19 : (Tryz.f11.resultTypes.all (fun t => Tryz.prog.readableRec t && decide (t < Tryz.prog.types.size))) = true := by kernel_rfl
theorem k20 : ((Rows.topQueuesRow.ifacesOut == Tryz.f11.resultTypes.toList.any (Tryz.prog.ifacesRec ·))) = true := by kernel_rfl
theorem k21 : ((Rows.topQueuesRow.loopsOut == Tryz.f11.resultTypes.toList.any (Tryz.prog.loopsFrom ·))) = true := by kernel_rfl
theorem k22 : ((Rows.topQueuesRow.plainKeys == Tryz.prog.plainKeys)) = true := Go.Proofs.YtinkiihdnepfjaaGreatDoor.facts.k22
theorem k23 : (Rows.topQueuesRow.shortTexts.isNone) = true := by kernel_rfl
theorem k24 : (Tryz.prog.stopsHeard) = true := Go.Proofs.YtinkiihdnepfjaaGreatDoor.facts.k24
theorem k25 : (Tryz.prog.mayEnter) = true := Go.Proofs.YtinkiihdnepfjaaGreatDoor.facts.k25
theorem k26 : ((Rows.topQueuesRow.lifted == Tryz.prog.liftsFinal)) = true := Go.Proofs.YtinkiihdnepfjaaGreatDoor.facts.k26
theorem k27 : ((Tryz.prog.make == some Rows.topQueuesRow.make)) = true := Go.Proofs.YtinkiihdnepfjaaGreatDoor.facts.k27
theorem k28 : ((Rows.topQueuesRow.kinds == (if Rows.topQueuesRow.domain.isEmpty then [] else Tryz.f11.params.toList.map fun t => match Tryz.prog.underlying t with | some (.int k) => some k | _ => none))) = true := by kernel_rfl
theorem k29 : ((Rows.topQueuesRow.pinned == Rows.topQueuesRow.pinnedBy)) = true := by kernel_rfl
theorem k30 : ((Rows.topQueuesRow.veiled == (Tryz.f11.params.toList ++ (OpenSpec.ofChange Rows.topQueuesSpec).bare.plain.varTypes Tryz.prog ++ Tryz.f11.resultTypes.toList).any (Tryz.prog.veiledRec ·))) = true := by kernel_rfl
theorem k31 : (Rows.topQueuesRow.veiledFits Tryz.prog Tryz.f11.params.toList (Tryz.f11.params.toList ++ (OpenSpec.ofChange Rows.topQueuesSpec).bare.plain.varTypes Tryz.prog ++ Tryz.f11.resultTypes.toList)) = true := by kernel_rfl
theorem closed : joinedFacts Tryz.prog 11 Tryz.f11 (OpenSpec.ofChange Rows.topQueuesSpec).bare Rows.topQueuesRow = true := by
  unfold joinedFacts
  exact and_t (and_t (and_t (and_t (and_t (and_t (and_t (and_t (and_t (and_t (and_t (and_t (and_t (and_t (and_t (and_t (and_t (and_t (and_t (and_t (and_t (and_t (and_t (and_t (and_t (and_t (and_t (and_t (and_t (and_t (and_t (k0) k1) k2) k3) k4) k5) k6) k7) k8) k9) k10) k11) k12) k13) k14) k15) k16) k17) k18) k19) k20) k21) k22) k23) k24) k25) k26) k27) (by kernel_rfl)) k29) k30) k31
theorem named : Tryz.pinned.checked.prog.funcNamed Rows.topQueuesRow.func = some 11 := by kernel_rfl
theorem inst : Tryz.f11.isInstance Tryz.pinned.checked.prog Rows.topQueuesRow.origin Rows.topQueuesRow.targs := of_decide_eq_true (by kernel_rfl)
theorem wrap : Tryz.f11.isWrapper Tryz.pinned.checked.prog Rows.topQueuesRow.wrapper Rows.topQueuesRow.mainSum := by unfold Func.isWrapper; first | (rw [if_pos (by decide +kernel)]; kernel_rfl) | (rw [if_neg (by decide +kernel)]; exact ⟨rfl, rfl⟩)
theorem said : Rows.TopQueuesSaid :=
  OpenClaim.holds_of_cond 11 Tryz.f11 rfl rfl rfl rfl rfl rfl rfl ⟨rfl, rfl, rfl, rfl, rfl⟩ rfl rfl rfl rfl rfl named Tryz.func11 closed inst wrap
    (fun os started H enc _ F => by rw [OpenClaim.pre_eq_preRow]; exact lifted os started H enc F)

theorem plain (f : FuncId) (fn : Func) (hf : Tryz.pinned.checked.prog.funcNamed "frankpledge/frankpledgetop.TopQueues" = some f) (hfn : Tryz.pinned.checked.prog.funcs[f]? = some fn) :
    true = Tryz.pinned.checked.prog.looks [] ∧ ∀ (j : Nat) t, fn.params[j]? = some t → Tryz.pinned.checked.prog.wantsStandIn t = false := by
  obtain rfl : f = 11 := Option.some.inj ((show Tryz.prog.funcNamed "frankpledge/frankpledgetop.TopQueues" = some 11 by kernel_rfl).symm.trans hf) |>.symm
  obtain rfl : fn = Tryz.f11 := (Option.some.inj (Tryz.func11.symm.trans hfn)).symm
  refine ⟨by kernel_rfl, fun j t ht => ?_⟩
  rw [Tryz.params11] at ht
  have hm := Array.mem_of_getElem? ht
  simp only [List.mem_toArray, List.mem_cons, List.not_mem_nil, or_false] at hm
  rcases hm with rfl
  · exact (show Tryz.prog.wantsStandIn 3 = false by kernel_rfl)

/-- ████ THE CARD ████ -/
theorem proved : Rows.TopQueuesCardSaid :=
  Claim7.holds_tied_plain_at .later [] _ _ _ _ said (fun _ h => by cases h) (by as_aux_lemma => kernel_rfl) (fun _ h => by cases h) topQueues_row_tie rfl ⟨rfl, rfl⟩ (by as_aux_lemma => kernel_rfl) rfl plain (by as_aux_lemma => kernel_rfl)
#print axioms proved
end Go.Proofs.YtinkiihdnepfjaaGreatDoor.topQueues
