/- A message with a card, a key, that may not be is not written, and the refusal tells where: for any tape, any kind of fault; no conditions. -/
import Derived.Test.YtjibfbphiemljaaDoorCards
import Derived.Test.YtjibfbphiemljaaDoorTie
import Derived.Test.YtjibfbphiemljaaDoorFin
import Derived.WalkKit
import Derived.ProofKit
import Derived.OpenShut
import Derived.SizedLaws
import Derived.Deep.DeepHandedRow
import Derived.LaidLaws
import Derived.LaidHandle
import Derived.FnData
import Derived.ChangeMaps5
namespace Go.Proofs.YtjibfbphiemljaaDoor.mailKinds
open Go.ChangeShapes Go.WideShapes Go.ChangeAt Go.RowKit
set_option linter.unusedVariables false

theorem own : ownKnob Tryd.prog.godebug = none := by kernel_rfl
theorem laid : laidOutB Tryd.prog = true := by kernel_rfl
theorem glob : Tryd.prog.globalNamed "errors.errorType" = some 0 := by kernel_rfl
theorem rtyp : (Tryd.prog.cutTypes.find? (·.1 == "internal/reflectlite.rtype")).map (·.2) = some 118 := by kernel_rfl
theorem oneRow : ((List.range 158).filter fun t => Tryd.prog.rowNamed t [101, 114, 114, 111, 114]) = [36] := by kernel_rfl
theorem nTypes : Tryd.prog.types.size = 158 := by kernel_rfl
theorem nGlob : Tryd.prog.globals.size = 1 := by kernel_rfl

/-- What the row's list gives: the variable's one cell. -/
theorem cell_of {W : World} (h : laidMetH Tryd.prog Rows.mailKindsRow.laid W) : W.cell? ⟨0, 0, none⟩ = some (.iface 118 (.agg #[.pointer (some ⟨1, 36, none⟩)])) := by
  have h' : laidMet Tryd.prog [] W ∧ handlesMet Tryd.prog Rows.mailKindsRow.laid W := h
  obtain ⟨name, u, ty, e1, e2, e3, e4, e5⟩ := h'.2 _ (List.mem_singleton.2 rfl)
  have en : name = [101, 114, 114, 111, 114] := (Option.some.inj e1).symm
  subst en
  obtain rfl := Option.some.inj (rtyp.symm.trans e2)
  have hm : ty ∈ (List.range 158).filter fun t => Tryd.prog.rowNamed t [101, 114, 114, 111, 114] := List.mem_filter.2 ⟨List.mem_range.2 (by rw [← nTypes]; exact e3), e4⟩
  rw [oneRow] at hm
  obtain rfl := List.mem_singleton.1 hm
  have hh : typeHandle Tryd.prog 36 = .pointer (some ⟨1, 36, none⟩) := by kernel_rfl
  rw [hh] at e5
  simpa using World.var?_cell glob e5 0

theorem two_lt : 1 < (begin Tryd.prog (fun _ _ => 0) default).world.heap.size := of_decide_eq_true (by kernel_rfl)
theorem row0 : (((begin Tryd.prog (fun _ _ => 0) default).world.heap[0]?).bind Obj.row?).map (fun p => (p.1.size, p.2)) = some (1, 103) := by kernel_rfl
/-- The blocks that the program brings. -/
theorem start {W : World} (h : laidMetH Tryd.prog Rows.mailKindsRow.laid W) (hs : W.ShapedOpen Tryd.prog) :
    1 < W.heap.size ∧ ∃ c e fz, W.heap[0]? = some (.cells c e fz) ∧ c.size = 1 ∧ c[0]? = some (.iface 118 (.agg #[.pointer (some ⟨1, 36, none⟩)])) := by
  have hc := cell_of h
  constructor
  · obtain ⟨o, o0, h1, _⟩ := hs.2 1 (by rw [nGlob]; exact Nat.le_refl _) two_lt
    exact (Array.getElem?_eq_some_iff.1 h1).1
  · obtain ⟨p, hp1, hp2⟩ := Option.map_eq_some_iff.1 row0
    obtain ⟨cs, h1, h2, _⟩ := hs.1 0 p.1 p.2 (by rw [nGlob]; exact Nat.zero_lt_one) hp1
    refine ⟨cs, p.2, _, h1, ?_, ?_⟩
    · rw [h2]
      exact (Prod.mk.inj hp2).1
    · simp only [World.cell?, h1] at hc
      exact hc

theorem readable : ∀ t ∈ Tryd.f4.params.toList, Tryd.prog.readableRec t = true ∧ t < Tryd.prog.types.size := by
  rw [Tryd.params4]
  intro t ht
  simp only [List.mem_cons, List.not_mem_nil, or_false] at ht
  rcases ht with rfl | rfl <;> exact ⟨by kernel_rfl, by decide +kernel⟩

set_option maxRecDepth 100000 in
theorem contract (H : Type) (enc : TypeId × Value → H) (W : World) (base : Nat) (args : Array Value) (ds gs : List (DataW H)) (before : List MemPlace)
    (hval0 : ∀ (j : Nat) t v, Tryd.f4.params[j]? = some t → args[j]? = some v → Value.okWide Tryd.prog W .any base t v)
    (hW : DataW.Whole enc Tryd.prog Tryd.f4.params.toList Rows.mailKindsSpec.vars false W args.toList ds gs before)
    (hwt0 : (DataW.weightsEach Tryd.prog (Tryd.f4.params.toList ++ Rows.mailKindsSpec.plain.varTypes Tryd.prog) (ds ++ gs)).all (· ≤ reachBytes) = true)
    (hL : laidMetH Tryd.prog Rows.mailKindsRow.laid W) (hS : W.ShapedOpen Tryd.prog) :
    Calls Tryd.prog 4 args W fun e W' => ∃ v, e = .returned v ∧ Rows.mailKindsSpec.post enc Tryd.prog Tryd.f4 false true false false W args v W' := by
  have hval : ∀ (j : Nat) t v, Tryd.f4.params[j]? = some t → args[j]? = some v → Value.okWide Tryd.prog W .any base t v := hval0
  have hW' := hW
  obtain ⟨p, q, hA0, hV, rfl, hfz, hnd⟩ := hW
  have hA : DataW.TrodAll enc Tryd.prog W 0 (fun _ => true) true Tryd.f4.params.toList args.toList ds p := hA0
  have hwt1 : (DataW.weightsEach Tryd.prog (Tryd.f4.params.toList ++ Rows.mailKindsSpec.plain.varTypes Tryd.prog) (ds ++ gs)).all (· ≤ reachBytes) = true := hwt0
  rw [Tryd.params4] at hA hval hwt1
  obtain ⟨v0, vs0, d0, ds0, p0, q0, hargs, rfl, rfl, h0, r0⟩ := trodAll_cons hA
  obtain ⟨v1, vs1, d1, ds1, p1, q1, rfl, rfl, rfl, h1, r1⟩ := trodAll_cons r0
  obtain ⟨rfl, rfl, rfl⟩ := trodAll_nil r1
  obtain rfl : args = #[v0, v1] := by cases args; simp_all
  have hwt : (DataW.weightsEach (H := H) Tryd.prog [22, 3] [d0, d1]).all (· ≤ reachBytes) = true := by
    obtain ⟨rfl, _⟩ := trodVars_none hV
    exact hwt1
  obtain ⟨bs0, mk0, l0, A0, z0⟩ := Go.Fw.ints_arg Tryd.underlying22 Tryd.underlying3 (by kernel_rfl) (hval 0 22 v0 rfl rfl) h0
  have y0 := z0 (Go.Fw.weights_of hwt (j := 0) rfl rfl)
  have u0 : Tryd.prog.bytesOf 3 = 8 := by kernel_rfl
  rw [u0] at y0
  obtain ⟨a1, rfl, rfl, rfl, w1⟩ := open_int Tryd.underlying3 (hval 1 3 v1 rfl rfl) h1
  obtain ⟨R0, I0, lt0, ro0⟩ := A0.hereP 1 [.iface 118 (.agg [.ptr 1 36])] (B := (bs0 ++ [])) (pre := []) (post := []) (by simp)
  obtain ⟨hz, hc0⟩ := start hL hS
  obtain ⟨h', hr⟩ := Code.mailKindsL (h := Go.Fw.pinHeap [.iface 118 (.agg [.ptr 1 36])] (bs0 ++ [])) ⟨by show 2 ≤ ((bs0 ++ []) : List (Go.Fw.Loc × List Go.Fw.AVal)).length + 2; omega, Nat.le_refl _, false, rfl⟩ I0 lt0 A0.wf (by unfold reachBytes at y0; omega) (A0.room _) a1 w1
  refine (Go.Fw.call_with Code.prog_ok (by kernel_rfl) (vs := #[v0, .int .i64 a1]) (u := .bool true) (Go.Fw.pinHeap_rel rfl (n := 1) (Go.Fw.laid_ok (by omega) hc0) hz (fun p hp => by
    simp only [List.mem_append, List.not_mem_nil, or_false] at hp
    rcases hp with hp
    · exact ro0 p hp)) (Go.Fw.pinHeap_no _ _) (args := [mk0 (([] : List (Go.Fw.Loc × List Go.Fw.AVal)).length + 2), .int .i64 a1]) ⟨R0, by unfold Go.Fw.VRel; rfl, trivial⟩ hr (fun φ x hx => by unfold Go.Fw.VRel at hx; exact hx)).mono fun e W' ⟨he, hg⟩ => ?_
  subst he
  exact ⟨_, rfl, Go.Fw.law_post laid readable rfl Tryd.underlying4 rfl rfl hW' hg⟩

/-- A world for the witness: the settled one, the variable laid. -/
noncomputable def laidWorld (os : Os) : World :=
  { World.holding Tryd.prog os ⟨#[], #[], []⟩ with heap := (World.holding Tryd.prog os ⟨#[], #[], []⟩).heap.modify 0 fun
      | .cells _ t frozen => .cells #[.iface 118 (.agg #[.pointer (some ⟨1, 36, none⟩)])] t frozen
      | o => o }
theorem laid_met (os : Os) : laidMetH Tryd.prog Rows.mailKindsRow.laid ((laidWorld os).forCall (fun _ _ => 0) ⟨#[], #[.slice none 0 0, .int .i64 0], []⟩).memory :=
  laidMetH_of_parts (laidMet_nil _ _) (by kernel_rfl)
theorem reads (os : Os) {H : Type} (enc : TypeId × Value → H) : ∃ places, DataW.whole enc Tryd.prog ((laidWorld os).forCall (fun _ _ => 0) ⟨#[], #[.slice none 0 0, .int .i64 0], []⟩).memory Tryd.f4.params.toList Rows.mailKindsSpec.vars false (#[.slice none 0 0, .int .i64 0] : Array Value).toList 8 = some ([.nil, .lit (.int .i64 0)], [], places) :=
  ⟨[], by kernel_rfl⟩
set_option maxRecDepth 100000 in
theorem lifted (os : Os) (started : os.Started) (H : Type) (enc : TypeId × Value → H) (F : Stop.Interp) :
    ReturnsInHanded {} Tryd.checked os 4 .any ((OpenSpec.ofChange Rows.mailKindsSpec).preRow enc Tryd.prog Tryd.f4 Rows.mailKindsRow.domain false Rows.mailKindsRow.laid) (((OpenSpec.ofChange Rows.mailKindsSpec).at F).post enc Tryd.prog Tryd.f4 false true false false) := by
  obtain ⟨places, hx⟩ := reads os enc
  refine returnsInHanded_of_row (C := Tryd.checked) (s := (OpenSpec.ofChange Rows.mailKindsSpec)) own started (by kernel_rfl) Tryd.func4
    (witness_row_at (enc := enc) (C := Tryd.checked) false (laidWorld os) #[.slice none 0 0, .int .i64 0] rfl (by kernel_rfl) (by kernel_rfl) (by kernel_rfl)
      (OpenSpec.preRow_of_cond 8 hx (by kernel_rfl) (fun k hk => by cases hk) (by kernel_rfl) (laid_met os))) ?_
  intro W base args ds gs before hval hW _ _ hwt hL hS _
  exact contract H enc W base args ds gs before hval hW hwt hL hS
theorem said : Rows.MailKindsSaid :=
  OpenClaim.holds_of_cond 4 Tryd.f4 rfl rfl rfl rfl rfl rfl rfl ⟨rfl, rfl, rfl, rfl, rfl⟩ rfl rfl rfl rfl rfl (by kernel_rfl) Tryd.func4 (by kernel_rfl)
    (of_decide_eq_true (by kernel_rfl)) (by unfold Func.isWrapper; first | (rw [if_pos (by decide +kernel)]; kernel_rfl) | (rw [if_neg (by decide +kernel)]; exact ⟨rfl, rfl⟩))
    (fun os started H enc _ F => by rw [OpenClaim.pre_eq_preRow]; exact lifted os started H enc F)

theorem plain (f : FuncId) (fn : Func) (hf : Tryd.pinned.checked.prog.funcNamed "frankpledge/frankpledgelaw6.MailKinds" = some f) (hfn : Tryd.pinned.checked.prog.funcs[f]? = some fn) :
    true = Tryd.pinned.checked.prog.looks [] ∧ ∀ (j : Nat) t, fn.params[j]? = some t → Tryd.pinned.checked.prog.wantsStandIn t = false := by
  obtain rfl : f = 4 := Option.some.inj ((show Tryd.prog.funcNamed "frankpledge/frankpledgelaw6.MailKinds" = some 4 by kernel_rfl).symm.trans hf) |>.symm
  obtain rfl : fn = Tryd.f4 := (Option.some.inj (Tryd.func4.symm.trans hfn)).symm
  refine ⟨by kernel_rfl, fun j t ht => ?_⟩
  rw [Tryd.params4] at ht
  have hm := Array.mem_of_getElem? ht
  simp only [List.mem_toArray, List.mem_cons, List.not_mem_nil, or_false] at hm
  rcases hm with rfl | rfl
  · exact (show Tryd.prog.wantsStandIn 22 = false by kernel_rfl)
  · exact (show Tryd.prog.wantsStandIn 3 = false by kernel_rfl)

/-- ████ THE CARD ████ -/
theorem proved : Rows.MailKindsCardSaid :=
  Claim7.holds_tied_plain_at .later [] _ _ _ _ said (fun _ h => by cases h) (by kernel_rfl) (fun _ h => by cases h) mailKinds_row_tie rfl ⟨rfl, rfl⟩ (by kernel_rfl) rfl plain (by kernel_rfl)
#print axioms proved
end Go.Proofs.YtjibfbphiemljaaDoor.mailKinds
