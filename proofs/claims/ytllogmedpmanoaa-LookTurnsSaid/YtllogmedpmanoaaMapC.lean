/- A region whose order is open, by an invariant over what is done; the counting of a key. -/
import Derived.Test.YtllogmedpmanoaaMapB
namespace Go.Fw
set_option linter.unusedSimpArgs false
set_option linter.unusedVariables false
open Go.ChangeMaps (setBlock)

theorem any_inv {P : Program} {ops : Array Oper} {Q : Exit → Act → World → Prop} (I : (Nat → Bool) → Act → World → Prop)
    (back : ∀ i o, ops[i]? = some o → ∀ e ∈ o.after.toList, Region.binds .any e = true → e.on < i)
    (step : ∀ D a w i o, ops[i]? = some o → D i = false → (∀ e ∈ o.after.toList, Region.binds .any e = true → D e.on = true) → I D a w → wpOp P ops Q i (fun a' w' => I (setD D i) a' w') a w)
    (fin : ∀ D a w, (∀ i, i < ops.size → D i = true) → I D a w → Q .normal a w) :
    ∀ (fuel : Nat) (listed : Array Bool) (a : Act) (w : World), listed.size = ops.size → (List.range ops.size).countP (fun i => !listed.getD i true) ≤ fuel →
      I (fun i => listed.getD i false) a w → wpAny P .any ops Q fuel listed a w := by
  have hready : ∀ (listed : Array Bool), listed.size = ops.size → Region.ready .any ops listed = [] → ∀ i, i < ops.size → listed.getD i false = true := by
    intro listed hs hr i
    induction i using Nat.strongRecOn with
    | ind i ih =>
      intro hi
      cases hl : listed.getD i false with
      | true => rfl
      | false =>
        exfalso
        have hl' : listed.getD i true = false := by
          rw [Array.getD_eq_getD_getElem?] at hl ⊢
          have : i < listed.size := by omega
          rw [Array.getElem?_eq_getElem this] at hl ⊢
          exact hl
        have : i ∈ Region.ready .any ops listed := by
          unfold Region.ready
          rw [List.mem_filter]
          refine ⟨List.mem_range.2 hi, ?_⟩
          simp only [hl', Bool.not_false, Bool.true_and]
          rw [Array.getElem?_eq_getElem hi]
          simp only [Option.map_some, Option.getD_some]
          rw [Array.all_eq_true']
          intro e he
          cases hbd : Region.binds .any e with
          | false => rfl
          | true =>
            have hlt := back i ops[i] (Array.getElem?_eq_getElem hi) e (by simpa using he) hbd
            simp only [Bool.not_true, Bool.false_or]
            exact ih e.on hlt (by omega)
        rw [hr] at this
        cases this
  intro fuel
  induction fuel with
  | zero =>
    intro listed a w hs hc T
    have hall : ∀ i, i < ops.size → listed.getD i true = true := by
      intro i hi
      have : (List.range ops.size).countP (fun i => !listed.getD i true) = 0 := by omega
      rw [List.countP_eq_zero] at this
      have := this i (List.mem_range.2 hi)
      simpa using this
    have hall' : ∀ i, i < ops.size → listed.getD i false = true := by
      intro i hi
      have := hall i hi
      rw [Array.getD_eq_getD_getElem?] at this ⊢
      have h2 : i < listed.size := by omega
      rw [Array.getElem?_eq_getElem h2] at this ⊢
      exact this
    refine ⟨?_, fin _ a w hall' T⟩
    unfold Region.ready
    rw [List.filter_eq_nil_iff]
    intro i hi
    rw [hall i (List.mem_range.1 hi)]
    simp
  | succ fuel ih =>
    intro listed a w hs hc T
    refine ⟨fun hr => fin _ a w (hready listed hs hr) T, fun i hi => ?_⟩
    unfold Region.ready at hi
    rw [List.mem_filter] at hi
    obtain ⟨h1, h2⟩ := hi
    have hilt := List.mem_range.1 h1
    simp only [Bool.and_eq_true, Bool.not_eq_true'] at h2
    obtain ⟨h2, h3⟩ := h2
    rw [Array.getElem?_eq_getElem hilt] at h3
    simp only [Option.map_some, Option.getD_some] at h3
    rw [Array.all_eq_true'] at h3
    have hil : i < listed.size := by omega
    have hiF : listed.getD i false = false := by
      rw [Array.getD_eq_getD_getElem?] at h2 ⊢
      rw [Array.getElem?_eq_getElem hil] at h2 ⊢
      exact h2
    have hr : ∀ e ∈ ops[i].after.toList, Region.binds .any e = true → (fun i => listed.getD i false) e.on = true := by
      intro q hq hbq
      have := h3 q (by simpa using hq)
      rw [hbq] at this
      simpa using this
    have hset : (fun j => (listed.setIfInBounds i true).getD j false) = setD (fun j => listed.getD j false) i := by
      funext j
      unfold setD
      rw [Array.getD_eq_getD_getElem?, Array.getElem?_setIfInBounds]
      by_cases hji : i = j
      · subst hji
        simp [hil]
      · rw [if_neg hji, if_neg (fun h => hji h.symm), ← Array.getD_eq_getD_getElem?]
    refine wpOp_mono (fun a' w' T' => ?_) (step _ a w i _ (Array.getElem?_eq_getElem hilt) hiF hr T)
    refine ih (listed.setIfInBounds i true) a' w' (by simpa using hs) ?_ ?_
    · have hlt : (List.range ops.size).countP (fun j => !(listed.setIfInBounds i true).getD j true) < (List.range ops.size).countP (fun j => !listed.getD j true) := by
        refine countP_lt (fun j => !listed.getD j true) (fun j => !(listed.setIfInBounds i true).getD j true) _ (List.mem_range.2 hilt) ?_ ?_ ?_
        · simp [h2]
        · rw [Array.getD_eq_getD_getElem?, Array.getElem?_setIfInBounds]
          simp [hil]
        · intro j hj
          rw [Array.getD_eq_getD_getElem?, Array.getElem?_setIfInBounds] at hj
          by_cases hji : i = j
          · subst hji
            simp [hil] at hj
          · rw [if_neg hji, ← Array.getD_eq_getD_getElem?] at hj
            exact hj
      omega
    · rw [hset]; exact T'

/-- The parts of a text. -/
def cL : Code → Code | .seq a _ => a | .cond _ a _ => a | .block _ a => a | .loop a => a | c => c
def cR : Code → Code | .seq _ b => b | .cond _ _ b => b | c => c
def cOps : Code → Array Oper | .region _ ops _ => ops | _ => #[]
def cId : Code → Nat | .region i _ _ => i | _ => 0
noncomputable def body4 : Code := Go.Proofs.Try.f4.body.getD .skip
noncomputable def kd0 : Code := cL body4
noncomputable def kd1 : Code := cL (cR body4)
noncomputable def kd2 : Code := cL (cR (cR body4))
noncomputable def kd3 : Code := cL (cR (cR (cR body4)))
noncomputable def kd4 : Code := cL (cR (cR (cR (cR body4))))
noncomputable def rest4 : Code := cR (cR (cR (cR (cR body4))))
noncomputable def kd5 : Code := cL (cL rest4)
noncomputable def loop1 : Code := cL (cL (cR (cL rest4)))
noncomputable def kd6 : Code := cL (cL loop1)
noncomputable def body1 : Code := cL (cR loop1)
noncomputable def kd7 : Code := cR (cR loop1)
noncomputable def in1 : Code := cL body1
noncomputable def kd8 : Code := cL in1
noncomputable def kd9 : Code := cL (cR in1)
noncomputable def kd11 : Code := cR (cR in1)
noncomputable def tail4 : Code := cR rest4
noncomputable def kd12 : Code := cL (cL tail4)
noncomputable def loop2 : Code := cL (cL (cR (cL tail4)))
noncomputable def kd13 : Code := cL loop2
noncomputable def cend2 : Code := cL (cR loop2)
noncomputable def in2 : Code := cL (cR (cR loop2))
noncomputable def kd14 : Code := cL in2
noncomputable def kd15 : Code := cR in2
noncomputable def kd17 : Code := cL (cR tail4)

theorem body_eq : Go.Proofs.Try.f4.body = some (.seq kd0 (.seq kd1 (.seq kd2 (.seq kd3 (.seq kd4 rest4))))) := by kernel_rfl
theorem rest_eq : rest4 = .seq (.seq kd5 (.block 0 (.loop loop1))) tail4 := by kernel_rfl
theorem loop1_eq : loop1 = .seq (.seq kd6 (.cond (.tmp 28) .skip (.exit 0))) (.seq (.block 1 in1) kd7) := by kernel_rfl
theorem in1_eq : in1 = .seq kd8 (.seq kd9 kd11) := by kernel_rfl
theorem tail_eq : tail4 = .seq (.seq kd12 (.block 2 (.loop loop2))) (.seq kd17 .ret) := by kernel_rfl
theorem loop2_eq : loop2 = .seq kd13 (.seq (.cond (.tmp 66) .skip (.exit 2)) (.block 3 in2)) := by kernel_rfl
theorem in2_eq : in2 = .seq kd14 kd15 := by kernel_rfl
theorem kd11_eq : kd11 = .region 11 (cOps kd11) true := by kernel_rfl

def opInfo (o : Oper) : Option Nat × Option (Nat × Bool) × Op × List Nat := (o.dst, o.guard, o.op, (o.after.toList.filter (Region.binds .any)).map (·.on))
theorem ops11 : (cOps kd11).toList.map opInfo = [(some 56, none, .move (.tmp 7), []), (some 57, none, .fieldAddr 40 (.tmp 10) 0, []), (some 58, none, .load 36 (.tmp 57), [1]),
    (some 59, none, .lookup 34 (.tmp 56) (.tmp 58) false, [0, 2]), (some 60, none, .binOp .add 3 (.tmp 59) (.const (.int .i64 1)) 3, [3]), (some 61, none, .mapEntry 34 (.tmp 56) (.tmp 58), [0, 2, 0, 1, 2]),
    (some 62, none, .extract (.tmp 61) 1, [5]), (none, none, .entryStore 34 (.tmp 56) (.tmp 62) (.tmp 60), [0, 6, 4, 5, 0, 1, 2, 3, 4, 5, 6])] := by kernel_rfl
end Go.Fw
