/- LookTurns: the range over the map, the end, all of it. -/
import Derived.Test.YtllogmedpmanoaaMapH
namespace Go.Fw
set_option linter.unusedSimpArgs false
set_option linter.unusedVariables false
open Go.Proofs.Ytllogmedpmanoaa.Code
open Go.ChangeMaps (setBlock)

theorem op_at {ops : Array Oper} {l : List (Option Nat × Option (Nat × Bool) × Op × List Nat)} (hl : ops.toList.map opInfo = l) {i : Nat} {x : Option Nat × Option (Nat × Bool) × Op × List Nat} (hx : l[i]? = some x) :
    ∃ o, ops[i]? = some o ∧ o.dst = x.1 ∧ o.guard = x.2.1 ∧ o.op = x.2.2.1 := by
  rw [← hl, List.getElem?_map] at hx
  cases ho : ops.toList[i]? with
  | none => rw [ho] at hx; cases hx
  | some o =>
    rw [ho] at hx
    cases hx
    exact ⟨o, by rw [← ho, Array.getElem?_toList], rfl, rfl, rfl⟩

theorem kd3_eq : kd3 = .region 3 (cOps kd3) false := by kernel_rfl
theorem ops3 : (cOps kd3).toList.map opInfo = [(some 22, none, .makeMap 34 none, []), (some 7, none, .assign (.tmp 22), [0, 0])] := by kernel_rfl
theorem kd12_eq : kd12 = .region 12 (cOps kd12) false := by kernel_rfl
theorem ops12 : (cOps kd12).toList.map opInfo = [(some 63, none, .move (.tmp 7), []), (some 64, none, .range 34 (.tmp 63), [0])] := by kernel_rfl
theorem kd13_eq : kd13 = .region 13 (cOps kd13) false := by kernel_rfl
theorem ops13 : (cOps kd13).toList.map opInfo = [(some 65, none, .next (.tmp 64) false, []), (some 66, none, .extract (.tmp 65) 0, [0])] := by kernel_rfl
theorem kd14_eq : kd14 = .region 14 (cOps kd14) false := by kernel_rfl
theorem ops14 : (cOps kd14).toList.map opInfo = [(some 67, none, .entry (.tmp 64), []), (some 68, none, .extract (.tmp 67) 1, [0]), (some 13, none, .assign (.tmp 68), [1, 0, 1])] := by kernel_rfl
noncomputable def kd15a : Code := cL kd15
noncomputable def kd15b : Code := cL (cR kd15)
theorem kd15_eq : kd15 = .seq kd15a (.cond (.tmp 70) kd15b .skip) := by kernel_rfl
theorem kd15a_eq : kd15a = .region 15 (cOps kd15a) false := by kernel_rfl
theorem ops15 : (cOps kd15a).toList.map opInfo = [(some 69, none, .move (.tmp 13), []), (some 70, none, .binOp .neq 3 (.tmp 69) (.const (.int .i64 3)) 3, [0])] := by kernel_rfl
theorem kd17_eq : kd17 = .region 17 (cOps kd17) false := by kernel_rfl
theorem ops17 : ((cOps kd17).toList.map opInfo).take 2 = [(some 71, none, .move (.tmp 7), []), (some 72, none, .call { callee := .builtin .len, args := #[.tmp 71], argTypes := #[34] }, [0])] := by kernel_rfl
theorem size17 : (cOps kd17).size = 8 := by kernel_rfl
theorem neq_tag : tagOk PP 3 (.tmp 69) (.const (.int .i64 3)) .plain = true := by kernel_rfl

section
variable {N : Nat} {w0 : World} {φ : Phi} {h : Heap} {vs : List (Nat × AVal)} {a : Act} {w : World} {r : Nat}

theorem make_map (S : Sta N 78 w0 φ h vs a w) {Q : Exit → Act → World → Prop} (hQ : ∀ a' w', Sta N 78 w0 φ h ((7, .mapv w.heap.size) :: vs) a' w' → MapAt w' w.heap.size [] → look vs 22 = .undef → Q .normal a' w') (h22 : look vs 22 = .undef) : kd3.wp PP Q a w := by
  rw [kd3_eq]
  refine wp_region ?_
  have hsz : (cOps kd3).size = 2 := by kernel_rfl
  rw [hsz]
  obtain ⟨o0, p0, d0, g0, e0⟩ := op_at ops3 (i := 0) rfl
  obtain ⟨o1, p1, d1, g1, e1⟩ := op_at ops3 (i := 1) rfl
  refine ops_value (rest := [1]) p0 g0 (exec_v (sem := Instr.makeMap 34 none) (by unfold execOp; rw [e0]; rfl) (make_run w)) ?_
  rw [d0]
  have S1 := (S.alloc (.map #[] 0)).skip (d := 22) (by omega) h22 (.map (some w.heap.size))
  have t22 : (a.put (some 22) (.map (some w.heap.size))).tmps.getD 22 undef = .map (some w.heap.size) := by rw [put_get a 22 22 _ (by rw [S.size]; omega), if_pos rfl]
  refine ops_value (rest := []) (u := .map (some w.heap.size)) (w' := w.alloc (.map #[] 0)) p1 g1 (by unfold execOp; rw [e1]; exact congrArg (fun x => Result.ok (Next.value x) (w.alloc (.map #[] 0))) t22) ?_
  rw [d1]
  exact hQ _ _ (S1.put (d := 7) (by omega) (vrel_mapv.2 rfl)) (walloc_at w _) h22
end
end Go.Fw
