/- LookTurns: a call of it answers true. -/
import Derived.Test.YtllogmedpmanoaaMapJ
namespace Go.Fw
set_option linter.unusedSimpArgs false
set_option linter.unusedVariables false
open Go.Proofs.Ytllogmedpmanoaa.Code
open Go.ChangeMaps (setBlock)

theorem run17 (call : Call) (vs : List (Nat × AVal)) (h : Heap) (k : Env → Heap → Option J) : runItems call false [] it17 (env0 vs [] 0) h k = (aBin .eql .plain (look vs 72) (look vs 6)).bind fun v74 =>
    (guardV v74 true ((call 8 [] h).bind fun r => some (0, [r.1], r.2)) (some (0, [skipV], h))).bind fun g => (aPick v74 (g.2.1.getD 0 .undef) (.bool false)).bind fun v77 =>
    k (env0 ((4, v77) :: (77, v77) :: (76, g.2.1.getD 0 .undef) :: (76, .undef) :: (75, v74) :: (74, v74) :: (73, look vs 6) :: vs) [] 0) g.2.2 := by kernel_rfl

open Classical in
theorem piece_ops {P : Program} {N n : Nat} {w0 : World} {φ : Phi} {h : Heap} {vs : List (Nat × AVal)} {a : Act} {w : World} {call : Call} (hcall : CallOk P call) {ops : Array Oper} {items : List AItem}
    (hok : ((flatItems none items).all (operOk P n ops) && guardsAll false [] items) = true) {vs' : List (Nat × AVal)} {h' : Heap} {lg : List (Nat × Option Log)} {b : Nat}
    (hrun : ∀ k : Env → Heap → Option J, runItems call false [] items (env0 vs [] 0) h k = k (env0 vs' lg b) h') (S : Sta N n w0 φ h vs a w) {Q : Exit → Act → World → Prop}
    (hQ : ∀ φ' a' w', Sta N n w0 φ' h' vs' a' w' → KeptO w w' → Q .normal a' w') : wpOps P ops Q ((flatItems none items).map (·.2.1)) a w := by
  simp only [Bool.and_eq_true, List.all_eq_true] at hok
  have hr := hrun (fun s1 h1 => if s1 = env0 vs' lg b ∧ h1 = h' then some (0, [], h') else none)
  rw [if_pos ⟨rfl, rfl⟩] at hr
  have := items_sound hcall items false [] none [] φ (fun _ => 0) _ h a w _ _ hr hok.1 hok.2 (fun _ _ e => by cases e) trivial S.toIn Q [] ?_
  · simpa using this
  · intro s1 h1 φ' L' a' w' hk _ I
    have : s1 = env0 vs' lg b ∧ h1 = h' := by
      by_cases hc : s1 = env0 vs' lg b ∧ h1 = h'
      · exact hc
      · rw [if_neg hc] at hk; cases hk
    obtain ⟨rfl, rfl⟩ := this
    obtain ⟨T, K⟩ := S.ofIn I
    exact hQ φ' a' w' T K

theorem flat17 : (flatItems none it17).map (·.2.1) = [2, 3, 4, 5, 6, 7] := by decide +kernel

section
variable {N : Nat} {w0 : World} {φ : Phi} {h : Heap} {a : Act} {w : World} {r n : Nat} {L : List (Tx2 × Int)}
theorem len_run (M : MapAt w r L) (hl : L.length = n) (ty : TypeId) : (Builtin.len_ #[34] ty #[.map (some r)]).run PP w = .ok (.int .i64 n) w := by
  unfold MapAt at M
  simp only [Builtin.len_]
  have e : ((#[34] : Array TypeId)[0]?, (#[.map (some r)] : Array Value)[0]?) = (some 34, some (.map (some r))) := rfl
  simp only [e, Sem.run_bind, und34, Result.andThen_ok, getObj, Sem.run, M, Sem.run_pure, goInt]
  have : (ents L).size = n := by rw [← hl]; simp [ents, entL]
  rw [this]

theorem tail17 (S : Sta N 78 w0 φ h [(6, .int .i64 n), (7, .mapv r)] a w) (M : MapAt w r L) (hl : L.length = n) {Q : Exit → Act → World → Prop}
    (hQ : ∀ φ' h' a' w', Sta N 78 w0 φ' h' [(4, .bool true)] a' w' → Q .normal a' w') : kd17.wp PP Q a w := by
  rw [kd17_eq]
  refine wp_region ?_
  rw [size17]
  have inf : ∀ i x, i < 2 → ([(some 71, none, .move (.tmp 7), []), (some 72, none, .call { callee := .builtin .len, args := #[.tmp 71], argTypes := #[34] }, [0])] : List (Option Nat × Option (Nat × Bool) × Op × List Nat))[i]? = some x → ((cOps kd17).toList.map opInfo)[i]? = some x := fun i x hi hx => by
    rw [← ops17, List.getElem?_take_of_lt hi] at hx
    exact hx
  obtain ⟨o0, p0, d0, g0, e0⟩ := op_at rfl (inf 0 _ (by omega) rfl)
  obtain ⟨o1, p1, d1, g1, e1⟩ := op_at rfl (inf 1 _ (by omega) rfl)
  have l7 : a.tmps.getD 7 undef = .map (some r) := by have := S.vals 7; rwa [show look [(6, AVal.int .i64 n), (7, .mapv r)] 7 = .mapv r from rfl, vrel_mapv] at this
  show wpOps PP (cOps kd17) Q [0, 1, 2, 3, 4, 5, 6, 7] a w
  refine ops_value (rest := [1, 2, 3, 4, 5, 6, 7]) (u := .map (some r)) (w' := w) p0 g0 (by unfold execOp; rw [e0]; exact congrArg (fun x => Result.ok (Next.value x) w) l7) ?_
  rw [d0]
  have S1 := S.skip (d := 71) (by omega) rfl (.map (some r))
  have t71 : (a.put (some 71) (.map (some r))).tmps.getD 71 undef = .map (some r) := by rw [put_get a 71 71 _ (by rw [S.size]; omega), if_pos rfl]
  generalize a.put (some 71) (.map (some r)) = a1 at *
  have ev : a1.eval (.tmp 71) = .map (some r) := t71
  have lr := len_run M hl
  refine ops_value (rest := [2, 3, 4, 5, 6, 7]) (u := .int .i64 n) (w' := w) p1 g1 ?_ ?_
  · unfold execOp
    rw [e1]
    have hm : (#[Operand.tmp 71].map a1.eval) = #[.map (some r)] := by simp [ev]
    simp only [resolve, invoke, builtin, Sem.run_bind, Sem.run_pure, Result.andThen_ok, hm, lr]
  rw [d1]
  have S2 := S1.put (d := 72) (v := .int .i64 n) (u := .int .i64 n) (by omega) (vrel_int.2 rfl)
  rw [← flat17]
  obtain ⟨H, eH, _⟩ := known_ok h
  have q2 : ((n : Int) == (n : Int)) = true := by simp
  refine piece_ops prog_ok ok17 (vs' := [(4, .bool true), (77, .bool true), (76, .bool true), (76, .undef), (75, .bool true), (74, .bool true), (73, .int .i64 n), (72, .int .i64 n), (6, .int .i64 n), (7, .mapv r)]) (h' := H) (lg := []) (b := 0) (fun k => ?_) S2 fun φ' a' w' S3 _ => hQ φ' H a' w' (S3.pick [4] rfl)
  rw [run17]
  simp only [look, Nat.beq, cond_true, cond_false, bin_eql, Option.bind_some, q2, guard_bool, BEq.rfl, eH, pick_bool, List.getD_cons_zero]
end
end Go.Fw
