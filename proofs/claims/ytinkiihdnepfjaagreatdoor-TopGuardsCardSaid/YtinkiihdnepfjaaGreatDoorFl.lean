/- runs -/
import Derived.Test.YtinkiihdnepfjaaGreatDoorWn
import Derived.Test.YtinkiihdnepfjaaGreatDoorKX
import Derived.Test.YtinkiihdnepfjaaGreatDoorLp
set_option linter.unusedSimpArgs false
set_option linter.unusedVariables false
set_option maxRecDepth 100000
namespace Go.Proofs.YtinkiihdnepfjaaGreatDoor.Code
open Go.Fw Go.Fw.K
namespace Abs
noncomputable def L19_0 (call : Go.Fw.Call) (xs : List AVal) (h : Heap) : Option J :=
 (aBin .lss .plain (xs.getD 3 .undef) (xs.getD 2 .undef)).bind fun v1 =>
 condV v1
 ((aFill [.int .i64 0, .int .i64 0, .int .i64 0, .int .i64 0, .int .i64 0, .int .i64 0, .str []] [(0, 1, (.int .i64 1)), (1, 1, (xs.getD 1 .undef)), (5, 1, (.int .i64 1))]).bind fun c2 =>
 (aFill (reps [.int .i64 0, .int .i64 0, .int .i64 0, .int .i64 0, .int .i64 0, .int .i64 0, .str []] 1) [(0, 7, (.agg c2))]).bind fun c3 =>
 (call 18 [(xs.getD 0 .undef), (.slice h.next 0 1 1 7 true)] (h.alloc c3)).bind fun r4 =>
 (aUn .not r4.1).bind fun v5 =>
 condV v5
 (some (2, [(.bool false)], r4.2))
 ((call 40 [(xs.getD 0 .undef), (.int .i64 200)] r4.2).bind fun r6 =>
 (aExtract 0 r6.1).bind fun v7 =>
 (aExtract 1 r6.1).bind fun v8 =>
 (aUn .not v8).bind fun v9 =>
 condV v9
 (some (2, [(.bool false)], r6.2))
 ((aBin .add .plain (xs.getD 3 .undef) (.int .i64 1)).bind fun v10 =>
 some (0, [(xs.getD 0 .undef), (xs.getD 1 .undef), (xs.getD 2 .undef), v10], r6.2))))
 (some (1, [], h))
noncomputable def S19 (call : Go.Fw.Call) (a0 a1 a2 : AVal) (h : Heap) : Option J :=
 (loop (L19_0 call) [a0, a1, a2, (.int .i64 0)] h).bind fun x11 =>
 bif Nat.beq x11.1 1 then some (0, [(.bool true)], x11.2.2) else
 bif Nat.beq x11.1 2 then some (0, [(x11.2.1.getD 0 .undef)], x11.2.2) else
 none
theorem run19 (call : Go.Fw.Call) (a0 a1 a2 : AVal) (h : Heap) : runFn call (.code A19) [a0, a1, a2] h = (S19 call a0 a1 a2 h).bind ansOf := by kernel_rfl
end Abs
def condS {α : Type} (c : AVal) (a b : Option α) : Option α := match c with | .bool t => bif t then a else b | _ => none
def K19 (call : Go.Fw.Call) (w nd : AVal) (h : Heap) : Option (Heap ⊕ Heap) :=
  (aFill [.int .i64 0, .int .i64 0, .int .i64 0, .int .i64 0, .int .i64 0, .int .i64 0, .str []] [(0, 1, (.int .i64 1)), (1, 1, nd), (5, 1, (.int .i64 1))]).bind fun c2 =>
  (aFill (reps [.int .i64 0, .int .i64 0, .int .i64 0, .int .i64 0, .int .i64 0, .int .i64 0, .str []] 1) [(0, 7, (.agg c2))]).bind fun c3 =>
  (call 18 [w, (.slice h.next 0 1 1 7 true)] (h.alloc c3)).bind fun r4 =>
  (aUn .not r4.1).bind fun v5 =>
  condS v5 (some (.inl r4.2)) ((call 40 [w, (.int .i64 200)] r4.2).bind fun r6 =>
  (aExtract 0 r6.1).bind fun v7 =>
  (aExtract 1 r6.1).bind fun v8 =>
  (aUn .not v8).bind fun v9 =>
  condS v9 (some (.inl r6.2)) (some (.inr r6.2)))
def back (w nd : AVal) (n i : Int) : Heap ⊕ Heap → Option J
  | .inl h => some (2, [.bool false], h)
  | .inr h => some (0, [w, nd, .int .i64 n, .int .i64 (IntKind.i64.wrap (i + 1))], h)
theorem L19_eq (call : Go.Fw.Call) (w nd : AVal) (n i : Int) (h : Heap) :
    Abs.L19_0 call [w, nd, .int .i64 n, .int .i64 i] h = if i < n then (K19 call w nd h).bind (back w nd n i) else some (1, [], h) := by
  unfold Abs.L19_0 K19
  simp only [List.getD_cons_zero, List.getD_cons_succ, bin_lss, Option.bind_some, cond_bool]
  by_cases hi : i < n
  · simp only [hi, decide_true, cond_true, if_true]
    generalize aFill [.int .i64 0, .int .i64 0, .int .i64 0, .int .i64 0, .int .i64 0, .int .i64 0, .str []] [(0, 1, (.int .i64 1)), (1, 1, nd), (5, 1, (.int .i64 1))] = o1
    cases o1 with
    | none => rfl
    | some c2 =>
      simp only [Option.bind_some]
      generalize aFill (reps [.int .i64 0, .int .i64 0, .int .i64 0, .int .i64 0, .int .i64 0, .int .i64 0, .str []] 1) [(0, 7, (.agg c2))] = o2
      cases o2 with
      | none => rfl
      | some c3 =>
        simp only [Option.bind_some]
        generalize call 18 [w, (.slice h.next 0 1 1 7 true)] (h.alloc c3) = o3
        cases o3 with
        | none => rfl
        | some r4 =>
          simp only [Option.bind_some]
          generalize aUn .not r4.1 = o4
          cases o4 with
          | none => rfl
          | some v5 =>
            simp only [Option.bind_some]
            cases v5 with
            | bool t =>
              cases t with
              | true => rfl
              | false =>
                simp only [condV, condS, cond_false]
                generalize call 40 [w, (.int .i64 200)] r4.2 = o5
                cases o5 with
                | none => rfl
                | some r6 =>
                  simp only [Option.bind_some]
                  generalize aExtract 0 r6.1 = o6
                  cases o6 with
                  | none => rfl
                  | some v7 =>
                    simp only [Option.bind_some]
                    generalize aExtract 1 r6.1 = o7
                    cases o7 with
                    | none => rfl
                    | some v8 =>
                      simp only [Option.bind_some]
                      generalize aUn .not v8 = o8
                      cases o8 with
                      | none => rfl
                      | some v9 =>
                        simp only [Option.bind_some]
                        cases v9 with
                        | bool t => cases t <;> rfl
                        | _ => rfl
            | _ => rfl
  · simp only [hi, decide_false, cond_false, if_false]
section flow
variable {tbl : Nat → Option AFn} (t19 : tbl 19 = some (.code A19)) (w nd : AVal)
include t19
theorem E19 (n : AVal) (h : Heap) : E tbl 19 [w, nd, n] h = (Abs.S19 (E tbl) w nd n h).bind ansOf := by
  rw [E_eq, t19]
  exact Abs.run19 (E tbl) w nd n h
theorem step_inv {h h1 : Heap} (e : E tbl 19 [w, nd, .int .i64 1] h = some (.bool true, h1)) : K19 (E tbl) w nd h = some (.inr h1) := by
  rw [E19 t19] at e
  unfold Abs.S19 at e
  have w1 : IntKind.i64.wrap (0 + 1) = 1 := by decide
  rw [loop_eq, L19_eq, if_pos (by omega)] at e
  cases hk : K19 (E tbl) w nd h with
  | none => rw [hk] at e; cases e
  | some r =>
    rw [hk] at e
    cases r with
    | inl h2 =>
      have e' : some (AVal.bool false, h2) = some (AVal.bool true, h1) := e
      cases e'
    | inr h2 =>
      simp only [Option.bind_some, back, w1] at e
      rw [loop_done (i := 0) (ys := []) (h' := h2) (by rw [L19_eq, if_neg (by omega)])] at e
      simp [ansOf] at e
      rw [e]
theorem flow_from (N : Int) (hN : N ≤ 1048576) : ∀ (n : Nat) (i : Int) (h h' : Heap), 0 ≤ i → i + n = N → goes (fun h => E tbl 19 [w, nd, .int .i64 1] h) n h = some h' →
    loop (Abs.L19_0 (E tbl)) [w, nd, .int .i64 N, .int .i64 i] h = some (1, [], h')
  | 0, i, h, h', h0, hi, hg => by
    cases hg
    exact loop_done (by rw [L19_eq, if_neg (by omega)])
  | n + 1, i, h, h', h0, hi, hg => by
    rw [goes] at hg
    split at hg
    · rename_i h1 e
      have hk := step_inv t19 w nd e
      rw [loop_more (xs' := [w, nd, .int .i64 N, .int .i64 (i + 1)]) (h' := h1)]
      · exact flow_from N hN n (i + 1) h1 h' (by omega) (by omega) hg
      · rw [L19_eq, if_pos (by omega), hk]
        simp only [Option.bind_some, back]
        rw [wrap_small (i + 1) (by omega) (by omega)]
    · cases hg
theorem flow_goes (n : Nat) (hn : n ≤ 1048576) {h h' : Heap} (hg : goes (fun h => E tbl 19 [w, nd, .int .i64 1] h) n h = some h') : E tbl 19 [w, nd, .int .i64 n] h = some (.bool true, h') := by
  rw [E19 t19]
  unfold Abs.S19
  rw [flow_from t19 w nd n (by omega) n 0 h h' (by omega) (by omega) hg]
  rfl
end flow
end Go.Proofs.YtinkiihdnepfjaaGreatDoor.Code
