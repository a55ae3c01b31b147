/- runs -/
import Derived.Test.YtinkiihdnepfjaaGreatDoorTb3
import Derived.Test.YtinkiihdnepfjaaGreatDoorWn
set_option linter.unusedSimpArgs false
set_option linter.unusedVariables false
set_option maxRecDepth 1000000
namespace Go.Proofs.YtinkiihdnepfjaaGreatDoor.Code
open Go.Fw Go.Fw.K
namespace Abs
noncomputable def S3 (call : Go.Fw.Call) (a0 : AVal) (h : Heap) : Option J :=
 (call 16 [(.int .i64 2), (.int .i64 900)] h).bind fun r1 =>
 (call 17 [a0, (.int .i64 0), (.int .i64 3)] r1.2).bind fun r2 =>
 (aBin .eql .ptr r1.1 (.nilPtr)).bind fun v3 =>
 (guardV v3 false
 ((aFill [.int .i64 0, .int .i64 0, .int .i64 0, .int .i64 0, .int .i64 0, .int .i64 0, .str []] [(0, 1, (.int .i64 8)), (1, 1, (.int .i64 1)), (3, 1, (.int .i64 4)), (4, 1, r2.1)]).bind fun c4 =>
 (aFill (reps [.int .i64 0, .int .i64 0, .int .i64 0, .int .i64 0, .int .i64 0, .int .i64 0, .str []] 1) [(0, 7, (.agg c4))]).bind fun c5 =>
 (call 18 [r1.1, (.slice r2.2.next 0 1 1 7 true)] (r2.2.alloc c5)).bind fun r6 =>
 (aUn .not r6.1).bind fun v7 =>
 some (0, [v7], r6.2))
 (some (0, [skipV], r2.2))).bind fun g8 =>
 (aPick v3 (.bool true) (g8.2.1.getD 0 .undef)).bind fun v9 =>
 (guardV v9 false
 ((call 19 [r1.1, (.int .i64 1), (.int .i64 2)] g8.2.2).bind fun r10 =>
 (aUn .not r10.1).bind fun v11 =>
 some (0, [v11], r10.2))
 (some (0, [skipV], g8.2.2))).bind fun g12 =>
 (aPick v9 (.bool true) (g12.2.1.getD 0 .undef)).bind fun v13 =>
 (guardV v13 false
 ((call 20 [r1.1, (.int .i64 2)] g12.2.2).bind fun r14 =>
 (aUn .not r14.1).bind fun v15 =>
 some (0, [v15], r14.2))
 (some (0, [skipV], g12.2.2))).bind fun g16 =>
 (aPick v13 (.bool true) (g16.2.1.getD 0 .undef)).bind fun v17 =>
 condV v17
 (some (0, [(.bool false)], g16.2.2))
 ((aBin .eql .plain r2.1 (.int .i64 0)).bind fun v18 =>
 (guardV v18 false
 ((aBin .eql .plain r2.1 (.int .i64 1)).bind fun v19 =>
 some (0, [v19], g16.2.2))
 (some (0, [skipV], g16.2.2))).bind fun g20 =>
 (aPick v18 (.bool true) (g20.2.1.getD 0 .undef)).bind fun v21 =>
 (condV v21
 (some (0, [r1.1, (.int .i64 2)], g20.2.2))
 (some (0, [r1.1, (.int .i64 1)], g20.2.2))).bind fun x22 =>
 bif Nat.beq x22.1 0 then (call 21 [(x22.2.1.getD 0 .undef), (.int .i64 2), (.str [97, 112, 112, 48])] x22.2.2).bind fun r23 =>
 (aBin .neq .plain r23.1 (x22.2.1.getD 1 .undef)).bind fun v24 =>
 (guardV v24 false
 ((aFill [.int .i64 0, .int .i64 0, .int .i64 0, .int .i64 0, .int .i64 0, .int .i64 0, .str []] [(0, 1, (.int .i64 8)), (1, 1, (.int .i64 1)), (3, 1, (.int .i64 4))]).bind fun c25 =>
 (aFill (reps [.int .i64 0, .int .i64 0, .int .i64 0, .int .i64 0, .int .i64 0, .int .i64 0, .str []] 1) [(0, 7, (.agg c25))]).bind fun c26 =>
 (call 18 [(x22.2.1.getD 0 .undef), (.slice r23.2.next 0 1 1 7 true)] (r23.2.alloc c26)).bind fun r27 =>
 (aUn .not r27.1).bind fun v28 =>
 some (0, [v28], r27.2))
 (some (0, [skipV], r23.2))).bind fun g29 =>
 (aPick v24 (.bool true) (g29.2.1.getD 0 .undef)).bind fun v30 =>
 (guardV v30 false
 ((call 19 [(x22.2.1.getD 0 .undef), (.int .i64 1), (.int .i64 2)] g29.2.2).bind fun r31 =>
 (aUn .not r31.1).bind fun v32 =>
 some (0, [v32], r31.2))
 (some (0, [skipV], g29.2.2))).bind fun g33 =>
 (aPick v30 (.bool true) (g33.2.1.getD 0 .undef)).bind fun v34 =>
 (guardV v34 false
 ((call 20 [(x22.2.1.getD 0 .undef), (.int .i64 2)] g33.2.2).bind fun r35 =>
 (aUn .not r35.1).bind fun v36 =>
 some (0, [v36], r35.2))
 (some (0, [skipV], g33.2.2))).bind fun g37 =>
 (aPick v34 (.bool true) (g37.2.1.getD 0 .undef)).bind fun v38 =>
 condV v38
 (some (0, [(.bool false)], g37.2.2))
 ((call 21 [(x22.2.1.getD 0 .undef), (.int .i64 2), (.str [97, 112, 112, 48])] g37.2.2).bind fun r39 =>
 (aBin .eql .plain r39.1 (.int .i64 2)).bind fun v40 =>
 (guardV v40 true
 ((call 22 [] r39.2).bind fun r41 =>
 some (0, [r41.1], r41.2))
 (some (0, [skipV], r39.2))).bind fun g42 =>
 (aPick v40 (g42.2.1.getD 0 .undef) (.bool false)).bind fun v43 =>
 some (0, [v43], g42.2.2)) else
 none)
theorem run3 (call : Go.Fw.Call) (a0 : AVal) (h : Heap) : runFn call (.code A3) [a0] h = (S3 call a0 h).bind ansOf := by kernel_rfl
end Abs
open Abs
noncomputable abbrev tblE : Nat → Option AFn := fun f => tblA.get f
theorem t17 : tblE 17 = some (.code A17) := by kernel_rfl
theorem t3 : tblE 3 = some (.code A3) := by kernel_rfl
theorem at_int {n : Nat} (h : okR (kS tblS 100 3 [.int .i64 (.ofNat n)] T0) = true) : ∃ h', E tblE 3 [.int .i64 (.ofNat n)] emptyHeap = some (.bool true, h') := by
  obtain ⟨h', e⟩ := ran tbl_is h 0
  rw [repL_cons, repL_nil, rep_int] at e
  exact ⟨h', e⟩
theorem S3_id (a : Int) (h : Heap) : S3 (E tblE) (.int .i64 a) h = S3 (E tblE) (.int .i64 (wn a 3)) h := by
  unfold S3
  simp only [within t17 _ 3 (by omega) (by omega), wn_wn _ 3 (by omega)]
theorem E3_id (a : Int) : E tblE 3 [.int .i64 a] emptyHeap = E tblE 3 [.int .i64 (wn a 3)] emptyHeap := by
  rw [E_eq, E_eq, t3]
  simp only
  rw [run3, run3, S3_id]
theorem run_0 : okR (kS tblS 100 3 [.int .i64 (.ofNat 0)] T0) = true := by decide +kernel
theorem run_1 : okR (kS tblS 100 3 [.int .i64 (.ofNat 1)] T0) = true := by decide +kernel
theorem run_2 : okR (kS tblS 100 3 [.int .i64 (.ofNat 2)] T0) = true := by decide +kernel
theorem run_3 : okR (kS tblS 100 3 [.int .i64 (.ofNat 3)] T0) = true := by decide +kernel
theorem all_ints (n : Nat) (hn : n ≤ 3) : ∃ h', E tblE 3 [.int .i64 (.ofNat n)] emptyHeap = some (.bool true, h') := by
  match n, hn with
  | 0, _ => exact at_int run_0
  | 1, _ => exact at_int run_1
  | 2, _ => exact at_int run_2
  | 3, _ => exact at_int run_3
  | n + 4, h => omega
theorem topOverridesL (a : Int) : ∃ h', E tblE 3 [.int .i64 a] emptyHeap = some (.bool true, h') := by
  rw [E3_id]
  obtain ⟨n, hn, hle⟩ := wn_nat a 3
  have hn : wn a 3 = .ofNat n := hn
  rw [hn]
  exact all_ints n hle
end Go.Proofs.YtinkiihdnepfjaaGreatDoor.Code
