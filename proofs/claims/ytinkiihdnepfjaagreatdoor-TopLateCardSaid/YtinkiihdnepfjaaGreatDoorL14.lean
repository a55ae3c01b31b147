/- runs -/
import Derived.Test.YtinkiihdnepfjaaGreatDoorTb14
import Derived.Test.YtinkiihdnepfjaaGreatDoorWn
set_option linter.unusedSimpArgs false
set_option linter.unusedVariables false
set_option maxRecDepth 1000000
namespace Go.Proofs.YtinkiihdnepfjaaGreatDoor.Code
open Go.Fw Go.Fw.K
namespace Abs
noncomputable def S14 (call : Go.Fw.Call) (a0 : AVal) (h : Heap) : Option J :=
 (call 23 [(.int .i64 2), (.int .i64 1)] h).bind fun r1 =>
 (call 17 [a0, (.int .i64 0), (.int .i64 7)] r1.2).bind fun r2 =>
 (aBin .add .plain (.int .i64 8) r2.1).bind fun v3 =>
 (aBin .eql .ptr r1.1 (.nilPtr)).bind fun v4 =>
 (guardV v4 false
 ((aFill [.int .i64 0, .int .i64 0, .int .i64 0, .int .i64 0, .int .i64 0, .int .i64 0, .str []] [(0, 1, (.int .i64 8)), (1, 1, (.int .i64 2)), (3, 1, (.int .i64 1)), (5, 1, (.int .i64 90)), (4, 1, (.int .i64 1))]).bind fun c5 =>
 (aFill [.int .i64 0, .int .i64 0, .int .i64 0, .int .i64 0, .int .i64 0, .int .i64 0, .str []] [(0, 1, (.int .i64 1)), (1, 1, (.int .i64 2)), (5, 1, (.int .i64 1))]).bind fun c6 =>
 (aFill [.int .i64 0, .int .i64 0, .int .i64 0, .int .i64 0, .int .i64 0, .int .i64 0, .str []] [(0, 1, (.int .i64 2))]).bind fun c7 =>
 (aFill [.int .i64 0, .int .i64 0, .int .i64 0, .int .i64 0, .int .i64 0, .int .i64 0, .str []] [(0, 1, (.int .i64 1)), (1, 1, (.int .i64 2)), (5, 1, v3)]).bind fun c8 =>
 (aFill (reps [.int .i64 0, .int .i64 0, .int .i64 0, .int .i64 0, .int .i64 0, .int .i64 0, .str []] 4) [(0, 7, (.agg c5)), (7, 7, (.agg c6)), (14, 7, (.agg c7)), (21, 7, (.agg c8))]).bind fun c9 =>
 (call 18 [r1.1, (.slice r2.2.next 0 4 4 7 true)] (r2.2.alloc c9)).bind fun r10 =>
 (aUn .not r10.1).bind fun v11 =>
 some (0, [v11], r10.2))
 (some (0, [skipV], r2.2))).bind fun g12 =>
 (aPick v4 (.bool true) (g12.2.1.getD 0 .undef)).bind fun v13 =>
 condV v13
 (some (0, [(.bool false)], g12.2.2))
 ((aFill [.int .i64 0, .int .i64 0, .int .i64 0, .int .i64 0, .int .i64 0, .int .i64 0, .str []] [(0, 1, (.int .i64 2))]).bind fun c14 =>
 (call 24 [r1.1, (.agg c14)] g12.2.2).bind fun r15 =>
 (aCells 5 r15.1).bind fun c16 =>
 bif Nat.ble ((0) + 5) (List.length (α := AVal) [.int .i64 0, .int .i64 0, .int .i64 0, .nilSlice, .int .i64 0]) then (call 34 [r1.1, (.int .i64 0)] r15.2).bind fun r17 =>
 (rdL (splice [.int .i64 0, .int .i64 0, .int .i64 0, .nilSlice, .int .i64 0] (0) c16) 1 1).bind fun c18 =>
 (fromCells false c18).bind fun v19 =>
 (aBin .eql .plain v19 (.int .i64 2)).bind fun v20 =>
 (guardV v20 true
 ((rdL (splice [.int .i64 0, .int .i64 0, .int .i64 0, .nilSlice, .int .i64 0] (0) c16) 2 1).bind fun c21 =>
 (fromCells false c21).bind fun v22 =>
 (aBin .eql .plain v22 (.int .i64 (-1))).bind fun v23 =>
 some (0, [v23], r17.2))
 (some (0, [skipV], r17.2))).bind fun g24 =>
 (aPick v20 (g24.2.1.getD 0 .undef) (.bool false)).bind fun v25 =>
 (guardV v25 true
 ((aBin .neq .ptr r17.1 (.nilPtr)).bind fun v26 =>
 some (0, [v26], g24.2.2))
 (some (0, [skipV], g24.2.2))).bind fun g27 =>
 (aPick v25 (g27.2.1.getD 0 .undef) (.bool false)).bind fun v28 =>
 (guardV v28 true
 ((call 36 [r17.1] g27.2.2).bind fun r29 =>
 (aBin .eql .plain r29.1 (.int .i64 1)).bind fun v30 =>
 some (0, [v30], r29.2))
 (some (0, [skipV], g27.2.2))).bind fun g31 =>
 (aPick v28 (g31.2.1.getD 0 .undef) (.bool false)).bind fun v32 =>
 (guardV v32 true
 ((call 35 [r17.1] g31.2.2).bind fun r33 =>
 (aUn .not r33.1).bind fun v34 =>
 some (0, [v34], r33.2))
 (some (0, [skipV], g31.2.2))).bind fun g35 =>
 (aPick v32 (g35.2.1.getD 0 .undef) (.bool false)).bind fun v36 =>
 (guardV v36 true
 ((call 33 [r1.1, (.int .i64 0)] g35.2.2).bind fun r37 =>
 (aLen false r37.1).bind fun v38 =>
 (aBin .eql .plain v38 (.int .i64 1)).bind fun v39 =>
 some (0, [v39], r37.2))
 (some (0, [skipV], g35.2.2))).bind fun g40 =>
 (aPick v36 (g40.2.1.getD 0 .undef) (.bool false)).bind fun v41 =>
 (guardV v41 true
 ((call 22 [] g40.2.2).bind fun r42 =>
 some (0, [r42.1], r42.2))
 (some (0, [skipV], g40.2.2))).bind fun g43 =>
 (aPick v41 (g43.2.1.getD 0 .undef) (.bool false)).bind fun v44 =>
 some (0, [v44], g43.2.2) else none)
theorem run14 (call : Go.Fw.Call) (a0 : AVal) (h : Heap) : runFn call (.code A14) [a0] h = (S14 call a0 h).bind ansOf := by kernel_rfl
end Abs
open Abs
noncomputable abbrev tblE : Nat → Option AFn := fun f => tblA.get f
theorem t17 : tblE 17 = some (.code A17) := by kernel_rfl
theorem t14 : tblE 14 = some (.code A14) := by kernel_rfl
theorem at_int {n : Nat} (h : okR (kS tblS 100 14 [.int .i64 (.ofNat n)] T0) = true) : ∃ h', E tblE 14 [.int .i64 (.ofNat n)] emptyHeap = some (.bool true, h') := by
  obtain ⟨h', e⟩ := ran tbl_is h 0
  rw [repL_cons, repL_nil, rep_int] at e
  exact ⟨h', e⟩
theorem S14_id (a : Int) (h : Heap) : S14 (E tblE) (.int .i64 a) h = S14 (E tblE) (.int .i64 (wn a 7)) h := by
  unfold S14
  simp only [within t17 _ 7 (by omega) (by omega), wn_wn _ 7 (by omega)]
theorem E14_id (a : Int) : E tblE 14 [.int .i64 a] emptyHeap = E tblE 14 [.int .i64 (wn a 7)] emptyHeap := by
  rw [E_eq, E_eq, t14]
  simp only
  rw [run14, run14, S14_id]
theorem run_0 : okR (kS tblS 100 14 [.int .i64 (.ofNat 0)] T0) = true := by decide +kernel
theorem run_1 : okR (kS tblS 100 14 [.int .i64 (.ofNat 1)] T0) = true := by decide +kernel
theorem run_2 : okR (kS tblS 100 14 [.int .i64 (.ofNat 2)] T0) = true := by decide +kernel
theorem run_3 : okR (kS tblS 100 14 [.int .i64 (.ofNat 3)] T0) = true := by decide +kernel
theorem run_4 : okR (kS tblS 100 14 [.int .i64 (.ofNat 4)] T0) = true := by decide +kernel
theorem run_5 : okR (kS tblS 100 14 [.int .i64 (.ofNat 5)] T0) = true := by decide +kernel
theorem run_6 : okR (kS tblS 100 14 [.int .i64 (.ofNat 6)] T0) = true := by decide +kernel
theorem run_7 : okR (kS tblS 100 14 [.int .i64 (.ofNat 7)] T0) = true := by decide +kernel
theorem all_ints (n : Nat) (hn : n ≤ 7) : ∃ h', E tblE 14 [.int .i64 (.ofNat n)] emptyHeap = some (.bool true, h') := by
  match n, hn with
  | 0, _ => exact at_int run_0
  | 1, _ => exact at_int run_1
  | 2, _ => exact at_int run_2
  | 3, _ => exact at_int run_3
  | 4, _ => exact at_int run_4
  | 5, _ => exact at_int run_5
  | 6, _ => exact at_int run_6
  | 7, _ => exact at_int run_7
  | n + 8, h => omega
theorem topLateL (a : Int) : ∃ h', E tblE 14 [.int .i64 a] emptyHeap = some (.bool true, h') := by
  rw [E14_id]
  obtain ⟨n, hn, hle⟩ := wn_nat a 7
  have hn : wn a 7 = .ofNat n := hn
  rw [hn]
  exact all_ints n hle
end Go.Proofs.YtinkiihdnepfjaaGreatDoor.Code
