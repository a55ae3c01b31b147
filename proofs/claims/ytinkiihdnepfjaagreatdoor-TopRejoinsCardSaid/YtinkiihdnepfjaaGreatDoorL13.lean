/- runs -/
import Derived.Test.YtinkiihdnepfjaaGreatDoorTb13
import Derived.Test.YtinkiihdnepfjaaGreatDoorWn
set_option linter.unusedSimpArgs false
set_option linter.unusedVariables false
set_option maxRecDepth 1000000
namespace Go.Proofs.YtinkiihdnepfjaaGreatDoor.Code
open Go.Fw Go.Fw.K
namespace Abs
noncomputable def S13 (call : Go.Fw.Call) (a0 : AVal) (h : Heap) : Option J :=
 (call 17 [a0, (.int .i64 0), (.int .i64 200)] h).bind fun r1 =>
 (aBin .add .plain (.int .i64 100) r1.1).bind fun v2 =>
 (call 16 [(.int .i64 1), v2] r1.2).bind fun r3 =>
 (aBin .eql .ptr r3.1 (.nilPtr)).bind fun v4 =>
 (guardV v4 false
 ((aFill [.int .i64 0, .int .i64 0, .int .i64 0, .int .i64 0, .int .i64 0, .int .i64 0, .str []] [(0, 1, (.int .i64 7)), (1, 1, (.int .i64 0))]).bind fun c5 =>
 (aFill (reps [.int .i64 0, .int .i64 0, .int .i64 0, .int .i64 0, .int .i64 0, .int .i64 0, .str []] 1) [(0, 7, (.agg c5))]).bind fun c6 =>
 (call 18 [r3.1, (.slice r3.2.next 0 1 1 7 true)] (r3.2.alloc c6)).bind fun r7 =>
 (aUn .not r7.1).bind fun v8 =>
 some (0, [v8], r7.2))
 (some (0, [skipV], r3.2))).bind fun g9 =>
 (aPick v4 (.bool true) (g9.2.1.getD 0 .undef)).bind fun v10 =>
 (guardV v10 false
 ((call 33 [r3.1, (.int .i64 0)] g9.2.2).bind fun r11 =>
 (aLen false r11.1).bind fun v12 =>
 (aBin .neq .plain v12 (.int .i64 0)).bind fun v13 =>
 some (0, [v13], r11.2))
 (some (0, [skipV], g9.2.2))).bind fun g14 =>
 (aPick v10 (.bool true) (g14.2.1.getD 0 .undef)).bind fun v15 =>
 (guardV v15 false
 ((call 19 [r3.1, (.int .i64 1), (.int .i64 20)] g14.2.2).bind fun r16 =>
 (aUn .not r16.1).bind fun v17 =>
 some (0, [v17], r16.2))
 (some (0, [skipV], g14.2.2))).bind fun g18 =>
 (aPick v15 (.bool true) (g18.2.1.getD 0 .undef)).bind fun v19 =>
 condV v19
 (some (0, [(.bool false)], g18.2.2))
 ((call 33 [r3.1, (.int .i64 0)] g18.2.2).bind fun r20 =>
 (aLen false r20.1).bind fun v21 =>
 (aBin .eql .plain v21 (.int .i64 1)).bind fun v22 =>
 (guardV v22 true
 ((aIaddr 9 r20.1 (.int .i64 0)).bind fun v23 =>
 (aFaddr 8 v23).bind fun v24 =>
 (aLoad r20.2 1 v24).bind fun c25 =>
 (fromCells false c25).bind fun v26 =>
 (aUn .not v26).bind fun v27 =>
 some (0, [v27], r20.2))
 (some (0, [skipV], r20.2))).bind fun g28 =>
 (aPick v22 (g28.2.1.getD 0 .undef) (.bool false)).bind fun v29 =>
 (guardV v29 true
 ((call 34 [r3.1, (.int .i64 0)] g28.2.2).bind fun r30 =>
 (aBin .neq .ptr r30.1 (.nilPtr)).bind fun v31 =>
 some (0, [v31], r30.2))
 (some (0, [skipV], g28.2.2))).bind fun g32 =>
 (aPick v29 (g32.2.1.getD 0 .undef) (.bool false)).bind fun v33 =>
 (guardV v33 true
 ((call 34 [r3.1, (.int .i64 0)] g32.2.2).bind fun r34 =>
 (call 35 [r34.1] r34.2).bind fun r35 =>
 some (0, [r35.1], r35.2))
 (some (0, [skipV], g32.2.2))).bind fun g36 =>
 (aPick v33 (g36.2.1.getD 0 .undef) (.bool false)).bind fun v37 =>
 (guardV v37 true
 ((call 22 [] g36.2.2).bind fun r38 =>
 some (0, [r38.1], r38.2))
 (some (0, [skipV], g36.2.2))).bind fun g39 =>
 (aPick v37 (g39.2.1.getD 0 .undef) (.bool false)).bind fun v40 =>
 some (0, [v40], g39.2.2))
theorem run13 (call : Go.Fw.Call) (a0 : AVal) (h : Heap) : runFn call (.code A13) [a0] h = (S13 call a0 h).bind ansOf := by kernel_rfl
end Abs
open Abs
noncomputable abbrev tblE : Nat → Option AFn := fun f => tblA.get f
theorem t17 : tblE 17 = some (.code A17) := by kernel_rfl
theorem t13 : tblE 13 = some (.code A13) := by kernel_rfl
theorem at_lane {a n : Nat} (h : okR (kS tblS 100 13 [.func VF (lanes a n)] T0) = true) (i : Nat) (hi : i < n) : ∃ h', E tblE 13 [.int .i64 (.ofNat (a + i))] emptyHeap = some (.bool true, h') := by
  obtain ⟨h', e⟩ := ran tbl_is h i
  rw [repL_cons, repL_nil, rep_lane a n i hi] at e
  exact ⟨h', e⟩
theorem S13_id (a : Int) (h : Heap) : S13 (E tblE) (.int .i64 a) h = S13 (E tblE) (.int .i64 (wn a 200)) h := by
  unfold S13
  simp only [within t17 _ 200 (by omega) (by omega), wn_wn _ 200 (by omega)]
theorem E13_id (a : Int) : E tblE 13 [.int .i64 a] emptyHeap = E tblE 13 [.int .i64 (wn a 200)] emptyHeap := by
  rw [E_eq, E_eq, t13]
  simp only
  rw [run13, run13, S13_id]
theorem run_0 : okR (kS tblS 100 13 [.func VF (lanes 0 51)] T0) = true := by decide +kernel
theorem run_1 : okR (kS tblS 100 13 [.func VF (lanes 51 50)] T0) = true := by decide +kernel
theorem run_2 : okR (kS tblS 100 13 [.func VF (lanes 101 50)] T0) = true := by decide +kernel
theorem run_3 : okR (kS tblS 100 13 [.func VF (lanes 151 50)] T0) = true := by decide +kernel
theorem all_lanes (n : Nat) (hn : n < 201) : ∃ h', E tblE 13 [.int .i64 (.ofNat n)] emptyHeap = some (.bool true, h') := by
  by_cases c0 : n < 51
  · have := at_lane run_0 (n - 0) (by omega)
    rwa [show 0 + (n - 0) = n by omega] at this
  · skip
    by_cases c1 : n < 101
    · have := at_lane run_1 (n - 51) (by omega)
      rwa [show 51 + (n - 51) = n by omega] at this
    · skip
      by_cases c2 : n < 151
      · have := at_lane run_2 (n - 101) (by omega)
        rwa [show 101 + (n - 101) = n by omega] at this
      · skip
        have := at_lane run_3 (n - 151) (by omega)
        rwa [show 151 + (n - 151) = n by omega] at this
theorem topRejoinsL (a : Int) : ∃ h', E tblE 13 [.int .i64 a] emptyHeap = some (.bool true, h') := by
  rw [E13_id]
  obtain ⟨n, hn, hle⟩ := wn_nat a 200
  have hn : wn a 200 = .ofNat n := hn
  rw [hn]
  exact all_lanes n (by omega)
end Go.Proofs.YtinkiihdnepfjaaGreatDoor.Code
