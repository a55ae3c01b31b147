/- runs -/
import Derived.Test.YtinkiihdnepfjaaGreatDoorTb10
import Derived.Test.YtinkiihdnepfjaaGreatDoorWn
set_option linter.unusedSimpArgs false
set_option linter.unusedVariables false
set_option maxRecDepth 1000000
namespace Go.Proofs.YtinkiihdnepfjaaGreatDoor.Code
open Go.Fw Go.Fw.K
namespace Abs
noncomputable def S10 (call : Go.Fw.Call) (a0 : AVal) (h : Heap) : Option J :=
 (call 23 [(.int .i64 1), (.int .i64 1)] h).bind fun r1 =>
 (aBin .eql .ptr r1.1 (.nilPtr)).bind fun v2 =>
 (guardV v2 false
 ((aBin .and .plain a0 (.int .i64 255)).bind fun v3 =>
 (aBin .add .plain (.int .i64 1) v3).bind fun v4 =>
 (aFill [.int .i64 0, .int .i64 0, .int .i64 0, .int .i64 0, .int .i64 0, .int .i64 0, .str []] [(0, 1, (.int .i64 8)), (1, 1, (.int .i64 1)), (3, 1, (.int .i64 1)), (5, 1, v4), (4, 1, (.int .i64 1))]).bind fun c5 =>
 (aFill [.int .i64 0, .int .i64 0, .int .i64 0, .int .i64 0, .int .i64 0, .int .i64 0, .str []] [(0, 1, (.int .i64 1)), (1, 1, (.int .i64 1)), (5, 1, (.int .i64 1))]).bind fun c6 =>
 (aFill [.int .i64 0, .int .i64 0, .int .i64 0, .int .i64 0, .int .i64 0, .int .i64 0, .str []] [(0, 1, (.int .i64 4))]).bind fun c7 =>
 (aFill [.int .i64 0, .int .i64 0, .int .i64 0, .int .i64 0, .int .i64 0, .int .i64 0, .str []] [(0, 1, (.int .i64 2))]).bind fun c8 =>
 (aFill [.int .i64 0, .int .i64 0, .int .i64 0, .int .i64 0, .int .i64 0, .int .i64 0, .str []] [(0, 1, (.int .i64 2))]).bind fun c9 =>
 (aFill (reps [.int .i64 0, .int .i64 0, .int .i64 0, .int .i64 0, .int .i64 0, .int .i64 0, .str []] 5) [(0, 7, (.agg c5)), (7, 7, (.agg c6)), (14, 7, (.agg c7)), (21, 7, (.agg c8)), (28, 7, (.agg c9))]).bind fun c10 =>
 (call 18 [r1.1, (.slice r1.2.next 0 5 5 7 true)] (r1.2.alloc c10)).bind fun r11 =>
 (aUn .not r11.1).bind fun v12 =>
 some (0, [v12], r11.2))
 (some (0, [skipV], r1.2))).bind fun g13 =>
 (aPick v2 (.bool true) (g13.2.1.getD 0 .undef)).bind fun v14 =>
 condV v14
 (some (0, [(.bool false)], g13.2.2))
 ((aFill [.int .i64 0, .int .i64 0, .int .i64 0, .int .i64 0, .int .i64 0, .int .i64 0, .str []] [(0, 1, (.int .i64 2))]).bind fun c15 =>
 (call 24 [r1.1, (.agg c15)] g13.2.2).bind fun r16 =>
 (aFill [.int .i64 0, .int .i64 0, .int .i64 0, .int .i64 0, .int .i64 0, .int .i64 0, .str []] [(0, 1, (.int .i64 2))]).bind fun c17 =>
 (call 24 [r1.1, (.agg c17)] r16.2).bind fun r18 =>
 (aCells 5 r16.1).bind fun c19 =>
 bif Nat.ble ((0) + 5) (List.length (α := AVal) [.int .i64 0, .int .i64 0, .int .i64 0, .nilSlice, .int .i64 0]) then (aCells 5 r18.1).bind fun c20 =>
 bif Nat.ble ((0) + 5) (List.length (α := AVal) [.int .i64 0, .int .i64 0, .int .i64 0, .nilSlice, .int .i64 0]) then (rdL (splice [.int .i64 0, .int .i64 0, .int .i64 0, .nilSlice, .int .i64 0] (0) c19) 0 1).bind fun c21 =>
 (fromCells false c21).bind fun v22 =>
 (aBin .eql .plain v22 (.int .i64 0)).bind fun v23 =>
 (guardV v23 true
 ((rdL (splice [.int .i64 0, .int .i64 0, .int .i64 0, .nilSlice, .int .i64 0] (0) c19) 2 1).bind fun c24 =>
 (fromCells false c24).bind fun v25 =>
 (aBin .eql .plain v25 (.int .i64 0)).bind fun v26 =>
 some (0, [v26], r18.2))
 (some (0, [skipV], r18.2))).bind fun g27 =>
 (aPick v23 (g27.2.1.getD 0 .undef) (.bool false)).bind fun v28 =>
 (guardV v28 true
 ((rdL (splice [.int .i64 0, .int .i64 0, .int .i64 0, .nilSlice, .int .i64 0] (0) c20) 0 1).bind fun c29 =>
 (fromCells false c29).bind fun v30 =>
 (aBin .eql .plain v30 (.int .i64 0)).bind fun v31 =>
 some (0, [v31], g27.2.2))
 (some (0, [skipV], g27.2.2))).bind fun g32 =>
 (aPick v28 (g32.2.1.getD 0 .undef) (.bool false)).bind fun v33 =>
 (guardV v33 true
 ((rdL (splice [.int .i64 0, .int .i64 0, .int .i64 0, .nilSlice, .int .i64 0] (0) c20) 2 1).bind fun c34 =>
 (fromCells false c34).bind fun v35 =>
 (aBin .eql .plain v35 (.int .i64 (-1))).bind fun v36 =>
 some (0, [v36], g32.2.2))
 (some (0, [skipV], g32.2.2))).bind fun g37 =>
 (aPick v33 (g37.2.1.getD 0 .undef) (.bool false)).bind fun v38 =>
 (guardV v38 true
 ((rdL (splice [.int .i64 0, .int .i64 0, .int .i64 0, .nilSlice, .int .i64 0] (0) c20) 4 1).bind fun c39 =>
 (fromCells false c39).bind fun v40 =>
 (aBin .eql .plain v40 (.int .i64 0)).bind fun v41 =>
 some (0, [v41], g37.2.2))
 (some (0, [skipV], g37.2.2))).bind fun g42 =>
 (aPick v38 (g42.2.1.getD 0 .undef) (.bool false)).bind fun v43 =>
 (guardV v43 true
 ((call 33 [r1.1, (.int .i64 0)] g42.2.2).bind fun r44 =>
 (aLen false r44.1).bind fun v45 =>
 (aBin .eql .plain v45 (.int .i64 1)).bind fun v46 =>
 some (0, [v46], r44.2))
 (some (0, [skipV], g42.2.2))).bind fun g47 =>
 (aPick v43 (g47.2.1.getD 0 .undef) (.bool false)).bind fun v48 =>
 (guardV v48 true
 ((call 22 [] g47.2.2).bind fun r49 =>
 some (0, [r49.1], r49.2))
 (some (0, [skipV], g47.2.2))).bind fun g50 =>
 (aPick v48 (g50.2.1.getD 0 .undef) (.bool false)).bind fun v51 =>
 some (0, [v51], g50.2.2) else none else none)
theorem run10 (call : Go.Fw.Call) (a0 : AVal) (h : Heap) : runFn call (.code A10) [a0] h = (S10 call a0 h).bind ansOf := by kernel_rfl
end Abs
open Abs
noncomputable abbrev tblE : Nat → Option AFn := fun f => tblA.get f
theorem t10 : tblE 10 = some (.code A10) := by kernel_rfl
theorem at_lane {a n : Nat} (h : okR (kS tblS 100 10 [.func VF (lanes a n)] T0) = true) (i : Nat) (hi : i < n) : ∃ h', E tblE 10 [.int .i64 (.ofNat (a + i))] emptyHeap = some (.bool true, h') := by
  obtain ⟨h', e⟩ := ran tbl_is h i
  rw [repL_cons, repL_nil, rep_lane a n i hi] at e
  exact ⟨h', e⟩
theorem run_0 : okR (kS tblS 100 10 [.func VF (lanes 0 64)] T0) = true := by decide +kernel
theorem run_1 : okR (kS tblS 100 10 [.func VF (lanes 64 64)] T0) = true := by decide +kernel
theorem run_2 : okR (kS tblS 100 10 [.func VF (lanes 128 64)] T0) = true := by decide +kernel
theorem run_3 : okR (kS tblS 100 10 [.func VF (lanes 192 64)] T0) = true := by decide +kernel
theorem all_lanes (n : Nat) (hn : n < 256) : ∃ h', E tblE 10 [.int .i64 (.ofNat n)] emptyHeap = some (.bool true, h') := by
  by_cases c0 : n < 64
  · have := at_lane run_0 (n - 0) (by omega)
    rwa [show 0 + (n - 0) = n by omega] at this
  · skip
    by_cases c1 : n < 128
    · have := at_lane run_1 (n - 64) (by omega)
      rwa [show 64 + (n - 64) = n by omega] at this
    · skip
      by_cases c2 : n < 192
      · have := at_lane run_2 (n - 128) (by omega)
        rwa [show 128 + (n - 128) = n by omega] at this
      · skip
        have := at_lane run_3 (n - 192) (by omega)
        rwa [show 192 + (n - 192) = n by omega] at this
theorem S10_id (a : Int) (h : Heap) : S10 (E tblE) (.int .i64 a) h = S10 (E tblE) (.int .i64 (a % 256)) h := by
  unfold S10
  rw [and_id]
theorem topTwiceL (a : Int) : ∃ h', E tblE 10 [.int .i64 a] emptyHeap = some (.bool true, h') := by
  have e : E tblE 10 [.int .i64 a] emptyHeap = E tblE 10 [.int .i64 (a % 256)] emptyHeap := by
    rw [E_eq, E_eq, t10]
    simp only
    rw [run10, run10, S10_id]
  rw [e]
  obtain ⟨n, hn⟩ : ∃ n : Nat, a % 256 = .ofNat n := ⟨(a % 256).toNat, by simp only [Int.ofNat_eq_natCast]; omega⟩
  rw [hn]
  exact all_lanes n (by simp only [Int.ofNat_eq_natCast] at hn; omega)
end Go.Proofs.YtinkiihdnepfjaaGreatDoor.Code
