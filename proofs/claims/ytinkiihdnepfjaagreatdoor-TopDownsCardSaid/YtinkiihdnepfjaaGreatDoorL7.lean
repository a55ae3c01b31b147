/- runs -/
import Derived.Test.YtinkiihdnepfjaaGreatDoorTb7
import Derived.Test.YtinkiihdnepfjaaGreatDoorWn
set_option linter.unusedSimpArgs false
set_option linter.unusedVariables false
set_option maxRecDepth 1000000
namespace Go.Proofs.YtinkiihdnepfjaaGreatDoor.Code
open Go.Fw Go.Fw.K
noncomputable def S7 (call : Go.Fw.Call) (a0 : AVal) (h : Heap) : Option J :=
 (call 17 [a0, (.int .i64 0), (.int .i64 99)] h).bind fun r1 =>
 (aBin .add .plain (.int .i64 100) r1.1).bind fun v2 =>
 (call 16 [(.int .i64 1), v2] r1.2).bind fun r3 =>
 (aBin .eql .ptr r3.1 (.nilPtr)).bind fun v4 =>
 (guardV v4 false
 ((aFill [.int .i64 0, .int .i64 0, .int .i64 0, .int .i64 0, .int .i64 0, .int .i64 0, .str []] [(0, 1, (.int .i64 8)), (1, 1, (.int .i64 1)), (3, 1, (.int .i64 1)), (5, 1, v2), (4, 1, (.int .i64 2))]).bind fun c5 =>
 (aFill (reps [.int .i64 0, .int .i64 0, .int .i64 0, .int .i64 0, .int .i64 0, .int .i64 0, .str []] 1) [(0, 7, (.agg c5))]).bind fun c6 =>
 (call 18 [r3.1, (.slice r3.2.next 0 1 1 7 true)] (r3.2.alloc c6)).bind fun r7 =>
 (aUn .not r7.1).bind fun v8 =>
 some (0, [v8], r7.2))
 (some (0, [skipV], r3.2))).bind fun g9 =>
 (aPick v4 (.bool true) (g9.2.1.getD 0 .undef)).bind fun v10 =>
 (guardV v10 false
 ((call 19 [r3.1, (.int .i64 1), (.int .i64 2)] g9.2.2).bind fun r11 =>
 (aUn .not r11.1).bind fun v12 =>
 some (0, [v12], r11.2))
 (some (0, [skipV], g9.2.2))).bind fun g13 =>
 (aPick v10 (.bool true) (g13.2.1.getD 0 .undef)).bind fun v14 =>
 (guardV v14 false
 ((call 20 [r3.1, (.int .i64 1)] g13.2.2).bind fun r15 =>
 (aUn .not r15.1).bind fun v16 =>
 some (0, [v16], r15.2))
 (some (0, [skipV], g13.2.2))).bind fun g17 =>
 (aPick v14 (.bool true) (g17.2.1.getD 0 .undef)).bind fun v18 =>
 condV v18
 (some (0, [(.bool false)], g17.2.2))
 ((call 21 [r3.1, (.int .i64 1), (.str [97, 112, 112, 48])] g17.2.2).bind fun r19 =>
 (aBin .neq .plain r19.1 (.int .i64 0)).bind fun v20 =>
 (guardV v20 false
 ((call 33 [r3.1, (.int .i64 0)] r19.2).bind fun r21 =>
 (aLen false r21.1).bind fun v22 =>
 (aBin .neq .plain v22 (.int .i64 1)).bind fun v23 =>
 some (0, [v23], r21.2))
 (some (0, [skipV], r19.2))).bind fun g24 =>
 (aPick v20 (.bool true) (g24.2.1.getD 0 .undef)).bind fun v25 =>
 condV v25
 (some (0, [(.bool false)], g24.2.2))
 ((aFill [.int .i64 0, .int .i64 0, .int .i64 0, .int .i64 0, .int .i64 0, .int .i64 0, .str []] [(0, 1, (.int .i64 8)), (1, 1, (.int .i64 1)), (3, 1, (.int .i64 1)), (5, 1, v2), (4, 1, (.int .i64 1))]).bind fun c26 =>
 (aFill (reps [.int .i64 0, .int .i64 0, .int .i64 0, .int .i64 0, .int .i64 0, .int .i64 0, .str []] 1) [(0, 7, (.agg c26))]).bind fun c27 =>
 (call 18 [r3.1, (.slice g24.2.2.next 0 1 1 7 true)] (g24.2.2.alloc c27)).bind fun r28 =>
 (guardV r28.1 true
 ((call 19 [r3.1, (.int .i64 1), (.int .i64 2)] r28.2).bind fun r29 =>
 some (0, [r29.1], r29.2))
 (some (0, [skipV], r28.2))).bind fun g30 =>
 (aPick r28.1 (g30.2.1.getD 0 .undef) (.bool false)).bind fun v31 =>
 (guardV v31 true
 ((call 20 [r3.1, (.int .i64 1)] g30.2.2).bind fun r32 =>
 some (0, [r32.1], r32.2))
 (some (0, [skipV], g30.2.2))).bind fun g33 =>
 (aPick v31 (g33.2.1.getD 0 .undef) (.bool false)).bind fun v34 =>
 (guardV v34 true
 ((call 21 [r3.1, (.int .i64 1), (.str [97, 112, 112, 48])] g33.2.2).bind fun r35 =>
 (aBin .eql .plain r35.1 (.int .i64 1)).bind fun v36 =>
 some (0, [v36], r35.2))
 (some (0, [skipV], g33.2.2))).bind fun g37 =>
 (aPick v34 (g37.2.1.getD 0 .undef) (.bool false)).bind fun v38 =>
 (guardV v38 true
 ((call 22 [] g37.2.2).bind fun r39 =>
 some (0, [r39.1], r39.2))
 (some (0, [skipV], g37.2.2))).bind fun g40 =>
 (aPick v38 (g40.2.1.getD 0 .undef) (.bool false)).bind fun v41 =>
 some (0, [v41], g40.2.2)))
theorem run7 (call : Go.Fw.Call) (a0 : AVal) (h : Heap) : runFn call (.code A7) [a0] h = (S7 call a0 h).bind ansOf := by kernel_rfl
theorem runA : okR (kS tblS 100 7 [.func VF (lanes 0 34)] T0) = true := by decide +kernel
theorem runB : okR (kS tblS 100 7 [.func VF (lanes 34 33)] T0) = true := by decide +kernel
theorem runC : okR (kS tblS 100 7 [.func VF (lanes 67 33)] T0) = true := by decide +kernel
noncomputable abbrev tblE : Nat → Option AFn := fun f => tblA.get f
theorem t17 : tblE 17 = some (.code A17) := by kernel_rfl
theorem t7 : tblE 7 = some (.code A7) := by kernel_rfl
theorem at_lane {a n : Nat} (h : okR (kS tblS 100 7 [.func VF (lanes a n)] T0) = true) (i : Nat) (hi : i < n) : ∃ h', E tblE 7 [.int .i64 (.ofNat (a + i))] emptyHeap = some (.bool true, h') := by
  obtain ⟨h', e⟩ := ran tbl_is h i
  rw [repL_cons, repL_nil, rep_lane a n i hi] at e
  exact ⟨h', e⟩
theorem S7_id (a : Int) (h : Heap) : S7 (E tblE) (.int .i64 a) h = S7 (E tblE) (.int .i64 (wn a 99)) h := by
  unfold S7
  rw [within_id t17 a 99 (by omega) (by omega)]
theorem topDownsL (a : Int) : ∃ h', E tblE 7 [.int .i64 a] emptyHeap = some (.bool true, h') := by
  have e : E tblE 7 [.int .i64 a] emptyHeap = E tblE 7 [.int .i64 (wn a 99)] emptyHeap := by
    rw [E_eq, E_eq, t7]
    simp only
    rw [run7, run7, S7_id]
  rw [e]
  obtain ⟨h2, h3⟩ := wn_le a 99 (by omega)
  obtain ⟨n, hn⟩ : ∃ n : Nat, wn a 99 = .ofNat n := ⟨(wn a 99).toNat, by simp only [Int.ofNat_eq_natCast]; omega⟩
  rw [hn] at h2 h3 ⊢
  have h4 : n ≤ 99 := by simp only [Int.ofNat_eq_natCast] at h3; omega
  by_cases c1 : n < 34
  · have := at_lane runA n c1; rwa [Nat.zero_add] at this
  · by_cases c2 : n < 67
    · have := at_lane runB (n - 34) (by omega); rwa [show 34 + (n - 34) = n by omega] at this
    · have := at_lane runC (n - 67) (by omega); rwa [show 67 + (n - 67) = n by omega] at this
end Go.Proofs.YtinkiihdnepfjaaGreatDoor.Code
