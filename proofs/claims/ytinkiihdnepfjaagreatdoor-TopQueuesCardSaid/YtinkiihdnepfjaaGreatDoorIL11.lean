/- runs -/
import Derived.Test.YtinkiihdnepfjaaGreatDoorITb11
import Derived.Test.YtinkiihdnepfjaaGreatDoorIWn
set_option linter.unusedSimpArgs false
set_option linter.unusedVariables false
set_option maxRecDepth 1000000
namespace Go.Proofs.YtinkiihdnepfjaaGreatDoor.Code
open Go.Fw Go.Fw.K
namespace Abs
noncomputable def L11_0 (call : Go.Fw.Call) (xs : List AVal) (h : Heap) : Option J :=
 (aBin .lss .plain (xs.getD 2 .undef) (xs.getD 0 .undef)).bind fun v5 =>
 condV v5
 ((aBin .add .plain (.int .i64 2) (xs.getD 2 .undef)).bind fun v6 =>
 (aFill [.int .i64 0, .int .i64 0, .int .i64 0, .int .i64 0, .int .i64 0, .int .i64 0, .str []] [(0, 1, (.int .i64 8)), (1, 1, v6), (3, 1, (.int .i64 1)), (5, 1, (.int .i64 500)), (4, 1, (.int .i64 1))]).bind fun c7 =>
 (aFill (reps [.int .i64 0, .int .i64 0, .int .i64 0, .int .i64 0, .int .i64 0, .int .i64 0, .str []] 1) [(0, 7, (.agg c7))]).bind fun c8 =>
 (call 18 [(xs.getD 1 .undef), (.slice h.next 0 1 1 7 true)] (h.alloc c8)).bind fun r9 =>
 (aUn .not r9.1).bind fun v10 =>
 (guardV v10 false
 ((aBin .add .plain (.int .i64 2) (xs.getD 2 .undef)).bind fun v11 =>
 (call 19 [(xs.getD 1 .undef), v11, (.int .i64 1)] r9.2).bind fun r12 =>
 (aUn .not r12.1).bind fun v13 =>
 some (0, [v13], r12.2))
 (some (0, [skipV], r9.2))).bind fun g14 =>
 (aPick v10 (.bool true) (g14.2.1.getD 0 .undef)).bind fun v15 =>
 condV v15
 (some (2, [(.bool false)], g14.2.2))
 ((aBin .add .plain (xs.getD 2 .undef) (.int .i64 1)).bind fun v16 =>
 some (0, [(xs.getD 0 .undef), (xs.getD 1 .undef), v16], g14.2.2)))
 (some (1, [(xs.getD 0 .undef), (xs.getD 1 .undef)], h))
noncomputable def S11 (call : Go.Fw.Call) (a0 : AVal) (h : Heap) : Option J :=
 (call 17 [a0, (.int .i64 0), (.int .i64 2)] h).bind fun r1 =>
 (aBin .add .plain (.int .i64 1) r1.1).bind fun v2 =>
 (call 23 [(.int .i64 2), (.int .i64 3)] r1.2).bind fun r3 =>
 (aBin .eql .ptr r3.1 (.nilPtr)).bind fun v4 =>
 condV v4
 (some (0, [(.bool false)], r3.2))
 ((loop (L11_0 call) [v2, r3.1, (.int .i64 0)] r3.2).bind fun x17 =>
 bif Nat.beq x17.1 1 then (call 19 [(x17.2.1.getD 1 .undef), (.int .i64 0), (.int .i64 1)] x17.2.2).bind fun r18 =>
 (aUn .not r18.1).bind fun v19 =>
 (guardV v19 false
 ((call 19 [(x17.2.1.getD 1 .undef), (.int .i64 1), (.int .i64 1)] r18.2).bind fun r20 =>
 (aUn .not r20.1).bind fun v21 =>
 some (0, [v21], r20.2))
 (some (0, [skipV], r18.2))).bind fun g22 =>
 (aPick v19 (.bool true) (g22.2.1.getD 0 .undef)).bind fun v23 =>
 condV v23
 (some (0, [(.bool false)], g22.2.2))
 ((call 33 [(x17.2.1.getD 1 .undef), (.int .i64 0)] g22.2.2).bind fun r24 =>
 (call 33 [(x17.2.1.getD 1 .undef), (.int .i64 1)] r24.2).bind fun r25 =>
 (call 31 [r24.1, r25.1] r25.2).bind fun r26 =>
 (guardV r26.1 true
 ((call 33 [(x17.2.1.getD 1 .undef), (.int .i64 0)] r26.2).bind fun r27 =>
 (aLen false r27.1).bind fun v28 =>
 (aBin .eql .plain v28 (x17.2.1.getD 0 .undef)).bind fun v29 =>
 some (0, [v29], r27.2))
 (some (0, [skipV], r26.2))).bind fun g30 =>
 (aPick r26.1 (g30.2.1.getD 0 .undef) (.bool false)).bind fun v31 =>
 (guardV v31 true
 ((call 22 [] g30.2.2).bind fun r32 =>
 some (0, [r32.1], r32.2))
 (some (0, [skipV], g30.2.2))).bind fun g33 =>
 (aPick v31 (g33.2.1.getD 0 .undef) (.bool false)).bind fun v34 =>
 some (0, [v34], g33.2.2)) else
 bif Nat.beq x17.1 2 then some (0, [(x17.2.1.getD 0 .undef)], x17.2.2) else
 none)
theorem run11 (call : Go.Fw.Call) (a0 : AVal) (h : Heap) : runFn call (.code A11) [a0] h = (S11 call a0 h).bind ansOf := by kernel_rfl
end Abs
noncomputable abbrev tblE : Nat → Option AFn := fun f => tblA.get f
theorem t17 : tblE 17 = some (.code A17) := by kernel_rfl
theorem t11 : tblE 11 = some (.code A11) := by kernel_rfl
theorem at_int {n : Nat} (h : okR (kS tblS 100 11 [.int .i64 (.ofNat n)] T0) = true) : ∃ h', E tblE 11 [.int .i64 (.ofNat n)] emptyHeap = some (.bool true, h') := by
  obtain ⟨h', e⟩ := ran tbl_is h 0
  rw [repL_cons, repL_nil, rep_int] at e
  exact ⟨h', e⟩
theorem S11_id (a : Int) (h : Heap) : Abs.S11 (E tblE) (.int .i64 a) h = Abs.S11 (E tblE) (.int .i64 (wn a 2)) h := by
  unfold Abs.S11
  simp only [within t17 _ 2 (by omega) (by omega), wn_wn _ 2 (by omega)]
theorem E11_id (a : Int) : E tblE 11 [.int .i64 a] emptyHeap = E tblE 11 [.int .i64 (wn a 2)] emptyHeap := by
  rw [E_eq, E_eq, t11]
  simp only
  rw [Abs.run11, Abs.run11, S11_id]
theorem run_0 : okR (kS tblS 100 11 [.int .i64 (.ofNat 0)] T0) = true := by decide +kernel
theorem run_1 : okR (kS tblS 100 11 [.int .i64 (.ofNat 1)] T0) = true := by decide +kernel
theorem run_2 : okR (kS tblS 100 11 [.int .i64 (.ofNat 2)] T0) = true := by decide +kernel
theorem all_ints (n : Nat) (hn : n ≤ 2) : ∃ h', E tblE 11 [.int .i64 (.ofNat n)] emptyHeap = some (.bool true, h') := by
  match n, hn with
  | 0, _ => exact at_int run_0
  | 1, _ => exact at_int run_1
  | 2, _ => exact at_int run_2
  | n + 3, h => omega
theorem topQueuesL (a : Int) : ∃ h', E tblE 11 [.int .i64 a] emptyHeap = some (.bool true, h') := by
  rw [E11_id]
  obtain ⟨n, hn, hle⟩ := wn_nat a 2
  have hn : wn a 2 = .ofNat n := hn
  rw [hn]
  exact all_ints n hle
end Go.Proofs.YtinkiihdnepfjaaGreatDoor.Code
