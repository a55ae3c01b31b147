/- runs -/
import Derived.Test.YtinkiihdnepfjaaGreatDoorTb6
import Derived.Test.YtinkiihdnepfjaaGreatDoorWn
set_option linter.unusedSimpArgs false
set_option linter.unusedVariables false
set_option maxRecDepth 1000000
namespace Go.Proofs.YtinkiihdnepfjaaGreatDoor.Code
open Go.Fw Go.Fw.K
namespace Abs
noncomputable def L6_0 (call : Go.Fw.Call) (xs : List AVal) (h : Heap) : Option J :=
 (aBin .lss .plain (xs.getD 6 .undef) (xs.getD 5 .undef)).bind fun v24 =>
 condV v24
 ((aIaddr 1 (xs.getD 4 .undef) (xs.getD 6 .undef)).bind fun v25 =>
 (aLoad h 1 v25).bind fun c26 =>
 (fromCells false c26).bind fun v27 =>
 (call 21 [(xs.getD 1 .undef), (xs.getD 3 .undef), v27] h).bind fun r28 =>
 (aBin .add .plain (xs.getD 2 .undef) r28.1).bind fun v29 =>
 (aBin .add .plain (xs.getD 6 .undef) (.int .i64 1)).bind fun v30 =>
 some (0, [(xs.getD 0 .undef), (xs.getD 1 .undef), v29, (xs.getD 3 .undef), (xs.getD 4 .undef), (xs.getD 5 .undef), v30], r28.2))
 (some (1, [(xs.getD 0 .undef), (xs.getD 1 .undef), (xs.getD 2 .undef)], h))
noncomputable def S6 (call : Go.Fw.Call) (a0 a1 : AVal) (h : Heap) : Option J :=
 (call 17 [a0, (.int .i64 0), (.int .i64 3)] h).bind fun r1 =>
 (aBin .add .plain (.int .i64 2) r1.1).bind fun v2 =>
 (call 16 [v2, (.int .i64 900)] r1.2).bind fun r3 =>
 (aBin .sub .plain v2 (.int .i64 1)).bind fun v4 =>
 (call 17 [a1, (.int .i64 0), v4] r3.2).bind fun r5 =>
 (aBin .add .plain (.int .i64 1) r5.1).bind fun v6 =>
 (aBin .eql .ptr r3.1 (.nilPtr)).bind fun v7 =>
 (guardV v7 false
 ((aFill [.int .i64 0, .int .i64 0, .int .i64 0, .int .i64 0, .int .i64 0, .int .i64 0, .str []] [(0, 1, (.int .i64 8)), (1, 1, v6), (3, 1, (.int .i64 3))]).bind fun c8 =>
 (aFill (reps [.int .i64 0, .int .i64 0, .int .i64 0, .int .i64 0, .int .i64 0, .int .i64 0, .str []] 1) [(0, 7, (.agg c8))]).bind fun c9 =>
 (call 18 [r3.1, (.slice r5.2.next 0 1 1 7 true)] (r5.2.alloc c9)).bind fun r10 =>
 (aUn .not r10.1).bind fun v11 =>
 some (0, [v11], r10.2))
 (some (0, [skipV], r5.2))).bind fun g12 =>
 (aPick v7 (.bool true) (g12.2.1.getD 0 .undef)).bind fun v13 =>
 (guardV v13 false
 ((call 19 [r3.1, v6, (.int .i64 2)] g12.2.2).bind fun r14 =>
 (aUn .not r14.1).bind fun v15 =>
 some (0, [v15], r14.2))
 (some (0, [skipV], g12.2.2))).bind fun g16 =>
 (aPick v13 (.bool true) (g16.2.1.getD 0 .undef)).bind fun v17 =>
 condV v17
 (some (0, [(.bool false)], g16.2.2))
 ((aBin .rem .plain v6 v2).bind fun v18 =>
 (aBin .add .plain (.int .i64 1) v18).bind fun v19 =>
 (call 20 [r3.1, v19] g16.2.2).bind fun r20 =>
 (aUn .not r20.1).bind fun v21 =>
 condV v21
 (some (0, [(.bool false)], r20.2))
 ((aFill (reps [.str []] 3) [(0, 1, (.str [97, 112, 112, 48])), (1, 1, (.str [97, 112, 112, 49])), (2, 1, (.str [97, 112, 112, 50]))]).bind fun c22 =>
 (aLen false (.slice r20.2.next 0 3 3 1 true)).bind fun v23 =>
 (loop (L6_0 call) [v2, r3.1, (.int .i64 0), v19, (.slice r20.2.next 0 3 3 1 true), v23, (.int .i64 0)] (r20.2.alloc c22)).bind fun x31 =>
 bif Nat.beq x31.1 1 then (aBin .sub .plain (x31.2.1.getD 0 .undef) (.int .i64 1)).bind fun v32 =>
 (aBin .eql .plain (x31.2.1.getD 2 .undef) v32).bind fun v33 =>
 (guardV v33 true
 ((call 33 [(x31.2.1.getD 1 .undef), (.int .i64 0)] x31.2.2).bind fun r34 =>
 (aLen false r34.1).bind fun v35 =>
 (aBin .eql .plain v35 (x31.2.1.getD 0 .undef)).bind fun v36 =>
 some (0, [v36], r34.2))
 (some (0, [skipV], x31.2.2))).bind fun g37 =>
 (aPick v33 (g37.2.1.getD 0 .undef) (.bool false)).bind fun v38 =>
 (guardV v38 true
 ((call 22 [] g37.2.2).bind fun r39 =>
 some (0, [r39.1], r39.2))
 (some (0, [skipV], g37.2.2))).bind fun g40 =>
 (aPick v38 (g40.2.1.getD 0 .undef) (.bool false)).bind fun v41 =>
 some (0, [v41], g40.2.2) else
 none))
theorem run6 (call : Go.Fw.Call) (a0 a1 : AVal) (h : Heap) : runFn call (.code A6) [a0, a1] h = (S6 call a0 a1 h).bind ansOf := by kernel_rfl
end Abs
open Abs
noncomputable abbrev tblE : Nat → Option AFn := fun f => tblA.get f
theorem t17 : tblE 17 = some (.code A17) := by kernel_rfl
theorem t6 : tblE 6 = some (.code A6) := by kernel_rfl
theorem at_two {n m : Nat} (h : okR (kS tblS 100 6 [.int .i64 (.ofNat n), .int .i64 (.ofNat m)] T0) = true) : ∃ h', E tblE 6 [.int .i64 (.ofNat n), .int .i64 (.ofNat m)] emptyHeap = some (.bool true, h') := by
  obtain ⟨h', e⟩ := ran tbl_is h 0
  rw [repL_cons, repL_cons, repL_nil, rep_int, rep_int] at e
  exact ⟨h', e⟩
theorem run_0_0 : okR (kS tblS 100 6 [.int .i64 (.ofNat 0), .int .i64 (.ofNat 0)] T0) = true := by decide +kernel
theorem run_0_1 : okR (kS tblS 100 6 [.int .i64 (.ofNat 0), .int .i64 (.ofNat 1)] T0) = true := by decide +kernel
theorem run_1_0 : okR (kS tblS 100 6 [.int .i64 (.ofNat 1), .int .i64 (.ofNat 0)] T0) = true := by decide +kernel
theorem run_1_1 : okR (kS tblS 100 6 [.int .i64 (.ofNat 1), .int .i64 (.ofNat 1)] T0) = true := by decide +kernel
theorem run_1_2 : okR (kS tblS 100 6 [.int .i64 (.ofNat 1), .int .i64 (.ofNat 2)] T0) = true := by decide +kernel
theorem run_2_0 : okR (kS tblS 100 6 [.int .i64 (.ofNat 2), .int .i64 (.ofNat 0)] T0) = true := by decide +kernel
theorem run_2_1 : okR (kS tblS 100 6 [.int .i64 (.ofNat 2), .int .i64 (.ofNat 1)] T0) = true := by decide +kernel
theorem run_2_2 : okR (kS tblS 100 6 [.int .i64 (.ofNat 2), .int .i64 (.ofNat 2)] T0) = true := by decide +kernel
theorem run_2_3 : okR (kS tblS 100 6 [.int .i64 (.ofNat 2), .int .i64 (.ofNat 3)] T0) = true := by decide +kernel
theorem run_3_0 : okR (kS tblS 100 6 [.int .i64 (.ofNat 3), .int .i64 (.ofNat 0)] T0) = true := by decide +kernel
theorem run_3_1 : okR (kS tblS 100 6 [.int .i64 (.ofNat 3), .int .i64 (.ofNat 1)] T0) = true := by decide +kernel
theorem run_3_2 : okR (kS tblS 100 6 [.int .i64 (.ofNat 3), .int .i64 (.ofNat 2)] T0) = true := by decide +kernel
theorem run_3_3 : okR (kS tblS 100 6 [.int .i64 (.ofNat 3), .int .i64 (.ofNat 3)] T0) = true := by decide +kernel
theorem run_3_4 : okR (kS tblS 100 6 [.int .i64 (.ofNat 3), .int .i64 (.ofNat 4)] T0) = true := by decide +kernel
theorem all_two (n m : Nat) (hn : n ≤ 3) (hm : m ≤ n + 1) : ∃ h', E tblE 6 [.int .i64 (.ofNat n), .int .i64 (.ofNat m)] emptyHeap = some (.bool true, h') := by
  match n, m, hn, hm with
  | 0, 0, _, _ => exact at_two run_0_0
  | 0, 1, _, _ => exact at_two run_0_1
  | 0, m + 2, _, h => omega
  | 1, 0, _, _ => exact at_two run_1_0
  | 1, 1, _, _ => exact at_two run_1_1
  | 1, 2, _, _ => exact at_two run_1_2
  | 1, m + 3, _, h => omega
  | 2, 0, _, _ => exact at_two run_2_0
  | 2, 1, _, _ => exact at_two run_2_1
  | 2, 2, _, _ => exact at_two run_2_2
  | 2, 3, _, _ => exact at_two run_2_3
  | 2, m + 4, _, h => omega
  | 3, 0, _, _ => exact at_two run_3_0
  | 3, 1, _, _ => exact at_two run_3_1
  | 3, 2, _, _ => exact at_two run_3_2
  | 3, 3, _, _ => exact at_two run_3_3
  | 3, 4, _, _ => exact at_two run_3_4
  | 3, m + 5, _, h => omega
  | n + 4, _, h, _ => omega
theorem S6_id_0 (a b : Int) (e : wn a 3 = 0) (h : Heap) : S6 (E tblE) (.int .i64 a) (.int .i64 b) h = S6 (E tblE) (.int .i64 0) (.int .i64 (wn b 1)) h := by
  have w1 : IntKind.i64.wrap (2 + 0) = 2 := by decide
  have w2 : IntKind.i64.wrap (2 - 1) = 1 := by decide
  have e2 : wn 0 3 = 0 := by decide
  unfold S6
  simp only [within t17 _ 3 (by omega) (by omega), e, e2, Option.bind_some, bin_add, w1, bin_sub, w2, within t17 _ 1 (by omega) (by omega), wn_wn _ 1 (by omega)]
theorem S6_id_1 (a b : Int) (e : wn a 3 = 1) (h : Heap) : S6 (E tblE) (.int .i64 a) (.int .i64 b) h = S6 (E tblE) (.int .i64 1) (.int .i64 (wn b 2)) h := by
  have w1 : IntKind.i64.wrap (2 + 1) = 3 := by decide
  have w2 : IntKind.i64.wrap (3 - 1) = 2 := by decide
  have e2 : wn 1 3 = 1 := by decide
  unfold S6
  simp only [within t17 _ 3 (by omega) (by omega), e, e2, Option.bind_some, bin_add, w1, bin_sub, w2, within t17 _ 2 (by omega) (by omega), wn_wn _ 2 (by omega)]
theorem S6_id_2 (a b : Int) (e : wn a 3 = 2) (h : Heap) : S6 (E tblE) (.int .i64 a) (.int .i64 b) h = S6 (E tblE) (.int .i64 2) (.int .i64 (wn b 3)) h := by
  have w1 : IntKind.i64.wrap (2 + 2) = 4 := by decide
  have w2 : IntKind.i64.wrap (4 - 1) = 3 := by decide
  have e2 : wn 2 3 = 2 := by decide
  unfold S6
  simp only [within t17 _ 3 (by omega) (by omega), e, e2, Option.bind_some, bin_add, w1, bin_sub, w2, within t17 _ 3 (by omega) (by omega), wn_wn _ 3 (by omega)]
theorem S6_id_3 (a b : Int) (e : wn a 3 = 3) (h : Heap) : S6 (E tblE) (.int .i64 a) (.int .i64 b) h = S6 (E tblE) (.int .i64 3) (.int .i64 (wn b 4)) h := by
  have w1 : IntKind.i64.wrap (2 + 3) = 5 := by decide
  have w2 : IntKind.i64.wrap (5 - 1) = 4 := by decide
  have e2 : wn 3 3 = 3 := by decide
  unfold S6
  simp only [within t17 _ 3 (by omega) (by omega), e, e2, Option.bind_some, bin_add, w1, bin_sub, w2, within t17 _ 4 (by omega) (by omega), wn_wn _ 4 (by omega)]
theorem E6_id (a b a' b' : Int) (h : ∀ h, S6 (E tblE) (.int .i64 a) (.int .i64 b) h = S6 (E tblE) (.int .i64 a') (.int .i64 b') h) : E tblE 6 [.int .i64 a, .int .i64 b] emptyHeap = E tblE 6 [.int .i64 a', .int .i64 b'] emptyHeap := by
  rw [E_eq, E_eq, t6]
  simp only
  rw [run6, run6, h]
theorem topLeavesL (a b : Int) : ∃ h', E tblE 6 [.int .i64 a, .int .i64 b] emptyHeap = some (.bool true, h') := by
  obtain ⟨h2, h3⟩ := wn_le a 3 (by omega)
  by_cases e0 : wn a 3 = 0
  · rw [E6_id a b _ _ (S6_id_0 a b e0)]
    obtain ⟨m, hm, hle⟩ := wn_nat b 1
    have hm : wn b 1 = .ofNat m := hm
    rw [hm]
    exact all_two 0 m (by omega) hle
  by_cases e1 : wn a 3 = 1
  · rw [E6_id a b _ _ (S6_id_1 a b e1)]
    obtain ⟨m, hm, hle⟩ := wn_nat b 2
    have hm : wn b 2 = .ofNat m := hm
    rw [hm]
    exact all_two 1 m (by omega) hle
  by_cases e2 : wn a 3 = 2
  · rw [E6_id a b _ _ (S6_id_2 a b e2)]
    obtain ⟨m, hm, hle⟩ := wn_nat b 3
    have hm : wn b 3 = .ofNat m := hm
    rw [hm]
    exact all_two 2 m (by omega) hle
  by_cases e3 : wn a 3 = 3
  · rw [E6_id a b _ _ (S6_id_3 a b e3)]
    obtain ⟨m, hm, hle⟩ := wn_nat b 4
    have hm : wn b 4 = .ofNat m := hm
    rw [hm]
    exact all_two 3 m (by omega) hle
  omega
end Go.Proofs.YtinkiihdnepfjaaGreatDoor.Code
