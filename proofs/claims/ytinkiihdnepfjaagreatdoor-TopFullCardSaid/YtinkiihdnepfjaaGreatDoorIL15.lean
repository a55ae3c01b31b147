/- runs -/
import Derived.Test.YtinkiihdnepfjaaGreatDoorITb15
import Derived.Test.YtinkiihdnepfjaaGreatDoorIWn
set_option linter.unusedSimpArgs false
set_option linter.unusedVariables false
set_option maxRecDepth 1000000
namespace Go.Proofs.YtinkiihdnepfjaaGreatDoor.Code
open Go.Fw Go.Fw.K
namespace Abs
noncomputable def L15_0 (call : Go.Fw.Call) (xs : List AVal) (h : Heap) : Option J :=
 (aBin .lss .plain (xs.getD 3 .undef) (.int .i64 32)).bind fun v7 =>
 condV v7
 ((call 38 [(xs.getD 3 .undef)] h).bind fun r8 =>
 (aBin .add .plain (.str [105]) r8.1).bind fun v9 =>
 (aFill [.str [], .str []] [(0, 1, (.str [120])), (1, 1, v9)]).bind fun c10 =>
 (aBin .and .plain (xs.getD 0 .undef) (.int .i64 255)).bind fun v11 =>
 (aFill [.int .i64 0, .int .i64 0, .int .i64 0] [(0, 1, v11), (2, 1, (xs.getD 3 .undef))]).bind fun c12 =>
 (aFill [.str [], .str [], .int .i64 0, .int .i64 0, .int .i64 0, .int .i64 0, .int .i64 0, .int .i64 0, .bool false] [(0, 2, (.agg c10)), (2, 1, (.int .i64 1)), (4, 1, (.int .i64 5000)), (5, 3, (.agg c12))]).bind fun c13 =>
 (aFill (reps [.str [], .str [], .int .i64 0, .int .i64 0, .int .i64 0, .int .i64 0, .int .i64 0, .int .i64 0, .bool false] 1) [(0, 9, (.agg c13))]).bind fun c14 =>
 (aAppend 9 88 [.str [], .str [], .int .i64 0, .int .i64 0, .int .i64 0, .int .i64 0, .int .i64 0, .int .i64 0, .bool false] false (xs.getD 2 .undef) (.slice r8.2.next 0 1 1 9 true) (r8.2.alloc c14)).bind fun r15 =>
 (aBin .add .plain (xs.getD 3 .undef) (.int .i64 1)).bind fun v16 =>
 some (0, [(xs.getD 0 .undef), (xs.getD 1 .undef), r15.1, v16], r15.2))
 (some (1, [(xs.getD 1 .undef), (xs.getD 2 .undef)], h))
noncomputable def S15 (call : Go.Fw.Call) (a0 : AVal) (h : Heap) : Option J :=
 (call 23 [(.int .i64 1), (.int .i64 1)] h).bind fun r1 =>
 (aBin .eql .ptr r1.1 (.nilPtr)).bind fun v2 =>
 (guardV v2 false
 ((call 37 [r1.1, (.int .i64 0)] r1.2).bind fun r3 =>
 (aBin .eql .ptr r3.1 (.nilPtr)).bind fun v4 =>
 some (0, [v4], r3.2))
 (some (0, [skipV], r1.2))).bind fun g5 =>
 (aPick v2 (.bool true) (g5.2.1.getD 0 .undef)).bind fun v6 =>
 condV v6
 (some (0, [(.bool false)], g5.2.2))
 ((loop (L15_0 call) [a0, r1.1, (.nilSlice), (.int .i64 0)] g5.2.2).bind fun x17 =>
 bif Nat.beq x17.1 1 then (call 37 [(x17.2.1.getD 0 .undef), (.int .i64 0)] x17.2.2).bind fun r18 =>
 (aFill [.int .i64 0, .int .i64 0, .int .i64 0, .int .i64 0, .int .i64 0, .int .i64 0, .int .i64 0, .str [], .str [], .bool false, .int .u32 0, .nilSlice, .nilSlice] [(0, 1, (.int .i64 3)), (11, 1, (x17.2.1.getD 1 .undef))]).bind fun c19 =>
 (call 30 [r18.1, (.int .i64 0), (.agg c19)] r18.2).bind fun r20 =>
 (aFill [.int .i64 0, .int .i64 0, .int .i64 0, .int .i64 0, .int .i64 0, .int .i64 0, .str []] [(0, 1, (.int .i64 8)), (1, 1, (.int .i64 1)), (3, 1, (.int .i64 1)), (5, 1, (.int .i64 50)), (4, 1, (.int .i64 1))]).bind fun c21 =>
 (aFill [.int .i64 0, .int .i64 0, .int .i64 0, .int .i64 0, .int .i64 0, .int .i64 0, .str []] [(0, 1, (.int .i64 1)), (1, 1, (.int .i64 1)), (5, 1, (.int .i64 1))]).bind fun c22 =>
 (aFill [.int .i64 0, .int .i64 0, .int .i64 0, .int .i64 0, .int .i64 0, .int .i64 0, .str []] [(0, 1, (.int .i64 2))]).bind fun c23 =>
 (aFill (reps [.int .i64 0, .int .i64 0, .int .i64 0, .int .i64 0, .int .i64 0, .int .i64 0, .str []] 3) [(0, 7, (.agg c21)), (7, 7, (.agg c22)), (14, 7, (.agg c23))]).bind fun c24 =>
 (call 18 [(x17.2.1.getD 0 .undef), (.slice r20.2.next 0 3 3 7 true)] (r20.2.alloc c24)).bind fun r25 =>
 (aUn .not r25.1).bind fun v26 =>
 condV v26
 (some (0, [(.bool false)], r25.2))
 ((aFill [.int .i64 0, .int .i64 0, .int .i64 0, .int .i64 0, .int .i64 0, .int .i64 0, .str []] [(0, 1, (.int .i64 2))]).bind fun c27 =>
 (call 24 [(x17.2.1.getD 0 .undef), (.agg c27)] r25.2).bind fun r28 =>
 (aCells 5 r28.1).bind fun c29 =>
 bif Nat.ble ((0) + 5) (List.length (α := AVal) [.int .i64 0, .int .i64 0, .int .i64 0, .nilSlice, .int .i64 0]) then (rdL (splice [.int .i64 0, .int .i64 0, .int .i64 0, .nilSlice, .int .i64 0] (0) c29) 2 1).bind fun c30 =>
 (fromCells false c30).bind fun v31 =>
 (aBin .eql .plain v31 (.int .i64 24)).bind fun v32 =>
 (guardV v32 true
 ((call 34 [(x17.2.1.getD 0 .undef), (.int .i64 0)] r28.2).bind fun r33 =>
 (aBin .neq .ptr r33.1 (.nilPtr)).bind fun v34 =>
 some (0, [v34], r33.2))
 (some (0, [skipV], r28.2))).bind fun g35 =>
 (aPick v32 (g35.2.1.getD 0 .undef) (.bool false)).bind fun v36 =>
 (guardV v36 true
 ((call 34 [(x17.2.1.getD 0 .undef), (.int .i64 0)] g35.2.2).bind fun r37 =>
 (call 35 [r37.1] r37.2).bind fun r38 =>
 (aUn .not r38.1).bind fun v39 =>
 some (0, [v39], r38.2))
 (some (0, [skipV], g35.2.2))).bind fun g40 =>
 (aPick v36 (g40.2.1.getD 0 .undef) (.bool false)).bind fun v41 =>
 (guardV v41 true
 ((call 33 [(x17.2.1.getD 0 .undef), (.int .i64 0)] g40.2.2).bind fun r42 =>
 (aLen false r42.1).bind fun v43 =>
 (aBin .eql .plain v43 (.int .i64 32)).bind fun v44 =>
 some (0, [v44], r42.2))
 (some (0, [skipV], g40.2.2))).bind fun g45 =>
 (aPick v41 (g45.2.1.getD 0 .undef) (.bool false)).bind fun v46 =>
 (guardV v46 true
 ((call 22 [] g45.2.2).bind fun r47 =>
 some (0, [r47.1], r47.2))
 (some (0, [skipV], g45.2.2))).bind fun g48 =>
 (aPick v46 (g48.2.1.getD 0 .undef) (.bool false)).bind fun v49 =>
 some (0, [v49], g48.2.2) else none) else
 none)
theorem run15 (call : Go.Fw.Call) (a0 : AVal) (h : Heap) : runFn call (.code A15) [a0] h = (S15 call a0 h).bind ansOf := by kernel_rfl
end Abs
noncomputable abbrev tblE : Nat → Option AFn := fun f => tblA.get f
theorem t15 : tblE 15 = some (.code A15) := by kernel_rfl
def condS {α : Type} (c : AVal) (a b : Option α) : Option α := match c with | .bool t => bif t then a else b | _ => none
theorem condV_eq (c : AVal) (a b : Option J) : condV c a b = condS c a b := by cases c <;> rfl
theorem condS_bind {α β : Type} (c : AVal) (a b : Option α) (f : α → Option β) : (condS c a b).bind f = condS c (a.bind f) (b.bind f) := by
  cases c with
  | bool t => cases t <;> rfl
  | _ => rfl
noncomputable def g15 (call : Go.Fw.Call) (v11 : AVal) (tl : List AVal) (h : Heap) : Option ((List AVal × Heap) ⊕ (List AVal × Heap)) :=
 (aBin .lss .plain (tl.getD 2 .undef) (.int .i64 32)).bind fun v7 =>
 condS v7
 ((call 38 [(tl.getD 2 .undef)] h).bind fun r8 =>
 (aBin .add .plain (.str [105]) r8.1).bind fun v9 =>
 (aFill [.str [], .str []] [(0, 1, (.str [120])), (1, 1, v9)]).bind fun c10 =>
 (aFill [.int .i64 0, .int .i64 0, .int .i64 0] [(0, 1, v11), (2, 1, (tl.getD 2 .undef))]).bind fun c12 =>
 (aFill [.str [], .str [], .int .i64 0, .int .i64 0, .int .i64 0, .int .i64 0, .int .i64 0, .int .i64 0, .bool false] [(0, 2, (.agg c10)), (2, 1, (.int .i64 1)), (4, 1, (.int .i64 5000)), (5, 3, (.agg c12))]).bind fun c13 =>
 (aFill (reps [.str [], .str [], .int .i64 0, .int .i64 0, .int .i64 0, .int .i64 0, .int .i64 0, .int .i64 0, .bool false] 1) [(0, 9, (.agg c13))]).bind fun c14 =>
 (aAppend 9 88 [.str [], .str [], .int .i64 0, .int .i64 0, .int .i64 0, .int .i64 0, .int .i64 0, .int .i64 0, .bool false] false (tl.getD 1 .undef) (.slice r8.2.next 0 1 1 9 true) (r8.2.alloc c14)).bind fun r15 =>
 (aBin .add .plain (tl.getD 2 .undef) (.int .i64 1)).bind fun v16 =>
 some (.inl ([(tl.getD 0 .undef), r15.1, v16], r15.2)))
 (some (.inr ([(tl.getD 0 .undef), (tl.getD 1 .undef)], h)))
def back (X : AVal) : (List AVal × Heap) ⊕ (List AVal × Heap) → Option J
  | .inl p => some (0, X :: p.1, p.2)
  | .inr p => some (1, p.1, p.2)
theorem L15_eq (call : Go.Fw.Call) {X c : AVal} (hX : aBin .and .plain X (.int .i64 255) = some c) (tl : List AVal) (h : Heap) : Abs.L15_0 call (X :: tl) h = (g15 call c tl h).bind (back X) := by
  unfold Abs.L15_0 g15
  simp only [List.getD_cons_zero, List.getD_cons_succ, hX, Option.bind_assoc, Option.bind_some, condS_bind, condV_eq]
  rfl
theorem iter15 (call : Go.Fw.Call) {X X' c : AVal} (hX : aBin .and .plain X (.int .i64 255) = some c) (hX' : aBin .and .plain X' (.int .i64 255) = some c) : ∀ (n : Nat) (tl : List AVal) (h : Heap), iter (Abs.L15_0 call) n (X :: tl) h = iter (Abs.L15_0 call) n (X' :: tl) h
  | 0, _, _ => rfl
  | n + 1, tl, h => by
    rw [iter, iter, L15_eq call hX, L15_eq call hX']
    cases g15 call c tl h with
    | none => rfl
    | some r =>
      cases r with
      | inl p => exact iter15 call hX hX' n p.1 p.2
      | inr p => rfl
theorem loop15 (call : Go.Fw.Call) {X X' c : AVal} (hX : aBin .and .plain X (.int .i64 255) = some c) (hX' : aBin .and .plain X' (.int .i64 255) = some c) (tl : List AVal) (h : Heap) : loop (Abs.L15_0 call) (X :: tl) h = loop (Abs.L15_0 call) (X' :: tl) h := by
  unfold loop
  congr 1
  funext n
  exact iter15 call hX hX' n tl h
theorem S15_id (a : Int) (h : Heap) : Abs.S15 (E tblE) (.int .i64 a) h = Abs.S15 (E tblE) (.int .i64 (a % 256)) h := by
  obtain ⟨c, hc⟩ : ∃ c, aBin .and .plain (.int .i64 (a % 256)) (.int .i64 255) = some c := ⟨_, rfl⟩
  have ha : aBin .and .plain (.int .i64 a) (.int .i64 255) = some c := by rw [and_id]; exact hc
  unfold Abs.S15
  simp only [loop15 (E tblE) ha hc]
theorem at_lane {a n : Nat} (h : okR (kS tblS 100 15 [.func VF (lanes a n)] T0) = true) (i : Nat) (hi : i < n) : ∃ h', E tblE 15 [.int .i64 (.ofNat (a + i))] emptyHeap = some (.bool true, h') := by
  obtain ⟨h', e⟩ := ran tbl_is h i
  rw [repL_cons, repL_nil, rep_lane a n i hi] at e
  exact ⟨h', e⟩
theorem run_0 : okR (kS tblS 100 15 [.func VF (lanes 0 256)] T0) = true := by decide +kernel
theorem topFullL (a : Int) : ∃ h', E tblE 15 [.int .i64 a] emptyHeap = some (.bool true, h') := by
  have e : E tblE 15 [.int .i64 a] emptyHeap = E tblE 15 [.int .i64 (a % 256)] emptyHeap := by
    rw [E_eq, E_eq, t15]
    simp only
    rw [Abs.run15, Abs.run15, S15_id]
  rw [e]
  obtain ⟨n, hn⟩ : ∃ n : Nat, a % 256 = .ofNat n := ⟨(a % 256).toNat, by simp only [Int.ofNat_eq_natCast]; omega⟩
  rw [hn]
  have := at_lane run_0 n (by simp only [Int.ofNat_eq_natCast] at hn; omega)
  rwa [Nat.zero_add] at this
end Go.Proofs.YtinkiihdnepfjaaGreatDoor.Code
