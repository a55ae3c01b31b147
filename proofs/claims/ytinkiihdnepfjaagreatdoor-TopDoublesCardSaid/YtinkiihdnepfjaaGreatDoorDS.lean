/- terms -/
import Derived.Test.YtinkiihdnepfjaaGreatDoorDTb
import Derived.Test.YtinkiihdnepfjaaGreatDoorDFwZm
import Derived.Test.YtinkiihdnepfjaaGreatDoorDKX
set_option linter.unusedSimpArgs false
set_option linter.unusedVariables false
set_option maxRecDepth 100000
namespace Go.Proofs.YtinkiihdnepfjaaGreatDoor.Code
open Go.Fw Go.Fw.K
noncomputable def tbl (f : Nat) : Option AFn := bif Nat.beq f 22 then some (.prim semT) else tblA.get f
noncomputable def L5_0 (call : Go.Fw.Call) (xs : List AVal) (h : Heap) : Option J :=
 (aBin .lss .plain (xs.getD 3 .undef) (.int .i64 12)).bind fun v30 =>
 condV v30
 ((call 29 [(xs.getD 0 .undef), (.int .i64 6)] h).bind fun r31 =>
 (aFill [.int .i64 0, .int .i64 0, .int .i64 0, .int .i64 0, .int .i64 0, .int .i64 0, .int .i64 0, .str [], .str [], .bool false, .int .u32 0, .nilSlice, .nilSlice] [(0, 1, (.int .i64 3)), (11, 1, r31.1)]).bind fun c32 =>
 (aCells 13 (.agg c32)).bind fun c33 =>
 bif Nat.ble ((0) + 13) (List.length (α := AVal) [.int .i64 0, .int .i64 0, .int .i64 0, .int .i64 0, .int .i64 0, .int .i64 0, .int .i64 0, .str [], .str [], .bool false, .int .u32 0, .nilSlice, .nilSlice]) then (rdL (splice [.int .i64 0, .int .i64 0, .int .i64 0, .int .i64 0, .int .i64 0, .int .i64 0, .int .i64 0, .str [], .str [], .bool false, .int .u32 0, .nilSlice, .nilSlice] (0) c33) 0 13).bind fun c34 =>
 (fromCells true c34).bind fun v35 =>
 (call 30 [(xs.getD 1 .undef), (.int .i64 1), v35] r31.2).bind fun r36 =>
 (rdL (splice [.int .i64 0, .int .i64 0, .int .i64 0, .int .i64 0, .int .i64 0, .int .i64 0, .int .i64 0, .str [], .str [], .bool false, .int .u32 0, .nilSlice, .nilSlice] (0) c33) 0 13).bind fun c37 =>
 (fromCells true c37).bind fun v38 =>
 (call 30 [(xs.getD 2 .undef), (.int .i64 1), v38] r36.2).bind fun r39 =>
 (rdL (splice [.int .i64 0, .int .i64 0, .int .i64 0, .int .i64 0, .int .i64 0, .int .i64 0, .int .i64 0, .str [], .str [], .bool false, .int .u32 0, .nilSlice, .nilSlice] (0) c33) 0 13).bind fun c40 =>
 (fromCells true c40).bind fun v41 =>
 (call 30 [(xs.getD 2 .undef), (.int .i64 1), v41] r39.2).bind fun r42 =>
 (call 27 [(xs.getD 1 .undef)] r42.2).bind fun r43 =>
 (call 28 [r43.1] r43.2).bind fun r44 =>
 (call 32 [r44.1] r44.2).bind fun r45 =>
 (call 27 [(xs.getD 2 .undef)] r45.2).bind fun r46 =>
 (call 28 [r46.1] r46.2).bind fun r47 =>
 (call 32 [r47.1] r47.2).bind fun r48 =>
 (call 31 [r45.1, r48.1] r48.2).bind fun r49 =>
 (aUn .not r49.1).bind fun v50 =>
 condV v50
 (some (2, [(.bool false)], r49.2))
 ((aBin .add .plain (xs.getD 3 .undef) (.int .i64 1)).bind fun v51 =>
 some (0, [(xs.getD 0 .undef), (xs.getD 1 .undef), (xs.getD 2 .undef), v51], r49.2)) else none)
 (some (1, [], h))
noncomputable def S5 (call : Go.Fw.Call) (a0 : AVal) (h : Heap) : Option J :=
 (aFill [.nilSlice, .int .i64 0] [(0, 1, a0)]).bind fun c1 =>
 (AVal.cells? (.agg c1)).bind fun c2 =>
 (aFill (reps [.int .i64 0] 1) [(0, 1, (.int .i64 1))]).bind fun c4 =>
 (call 26 [(.int .i64 0), (.slice (h.alloc c2).next 0 1 1 1 true)] ((h.alloc c2).alloc c4)).bind fun r5 =>
 (aFill (reps [.int .i64 0] 1) [(0, 1, (.int .i64 1))]).bind fun c6 =>
 (call 26 [(.int .i64 0), (.slice r5.2.next 0 1 1 1 true)] (r5.2.alloc c6)).bind fun r7 =>
 (aBin .eql .ptr r5.1 (.nilPtr)).bind fun v8 =>
 (guardV v8 false
 ((aBin .eql .ptr r7.1 (.nilPtr)).bind fun v9 =>
 some (0, [v9], r7.2))
 (some (0, [skipV], r7.2))).bind fun g10 =>
 (aPick v8 (.bool true) (g10.2.1.getD 0 .undef)).bind fun v11 =>
 (guardV v11 false
 ((call 27 [r5.1] g10.2.2).bind fun r12 =>
 (aBin .eql .ptr r12.1 (.nilPtr)).bind fun v13 =>
 some (0, [v13], r12.2))
 (some (0, [skipV], g10.2.2))).bind fun g14 =>
 (aPick v11 (.bool true) (g14.2.1.getD 0 .undef)).bind fun v15 =>
 (guardV v15 false
 ((call 27 [r7.1] g14.2.2).bind fun r16 =>
 (aBin .eql .ptr r16.1 (.nilPtr)).bind fun v17 =>
 some (0, [v17], r16.2))
 (some (0, [skipV], g14.2.2))).bind fun g18 =>
 (aPick v15 (.bool true) (g18.2.1.getD 0 .undef)).bind fun v19 =>
 (guardV v19 false
 ((call 27 [r5.1] g18.2.2).bind fun r20 =>
 (call 28 [r20.1] r20.2).bind fun r21 =>
 (aBin .eql .ptr r21.1 (.nilPtr)).bind fun v22 =>
 some (0, [v22], r21.2))
 (some (0, [skipV], g18.2.2))).bind fun g23 =>
 (aPick v19 (.bool true) (g23.2.1.getD 0 .undef)).bind fun v24 =>
 (guardV v24 false
 ((call 27 [r7.1] g23.2.2).bind fun r25 =>
 (call 28 [r25.1] r25.2).bind fun r26 =>
 (aBin .eql .ptr r26.1 (.nilPtr)).bind fun v27 =>
 some (0, [v27], r26.2))
 (some (0, [skipV], g23.2.2))).bind fun g28 =>
 (aPick v24 (.bool true) (g28.2.1.getD 0 .undef)).bind fun v29 =>
 condV v29
 (some (0, [(.bool false)], g28.2.2))
 ((loop (L5_0 call) [(.ptr h.next 0), r5.1, r7.1, (.int .i64 0)] g28.2.2).bind fun x52 =>
 bif Nat.beq x52.1 1 then (call 22 [] x52.2.2).bind fun r53 =>
 some (0, [r53.1], r53.2) else
 bif Nat.beq x52.1 2 then some (0, [(x52.2.1.getD 0 .undef)], x52.2.2) else
 none)
theorem run5 (call : Go.Fw.Call) (a0 : AVal) (h : Heap) : runFn call (.code A5) [a0] h = (S5 call a0 h).bind ansOf := by kernel_rfl
theorem c5 (a0 : AVal) (h : Heap) : E tbl 5 [a0] h = (S5 (E tbl) a0 h).bind ansOf := (E_eq tbl 5 [a0] h).trans (by rw [show tbl 5 = some (.code A5) by kernel_rfl]; exact run5 (E tbl) a0 h)
noncomputable def S17 (call : Go.Fw.Call) (a0 a1 a2 : AVal) (h : Heap) : Option J :=
 (aBin .geq .plain a0 a1).bind fun v1 =>
 (guardV v1 true
 ((aBin .leq .plain a0 a2).bind fun v2 =>
 some (0, [v2], h))
 (some (0, [skipV], h))).bind fun g3 =>
 (aPick v1 (g3.2.1.getD 0 .undef) (.bool false)).bind fun v4 =>
 condV v4
 (some (0, [a0], g3.2.2))
 ((aBin .sub .plain a2 a1).bind fun v5 =>
 (aBin .add .plain v5 (.int .i64 1)).bind fun v6 =>
 (aBin .rem .plain a0 v6).bind fun v7 =>
 (aBin .lss .plain v7 (.int .i64 0)).bind fun v8 =>
 (condV v8
 ((aBin .add .plain v7 a2).bind fun v9 =>
 (aBin .sub .plain v9 a1).bind fun v10 =>
 (aBin .add .plain v10 (.int .i64 1)).bind fun v11 =>
 some (0, [v11, a1], g3.2.2))
 (some (0, [v7, a1], g3.2.2))).bind fun x12 =>
 bif Nat.beq x12.1 0 then (aBin .add .plain (x12.2.1.getD 1 .undef) (x12.2.1.getD 0 .undef)).bind fun v13 =>
 some (0, [v13], x12.2.2) else
 none)
theorem run17 (call : Go.Fw.Call) (a0 a1 a2 : AVal) (h : Heap) : runFn call (.code A17) [a0, a1, a2] h = (S17 call a0 a1 a2 h).bind ansOf := by kernel_rfl
theorem c17 (a0 a1 a2 : AVal) (h : Heap) : E tbl 17 [a0, a1, a2] h = (S17 (E tbl) a0 a1 a2 h).bind ansOf := (E_eq tbl 17 [a0, a1, a2] h).trans (by rw [show tbl 17 = some (.code A17) by kernel_rfl]; exact run17 (E tbl) a0 a1 a2 h)
noncomputable def S26 (call : Go.Fw.Call) (a0 a1 : AVal) (h : Heap) : Option J :=
 (call 45 [a0, (.int .i64 0)] h).bind fun r1 =>
 (aBin .eql .ptr r1.1 (.nilPtr)).bind fun v2 =>
 condV v2
 (some (0, [(.nilPtr)], r1.2))
 ((call 46 [a1] r1.2).bind fun r3 =>
 (call 47 [r3.1] r3.2).bind fun r4 =>
 (aFill [.int .i64 0, .int .i64 0, .nilSlice, .int .i64 0, .nilPtr, .nilPtr] [(2, 1, r4.1), (4, 1, r1.1), (5, 1, r3.1)]).bind fun c5 =>
 (AVal.cells? (.agg c5)).bind fun c6 =>
 some (0, [(.ptr r4.2.next 0)], (r4.2.alloc c6)))
theorem run26 (call : Go.Fw.Call) (a0 a1 : AVal) (h : Heap) : runFn call (.code A26) [a0, a1] h = (S26 call a0 a1 h).bind ansOf := by kernel_rfl
theorem c26 (a0 a1 : AVal) (h : Heap) : E tbl 26 [a0, a1] h = (S26 (E tbl) a0 a1 h).bind ansOf := (E_eq tbl 26 [a0, a1] h).trans (by rw [show tbl 26 = some (.code A26) by kernel_rfl]; exact run26 (E tbl) a0 a1 h)
noncomputable def S45 (call : Go.Fw.Call) (a0 a1 : AVal) (h : Heap) : Option J :=
 (aBin .lss .plain a0 (.int .i64 0)).bind fun v1 =>
 (guardV v1 false
 ((aBin .geq .plain a0 (.int .i64 6)).bind fun v2 =>
 some (0, [v2], h))
 (some (0, [skipV], h))).bind fun g3 =>
 (aPick v1 (.bool true) (g3.2.1.getD 0 .undef)).bind fun v4 =>
 (guardV v4 false
 ((call 64 [a1] g3.2.2).bind fun r5 =>
 (aBin .neq .plain a1 r5.1).bind fun v6 =>
 some (0, [v6], r5.2))
 (some (0, [skipV], g3.2.2))).bind fun g7 =>
 (aPick v4 (.bool true) (g7.2.1.getD 0 .undef)).bind fun v8 =>
 condV v8
 (some (0, [(.nilPtr)], g7.2.2))
 ((aFill [.int .i64 0, .int .i64 0, .int .i64 0] [(1, 1, a0)]).bind fun c9 =>
 (call 65 [(.int .i64 32)] g7.2.2).bind fun r10 =>
 (call 66 [a1] r10.2).bind fun r11 =>
 (call 67 [] r11.2).bind fun r12 =>
 (aFill [.int .i64 0, .int .i64 0, .int .i64 0, .int .i64 0, .nilPtr, .nilPtr, .nilPtr] [(0, 1, a0), (1, 3, (.agg c9)), (4, 1, r10.1), (5, 1, r11.1), (6, 1, r12.1)]).bind fun c13 =>
 (AVal.cells? (.agg c13)).bind fun c14 =>
 some (0, [(.ptr r12.2.next 0)], (r12.2.alloc c14)))
theorem run45 (call : Go.Fw.Call) (a0 a1 : AVal) (h : Heap) : runFn call (.code A45) [a0, a1] h = (S45 call a0 a1 h).bind ansOf := by kernel_rfl
theorem c45 (a0 a1 : AVal) (h : Heap) : E tbl 45 [a0, a1] h = (S45 (E tbl) a0 a1 h).bind ansOf := (E_eq tbl 45 [a0, a1] h).trans (by rw [show tbl 45 = some (.code A45) by kernel_rfl]; exact run45 (E tbl) a0 a1 h)
noncomputable def L46_0 (call : Go.Fw.Call) (xs : List AVal) (h : Heap) : Option J :=
 (aBin .lss .plain (xs.getD 3 .undef) (xs.getD 2 .undef)).bind fun v5 =>
 condV v5
 ((aIaddr 1 (xs.getD 1 .undef) (xs.getD 3 .undef)).bind fun v6 =>
 (aLoad h 1 v6).bind fun c7 =>
 (fromCells false c7).bind fun v8 =>
 (aNilchk (xs.getD 0 .undef)).bind fun v9 =>
 (aFaddr 0 v9).bind fun v10 =>
 (aLoad h 1 v10).bind fun c11 =>
 (fromCells false c11).bind fun v12 =>
 (aLen false v12).bind fun v13 =>
 (aBin .lss .plain v13 (.int .i64 6)).bind fun v14 =>
 (guardV v14 true
 ((aNilchk (xs.getD 0 .undef)).bind fun v15 =>
 (aFaddr 0 v15).bind fun v16 =>
 (aLoad h 1 v16).bind fun c17 =>
 (fromCells false c17).bind fun v18 =>
 (call 68 [v18, v8] h).bind fun r19 =>
 (aUn .not r19.1).bind fun v20 =>
 some (0, [v20], r19.2))
 (some (0, [skipV], h))).bind fun g21 =>
 (aPick v14 (g21.2.1.getD 0 .undef) (.bool false)).bind fun v22 =>
 (condV v22
 ((aNilchk (xs.getD 0 .undef)).bind fun v23 =>
 (aFaddr 0 v23).bind fun v24 =>
 (aLoad g21.2.2 1 v24).bind fun c25 =>
 (fromCells false c25).bind fun v26 =>
 (aFill (reps [.int .i64 0] 1) [(0, 1, v8)]).bind fun c27 =>
 (aAppend 1 8 [.int .i64 0] false v26 (.slice g21.2.2.next 0 1 1 1 true) (g21.2.2.alloc c27)).bind fun r28 =>
 (aNilchk (xs.getD 0 .undef)).bind fun v29 =>
 (aFaddr 0 v29).bind fun v30 =>
 (aCells 1 r28.1).bind fun c31 =>
 (aStore r28.2 v30 c31).bind fun h32 =>
 some (0, [(xs.getD 0 .undef), (xs.getD 1 .undef), (xs.getD 2 .undef), (xs.getD 3 .undef)], h32))
 (some (0, [(xs.getD 0 .undef), (xs.getD 1 .undef), (xs.getD 2 .undef), (xs.getD 3 .undef)], g21.2.2))).bind fun x33 =>
 bif Nat.beq x33.1 0 then (aBin .add .plain (x33.2.1.getD 3 .undef) (.int .i64 1)).bind fun v34 =>
 some (0, [(x33.2.1.getD 0 .undef), (x33.2.1.getD 1 .undef), (x33.2.1.getD 2 .undef), v34], x33.2.2) else
 none)
 (some (1, [(xs.getD 0 .undef)], h))
noncomputable def S46 (call : Go.Fw.Call) (a0 : AVal) (h : Heap) : Option J :=
 (aFill [.nilSlice, .nilSlice, .int .i64 0] []).bind fun c1 =>
 (AVal.cells? (.agg c1)).bind fun c2 =>
 (aLen false a0).bind fun v4 =>
 (loop (L46_0 call) [(.ptr h.next 0), a0, v4, (.int .i64 0)] (h.alloc c2)).bind fun x35 =>
 bif Nat.beq x35.1 1 then (aNilchk (x35.2.1.getD 0 .undef)).bind fun v36 =>
 (aFaddr 0 v36).bind fun v37 =>
 (aLoad x35.2.2 1 v37).bind fun c38 =>
 (fromCells false c38).bind fun v39 =>
 (aLen false v39).bind fun v40 =>
 (aMkSlice 1 24 [.nilSlice] v40 v40 x35.2.2).bind fun r41 =>
 (aNilchk (x35.2.1.getD 0 .undef)).bind fun v42 =>
 (aFaddr 1 v42).bind fun v43 =>
 (aCells 1 r41.1).bind fun c44 =>
 (aStore r41.2 v43 c44).bind fun h45 =>
 some (0, [(x35.2.1.getD 0 .undef)], h45) else
 none
theorem run46 (call : Go.Fw.Call) (a0 : AVal) (h : Heap) : runFn call (.code A46) [a0] h = (S46 call a0 h).bind ansOf := by kernel_rfl
theorem c46 (a0 : AVal) (h : Heap) : E tbl 46 [a0] h = (S46 (E tbl) a0 h).bind ansOf := (E_eq tbl 46 [a0] h).trans (by rw [show tbl 46 = some (.code A46) by kernel_rfl]; exact run46 (E tbl) a0 h)
noncomputable def S47 (call : Go.Fw.Call) (a0 : AVal) (h : Heap) : Option J :=
 (aNilchk a0).bind fun v1 =>
 (aFaddr 0 v1).bind fun v2 =>
 (aLoad h 1 v2).bind fun c3 =>
 (fromCells false c3).bind fun v4 =>
 (call 69 [v4] h).bind fun r5 =>
 some (0, [r5.1], r5.2)
theorem run47 (call : Go.Fw.Call) (a0 : AVal) (h : Heap) : runFn call (.code A47) [a0] h = (S47 call a0 h).bind ansOf := by kernel_rfl
theorem c47 (a0 : AVal) (h : Heap) : E tbl 47 [a0] h = (S47 (E tbl) a0 h).bind ansOf := (E_eq tbl 47 [a0] h).trans (by rw [show tbl 47 = some (.code A47) by kernel_rfl]; exact run47 (E tbl) a0 h)
noncomputable def S64 (call : Go.Fw.Call) (a0 : AVal) (h : Heap) : Option J :=
 (aMinMaxL false [a0, (.int .i64 1099511627776)]).bind fun v1 =>
 (aMinMaxL true [(.int .i64 0), v1]).bind fun v2 =>
 some (0, [v2], h)
theorem run64 (call : Go.Fw.Call) (a0 : AVal) (h : Heap) : runFn call (.code A64) [a0] h = (S64 call a0 h).bind ansOf := by kernel_rfl
theorem c64 (a0 : AVal) (h : Heap) : E tbl 64 [a0] h = (S64 (E tbl) a0 h).bind ansOf := (E_eq tbl 64 [a0] h).trans (by rw [show tbl 64 = some (.code A64) by kernel_rfl]; exact run64 (E tbl) a0 h)
noncomputable def S65 (call : Go.Fw.Call) (a0 : AVal) (h : Heap) : Option J :=
 (aMinMaxL false [a0, (.int .i64 32)]).bind fun v1 =>
 (aMinMaxL true [(.int .i64 0), v1]).bind fun v2 =>
 (aFill [.int .i64 0, .nilSlice] [(0, 1, v2)]).bind fun c3 =>
 (AVal.cells? (.agg c3)).bind fun c4 =>
 some (0, [(.ptr h.next 0)], (h.alloc c4))
theorem run65 (call : Go.Fw.Call) (a0 : AVal) (h : Heap) : runFn call (.code A65) [a0] h = (S65 call a0 h).bind ansOf := by kernel_rfl
theorem c65 (a0 : AVal) (h : Heap) : E tbl 65 [a0] h = (S65 (E tbl) a0 h).bind ansOf := (E_eq tbl 65 [a0] h).trans (by rw [show tbl 65 = some (.code A65) by kernel_rfl]; exact run65 (E tbl) a0 h)
noncomputable def S66 (call : Go.Fw.Call) (a0 : AVal) (h : Heap) : Option J :=
 (aFill [.int .i64 0, .int .i64 0, .int .i64 0] [(0, 1, a0)]).bind fun c1 =>
 (AVal.cells? (.agg c1)).bind fun c2 =>
 some (0, [(.ptr h.next 0)], (h.alloc c2))
theorem run66 (call : Go.Fw.Call) (a0 : AVal) (h : Heap) : runFn call (.code A66) [a0] h = (S66 call a0 h).bind ansOf := by kernel_rfl
theorem c66 (a0 : AVal) (h : Heap) : E tbl 66 [a0] h = (S66 (E tbl) a0 h).bind ansOf := (E_eq tbl 66 [a0] h).trans (by rw [show tbl 66 = some (.code A66) by kernel_rfl]; exact run66 (E tbl) a0 h)
noncomputable def S67 (call : Go.Fw.Call) (h : Heap) : Option J :=
 (aFill [.int .i64 0, .nilSlice] []).bind fun c1 =>
 (AVal.cells? (.agg c1)).bind fun c2 =>
 some (0, [(.ptr h.next 0)], (h.alloc c2))
theorem run67 (call : Go.Fw.Call) (h : Heap) : runFn call (.code A67) [] h = (S67 call  h).bind ansOf := by kernel_rfl
theorem c67 (h : Heap) : E tbl 67 [] h = (S67 (E tbl)  h).bind ansOf := (E_eq tbl 67 [] h).trans (by rw [show tbl 67 = some (.code A67) by kernel_rfl]; exact run67 (E tbl)  h)
noncomputable def S68 (call : Go.Fw.Call) (a0 a1 : AVal) (h : Heap) : Option J :=
 (call 105 [a0, a1] h).bind fun r1 =>
 (aBin .geq .plain r1.1 (.int .i64 0)).bind fun v2 =>
 some (0, [v2], r1.2)
theorem run68 (call : Go.Fw.Call) (a0 a1 : AVal) (h : Heap) : runFn call (.code A68) [a0, a1] h = (S68 call a0 a1 h).bind ansOf := by kernel_rfl
theorem c68 (a0 a1 : AVal) (h : Heap) : E tbl 68 [a0, a1] h = (S68 (E tbl) a0 a1 h).bind ansOf := (E_eq tbl 68 [a0, a1] h).trans (by rw [show tbl 68 = some (.code A68) by kernel_rfl]; exact run68 (E tbl) a0 a1 h)
noncomputable def S69 (call : Go.Fw.Call) (a0 : AVal) (h : Heap) : Option J :=
 (aBin .eql .slice a0 (.nilSlice)).bind fun v1 =>
 condV v1
 (some (0, [(.nilSlice)], h))
 ((aFill (reps [.int .i64 0] 0) []).bind fun c2 =>
 (aAppend 1 8 [.int .i64 0] false (.slice h.next 0 0 0 1 true) a0 (h.alloc c2)).bind fun r3 =>
 some (0, [r3.1], r3.2))
theorem run69 (call : Go.Fw.Call) (a0 : AVal) (h : Heap) : runFn call (.code A69) [a0] h = (S69 call a0 h).bind ansOf := by kernel_rfl
theorem c69 (a0 : AVal) (h : Heap) : E tbl 69 [a0] h = (S69 (E tbl) a0 h).bind ansOf := (E_eq tbl 69 [a0] h).trans (by rw [show tbl 69 = some (.code A69) by kernel_rfl]; exact run69 (E tbl) a0 h)
noncomputable def L105_0 (call : Go.Fw.Call) (xs : List AVal) (h : Heap) : Option J :=
 (aBin .lss .plain (xs.getD 3 .undef) (xs.getD 2 .undef)).bind fun v2 =>
 condV v2
 ((aIaddr 1 (xs.getD 0 .undef) (xs.getD 3 .undef)).bind fun v3 =>
 (aLoad h 1 v3).bind fun c4 =>
 (fromCells false c4).bind fun v5 =>
 (aBin .eql .plain (xs.getD 1 .undef) v5).bind fun v6 =>
 condV v6
 (some (2, [(xs.getD 3 .undef)], h))
 ((aBin .add .plain (xs.getD 3 .undef) (.int .i64 1)).bind fun v7 =>
 some (0, [(xs.getD 0 .undef), (xs.getD 1 .undef), (xs.getD 2 .undef), v7], h)))
 (some (1, [], h))
noncomputable def S105 (call : Go.Fw.Call) (a0 a1 : AVal) (h : Heap) : Option J :=
 (aLen false a0).bind fun v1 =>
 (loop (L105_0 call) [a0, a1, v1, (.int .i64 0)] h).bind fun x8 =>
 bif Nat.beq x8.1 1 then some (0, [(.int .i64 (-1))], x8.2.2) else
 bif Nat.beq x8.1 2 then some (0, [(x8.2.1.getD 0 .undef)], x8.2.2) else
 none
theorem run105 (call : Go.Fw.Call) (a0 a1 : AVal) (h : Heap) : runFn call (.code A105) [a0, a1] h = (S105 call a0 a1 h).bind ansOf := by kernel_rfl
theorem c105 (a0 a1 : AVal) (h : Heap) : E tbl 105 [a0, a1] h = (S105 (E tbl) a0 a1 h).bind ansOf := (E_eq tbl 105 [a0, a1] h).trans (by rw [show tbl 105 = some (.code A105) by kernel_rfl]; exact run105 (E tbl) a0 a1 h)
noncomputable def S27 (call : Go.Fw.Call) (a0 : AVal) (h : Heap) : Option J :=
 (aNilchk a0).bind fun v1 =>
 (aFaddr 4 v1).bind fun v2 =>
 (aLoad h 1 v2).bind fun c3 =>
 (fromCells false c3).bind fun v4 =>
 some (0, [v4], h)
theorem run27 (call : Go.Fw.Call) (a0 : AVal) (h : Heap) : runFn call (.code A27) [a0] h = (S27 call a0 h).bind ansOf := by kernel_rfl
theorem c27 (a0 : AVal) (h : Heap) : E tbl 27 [a0] h = (S27 (E tbl) a0 h).bind ansOf := (E_eq tbl 27 [a0] h).trans (by rw [show tbl 27 = some (.code A27) by kernel_rfl]; exact run27 (E tbl) a0 h)
noncomputable def S28 (call : Go.Fw.Call) (a0 : AVal) (h : Heap) : Option J :=
 (aNilchk a0).bind fun v1 =>
 (aFaddr 4 v1).bind fun v2 =>
 (aLoad h 1 v2).bind fun c3 =>
 (fromCells false c3).bind fun v4 =>
 some (0, [v4], h)
theorem run28 (call : Go.Fw.Call) (a0 : AVal) (h : Heap) : runFn call (.code A28) [a0] h = (S28 call a0 h).bind ansOf := by kernel_rfl
theorem c28 (a0 : AVal) (h : Heap) : E tbl 28 [a0] h = (S28 (E tbl) a0 h).bind ansOf := (E_eq tbl 28 [a0] h).trans (by rw [show tbl 28 = some (.code A28) by kernel_rfl]; exact run28 (E tbl) a0 h)
noncomputable def L29_0 (call : Go.Fw.Call) (xs : List AVal) (h : Heap) : Option J :=
 (aBin .gtr .plain (xs.getD 2 .undef) (.int .i64 0)).bind fun v3 =>
 condV v3
 ((call 49 [(xs.getD 0 .undef)] h).bind fun r4 =>
 (aFill (reps [.str [], .str [], .int .i64 0, .int .i64 0, .int .i64 0, .int .i64 0, .int .i64 0, .int .i64 0, .bool false] 1) [(0, 9, r4.1)]).bind fun c5 =>
 (aAppend 9 88 [.str [], .str [], .int .i64 0, .int .i64 0, .int .i64 0, .int .i64 0, .int .i64 0, .int .i64 0, .bool false] false (xs.getD 1 .undef) (.slice r4.2.next 0 1 1 9 true) (r4.2.alloc c5)).bind fun r6 =>
 (aBin .sub .plain (xs.getD 2 .undef) (.int .i64 1)).bind fun v7 =>
 some (0, [(xs.getD 0 .undef), r6.1, v7], r6.2))
 (some (1, [(xs.getD 1 .undef)], h))
noncomputable def S29 (call : Go.Fw.Call) (a0 a1 : AVal) (h : Heap) : Option J :=
 (aBin .add .plain a1 (.int .i64 1)).bind fun v1 =>
 (call 48 [a0, v1] h).bind fun r2 =>
 (loop (L29_0 call) [a0, (.nilSlice), r2.1] r2.2).bind fun x8 =>
 bif Nat.beq x8.1 1 then some (0, [(x8.2.1.getD 0 .undef)], x8.2.2) else
 none
theorem run29 (call : Go.Fw.Call) (a0 a1 : AVal) (h : Heap) : runFn call (.code A29) [a0, a1] h = (S29 call a0 a1 h).bind ansOf := by kernel_rfl
theorem c29 (a0 a1 : AVal) (h : Heap) : E tbl 29 [a0, a1] h = (S29 (E tbl) a0 a1 h).bind ansOf := (E_eq tbl 29 [a0, a1] h).trans (by rw [show tbl 29 = some (.code A29) by kernel_rfl]; exact run29 (E tbl) a0 a1 h)
noncomputable def S30 (call : Go.Fw.Call) (a0 a1 a2 : AVal) (h : Heap) : Option J :=
 (AVal.cells? a2).bind fun c1 =>
 (rdL c1 0 13).bind fun c2 =>
 (fromCells true c2).bind fun v3 =>
 (call 50 [v3] h).bind fun r4 =>
 (aBin .neq (.iface true []) r4.1 (.nilIface)).bind fun v5 =>
 condV v5
 (some (0, [(.nilSlice)], r4.2))
 ((rdL c1 0 1).bind fun c6 =>
 (fromCells false c6).bind fun v7 =>
 (aBin .eql .plain v7 (.int .i64 1)).bind fun v8 =>
 condV v8
 ((aNilchk a0).bind fun v9 =>
 (aFaddr 4 v9).bind fun v10 =>
 (aLoad (r4.2.res 1) 1 v10).bind fun c11 =>
 (fromCells false c11).bind fun v12 =>
 (rdL c1 0 13).bind fun c13 =>
 (fromCells true c13).bind fun v14 =>
 (aNilchk a0).bind fun v15 =>
 (aFaddr 0 v15).bind fun v16 =>
 (aLoad (r4.2.res 1) 1 v16).bind fun c17 =>
 (fromCells false c17).bind fun v18 =>
 (call 51 [v12, v14, v18] (r4.2.res 1)).bind fun r19 =>
 (aExtract 0 r19.1).bind fun v20 =>
 (aExtract 1 r19.1).bind fun v21 =>
 (aCells 13 v20).bind fun c22 =>
 (aStore (r19.2.setBlk (r4.2.next + 0) (some ⟨[.int .i64 0, .int .i64 0, .int .i64 0, .int .i64 0, .int .i64 0, .int .i64 0, .int .i64 0, .str [], .str [], .bool false, .int .u32 0, .nilSlice, .nilSlice], true⟩)) (.ptr (r4.2.next + 0) 0) c22).bind fun h23 =>
 (aNilchk a0).bind fun v24 =>
 (aFaddr 5 v24).bind fun v25 =>
 (aLoad h23 1 v25).bind fun c26 =>
 (fromCells false c26).bind fun v27 =>
 (call 52 [v27, v21] h23).bind fun r28 =>
 (aLoad r28.2 13 (.ptr (r4.2.next + 0) 0)).bind fun c29 =>
 (fromCells true c29).bind fun v30 =>
 (aFill [.int .i64 0, .int .i64 0, .int .i64 0, .int .i64 0, .int .i64 0, .int .i64 0, .int .i64 0, .int .i64 0, .str [], .str [], .bool false, .int .u32 0, .nilSlice, .nilSlice] [(0, 1, a1), (1, 13, v30)]).bind fun c31 =>
 (aFill (reps [.int .i64 0, .int .i64 0, .int .i64 0, .int .i64 0, .int .i64 0, .int .i64 0, .int .i64 0, .int .i64 0, .str [], .str [], .bool false, .int .u32 0, .nilSlice, .nilSlice] 1) [(0, 14, (.agg c31))]).bind fun c32 =>
 some (0, [(.slice r28.2.next 0 1 1 14 true)], (r28.2.alloc c32)))
 ((aBin .eql .plain v7 (.int .i64 3)).bind fun v33 =>
 (condV v33
 ((aNilchk a0).bind fun v34 =>
 (aFaddr 4 v34).bind fun v35 =>
 (aLoad r4.2 1 v35).bind fun c36 =>
 (fromCells false c36).bind fun v37 =>
 (rdL c1 11 1).bind fun c38 =>
 (fromCells false c38).bind fun v39 =>
 (aNilchk a0).bind fun v40 =>
 (aFaddr 0 v40).bind fun v41 =>
 (aLoad r4.2 1 v41).bind fun c42 =>
 (fromCells false c42).bind fun v43 =>
 (call 53 [v37, v39, v43] r4.2).bind fun r44 =>
 some (0, [], r44.2))
 ((aBin .eql .plain v7 (.int .i64 4)).bind fun v45 =>
 condV v45
 ((rdL c1 11 1).bind fun c46 =>
 (fromCells false c46).bind fun v47 =>
 (call 54 [a0, a1, v47] r4.2).bind fun r48 =>
 some (1, [r48.1], r48.2))
 ((aBin .eql .plain v7 (.int .i64 5)).bind fun v49 =>
 condV v49
 ((aNilchk a0).bind fun v50 =>
 (aFaddr 4 v50).bind fun v51 =>
 (aLoad r4.2 1 v51).bind fun c52 =>
 (fromCells false c52).bind fun v53 =>
 (call 28 [v53] r4.2).bind fun r54 =>
 (call 32 [r54.1] r54.2).bind fun r55 =>
 (rdL c1 12 1).bind fun c56 =>
 (fromCells false c56).bind fun v57 =>
 (call 56 [r55.1, v57] r55.2).bind fun r58 =>
 (call 55 [a1, r58.1] r58.2).bind fun r59 =>
 bif checkPairs [(8, some (.lrd 5 (12) 1)), (6, some (.ef [(5, c1)] r54.2 [(5, c1)] r55.2)), (5, some (.ef [(5, c1)] r4.2 [(5, c1)] r54.2))] [(8, 5), (8, 6)] then some (1, [r59.1], r59.2) else none)
 (some (0, [], r4.2))))).bind fun x60 =>
 bif Nat.beq x60.1 0 then some (0, [(.nilSlice)], x60.2.2) else
 bif Nat.beq x60.1 1 then some (0, [(x60.2.1.getD 0 .undef)], x60.2.2) else
 none))
theorem run30 (call : Go.Fw.Call) (a0 a1 a2 : AVal) (h : Heap) : runFn call (.code A30) [a0, a1, a2] h = (S30 call a0 a1 a2 h).bind ansOf := by kernel_rfl
theorem c30 (a0 a1 a2 : AVal) (h : Heap) : E tbl 30 [a0, a1, a2] h = (S30 (E tbl) a0 a1 a2 h).bind ansOf := (E_eq tbl 30 [a0, a1, a2] h).trans (by rw [show tbl 30 = some (.code A30) by kernel_rfl]; exact run30 (E tbl) a0 a1 a2 h)
noncomputable def L31_0 (call : Go.Fw.Call) (xs : List AVal) (h : Heap) : Option J :=
 (aBin .lss .plain (xs.getD 3 .undef) (xs.getD 2 .undef)).bind fun v5 =>
 condV v5
 ((aIaddr 9 (xs.getD 0 .undef) (xs.getD 3 .undef)).bind fun v6 =>
 (aLoad h 9 v6).bind fun c7 =>
 (fromCells true c7).bind fun v8 =>
 (aIaddr 9 (xs.getD 1 .undef) (xs.getD 3 .undef)).bind fun v9 =>
 (aLoad h 9 v9).bind fun c10 =>
 (fromCells true c10).bind fun v11 =>
 (aBin .neq (.cells [2, 2, 1, 1, 1, 1, 1, 1, 0]) v8 v11).bind fun v12 =>
 condV v12
 (some (2, [(.bool false)], h))
 ((aBin .add .plain (xs.getD 3 .undef) (.int .i64 1)).bind fun v13 =>
 some (0, [(xs.getD 0 .undef), (xs.getD 1 .undef), (xs.getD 2 .undef), v13], h)))
 (some (1, [], h))
noncomputable def S31 (call : Go.Fw.Call) (a0 a1 : AVal) (h : Heap) : Option J :=
 (aLen false a0).bind fun v1 =>
 (aLen false a1).bind fun v2 =>
 (aBin .neq .plain v1 v2).bind fun v3 =>
 condV v3
 (some (0, [(.bool false)], h))
 ((aLen false a0).bind fun v4 =>
 (loop (L31_0 call) [a0, a1, v4, (.int .i64 0)] h).bind fun x14 =>
 bif Nat.beq x14.1 1 then some (0, [(.bool true)], x14.2.2) else
 bif Nat.beq x14.1 2 then some (0, [(x14.2.1.getD 0 .undef)], x14.2.2) else
 none)
theorem run31 (call : Go.Fw.Call) (a0 a1 : AVal) (h : Heap) : runFn call (.code A31) [a0, a1] h = (S31 call a0 a1 h).bind ansOf := by kernel_rfl
theorem c31 (a0 a1 : AVal) (h : Heap) : E tbl 31 [a0, a1] h = (S31 (E tbl) a0 a1 h).bind ansOf := (E_eq tbl 31 [a0, a1] h).trans (by rw [show tbl 31 = some (.code A31) by kernel_rfl]; exact run31 (E tbl) a0 a1 h)
noncomputable def L32_0 (call : Go.Fw.Call) (xs : List AVal) (h : Heap) : Option J :=
 (aBin .lss .plain (xs.getD 3 .undef) (xs.getD 2 .undef)).bind fun v6 =>
 condV v6
 ((aIaddr 10 (xs.getD 1 .undef) (xs.getD 3 .undef)).bind fun v7 =>
 (aLoad h 10 v7).bind fun c8 =>
 (fromCells true c8).bind fun v9 =>
 (aCells 10 v9).bind fun c10 =>
 bif Nat.ble ((0) + 10) (List.length (α := AVal) [.str [], .str [], .int .i64 0, .int .i64 0, .int .i64 0, .int .i64 0, .int .i64 0, .int .i64 0, .bool false, .int .i64 0]) then (rdL (splice [.str [], .str [], .int .i64 0, .int .i64 0, .int .i64 0, .int .i64 0, .int .i64 0, .int .i64 0, .bool false, .int .i64 0] (0) c10) 0 9).bind fun c11 =>
 (fromCells true c11).bind fun v12 =>
 (aFill (reps [.str [], .str [], .int .i64 0, .int .i64 0, .int .i64 0, .int .i64 0, .int .i64 0, .int .i64 0, .bool false] 1) [(0, 9, v12)]).bind fun c13 =>
 (aAppend 9 88 [.str [], .str [], .int .i64 0, .int .i64 0, .int .i64 0, .int .i64 0, .int .i64 0, .int .i64 0, .bool false] false (xs.getD 0 .undef) (.slice h.next 0 1 1 9 true) (h.alloc c13)).bind fun r14 =>
 (aBin .add .plain (xs.getD 3 .undef) (.int .i64 1)).bind fun v15 =>
 some (0, [r14.1, (xs.getD 1 .undef), (xs.getD 2 .undef), v15], r14.2) else none)
 (some (1, [(xs.getD 0 .undef)], h))
noncomputable def S32 (call : Go.Fw.Call) (a0 : AVal) (h : Heap) : Option J :=
 (aNilchk a0).bind fun v1 =>
 (aFaddr 1 v1).bind fun v2 =>
 (aLoad h 1 v2).bind fun c3 =>
 (fromCells false c3).bind fun v4 =>
 (aLen false v4).bind fun v5 =>
 (loop (L32_0 call) [(.nilSlice), v4, v5, (.int .i64 0)] h).bind fun x16 =>
 bif Nat.beq x16.1 1 then some (0, [(x16.2.1.getD 0 .undef)], x16.2.2) else
 none
theorem run32 (call : Go.Fw.Call) (a0 : AVal) (h : Heap) : runFn call (.code A32) [a0] h = (S32 call a0 h).bind ansOf := by kernel_rfl
theorem c32 (a0 : AVal) (h : Heap) : E tbl 32 [a0] h = (S32 (E tbl) a0 h).bind ansOf := (E_eq tbl 32 [a0] h).trans (by rw [show tbl 32 = some (.code A32) by kernel_rfl]; exact run32 (E tbl) a0 h)
noncomputable def S48 (call : Go.Fw.Call) (a0 a1 : AVal) (h : Heap) : Option J :=
 (aNilchk a0).bind fun v1 =>
 (aFaddr 1 v1).bind fun v2 =>
 (aLoad h 1 v2).bind fun c3 =>
 (fromCells false c3).bind fun v4 =>
 (aNilchk a0).bind fun v5 =>
 (aFaddr 0 v5).bind fun v6 =>
 (aLoad h 1 v6).bind fun c7 =>
 (fromCells false c7).bind fun v8 =>
 (aLen false v8).bind fun v9 =>
 (aBin .geq .plain v4 v9).bind fun v10 =>
 (guardV v10 false
 ((aBin .lss .plain a1 (.int .i64 1)).bind fun v11 =>
 some (0, [v11], h))
 (some (0, [skipV], h))).bind fun g12 =>
 (aPick v10 (.bool true) (g12.2.1.getD 0 .undef)).bind fun v13 =>
 condV v13
 (some (0, [(.int .i64 0)], g12.2.2))
 ((aNilchk a0).bind fun v14 =>
 (aFaddr 1 v14).bind fun v15 =>
 (aLoad g12.2.2 1 v15).bind fun c16 =>
 (fromCells false c16).bind fun v17 =>
 (aBin .add .plain v17 (.int .i64 1)).bind fun v18 =>
 (aNilchk a0).bind fun v19 =>
 (aFaddr 1 v19).bind fun v20 =>
 (aCells 1 v18).bind fun c21 =>
 (aStore g12.2.2 v20 c21).bind fun h22 =>
 (aNilchk a0).bind fun v23 =>
 (aFaddr 0 v23).bind fun v24 =>
 (aLoad h22 1 v24).bind fun c25 =>
 (fromCells false c25).bind fun v26 =>
 (aNilchk a0).bind fun v27 =>
 (aFaddr 1 v27).bind fun v28 =>
 (aLoad h22 1 v28).bind fun c29 =>
 (fromCells false c29).bind fun v30 =>
 (aBin .sub .plain v30 (.int .i64 1)).bind fun v31 =>
 (aIaddr 1 v26 v31).bind fun v32 =>
 (aLoad h22 1 v32).bind fun c33 =>
 (fromCells false c33).bind fun v34 =>
 (call 17 [v34, (.int .i64 0), (.int .i64 1073741824)] h22).bind fun r35 =>
 (aBin .rem .plain r35.1 a1).bind fun v36 =>
 some (0, [v36], r35.2))
theorem run48 (call : Go.Fw.Call) (a0 a1 : AVal) (h : Heap) : runFn call (.code A48) [a0, a1] h = (S48 call a0 a1 h).bind ansOf := by kernel_rfl
theorem c48 (a0 a1 : AVal) (h : Heap) : E tbl 48 [a0, a1] h = (S48 (E tbl) a0 a1 h).bind ansOf := (E_eq tbl 48 [a0, a1] h).trans (by rw [show tbl 48 = some (.code A48) by kernel_rfl]; exact run48 (E tbl) a0 a1 h)
noncomputable def S49 (call : Go.Fw.Call) (a0 : AVal) (h : Heap) : Option J :=
 (call 70 [a0] h).bind fun r1 =>
 (call 48 [a0, (.int .i64 2)] r1.2).bind fun r2 =>
 (aBin .add .plain (.int .i64 1) r2.1).bind fun v3 =>
 (call 48 [a0, (.int .i64 7)] r2.2).bind fun r4 =>
 (aBin .quo .plain r4.1 (.int .i64 2)).bind fun v5 =>
 (call 48 [a0, (.int .i64 60)] r4.2).bind fun r6 =>
 (aBin .add .plain (.int .i64 1) r6.1).bind fun v7 =>
 (call 71 [a0] r6.2).bind fun r8 =>
 (call 48 [a0, (.int .i64 4)] r8.2).bind fun r9 =>
 (aBin .eql .plain r9.1 (.int .i64 0)).bind fun v10 =>
 (aFill [.str [], .str [], .int .i64 0, .int .i64 0, .int .i64 0, .int .i64 0, .int .i64 0, .int .i64 0, .bool false] [(0, 2, r1.1), (2, 1, v3), (3, 1, v5), (4, 1, v7), (5, 3, r8.1), (8, 1, v10)]).bind fun c11 =>
 (aCells 9 (.agg c11)).bind fun c12 =>
 bif Nat.ble ((0) + 9) (List.length (α := AVal) [.str [], .str [], .int .i64 0, .int .i64 0, .int .i64 0, .int .i64 0, .int .i64 0, .int .i64 0, .bool false]) then (((rdL (splice [.str [], .str [], .int .i64 0, .int .i64 0, .int .i64 0, .int .i64 0, .int .i64 0, .int .i64 0, .bool false] (0) c12) (0) 9).bind fun cs => fromCells true cs).bind fun v => (some []).bind fun vs => some (v :: vs)).bind fun vs => some (0, [oneOr vs], r9.2) else none
theorem run49 (call : Go.Fw.Call) (a0 : AVal) (h : Heap) : runFn call (.code A49) [a0] h = (S49 call a0 h).bind ansOf := by kernel_rfl
theorem c49 (a0 : AVal) (h : Heap) : E tbl 49 [a0] h = (S49 (E tbl) a0 h).bind ansOf := (E_eq tbl 49 [a0] h).trans (by rw [show tbl 49 = some (.code A49) by kernel_rfl]; exact run49 (E tbl) a0 h)
noncomputable def S50 (call : Go.Fw.Call) (a0 : AVal) (h : Heap) : Option J :=
 (AVal.cells? a0).bind fun c1 =>
 (rdL c1 0 1).bind fun c2 =>
 (fromCells false c2).bind fun v3 =>
 (aBin .lss .plain v3 (.int .i64 1)).bind fun v4 =>
 (guardV v4 false
 ((rdL c1 0 1).bind fun c5 =>
 (fromCells false c5).bind fun v6 =>
 (aBin .gtr .plain v6 (.int .i64 5)).bind fun v7 =>
 some (0, [v7], h))
 (some (0, [skipV], h))).bind fun g8 =>
 (aPick v4 (.bool true) (g8.2.1.getD 0 .undef)).bind fun v9 =>
 condV v9
 ((call 72 [(.str [107, 105, 110, 100]), (.int .i64 12)] g8.2.2).bind fun r10 =>
 some (0, [r10.1], r10.2))
 ((rdL c1 0 13).bind fun c11 =>
 (fromCells true c11).bind fun v12 =>
 (call 73 [v12] g8.2.2).bind fun r13 =>
 (aUn .not r13.1).bind fun v14 =>
 condV v14
 ((call 72 [(.str [122, 101, 114, 111]), (.int .i64 12)] r13.2).bind fun r15 =>
 some (0, [r15.1], r15.2))
 ((rdL c1 0 13).bind fun c16 =>
 (fromCells true c16).bind fun v17 =>
 (call 74 [v17] r13.2).bind fun r18 =>
 (aUn .not r18.1).bind fun v19 =>
 condV v19
 ((call 72 [(.str [111, 112]), (.int .i64 12)] r18.2).bind fun r20 =>
 some (0, [r20.1], r20.2))
 ((rdL c1 3 1).bind fun c21 =>
 (fromCells false c21).bind fun v22 =>
 (call 75 [v22] r18.2).bind fun r23 =>
 (aUn .not r23.1).bind fun v24 =>
 (guardV v24 false
 ((rdL c1 2 1).bind fun c25 =>
 (fromCells false c25).bind fun v26 =>
 (call 75 [v26] r23.2).bind fun r27 =>
 (aUn .not r27.1).bind fun v28 =>
 some (0, [v28], r27.2))
 (some (0, [skipV], r23.2))).bind fun g29 =>
 (aPick v24 (.bool true) (g29.2.1.getD 0 .undef)).bind fun v30 =>
 (guardV v30 false
 ((rdL c1 6 1).bind fun c31 =>
 (fromCells false c31).bind fun v32 =>
 (aBin .lss .plain v32 (.int .i64 (-1))).bind fun v33 =>
 some (0, [v33], g29.2.2))
 (some (0, [skipV], g29.2.2))).bind fun g34 =>
 (aPick v30 (.bool true) (g34.2.1.getD 0 .undef)).bind fun v35 =>
 condV v35
 ((call 72 [(.str [110, 117, 109, 98, 101, 114]), (.int .i64 1)] g34.2.2).bind fun r36 =>
 some (0, [r36.1], r36.2))
 ((rdL c1 11 1).bind fun c37 =>
 (fromCells false c37).bind fun v38 =>
 (aLen false v38).bind fun v39 =>
 (aBin .gtr .plain v39 (.int .i64 64)).bind fun v40 =>
 (guardV v40 false
 ((rdL c1 12 1).bind fun c41 =>
 (fromCells false c41).bind fun v42 =>
 (aLen false v42).bind fun v43 =>
 (aBin .gtr .plain v43 (.int .i64 64)).bind fun v44 =>
 some (0, [v44], g34.2.2))
 (some (0, [skipV], g34.2.2))).bind fun g45 =>
 (aPick v40 (.bool true) (g45.2.1.getD 0 .undef)).bind fun v46 =>
 condV v46
 ((call 72 [(.str [99, 97, 114, 100, 115]), (.int .i64 3)] g45.2.2).bind fun r47 =>
 some (0, [r47.1], r47.2))
 ((rdL c1 11 1).bind fun c48 =>
 (fromCells false c48).bind fun v49 =>
 (call 76 [v49, (.func 77 [])] g45.2.2).bind fun r50 =>
 (guardV r50.1 false
 ((rdL c1 12 1).bind fun c51 =>
 (fromCells false c51).bind fun v52 =>
 (call 79 [v52, (.func 80 [])] r50.2).bind fun r53 =>
 some (0, [r53.1], r53.2))
 (some (0, [skipV], r50.2))).bind fun g54 =>
 (aPick r50.1 (.bool true) (g54.2.1.getD 0 .undef)).bind fun v55 =>
 condV v55
 ((call 72 [(.str [99, 97, 114, 100]), (.int .i64 1)] g54.2.2).bind fun r56 =>
 some (0, [r56.1], r56.2))
 (some (0, [(.nilIface)], g54.2.2)))))))
theorem run50 (call : Go.Fw.Call) (a0 : AVal) (h : Heap) : runFn call (.code A50) [a0] h = (S50 call a0 h).bind ansOf := by kernel_rfl
theorem c50 (a0 : AVal) (h : Heap) : E tbl 50 [a0] h = (S50 (E tbl) a0 h).bind ansOf := (E_eq tbl 50 [a0] h).trans (by rw [show tbl 50 = some (.code A50) by kernel_rfl]; exact run50 (E tbl) a0 h)
noncomputable def L53_0 (call : Go.Fw.Call) (xs : List AVal) (h : Heap) : Option J :=
 (aBin .lss .plain (xs.getD 6 .undef) (xs.getD 5 .undef)).bind fun v5 =>
 condV v5
 (((aIaddr 9 (xs.getD 4 .undef) (xs.getD 6 .undef)).bind fun v6 =>
 (aLoad h 9 v6).bind fun c7 =>
 (fromCells true c7).bind fun v8 =>
 (aCells 9 v8).bind fun c9 =>
 bif Nat.ble ((0) + 9) (List.length (α := AVal) [.str [], .str [], .int .i64 0, .int .i64 0, .int .i64 0, .int .i64 0, .int .i64 0, .int .i64 0, .bool false]) then (rdL (splice [.str [], .str [], .int .i64 0, .int .i64 0, .int .i64 0, .int .i64 0, .int .i64 0, .int .i64 0, .bool false] (0) c9) 0 9).bind fun c10 =>
 (fromCells true c10).bind fun v11 =>
 (call 78 [v11] h).bind fun r12 =>
 (aUn .not r12.1).bind fun v13 =>
 condV v13
 (some (0, [(xs.getD 0 .undef), (xs.getD 1 .undef), (xs.getD 2 .undef), (xs.getD 3 .undef), (xs.getD 4 .undef), (xs.getD 5 .undef), (xs.getD 6 .undef)], r12.2))
 ((call 28 [(xs.getD 0 .undef)] (r12.2.res 1)).bind fun r14 =>
 (rdL (splice [.str [], .str [], .int .i64 0, .int .i64 0, .int .i64 0, .int .i64 0, .int .i64 0, .int .i64 0, .bool false] (0) c9) 0 2).bind fun c15 =>
 (fromCells true c15).bind fun v16 =>
 (call 85 [r14.1, v16] r14.2).bind fun r17 =>
 (aExtract 0 r17.1).bind fun v18 =>
 (aExtract 1 r17.1).bind fun v19 =>
 (aCells 10 v18).bind fun c20 =>
 (aStore (r17.2.setBlk (r12.2.next + 0) (some ⟨[.str [], .str [], .int .i64 0, .int .i64 0, .int .i64 0, .int .i64 0, .int .i64 0, .int .i64 0, .bool false, .int .i64 0], true⟩)) (.ptr (r12.2.next + 0) 0) c20).bind fun h21 =>
 bif checkPairs [(3, some (.lrd 11 (0) 2)), (1, some (.ef [(11, (splice [.str [], .str [], .int .i64 0, .int .i64 0, .int .i64 0, .int .i64 0, .int .i64 0, .int .i64 0, .bool false] (0) c9))] (r12.2.res 1) [(11, (splice [.str [], .str [], .int .i64 0, .int .i64 0, .int .i64 0, .int .i64 0, .int .i64 0, .int .i64 0, .bool false] (0) c9))] r14.2))] [(3, 1)] then (aUn .not v19).bind fun v22 =>
 (guardV v22 false
 ((aFaddr 0 (.ptr (r12.2.next + 0) 0)).bind fun v23 =>
 (aFaddr 5 v23).bind fun v24 =>
 (aLoad h21 3 v24).bind fun c25 =>
 (fromCells true c25).bind fun v26 =>
 (rdL (splice [.str [], .str [], .int .i64 0, .int .i64 0, .int .i64 0, .int .i64 0, .int .i64 0, .int .i64 0, .bool false] (0) c9) 5 3).bind fun c27 =>
 (fromCells true c27).bind fun v28 =>
 (call 86 [v26, v28] h21).bind fun r29 =>
 some (0, [r29.1], r29.2))
 (some (0, [skipV], h21))).bind fun g30 =>
 (aPick v22 (.bool true) (g30.2.1.getD 0 .undef)).bind fun v31 =>
 (condV v31
 ((rdL (splice [.str [], .str [], .int .i64 0, .int .i64 0, .int .i64 0, .int .i64 0, .int .i64 0, .int .i64 0, .bool false] (0) c9) 0 9).bind fun c32 =>
 (fromCells true c32).bind fun v33 =>
 (aFill [.str [], .str [], .int .i64 0, .int .i64 0, .int .i64 0, .int .i64 0, .int .i64 0, .int .i64 0, .bool false, .int .i64 0] [(0, 9, v33), (9, 1, (xs.getD 1 .undef))]).bind fun c34 =>
 (call 87 [(xs.getD 0 .undef), (.agg c34)] g30.2.2).bind fun r35 =>
 (aBin .neq .plain r35.1 (.int .i64 0)).bind fun v36 =>
 condV v36
 ((aBin .add .plain (xs.getD 3 .undef) (.int .i64 1)).bind fun v37 =>
 some (0, [(xs.getD 0 .undef), (xs.getD 1 .undef), (xs.getD 2 .undef), v37, (xs.getD 4 .undef), (xs.getD 5 .undef), (xs.getD 6 .undef)], r35.2))
 ((rdL (splice [.str [], .str [], .int .i64 0, .int .i64 0, .int .i64 0, .int .i64 0, .int .i64 0, .int .i64 0, .bool false] (0) c9) 0 9).bind fun c38 =>
 (fromCells true c38).bind fun v39 =>
 (aFill (reps [.str [], .str [], .int .i64 0, .int .i64 0, .int .i64 0, .int .i64 0, .int .i64 0, .int .i64 0, .bool false] 1) [(0, 9, v39)]).bind fun c40 =>
 (aAppend 9 88 [.str [], .str [], .int .i64 0, .int .i64 0, .int .i64 0, .int .i64 0, .int .i64 0, .int .i64 0, .bool false] false (xs.getD 2 .undef) (.slice r35.2.next 0 1 1 9 true) (r35.2.alloc c40)).bind fun r41 =>
 some (1, [(xs.getD 0 .undef), (xs.getD 1 .undef), r41.1, (xs.getD 3 .undef), (xs.getD 4 .undef), (xs.getD 5 .undef), (xs.getD 6 .undef)], r41.2)))
 ((aFaddr 0 (.ptr (r12.2.next + 0) 0)).bind fun v42 =>
 (aFaddr 5 v42).bind fun v43 =>
 (aLoad g30.2.2 3 v43).bind fun c44 =>
 (fromCells true c44).bind fun v45 =>
 (rdL (splice [.str [], .str [], .int .i64 0, .int .i64 0, .int .i64 0, .int .i64 0, .int .i64 0, .int .i64 0, .bool false] (0) c9) 5 3).bind fun c46 =>
 (fromCells true c46).bind fun v47 =>
 (aBin .eql (.cells [1, 1, 1]) v45 v47).bind fun v48 =>
 (guardV v48 true
 ((aFaddr 0 (.ptr (r12.2.next + 0) 0)).bind fun v49 =>
 (aFaddr 8 v49).bind fun v50 =>
 (aLoad g30.2.2 1 v50).bind fun c51 =>
 (fromCells false c51).bind fun v52 =>
 (aUn .not v52).bind fun v53 =>
 some (0, [v53], g30.2.2))
 (some (0, [skipV], g30.2.2))).bind fun g54 =>
 (aPick v48 (g54.2.1.getD 0 .undef) (.bool false)).bind fun v55 =>
 (condV v55
 ((call 28 [(xs.getD 0 .undef)] g54.2.2).bind fun r56 =>
 (aFaddr 0 (.ptr (r12.2.next + 0) 0)).bind fun v57 =>
 (aLoad r56.2 9 v57).bind fun c58 =>
 (fromCells true c58).bind fun v59 =>
 (aFill [.str [], .str [], .int .i64 0, .int .i64 0, .int .i64 0, .int .i64 0, .int .i64 0, .int .i64 0, .bool false, .int .i64 0] [(0, 9, v59), (9, 1, (xs.getD 1 .undef))]).bind fun c60 =>
 (call 88 [r56.1, (.agg c60)] r56.2).bind fun r61 =>
 bif checkPairs [(3, logRd v57 9), (1, some (.ef [(11, (splice [.str [], .str [], .int .i64 0, .int .i64 0, .int .i64 0, .int .i64 0, .int .i64 0, .int .i64 0, .bool false] (0) c9))] g54.2.2 [(11, (splice [.str [], .str [], .int .i64 0, .int .i64 0, .int .i64 0, .int .i64 0, .int .i64 0, .int .i64 0, .bool false] (0) c9))] r56.2))] [(3, 1)] then some (0, [(xs.getD 0 .undef), (xs.getD 1 .undef), (xs.getD 2 .undef), (xs.getD 3 .undef), (xs.getD 4 .undef), (xs.getD 5 .undef), (xs.getD 6 .undef)], r61.2) else none)
 (some (0, [(xs.getD 0 .undef), (xs.getD 1 .undef), (xs.getD 2 .undef), (xs.getD 3 .undef), (xs.getD 4 .undef), (xs.getD 5 .undef), (xs.getD 6 .undef)], g54.2.2))).bind fun x62 =>
 bif Nat.beq x62.1 0 then some (1, [(x62.2.1.getD 0 .undef), (x62.2.1.getD 1 .undef), (x62.2.1.getD 2 .undef), (x62.2.1.getD 3 .undef), (x62.2.1.getD 4 .undef), (x62.2.1.getD 5 .undef), (x62.2.1.getD 6 .undef)], x62.2.2) else
 none)).bind fun x63 =>
 bif Nat.beq x63.1 0 then some (0, [(x63.2.1.getD 0 .undef), (x63.2.1.getD 1 .undef), (x63.2.1.getD 2 .undef), (x63.2.1.getD 3 .undef), (x63.2.1.getD 4 .undef), (x63.2.1.getD 5 .undef), (x63.2.1.getD 6 .undef)], x63.2.2) else
 bif Nat.beq x63.1 1 then some (0, [(x63.2.1.getD 0 .undef), (x63.2.1.getD 1 .undef), (x63.2.1.getD 2 .undef), (x63.2.1.getD 3 .undef), (x63.2.1.getD 4 .undef), (x63.2.1.getD 5 .undef), (x63.2.1.getD 6 .undef)], x63.2.2) else
 none else none) else none).bind fun x64 =>
 bif Nat.beq x64.1 0 then (aBin .add .plain (x64.2.1.getD 6 .undef) (.int .i64 1)).bind fun v65 =>
 some (0, [(x64.2.1.getD 0 .undef), (x64.2.1.getD 1 .undef), (x64.2.1.getD 2 .undef), (x64.2.1.getD 3 .undef), (x64.2.1.getD 4 .undef), (x64.2.1.getD 5 .undef), v65], x64.2.2) else
 none)
 (some (1, [(xs.getD 2 .undef), (xs.getD 3 .undef)], h))
noncomputable def S53 (call : Go.Fw.Call) (a0 a1 a2 : AVal) (h : Heap) : Option J :=
 (aBin .eql .ptr a0 (.nilPtr)).bind fun v1 =>
 condV v1
 (some (0, [.tuple [(.nilSlice), (.int .i64 0)]], h))
 ((aMinMaxL false [a2, (.int .i64 1099511627776)]).bind fun v2 =>
 (aMinMaxL true [(.int .i64 0), v2]).bind fun v3 =>
 (aLen false a1).bind fun v4 =>
 (loop (L53_0 call) [a0, v3, (.nilSlice), (.int .i64 0), a1, v4, (.int .i64 0)] h).bind fun x66 =>
 bif Nat.beq x66.1 1 then some (0, [.tuple [(x66.2.1.getD 0 .undef), (x66.2.1.getD 1 .undef)]], x66.2.2) else
 none)
theorem run53 (call : Go.Fw.Call) (a0 a1 a2 : AVal) (h : Heap) : runFn call (.code A53) [a0, a1, a2] h = (S53 call a0 a1 a2 h).bind ansOf := by kernel_rfl
theorem c53 (a0 a1 a2 : AVal) (h : Heap) : E tbl 53 [a0, a1, a2] h = (S53 (E tbl) a0 a1 a2 h).bind ansOf := (E_eq tbl 53 [a0, a1, a2] h).trans (by rw [show tbl 53 = some (.code A53) by kernel_rfl]; exact run53 (E tbl) a0 a1 a2 h)
noncomputable def S70 (call : Go.Fw.Call) (a0 : AVal) (h : Heap) : Option J :=
 (aFill (reps [.str []] 4) [(0, 1, (.str [97, 112, 112])), (1, 1, (.str [98])), (2, 1, (.str [97, 112, 112, 49])), (3, 1, (.str [122, 57]))]).bind fun c1 =>
 (call 48 [a0, (.int .i64 4)] ((h.res 2).setBlk (h.next + 0) (some ⟨c1, true⟩))).bind fun r2 =>
 (aIaddr 1 (.slice (h.next + 0) 0 4 4 1 true) r2.1).bind fun v3 =>
 (aLoad r2.2 1 v3).bind fun c4 =>
 (fromCells false c4).bind fun v5 =>
 (aFill (reps [.str []] 5) [(0, 1, (.str [105, 100])), (1, 1, (.str [97])), (2, 1, (.str [105, 100, 50])), (3, 1, (.str [120, 48])), (4, 1, (.str [109]))]).bind fun c6 =>
 (call 48 [a0, (.int .i64 5)] (r2.2.setBlk (h.next + 1) (some ⟨c6, true⟩))).bind fun r7 =>
 (aIaddr 1 (.slice (h.next + 1) 0 5 5 1 true) r7.1).bind fun v8 =>
 (aLoad r7.2 1 v8).bind fun c9 =>
 (fromCells false c9).bind fun v10 =>
 (aFill [.str [], .str []] [(0, 1, v5), (1, 1, v10)]).bind fun c11 =>
 (aCells 2 (.agg c11)).bind fun c12 =>
 bif Nat.ble ((0) + 2) (List.length (α := AVal) [.str [], .str []]) then bif checkPairs [(7, some (.ef [(2, [.str [], .str []])] (r2.2.setBlk (h.next + 1) (some ⟨c6, true⟩)) [(2, [.str [], .str []])] r7.2)), (4, logRd v3 1)] [(4, 7)] then (((rdL (splice [.str [], .str []] (0) c12) (0) 2).bind fun cs => fromCells true cs).bind fun v => (some []).bind fun vs => some (v :: vs)).bind fun vs => some (0, [oneOr vs], r7.2) else none else none
theorem run70 (call : Go.Fw.Call) (a0 : AVal) (h : Heap) : runFn call (.code A70) [a0] h = (S70 call a0 h).bind ansOf := by kernel_rfl
theorem c70 (a0 : AVal) (h : Heap) : E tbl 70 [a0] h = (S70 (E tbl) a0 h).bind ansOf := (E_eq tbl 70 [a0] h).trans (by rw [show tbl 70 = some (.code A70) by kernel_rfl]; exact run70 (E tbl) a0 h)
noncomputable def S71 (call : Go.Fw.Call) (a0 : AVal) (h : Heap) : Option J :=
 (call 48 [a0, (.int .i64 40)] h).bind fun r1 =>
 (call 48 [a0, (.int .i64 6)] r1.2).bind fun r2 =>
 (call 48 [a0, (.int .i64 9)] r2.2).bind fun r3 =>
 (aFill [.int .i64 0, .int .i64 0, .int .i64 0] [(0, 1, r1.1), (1, 1, r2.1), (2, 1, r3.1)]).bind fun c4 =>
 (aCells 3 (.agg c4)).bind fun c5 =>
 bif Nat.ble ((0) + 3) (List.length (α := AVal) [.int .i64 0, .int .i64 0, .int .i64 0]) then (((rdL (splice [.int .i64 0, .int .i64 0, .int .i64 0] (0) c5) (0) 3).bind fun cs => fromCells true cs).bind fun v => (some []).bind fun vs => some (v :: vs)).bind fun vs => some (0, [oneOr vs], r3.2) else none
theorem run71 (call : Go.Fw.Call) (a0 : AVal) (h : Heap) : runFn call (.code A71) [a0] h = (S71 call a0 h).bind ansOf := by kernel_rfl
theorem c71 (a0 : AVal) (h : Heap) : E tbl 71 [a0] h = (S71 (E tbl) a0 h).bind ansOf := (E_eq tbl 71 [a0] h).trans (by rw [show tbl 71 = some (.code A71) by kernel_rfl]; exact run71 (E tbl) a0 h)
noncomputable def S73 (call : Go.Fw.Call) (a0 : AVal) (h : Heap) : Option J :=
 (AVal.cells? a0).bind fun c1 =>
 (rdL c1 0 1).bind fun c2 =>
 (fromCells false c2).bind fun v3 =>
 (aBin .eql .plain v3 (.int .i64 1)).bind fun v4 =>
 (condV v4
 ((aFill [.str [], .str []] []).bind fun c5 =>
 (aCells 1 (.int .i64 0)).bind fun c6 =>
 bif Nat.ble ((4) + 1) (List.length (α := AVal) c1) then (aCells 1 (.int .i64 0)).bind fun c7 =>
 bif Nat.ble ((1) + 1) (List.length (α := AVal) (splice c1 (4) c6)) then (aCells 2 (.agg c5)).bind fun c8 =>
 bif Nat.ble ((7) + 2) (List.length (α := AVal) (splice (splice c1 (4) c6) (1) c7)) then (aCells 1 (.int .i64 0)).bind fun c9 =>
 bif Nat.ble ((5) + 1) (List.length (α := AVal) (splice (splice (splice c1 (4) c6) (1) c7) (7) c8)) then (aCells 1 (.int .i64 0)).bind fun c10 =>
 bif Nat.ble ((2) + 1) (List.length (α := AVal) (splice (splice (splice (splice c1 (4) c6) (1) c7) (7) c8) (5) c9)) then (aCells 1 (.int .i64 0)).bind fun c11 =>
 bif Nat.ble ((6) + 1) (List.length (α := AVal) (splice (splice (splice (splice (splice c1 (4) c6) (1) c7) (7) c8) (5) c9) (2) c10)) then some (0, [(.agg (splice (splice (splice (splice (splice (splice c1 (4) c6) (1) c7) (7) c8) (5) c9) (2) c10) (6) c11))], h) else none else none else none else none else none else none)
 ((aBin .eql .plain v3 (.int .i64 2)).bind fun v12 =>
 (condV v12
 ((aFill [.str [], .str []] []).bind fun c13 =>
 (aCells 1 (.int .i64 0)).bind fun c14 =>
 bif Nat.ble ((4) + 1) (List.length (α := AVal) c1) then (aCells 1 (.int .i64 0)).bind fun c15 =>
 bif Nat.ble ((1) + 1) (List.length (α := AVal) (splice c1 (4) c14)) then (aCells 2 (.agg c13)).bind fun c16 =>
 bif Nat.ble ((7) + 2) (List.length (α := AVal) (splice (splice c1 (4) c14) (1) c15)) then (aCells 1 (.int .i64 0)).bind fun c17 =>
 bif Nat.ble ((3) + 1) (List.length (α := AVal) (splice (splice (splice c1 (4) c14) (1) c15) (7) c16)) then (aCells 1 (.bool false)).bind fun c18 =>
 bif Nat.ble ((9) + 1) (List.length (α := AVal) (splice (splice (splice (splice c1 (4) c14) (1) c15) (7) c16) (3) c17)) then (aCells 1 (.int .i64 0)).bind fun c19 =>
 bif Nat.ble ((6) + 1) (List.length (α := AVal) (splice (splice (splice (splice (splice c1 (4) c14) (1) c15) (7) c16) (3) c17) (9) c18)) then (aCells 1 (.int .u32 0)).bind fun c20 =>
 bif Nat.ble ((10) + 1) (List.length (α := AVal) (splice (splice (splice (splice (splice (splice c1 (4) c14) (1) c15) (7) c16) (3) c17) (9) c18) (6) c19)) then (aCells 1 (.nilSlice)).bind fun c21 =>
 bif Nat.ble ((11) + 1) (List.length (α := AVal) (splice (splice (splice (splice (splice (splice (splice c1 (4) c14) (1) c15) (7) c16) (3) c17) (9) c18) (6) c19) (10) c20)) then some (0, [(.agg (splice (splice (splice (splice (splice (splice (splice (splice c1 (4) c14) (1) c15) (7) c16) (3) c17) (9) c18) (6) c19) (10) c20) (11) c21))], h) else none else none else none else none else none else none else none else none)
 ((aBin .eql .plain v3 (.int .i64 3)).bind fun v22 =>
 (condV v22
 (some (0, [v3, v22, (.agg c1)], h))
 ((aBin .eql .plain v3 (.int .i64 4)).bind fun v23 =>
 some (0, [v3, v23, (.agg c1)], h))).bind fun x24 =>
 bif Nat.beq x24.1 0 then (condV (x24.2.1.getD 1 .undef)
 ((aCells 1 (.nilSlice)).bind fun c25 =>
 bif Nat.ble ((11) + 1) (List.length (α := AVal) (AVal.aggCells (x24.2.1.getD 2 .undef))) then some (0, [(.agg (splice (AVal.aggCells (x24.2.1.getD 2 .undef)) (11) c25))], x24.2.2) else none)
 ((aBin .eql .plain (x24.2.1.getD 0 .undef) (.int .i64 5)).bind fun v26 =>
 (condV v26
 ((aCells 1 (.nilSlice)).bind fun c27 =>
 bif Nat.ble ((12) + 1) (List.length (α := AVal) (AVal.aggCells (x24.2.1.getD 2 .undef))) then some (0, [(.agg (splice (AVal.aggCells (x24.2.1.getD 2 .undef)) (12) c27))], x24.2.2) else none)
 (some (0, [(.agg (AVal.aggCells (x24.2.1.getD 2 .undef)))], x24.2.2))).bind fun x28 =>
 bif Nat.beq x28.1 0 then some (0, [(.agg (AVal.aggCells (x28.2.1.getD 0 .undef)))], x28.2.2) else
 none)).bind fun x29 =>
 bif Nat.beq x29.1 0 then some (0, [(.agg (AVal.aggCells (x29.2.1.getD 0 .undef)))], x29.2.2) else
 none else
 none)).bind fun x30 =>
 bif Nat.beq x30.1 0 then some (0, [(.agg (AVal.aggCells (x30.2.1.getD 0 .undef)))], x30.2.2) else
 none)).bind fun x31 =>
 bif Nat.beq x31.1 0 then (aCells 1 (.int .i64 0)).bind fun c32 =>
 bif Nat.ble ((0) + 1) (List.length (α := AVal) (AVal.aggCells (x31.2.1.getD 0 .undef))) then (rdL (splice (AVal.aggCells (x31.2.1.getD 0 .undef)) (0) c32) 0 13).bind fun c33 =>
 (fromCells true c33).bind fun v34 =>
 (aFill [.int .i64 0, .int .i64 0, .int .i64 0, .int .i64 0, .int .i64 0, .int .i64 0, .int .i64 0, .str [], .str [], .bool false, .int .u32 0, .nilSlice, .nilSlice] []).bind fun c35 =>
 (call 106 [v34, (.agg c35)] x31.2.2).bind fun r36 =>
 some (0, [r36.1], r36.2) else none else
 none
theorem run73 (call : Go.Fw.Call) (a0 : AVal) (h : Heap) : runFn call (.code A73) [a0] h = (S73 call a0 h).bind ansOf := by kernel_rfl
theorem c73 (a0 : AVal) (h : Heap) : E tbl 73 [a0] h = (S73 (E tbl) a0 h).bind ansOf := (E_eq tbl 73 [a0] h).trans (by rw [show tbl 73 = some (.code A73) by kernel_rfl]; exact run73 (E tbl) a0 h)
noncomputable def S74 (call : Go.Fw.Call) (a0 : AVal) (h : Heap) : Option J :=
 (AVal.cells? a0).bind fun c1 =>
 (rdL c1 0 13).bind fun c2 =>
 (fromCells true c2).bind fun v3 =>
 (call 107 [v3] h).bind fun r4 =>
 (aUn .not r4.1).bind fun v5 =>
 condV v5
 (some (0, [(.bool true)], r4.2))
 ((rdL c1 1 1).bind fun c6 =>
 (fromCells false c6).bind fun v7 =>
 (aBin .eql .plain v7 (.int .i64 5)).bind fun v8 =>
 condV v8
 ((rdL c1 7 2).bind fun c9 =>
 (fromCells true c9).bind fun v10 =>
 (aFill [.str [], .str []] []).bind fun c11 =>
 (aBin .eql (.cells [2, 2]) v10 (.agg c11)).bind fun v12 =>
 some (0, [v12], r4.2))
 ((rdL c1 1 1).bind fun c13 =>
 (fromCells false c13).bind fun v14 =>
 (aBin .geq .plain v14 (.int .i64 1)).bind fun v15 =>
 (guardV v15 true
 ((rdL c1 1 1).bind fun c16 =>
 (fromCells false c16).bind fun v17 =>
 (aBin .lss .plain v17 (.int .i64 5)).bind fun v18 =>
 some (0, [v18], r4.2))
 (some (0, [skipV], r4.2))).bind fun g19 =>
 (aPick v15 (g19.2.1.getD 0 .undef) (.bool false)).bind fun v20 =>
 (guardV v20 true
 ((rdL c1 7 2).bind fun c21 =>
 (fromCells true c21).bind fun v22 =>
 (call 81 [v22] g19.2.2).bind fun r23 =>
 some (0, [r23.1], r23.2))
 (some (0, [skipV], g19.2.2))).bind fun g24 =>
 (aPick v20 (g24.2.1.getD 0 .undef) (.bool false)).bind fun v25 =>
 some (0, [v25], g24.2.2)))
theorem run74 (call : Go.Fw.Call) (a0 : AVal) (h : Heap) : runFn call (.code A74) [a0] h = (S74 call a0 h).bind ansOf := by kernel_rfl
theorem c74 (a0 : AVal) (h : Heap) : E tbl 74 [a0] h = (S74 (E tbl) a0 h).bind ansOf := (E_eq tbl 74 [a0] h).trans (by rw [show tbl 74 = some (.code A74) by kernel_rfl]; exact run74 (E tbl) a0 h)
noncomputable def S75 (call : Go.Fw.Call) (a0 : AVal) (h : Heap) : Option J :=
 (aBin .geq .plain a0 (.int .i64 0)).bind fun v1 =>
 (guardV v1 true
 ((aBin .leq .plain a0 (.int .i64 255)).bind fun v2 =>
 some (0, [v2], h))
 (some (0, [skipV], h))).bind fun g3 =>
 (aPick v1 (g3.2.1.getD 0 .undef) (.bool false)).bind fun v4 =>
 some (0, [v4], g3.2.2)
theorem run75 (call : Go.Fw.Call) (a0 : AVal) (h : Heap) : runFn call (.code A75) [a0] h = (S75 call a0 h).bind ansOf := by kernel_rfl
theorem c75 (a0 : AVal) (h : Heap) : E tbl 75 [a0] h = (S75 (E tbl) a0 h).bind ansOf := (E_eq tbl 75 [a0] h).trans (by rw [show tbl 75 = some (.code A75) by kernel_rfl]; exact run75 (E tbl) a0 h)
noncomputable def S76 (call : Go.Fw.Call) (a0 a1 : AVal) (h : Heap) : Option J :=
 (call 108 [a0, a1] h).bind fun r1 =>
 (aBin .geq .plain r1.1 (.int .i64 0)).bind fun v2 =>
 some (0, [v2], r1.2)
theorem run76 (call : Go.Fw.Call) (a0 a1 : AVal) (h : Heap) : runFn call (.code A76) [a0, a1] h = (S76 call a0 a1 h).bind ansOf := by kernel_rfl
theorem c76 (a0 a1 : AVal) (h : Heap) : E tbl 76 [a0, a1] h = (S76 (E tbl) a0 a1 h).bind ansOf := (E_eq tbl 76 [a0, a1] h).trans (by rw [show tbl 76 = some (.code A76) by kernel_rfl]; exact run76 (E tbl) a0 a1 h)
noncomputable def S77 (call : Go.Fw.Call) (a0 : AVal) (h : Heap) : Option J :=
 (AVal.cells? a0).bind fun c1 =>
 (rdL c1 0 9).bind fun c2 =>
 (fromCells true c2).bind fun v3 =>
 (call 78 [v3] h).bind fun r4 =>
 (aUn .not r4.1).bind fun v5 =>
 some (0, [v5], r4.2)
theorem run77 (call : Go.Fw.Call) (a0 : AVal) (h : Heap) : runFn call (.code A77) [a0] h = (S77 call a0 h).bind ansOf := by kernel_rfl
theorem c77 (a0 : AVal) (h : Heap) : E tbl 77 [a0] h = (S77 (E tbl) a0 h).bind ansOf := (E_eq tbl 77 [a0] h).trans (by rw [show tbl 77 = some (.code A77) by kernel_rfl]; exact run77 (E tbl) a0 h)
noncomputable def S78 (call : Go.Fw.Call) (a0 : AVal) (h : Heap) : Option J :=
 (AVal.cells? a0).bind fun c1 =>
 (rdL c1 0 1).bind fun c2 =>
 (fromCells false c2).bind fun v3 =>
 (call 99 [v3] h).bind fun r4 =>
 (aUn .not r4.1).bind fun v5 =>
 (guardV v5 false
 ((rdL c1 1 1).bind fun c6 =>
 (fromCells false c6).bind fun v7 =>
 (call 99 [v7] r4.2).bind fun r8 =>
 (aUn .not r8.1).bind fun v9 =>
 some (0, [v9], r8.2))
 (some (0, [skipV], r4.2))).bind fun g10 =>
 (aPick v5 (.bool true) (g10.2.1.getD 0 .undef)).bind fun v11 =>
 condV v11
 (some (0, [(.bool false)], g10.2.2))
 ((rdL c1 2 1).bind fun c12 =>
 (fromCells false c12).bind fun v13 =>
 (aBin .neq .plain v13 (.int .i64 1)).bind fun v14 =>
 (guardV v14 true
 ((rdL c1 2 1).bind fun c15 =>
 (fromCells false c15).bind fun v16 =>
 (aBin .neq .plain v16 (.int .i64 2)).bind fun v17 =>
 some (0, [v17], g10.2.2))
 (some (0, [skipV], g10.2.2))).bind fun g18 =>
 (aPick v14 (g18.2.1.getD 0 .undef) (.bool false)).bind fun v19 =>
 condV v19
 (some (0, [(.bool false)], g18.2.2))
 ((rdL c1 3 1).bind fun c20 =>
 (fromCells false c20).bind fun v21 =>
 (aBin .lss .plain v21 (.int .i64 0)).bind fun v22 =>
 (guardV v22 false
 ((rdL c1 3 1).bind fun c23 =>
 (fromCells false c23).bind fun v24 =>
 (aBin .gtr .plain v24 (.int .i64 3)).bind fun v25 =>
 some (0, [v25], g18.2.2))
 (some (0, [skipV], g18.2.2))).bind fun g26 =>
 (aPick v22 (.bool true) (g26.2.1.getD 0 .undef)).bind fun v27 =>
 condV v27
 (some (0, [(.bool false)], g26.2.2))
 ((rdL c1 4 1).bind fun c28 =>
 (fromCells false c28).bind fun v29 =>
 (aBin .geq .plain v29 (.int .i64 1)).bind fun v30 =>
 (guardV v30 true
 ((rdL c1 4 1).bind fun c31 =>
 (fromCells false c31).bind fun v32 =>
 (aBin .leq .plain v32 (.int .i64 1048576)).bind fun v33 =>
 some (0, [v33], g26.2.2))
 (some (0, [skipV], g26.2.2))).bind fun g34 =>
 (aPick v30 (g34.2.1.getD 0 .undef) (.bool false)).bind fun v35 =>
 (guardV v35 true
 ((rdL c1 5 3).bind fun c36 =>
 (fromCells true c36).bind fun v37 =>
 (call 109 [v37] g34.2.2).bind fun r38 =>
 some (0, [r38.1], r38.2))
 (some (0, [skipV], g34.2.2))).bind fun g39 =>
 (aPick v35 (g39.2.1.getD 0 .undef) (.bool false)).bind fun v40 =>
 some (0, [v40], g39.2.2))))
theorem run78 (call : Go.Fw.Call) (a0 : AVal) (h : Heap) : runFn call (.code A78) [a0] h = (S78 call a0 h).bind ansOf := by kernel_rfl
theorem c78 (a0 : AVal) (h : Heap) : E tbl 78 [a0] h = (S78 (E tbl) a0 h).bind ansOf := (E_eq tbl 78 [a0] h).trans (by rw [show tbl 78 = some (.code A78) by kernel_rfl]; exact run78 (E tbl) a0 h)
noncomputable def S79 (call : Go.Fw.Call) (a0 a1 : AVal) (h : Heap) : Option J :=
 (call 110 [a0, a1] h).bind fun r1 =>
 (aBin .geq .plain r1.1 (.int .i64 0)).bind fun v2 =>
 some (0, [v2], r1.2)
theorem run79 (call : Go.Fw.Call) (a0 a1 : AVal) (h : Heap) : runFn call (.code A79) [a0, a1] h = (S79 call a0 a1 h).bind ansOf := by kernel_rfl
theorem c79 (a0 a1 : AVal) (h : Heap) : E tbl 79 [a0, a1] h = (S79 (E tbl) a0 a1 h).bind ansOf := (E_eq tbl 79 [a0, a1] h).trans (by rw [show tbl 79 = some (.code A79) by kernel_rfl]; exact run79 (E tbl) a0 a1 h)
noncomputable def S81 (call : Go.Fw.Call) (a0 : AVal) (h : Heap) : Option J :=
 (AVal.cells? a0).bind fun c1 =>
 (rdL c1 0 1).bind fun c2 =>
 (fromCells false c2).bind fun v3 =>
 (call 99 [v3] h).bind fun r4 =>
 (guardV r4.1 true
 ((rdL c1 1 1).bind fun c5 =>
 (fromCells false c5).bind fun v6 =>
 (call 99 [v6] r4.2).bind fun r7 =>
 some (0, [r7.1], r7.2))
 (some (0, [skipV], r4.2))).bind fun g8 =>
 (aPick r4.1 (g8.2.1.getD 0 .undef) (.bool false)).bind fun v9 =>
 some (0, [v9], g8.2.2)
theorem run81 (call : Go.Fw.Call) (a0 : AVal) (h : Heap) : runFn call (.code A81) [a0] h = (S81 call a0 h).bind ansOf := by kernel_rfl
theorem c81 (a0 : AVal) (h : Heap) : E tbl 81 [a0] h = (S81 (E tbl) a0 h).bind ansOf := (E_eq tbl 81 [a0] h).trans (by rw [show tbl 81 = some (.code A81) by kernel_rfl]; exact run81 (E tbl) a0 h)
noncomputable def S85 (call : Go.Fw.Call) (a0 a1 : AVal) (h : Heap) : Option J :=
 (AVal.cells? a1).bind fun c1 =>
 (rdL c1 0 2).bind fun c2 =>
 (fromCells true c2).bind fun v3 =>
 (call 123 [a0, v3] h).bind fun r4 =>
 (aExtract 0 r4.1).bind fun v5 =>
 (aExtract 1 r4.1).bind fun v6 =>
 (aUn .not v6).bind fun v7 =>
 condV v7
 ((aFill [.str [], .str [], .int .i64 0, .int .i64 0, .int .i64 0, .int .i64 0, .int .i64 0, .int .i64 0, .bool false, .int .i64 0] []).bind fun c8 =>
 (aCells 10 (.agg c8)).bind fun c9 =>
 bif Nat.ble ((0) + 10) (List.length (α := AVal) [.str [], .str [], .int .i64 0, .int .i64 0, .int .i64 0, .int .i64 0, .int .i64 0, .int .i64 0, .bool false, .int .i64 0]) then (((rdL (splice [.str [], .str [], .int .i64 0, .int .i64 0, .int .i64 0, .int .i64 0, .int .i64 0, .int .i64 0, .bool false, .int .i64 0] (0) c9) (0) 10).bind fun cs => fromCells true cs).bind fun v => ((some (.bool false)).bind fun v => (some []).bind fun vs => some (v :: vs)).bind fun vs => some (v :: vs)).bind fun vs => some (0, [oneOr vs], r4.2) else none)
 ((aNilchk a0).bind fun v10 =>
 (aFaddr 1 v10).bind fun v11 =>
 (aLoad r4.2 1 v11).bind fun c12 =>
 (fromCells false c12).bind fun v13 =>
 (aIaddr 10 v13 v5).bind fun v14 =>
 (aLoad r4.2 10 v14).bind fun c15 =>
 (fromCells true c15).bind fun v16 =>
 (aCells 10 v16).bind fun c17 =>
 bif Nat.ble ((0) + 10) (List.length (α := AVal) [.str [], .str [], .int .i64 0, .int .i64 0, .int .i64 0, .int .i64 0, .int .i64 0, .int .i64 0, .bool false, .int .i64 0]) then (((rdL (splice [.str [], .str [], .int .i64 0, .int .i64 0, .int .i64 0, .int .i64 0, .int .i64 0, .int .i64 0, .bool false, .int .i64 0] (0) c17) (0) 10).bind fun cs => fromCells true cs).bind fun v => ((some (.bool true)).bind fun v => (some []).bind fun vs => some (v :: vs)).bind fun vs => some (v :: vs)).bind fun vs => some (0, [oneOr vs], r4.2) else none)
theorem run85 (call : Go.Fw.Call) (a0 a1 : AVal) (h : Heap) : runFn call (.code A85) [a0, a1] h = (S85 call a0 a1 h).bind ansOf := by kernel_rfl
theorem c85 (a0 a1 : AVal) (h : Heap) : E tbl 85 [a0, a1] h = (S85 (E tbl) a0 a1 h).bind ansOf := (E_eq tbl 85 [a0, a1] h).trans (by rw [show tbl 85 = some (.code A85) by kernel_rfl]; exact run85 (E tbl) a0 a1 h)
noncomputable def S86 (call : Go.Fw.Call) (a0 a1 : AVal) (h : Heap) : Option J :=
 (AVal.cells? a0).bind fun c1 =>
 (AVal.cells? a1).bind fun c2 =>
 (rdL c1 0 1).bind fun c3 =>
 (fromCells false c3).bind fun v4 =>
 (rdL c2 0 1).bind fun c5 =>
 (fromCells false c5).bind fun v6 =>
 (call 125 [v4, v6] h).bind fun r7 =>
 (rdL c1 2 1).bind fun c8 =>
 (fromCells false c8).bind fun v9 =>
 (rdL c2 2 1).bind fun c10 =>
 (fromCells false c10).bind fun v11 =>
 (call 125 [v9, v11] r7.2).bind fun r12 =>
 (rdL c1 1 1).bind fun c13 =>
 (fromCells false c13).bind fun v14 =>
 (rdL c2 1 1).bind fun c15 =>
 (fromCells false c15).bind fun v16 =>
 (call 126 [v14, v16] r12.2).bind fun r17 =>
 (aFill (reps [.int .i64 0] 3) [(0, 1, r7.1), (1, 1, r12.1), (2, 1, r17.1)]).bind fun c18 =>
 (call 124 [(.slice r17.2.next 0 3 3 1 true)] (r17.2.alloc c18)).bind fun r19 =>
 (aBin .lss .plain r19.1 (.int .i64 0)).bind fun v20 =>
 bif checkPairs [(13, some (.lrd 3 (1) 1)), (11, some (.lrd 2 (1) 1)), (9, some (.ef [(3, c2), (2, c1)] r7.2 [(3, c2), (2, c1)] r12.2)), (8, some (.lrd 3 (2) 1)), (6, some (.lrd 2 (2) 1)), (4, some (.ef [(3, c2), (2, c1)] h [(3, c2), (2, c1)] r7.2))] [(6, 4), (8, 4), (11, 4), (11, 9), (13, 4), (13, 9)] then some (0, [v20], r19.2) else none
theorem run86 (call : Go.Fw.Call) (a0 a1 : AVal) (h : Heap) : runFn call (.code A86) [a0, a1] h = (S86 call a0 a1 h).bind ansOf := by kernel_rfl
theorem c86 (a0 a1 : AVal) (h : Heap) : E tbl 86 [a0, a1] h = (S86 (E tbl) a0 a1 h).bind ansOf := (E_eq tbl 86 [a0, a1] h).trans (by rw [show tbl 86 = some (.code A86) by kernel_rfl]; exact run86 (E tbl) a0 a1 h)
noncomputable def S87 (call : Go.Fw.Call) (a0 a1 : AVal) (h : Heap) : Option J :=
 (AVal.cells? a1).bind fun c1 =>
 (aNilchk a0).bind fun v2 =>
 (aFaddr 4 v2).bind fun v3 =>
 (aLoad h 1 v3).bind fun c4 =>
 (fromCells false c4).bind fun v5 =>
 (rdL c1 0 10).bind fun c6 =>
 (fromCells true c6).bind fun v7 =>
 (call 88 [v5, v7] h).bind fun r8 =>
 (aBin .eql .plain r8.1 (.int .i64 0)).bind fun v9 =>
 (condV v9
 ((aNilchk a0).bind fun v10 =>
 (aFaddr 6 v10).bind fun v11 =>
 (aLoad r8.2 1 v11).bind fun c12 =>
 (fromCells false c12).bind fun v13 =>
 (rdL c1 0 2).bind fun c14 =>
 (fromCells true c14).bind fun v15 =>
 (call 127 [v13, v15] r8.2).bind fun r16 =>
 some (0, [r8.1], r16.2))
 (some (0, [r8.1], r8.2))).bind fun x17 =>
 bif Nat.beq x17.1 0 then some (0, [(x17.2.1.getD 0 .undef)], x17.2.2) else
 none
theorem run87 (call : Go.Fw.Call) (a0 a1 : AVal) (h : Heap) : runFn call (.code A87) [a0, a1] h = (S87 call a0 a1 h).bind ansOf := by kernel_rfl
theorem c87 (a0 a1 : AVal) (h : Heap) : E tbl 87 [a0, a1] h = (S87 (E tbl) a0 a1 h).bind ansOf := (E_eq tbl 87 [a0, a1] h).trans (by rw [show tbl 87 = some (.code A87) by kernel_rfl]; exact run87 (E tbl) a0 a1 h)
noncomputable def S88 (call : Go.Fw.Call) (a0 a1 : AVal) (h : Heap) : Option J :=
 (AVal.cells? a1).bind fun c1 =>
 (rdL c1 0 2).bind fun c2 =>
 (fromCells true c2).bind fun v3 =>
 (call 123 [a0, v3] h).bind fun r4 =>
 (aExtract 0 r4.1).bind fun v5 =>
 (aExtract 1 r4.1).bind fun v6 =>
 (condV v6
 ((aNilchk a0).bind fun v7 =>
 (aFaddr 1 v7).bind fun v8 =>
 (aLoad r4.2 1 v8).bind fun c9 =>
 (fromCells false c9).bind fun v10 =>
 (rdL c1 0 10).bind fun c11 =>
 (fromCells true c11).bind fun v12 =>
 (aIaddr 10 v10 v5).bind fun v13 =>
 (aCells 10 v12).bind fun c14 =>
 (aStore r4.2 v13 c14).bind fun h15 =>
 some (0, [], h15))
 ((aNilchk a0).bind fun v16 =>
 (aFaddr 1 v16).bind fun v17 =>
 (aLoad r4.2 1 v17).bind fun c18 =>
 (fromCells false c18).bind fun v19 =>
 (aLen false v19).bind fun v20 =>
 (aNilchk a0).bind fun v21 =>
 (aFaddr 0 v21).bind fun v22 =>
 (aLoad r4.2 1 v22).bind fun c23 =>
 (fromCells false c23).bind fun v24 =>
 (aBin .geq .plain v20 v24).bind fun v25 =>
 condV v25
 (some (1, [(.int .i64 24)], r4.2))
 ((aNilchk a0).bind fun v26 =>
 (aFaddr 1 v26).bind fun v27 =>
 (aLoad r4.2 1 v27).bind fun c28 =>
 (fromCells false c28).bind fun v29 =>
 (rdL c1 0 10).bind fun c30 =>
 (fromCells true c30).bind fun v31 =>
 (aFill (reps [.str [], .str [], .int .i64 0, .int .i64 0, .int .i64 0, .int .i64 0, .int .i64 0, .int .i64 0, .bool false, .int .i64 0] 1) [(0, 10, v31)]).bind fun c32 =>
 (call 128 [v29, v5, (.slice r4.2.next 0 1 1 10 true)] (r4.2.alloc c32)).bind fun r33 =>
 (aNilchk a0).bind fun v34 =>
 (aFaddr 1 v34).bind fun v35 =>
 (aCells 1 r33.1).bind fun c36 =>
 (aStore r33.2 v35 c36).bind fun h37 =>
 bif checkPairs [(7, some (.al r4.2.next)), (4, logRd v27 1)] [(4, 7)] then some (0, [], h37) else none))).bind fun x38 =>
 bif Nat.beq x38.1 0 then some (0, [(.int .i64 0)], x38.2.2) else
 bif Nat.beq x38.1 1 then some (0, [(x38.2.1.getD 0 .undef)], x38.2.2) else
 none
theorem run88 (call : Go.Fw.Call) (a0 a1 : AVal) (h : Heap) : runFn call (.code A88) [a0, a1] h = (S88 call a0 a1 h).bind ansOf := by kernel_rfl
theorem c88 (a0 a1 : AVal) (h : Heap) : E tbl 88 [a0, a1] h = (S88 (E tbl) a0 a1 h).bind ansOf := (E_eq tbl 88 [a0, a1] h).trans (by rw [show tbl 88 = some (.code A88) by kernel_rfl]; exact run88 (E tbl) a0 a1 h)
noncomputable def L99_0 (call : Go.Fw.Call) (xs : List AVal) (h : Heap) : Option J :=
 (aBin .lss .plain (xs.getD 2 .undef) (xs.getD 1 .undef)).bind fun v8 =>
 condV v8
 ((aIndexStr (xs.getD 0 .undef) (xs.getD 2 .undef)).bind fun v9 =>
 (aBin .lss .plain v9 (.int .u8 97)).bind fun v10 =>
 (guardV v10 false
 ((aBin .gtr .plain v9 (.int .u8 122)).bind fun v11 =>
 some (0, [v11], h))
 (some (0, [skipV], h))).bind fun g12 =>
 (aPick v10 (.bool true) (g12.2.1.getD 0 .undef)).bind fun v13 =>
 (guardV v13 true
 ((aBin .lss .plain v9 (.int .u8 48)).bind fun v14 =>
 (guardV v14 false
 ((aBin .gtr .plain v9 (.int .u8 57)).bind fun v15 =>
 some (0, [v15], g12.2.2))
 (some (0, [skipV], g12.2.2))).bind fun g16 =>
 (aPick v14 (.bool true) (g16.2.1.getD 0 .undef)).bind fun v17 =>
 some (0, [v17], g16.2.2))
 (some (0, [skipV], g12.2.2))).bind fun g18 =>
 (aPick v13 (g18.2.1.getD 0 .undef) (.bool false)).bind fun v19 =>
 condV v19
 (some (2, [(.bool false)], g18.2.2))
 ((aBin .add .plain (xs.getD 2 .undef) (.int .i64 1)).bind fun v20 =>
 some (0, [(xs.getD 0 .undef), (xs.getD 1 .undef), v20], g18.2.2)))
 (some (1, [], h))
noncomputable def S99 (call : Go.Fw.Call) (a0 : AVal) (h : Heap) : Option J :=
 (aLen true a0).bind fun v1 =>
 (aBin .eql .plain v1 (.int .i64 0)).bind fun v2 =>
 (guardV v2 false
 ((aLen true a0).bind fun v3 =>
 (aBin .gtr .plain v3 (.int .i64 16)).bind fun v4 =>
 some (0, [v4], h))
 (some (0, [skipV], h))).bind fun g5 =>
 (aPick v2 (.bool true) (g5.2.1.getD 0 .undef)).bind fun v6 =>
 condV v6
 (some (0, [(.bool false)], g5.2.2))
 ((aLen true a0).bind fun v7 =>
 (loop (L99_0 call) [a0, v7, (.int .i64 0)] g5.2.2).bind fun x21 =>
 bif Nat.beq x21.1 1 then some (0, [(.bool true)], x21.2.2) else
 bif Nat.beq x21.1 2 then some (0, [(x21.2.1.getD 0 .undef)], x21.2.2) else
 none)
theorem run99 (call : Go.Fw.Call) (a0 : AVal) (h : Heap) : runFn call (.code A99) [a0] h = (S99 call a0 h).bind ansOf := by kernel_rfl
theorem c99 (a0 : AVal) (h : Heap) : E tbl 99 [a0] h = (S99 (E tbl) a0 h).bind ansOf := (E_eq tbl 99 [a0] h).trans (by rw [show tbl 99 = some (.code A99) by kernel_rfl]; exact run99 (E tbl) a0 h)
noncomputable def S106 (call : Go.Fw.Call) (a0 a1 : AVal) (h : Heap) : Option J :=
 (AVal.cells? a0).bind fun c1 =>
 (AVal.cells? a1).bind fun c2 =>
 (rdL c1 11 1).bind fun c3 =>
 (fromCells false c3).bind fun v4 =>
 (rdL c2 11 1).bind fun c5 =>
 (fromCells false c5).bind fun v6 =>
 (call 147 [v4, v6] h).bind fun r7 =>
 (aUn .not r7.1).bind fun v8 =>
 (guardV v8 false
 ((rdL c1 12 1).bind fun c9 =>
 (fromCells false c9).bind fun v10 =>
 (rdL c2 12 1).bind fun c11 =>
 (fromCells false c11).bind fun v12 =>
 (call 148 [v10, v12] r7.2).bind fun r13 =>
 (aUn .not r13.1).bind fun v14 =>
 some (0, [v14], r13.2))
 (some (0, [skipV], r7.2))).bind fun g15 =>
 (aPick v8 (.bool true) (g15.2.1.getD 0 .undef)).bind fun v16 =>
 condV v16
 (some (0, [(.bool false)], g15.2.2))
 ((rdL c1 0 1).bind fun c17 =>
 (fromCells false c17).bind fun v18 =>
 (rdL c2 0 1).bind fun c19 =>
 (fromCells false c19).bind fun v20 =>
 (aBin .eql .plain v18 v20).bind fun v21 =>
 (guardV v21 true
 ((rdL c1 1 1).bind fun c22 =>
 (fromCells false c22).bind fun v23 =>
 (rdL c2 1 1).bind fun c24 =>
 (fromCells false c24).bind fun v25 =>
 (aBin .eql .plain v23 v25).bind fun v26 =>
 some (0, [v26], g15.2.2))
 (some (0, [skipV], g15.2.2))).bind fun g27 =>
 (aPick v21 (g27.2.1.getD 0 .undef) (.bool false)).bind fun v28 =>
 (guardV v28 true
 ((rdL c1 2 1).bind fun c29 =>
 (fromCells false c29).bind fun v30 =>
 (rdL c2 2 1).bind fun c31 =>
 (fromCells false c31).bind fun v32 =>
 (aBin .eql .plain v30 v32).bind fun v33 =>
 some (0, [v33], g27.2.2))
 (some (0, [skipV], g27.2.2))).bind fun g34 =>
 (aPick v28 (g34.2.1.getD 0 .undef) (.bool false)).bind fun v35 =>
 (guardV v35 true
 ((rdL c1 3 1).bind fun c36 =>
 (fromCells false c36).bind fun v37 =>
 (rdL c2 3 1).bind fun c38 =>
 (fromCells false c38).bind fun v39 =>
 (aBin .eql .plain v37 v39).bind fun v40 =>
 some (0, [v40], g34.2.2))
 (some (0, [skipV], g34.2.2))).bind fun g41 =>
 (aPick v35 (g41.2.1.getD 0 .undef) (.bool false)).bind fun v42 =>
 (guardV v42 true
 ((rdL c1 4 1).bind fun c43 =>
 (fromCells false c43).bind fun v44 =>
 (rdL c2 4 1).bind fun c45 =>
 (fromCells false c45).bind fun v46 =>
 (aBin .eql .plain v44 v46).bind fun v47 =>
 some (0, [v47], g41.2.2))
 (some (0, [skipV], g41.2.2))).bind fun g48 =>
 (aPick v42 (g48.2.1.getD 0 .undef) (.bool false)).bind fun v49 =>
 (guardV v49 true
 ((rdL c1 5 1).bind fun c50 =>
 (fromCells false c50).bind fun v51 =>
 (rdL c2 5 1).bind fun c52 =>
 (fromCells false c52).bind fun v53 =>
 (aBin .eql .plain v51 v53).bind fun v54 =>
 some (0, [v54], g48.2.2))
 (some (0, [skipV], g48.2.2))).bind fun g55 =>
 (aPick v49 (g55.2.1.getD 0 .undef) (.bool false)).bind fun v56 =>
 (guardV v56 true
 ((rdL c1 6 1).bind fun c57 =>
 (fromCells false c57).bind fun v58 =>
 (rdL c2 6 1).bind fun c59 =>
 (fromCells false c59).bind fun v60 =>
 (aBin .eql .plain v58 v60).bind fun v61 =>
 some (0, [v61], g55.2.2))
 (some (0, [skipV], g55.2.2))).bind fun g62 =>
 (aPick v56 (g62.2.1.getD 0 .undef) (.bool false)).bind fun v63 =>
 (guardV v63 true
 ((rdL c1 7 2).bind fun c64 =>
 (fromCells true c64).bind fun v65 =>
 (rdL c2 7 2).bind fun c66 =>
 (fromCells true c66).bind fun v67 =>
 (aBin .eql (.cells [2, 2]) v65 v67).bind fun v68 =>
 some (0, [v68], g62.2.2))
 (some (0, [skipV], g62.2.2))).bind fun g69 =>
 (aPick v63 (g69.2.1.getD 0 .undef) (.bool false)).bind fun v70 =>
 (guardV v70 true
 ((rdL c1 9 1).bind fun c71 =>
 (fromCells false c71).bind fun v72 =>
 (rdL c2 9 1).bind fun c73 =>
 (fromCells false c73).bind fun v74 =>
 (aBin .eql .bool v72 v74).bind fun v75 =>
 some (0, [v75], g69.2.2))
 (some (0, [skipV], g69.2.2))).bind fun g76 =>
 (aPick v70 (g76.2.1.getD 0 .undef) (.bool false)).bind fun v77 =>
 (guardV v77 true
 ((rdL c1 10 1).bind fun c78 =>
 (fromCells false c78).bind fun v79 =>
 (rdL c2 10 1).bind fun c80 =>
 (fromCells false c80).bind fun v81 =>
 (aBin .eql .plain v79 v81).bind fun v82 =>
 some (0, [v82], g76.2.2))
 (some (0, [skipV], g76.2.2))).bind fun g83 =>
 (aPick v77 (g83.2.1.getD 0 .undef) (.bool false)).bind fun v84 =>
 some (0, [v84], g83.2.2))
theorem run106 (call : Go.Fw.Call) (a0 a1 : AVal) (h : Heap) : runFn call (.code A106) [a0, a1] h = (S106 call a0 a1 h).bind ansOf := by kernel_rfl
theorem c106 (a0 a1 : AVal) (h : Heap) : E tbl 106 [a0, a1] h = (S106 (E tbl) a0 a1 h).bind ansOf := (E_eq tbl 106 [a0, a1] h).trans (by rw [show tbl 106 = some (.code A106) by kernel_rfl]; exact run106 (E tbl) a0 a1 h)
noncomputable def S107 (call : Go.Fw.Call) (a0 : AVal) (h : Heap) : Option J :=
 (AVal.cells? a0).bind fun c1 =>
 (rdL c1 0 1).bind fun c2 =>
 (fromCells false c2).bind fun v3 =>
 (aBin .eql .plain v3 (.int .i64 1)).bind fun v4 =>
 (guardV v4 false
 ((rdL c1 0 1).bind fun c5 =>
 (fromCells false c5).bind fun v6 =>
 (aBin .eql .plain v6 (.int .i64 2)).bind fun v7 =>
 some (0, [v7], h))
 (some (0, [skipV], h))).bind fun g8 =>
 (aPick v4 (.bool true) (g8.2.1.getD 0 .undef)).bind fun v9 =>
 some (0, [v9], g8.2.2)
theorem run107 (call : Go.Fw.Call) (a0 : AVal) (h : Heap) : runFn call (.code A107) [a0] h = (S107 call a0 h).bind ansOf := by kernel_rfl
theorem c107 (a0 : AVal) (h : Heap) : E tbl 107 [a0] h = (S107 (E tbl) a0 h).bind ansOf := (E_eq tbl 107 [a0] h).trans (by rw [show tbl 107 = some (.code A107) by kernel_rfl]; exact run107 (E tbl) a0 h)
noncomputable def L108_0 (call : Go.Fw.Call) (xs : List AVal) (h : Heap) : Option J :=
 (aBin .lss .plain (xs.getD 3 .undef) (xs.getD 2 .undef)).bind fun v2 =>
 condV v2
 ((aIaddr 9 (xs.getD 0 .undef) (xs.getD 3 .undef)).bind fun v3 =>
 (aLoad h 9 v3).bind fun c4 =>
 (fromCells true c4).bind fun v5 =>
 (aFn (xs.getD 1 .undef)).bind fun q6 =>
 (call q6.1 ([v5] ++ q6.2) h).bind fun r7 =>
 condV r7.1
 (some (2, [(xs.getD 3 .undef)], r7.2))
 ((aBin .add .plain (xs.getD 3 .undef) (.int .i64 1)).bind fun v8 =>
 some (0, [(xs.getD 0 .undef), (xs.getD 1 .undef), (xs.getD 2 .undef), v8], r7.2)))
 (some (1, [], h))
noncomputable def S108 (call : Go.Fw.Call) (a0 a1 : AVal) (h : Heap) : Option J :=
 (aLen false a0).bind fun v1 =>
 (loop (L108_0 call) [a0, a1, v1, (.int .i64 0)] h).bind fun x9 =>
 bif Nat.beq x9.1 1 then some (0, [(.int .i64 (-1))], x9.2.2) else
 bif Nat.beq x9.1 2 then some (0, [(x9.2.1.getD 0 .undef)], x9.2.2) else
 none
theorem run108 (call : Go.Fw.Call) (a0 a1 : AVal) (h : Heap) : runFn call (.code A108) [a0, a1] h = (S108 call a0 a1 h).bind ansOf := by kernel_rfl
theorem c108 (a0 a1 : AVal) (h : Heap) : E tbl 108 [a0, a1] h = (S108 (E tbl) a0 a1 h).bind ansOf := (E_eq tbl 108 [a0, a1] h).trans (by rw [show tbl 108 = some (.code A108) by kernel_rfl]; exact run108 (E tbl) a0 a1 h)
noncomputable def S109 (call : Go.Fw.Call) (a0 : AVal) (h : Heap) : Option J :=
 (AVal.cells? a0).bind fun c1 =>
 (rdL c1 0 1).bind fun c2 =>
 (fromCells false c2).bind fun v3 =>
 (aBin .geq .plain v3 (.int .i64 0)).bind fun v4 =>
 (guardV v4 true
 ((rdL c1 2 1).bind fun c5 =>
 (fromCells false c5).bind fun v6 =>
 (aBin .geq .plain v6 (.int .i64 0)).bind fun v7 =>
 some (0, [v7], h))
 (some (0, [skipV], h))).bind fun g8 =>
 (aPick v4 (g8.2.1.getD 0 .undef) (.bool false)).bind fun v9 =>
 (guardV v9 true
 ((rdL c1 1 1).bind fun c10 =>
 (fromCells false c10).bind fun v11 =>
 (aBin .geq .plain v11 (.int .i64 0)).bind fun v12 =>
 some (0, [v12], g8.2.2))
 (some (0, [skipV], g8.2.2))).bind fun g13 =>
 (aPick v9 (g13.2.1.getD 0 .undef) (.bool false)).bind fun v14 =>
 (guardV v14 true
 ((rdL c1 1 1).bind fun c15 =>
 (fromCells false c15).bind fun v16 =>
 (aBin .lss .plain v16 (.int .i64 6)).bind fun v17 =>
 some (0, [v17], g13.2.2))
 (some (0, [skipV], g13.2.2))).bind fun g18 =>
 (aPick v14 (g18.2.1.getD 0 .undef) (.bool false)).bind fun v19 =>
 some (0, [v19], g18.2.2)
theorem run109 (call : Go.Fw.Call) (a0 : AVal) (h : Heap) : runFn call (.code A109) [a0] h = (S109 call a0 h).bind ansOf := by kernel_rfl
theorem c109 (a0 : AVal) (h : Heap) : E tbl 109 [a0] h = (S109 (E tbl) a0 h).bind ansOf := (E_eq tbl 109 [a0] h).trans (by rw [show tbl 109 = some (.code A109) by kernel_rfl]; exact run109 (E tbl) a0 h)
noncomputable def L110_0 (call : Go.Fw.Call) (xs : List AVal) (h : Heap) : Option J :=
 (aBin .lss .plain (xs.getD 3 .undef) (xs.getD 2 .undef)).bind fun v2 =>
 condV v2
 ((aIaddr 2 (xs.getD 0 .undef) (xs.getD 3 .undef)).bind fun v3 =>
 (aLoad h 2 v3).bind fun c4 =>
 (fromCells true c4).bind fun v5 =>
 (aFn (xs.getD 1 .undef)).bind fun q6 =>
 (call q6.1 ([v5] ++ q6.2) h).bind fun r7 =>
 condV r7.1
 (some (2, [(xs.getD 3 .undef)], r7.2))
 ((aBin .add .plain (xs.getD 3 .undef) (.int .i64 1)).bind fun v8 =>
 some (0, [(xs.getD 0 .undef), (xs.getD 1 .undef), (xs.getD 2 .undef), v8], r7.2)))
 (some (1, [], h))
noncomputable def S110 (call : Go.Fw.Call) (a0 a1 : AVal) (h : Heap) : Option J :=
 (aLen false a0).bind fun v1 =>
 (loop (L110_0 call) [a0, a1, v1, (.int .i64 0)] h).bind fun x9 =>
 bif Nat.beq x9.1 1 then some (0, [(.int .i64 (-1))], x9.2.2) else
 bif Nat.beq x9.1 2 then some (0, [(x9.2.1.getD 0 .undef)], x9.2.2) else
 none
theorem run110 (call : Go.Fw.Call) (a0 a1 : AVal) (h : Heap) : runFn call (.code A110) [a0, a1] h = (S110 call a0 a1 h).bind ansOf := by kernel_rfl
theorem c110 (a0 a1 : AVal) (h : Heap) : E tbl 110 [a0, a1] h = (S110 (E tbl) a0 a1 h).bind ansOf := (E_eq tbl 110 [a0, a1] h).trans (by rw [show tbl 110 = some (.code A110) by kernel_rfl]; exact run110 (E tbl) a0 a1 h)
noncomputable def L123_0 (call : Go.Fw.Call) (xs : List AVal) (h : Heap) : Option J :=
 (aNilchk (xs.getD 0 .undef)).bind fun v2 =>
 (aFaddr 1 v2).bind fun v3 =>
 (aLoad h 1 v3).bind fun c4 =>
 (fromCells false c4).bind fun v5 =>
 (aLen false v5).bind fun v6 =>
 (aBin .lss .plain (xs.getD 1 .undef) v6).bind fun v7 =>
 (guardV v7 true
 ((aNilchk (xs.getD 0 .undef)).bind fun v8 =>
 (aFaddr 1 v8).bind fun v9 =>
 (aLoad h 1 v9).bind fun c10 =>
 (fromCells false c10).bind fun v11 =>
 (aIaddr 10 v11 (xs.getD 1 .undef)).bind fun v12 =>
 (aFaddr 0 v12).bind fun v13 =>
 (aFaddr 0 v13).bind fun v14 =>
 (aLoad h 2 v14).bind fun c15 =>
 (fromCells true c15).bind fun v16 =>
 (rdL (AVal.aggCells (xs.getD 2 .undef)) 0 2).bind fun c17 =>
 (fromCells true c17).bind fun v18 =>
 (call 155 [v16, v18] h).bind fun r19 =>
 some (0, [r19.1], r19.2))
 (some (0, [skipV], h))).bind fun g20 =>
 (aPick v7 (g20.2.1.getD 0 .undef) (.bool false)).bind fun v21 =>
 condV v21
 ((aBin .add .plain (xs.getD 1 .undef) (.int .i64 1)).bind fun v22 =>
 some (0, [(xs.getD 0 .undef), v22, (.agg (AVal.aggCells (xs.getD 2 .undef)))], g20.2.2))
 (some (1, [(xs.getD 0 .undef), (xs.getD 1 .undef), (.agg (AVal.aggCells (xs.getD 2 .undef)))], g20.2.2))
noncomputable def S123 (call : Go.Fw.Call) (a0 a1 : AVal) (h : Heap) : Option J :=
 (AVal.cells? a1).bind fun c1 =>
 (loop (L123_0 call) [a0, (.int .i64 0), (.agg c1)] h).bind fun x23 =>
 bif Nat.beq x23.1 1 then (aNilchk (x23.2.1.getD 0 .undef)).bind fun v24 =>
 (aFaddr 1 v24).bind fun v25 =>
 (aLoad x23.2.2 1 v25).bind fun c26 =>
 (fromCells false c26).bind fun v27 =>
 (aLen false v27).bind fun v28 =>
 (aBin .lss .plain (x23.2.1.getD 1 .undef) v28).bind fun v29 =>
 (guardV v29 true
 ((aNilchk (x23.2.1.getD 0 .undef)).bind fun v30 =>
 (aFaddr 1 v30).bind fun v31 =>
 (aLoad x23.2.2 1 v31).bind fun c32 =>
 (fromCells false c32).bind fun v33 =>
 (aIaddr 10 v33 (x23.2.1.getD 1 .undef)).bind fun v34 =>
 (aFaddr 0 v34).bind fun v35 =>
 (aFaddr 0 v35).bind fun v36 =>
 (aLoad x23.2.2 2 v36).bind fun c37 =>
 (fromCells true c37).bind fun v38 =>
 (rdL (AVal.aggCells (x23.2.1.getD 2 .undef)) 0 2).bind fun c39 =>
 (fromCells true c39).bind fun v40 =>
 (aBin .eql (.cells [2, 2]) v38 v40).bind fun v41 =>
 some (0, [v41], x23.2.2))
 (some (0, [skipV], x23.2.2))).bind fun g42 =>
 (aPick v29 (g42.2.1.getD 0 .undef) (.bool false)).bind fun v43 =>
 some (0, [.tuple [(x23.2.1.getD 1 .undef), v43]], g42.2.2) else
 none
theorem run123 (call : Go.Fw.Call) (a0 a1 : AVal) (h : Heap) : runFn call (.code A123) [a0, a1] h = (S123 call a0 a1 h).bind ansOf := by kernel_rfl
theorem c123 (a0 a1 : AVal) (h : Heap) : E tbl 123 [a0, a1] h = (S123 (E tbl) a0 a1 h).bind ansOf := (E_eq tbl 123 [a0, a1] h).trans (by rw [show tbl 123 = some (.code A123) by kernel_rfl]; exact run123 (E tbl) a0 a1 h)
noncomputable def L124_0 (call : Go.Fw.Call) (xs : List AVal) (h : Heap) : Option J :=
 (aBin .lss .plain (xs.getD 3 .undef) (xs.getD 2 .undef)).bind fun v2 =>
 condV v2
 ((aIaddr 1 (xs.getD 1 .undef) (xs.getD 3 .undef)).bind fun v3 =>
 (aLoad h 1 v3).bind fun c4 =>
 (fromCells false c4).bind fun v5 =>
 (aBin .neq .plain v5 (xs.getD 0 .undef)).bind fun v6 =>
 condV v6
 (some (2, [v5], h))
 ((aBin .add .plain (xs.getD 3 .undef) (.int .i64 1)).bind fun v7 =>
 some (0, [(xs.getD 0 .undef), (xs.getD 1 .undef), (xs.getD 2 .undef), v7], h)))
 (some (1, [(xs.getD 0 .undef)], h))
noncomputable def S124 (call : Go.Fw.Call) (a0 : AVal) (h : Heap) : Option J :=
 (aLen false a0).bind fun v1 =>
 (loop (L124_0 call) [(.int .i64 0), a0, v1, (.int .i64 0)] h).bind fun x8 =>
 bif Nat.beq x8.1 1 then some (0, [(x8.2.1.getD 0 .undef)], x8.2.2) else
 bif Nat.beq x8.1 2 then some (0, [(x8.2.1.getD 0 .undef)], x8.2.2) else
 none
theorem run124 (call : Go.Fw.Call) (a0 : AVal) (h : Heap) : runFn call (.code A124) [a0] h = (S124 call a0 h).bind ansOf := by kernel_rfl
theorem c124 (a0 : AVal) (h : Heap) : E tbl 124 [a0] h = (S124 (E tbl) a0 h).bind ansOf := (E_eq tbl 124 [a0] h).trans (by rw [show tbl 124 = some (.code A124) by kernel_rfl]; exact run124 (E tbl) a0 h)
noncomputable def S125 (call : Go.Fw.Call) (a0 a1 : AVal) (h : Heap) : Option J :=
 (call 156 [a0] h).bind fun r1 =>
 (call 156 [a1] r1.2).bind fun r2 =>
 condV r1.1
 (condV r2.1
 (some (0, [(.int .i64 0)], r2.2))
 (some (0, [(.int .i64 (-1))], r2.2)))
 (condV r2.1
 (some (0, [(.int .i64 1)], r2.2))
 ((aBin .lss .plain a0 a1).bind fun v3 =>
 condV v3
 (some (0, [(.int .i64 (-1))], r2.2))
 ((aBin .gtr .plain a0 a1).bind fun v4 =>
 condV v4
 (some (0, [(.int .i64 1)], r2.2))
 (some (0, [(.int .i64 0)], r2.2)))))
theorem run125 (call : Go.Fw.Call) (a0 a1 : AVal) (h : Heap) : runFn call (.code A125) [a0, a1] h = (S125 call a0 a1 h).bind ansOf := by kernel_rfl
theorem c125 (a0 a1 : AVal) (h : Heap) : E tbl 125 [a0, a1] h = (S125 (E tbl) a0 a1 h).bind ansOf := (E_eq tbl 125 [a0, a1] h).trans (by rw [show tbl 125 = some (.code A125) by kernel_rfl]; exact run125 (E tbl) a0 a1 h)
noncomputable def S126 (call : Go.Fw.Call) (a0 a1 : AVal) (h : Heap) : Option J :=
 (call 157 [a0] h).bind fun r1 =>
 (call 157 [a1] r1.2).bind fun r2 =>
 condV r1.1
 (condV r2.1
 (some (0, [(.int .i64 0)], r2.2))
 (some (0, [(.int .i64 (-1))], r2.2)))
 (condV r2.1
 (some (0, [(.int .i64 1)], r2.2))
 ((aBin .lss .plain a0 a1).bind fun v3 =>
 condV v3
 (some (0, [(.int .i64 (-1))], r2.2))
 ((aBin .gtr .plain a0 a1).bind fun v4 =>
 condV v4
 (some (0, [(.int .i64 1)], r2.2))
 (some (0, [(.int .i64 0)], r2.2)))))
theorem run126 (call : Go.Fw.Call) (a0 a1 : AVal) (h : Heap) : runFn call (.code A126) [a0, a1] h = (S126 call a0 a1 h).bind ansOf := by kernel_rfl
theorem c126 (a0 a1 : AVal) (h : Heap) : E tbl 126 [a0, a1] h = (S126 (E tbl) a0 a1 h).bind ansOf := (E_eq tbl 126 [a0, a1] h).trans (by rw [show tbl 126 = some (.code A126) by kernel_rfl]; exact run126 (E tbl) a0 a1 h)
noncomputable def S127 (call : Go.Fw.Call) (a0 a1 : AVal) (h : Heap) : Option J :=
 (AVal.cells? a1).bind fun c1 =>
 (aNilchk a0).bind fun v2 =>
 (aFaddr 0 v2).bind fun v3 =>
 (aLoad h 1 v3).bind fun c4 =>
 (fromCells false c4).bind fun v5 =>
 (aBin .add .plain v5 (.int .i64 1)).bind fun v6 =>
 (aNilchk a0).bind fun v7 =>
 (aFaddr 0 v7).bind fun v8 =>
 (aCells 1 v6).bind fun c9 =>
 (aStore h v8 c9).bind fun h10 =>
 (aNilchk a0).bind fun v11 =>
 (aFaddr 1 v11).bind fun v12 =>
 (aLoad h10 1 v12).bind fun c13 =>
 (fromCells false c13).bind fun v14 =>
 (rdL c1 0 2).bind fun c15 =>
 (fromCells true c15).bind fun v16 =>
 (aFill (reps [.str [], .str []] 1) [(0, 2, v16)]).bind fun c17 =>
 (aAppend 2 32 [.str [], .str []] false v14 (.slice h10.next 0 1 1 2 true) (h10.alloc c17)).bind fun r18 =>
 (aNilchk a0).bind fun v19 =>
 (aFaddr 1 v19).bind fun v20 =>
 (aCells 1 r18.1).bind fun c21 =>
 (aStore r18.2 v20 c21).bind fun h22 =>
 bif checkPairs [(6, some (.al h10.next)), (4, logRd v12 1)] [(4, 6)] then (aNilchk a0).bind fun v23 =>
 (aFaddr 1 v23).bind fun v24 =>
 (aLoad h22 1 v24).bind fun c25 =>
 (fromCells false c25).bind fun v26 =>
 (aNilchk a0).bind fun v27 =>
 (aFaddr 1 v27).bind fun v28 =>
 (aLoad h22 1 v28).bind fun c29 =>
 (fromCells false c29).bind fun v30 =>
 (aLen false v30).bind fun v31 =>
 (aBin .sub .plain v31 (.int .i64 16)).bind fun v32 =>
 (aMinMaxL true [(.int .i64 0), v32]).bind fun v33 =>
 (aSliceSl 2 v26 (some v33) none none).bind fun v34 =>
 (call 158 [v34] h22).bind fun r35 =>
 (aNilchk a0).bind fun v36 =>
 (aFaddr 1 v36).bind fun v37 =>
 (aCells 1 r35.1).bind fun c38 =>
 (aStore r35.2 v37 c38).bind fun h39 =>
 (aNilchk a0).bind fun v40 =>
 (aFaddr 0 v40).bind fun v41 =>
 (aLoad h39 1 v41).bind fun c42 =>
 (fromCells false c42).bind fun v43 =>
 some (0, [v43], h39) else none
theorem run127 (call : Go.Fw.Call) (a0 a1 : AVal) (h : Heap) : runFn call (.code A127) [a0, a1] h = (S127 call a0 a1 h).bind ansOf := by kernel_rfl
theorem c127 (a0 a1 : AVal) (h : Heap) : E tbl 127 [a0, a1] h = (S127 (E tbl) a0 a1 h).bind ansOf := (E_eq tbl 127 [a0, a1] h).trans (by rw [show tbl 127 = some (.code A127) by kernel_rfl]; exact run127 (E tbl) a0 a1 h)
noncomputable def L147_0 (call : Go.Fw.Call) (xs : List AVal) (h : Heap) : Option J :=
 (aBin .lss .plain (xs.getD 3 .undef) (xs.getD 2 .undef)).bind fun v5 =>
 condV v5
 ((aIaddr 9 (xs.getD 0 .undef) (xs.getD 3 .undef)).bind fun v6 =>
 (aLoad h 9 v6).bind fun c7 =>
 (fromCells true c7).bind fun v8 =>
 (aIaddr 9 (xs.getD 1 .undef) (xs.getD 3 .undef)).bind fun v9 =>
 (aLoad h 9 v9).bind fun c10 =>
 (fromCells true c10).bind fun v11 =>
 (aBin .neq (.cells [2, 2, 1, 1, 1, 1, 1, 1, 0]) v8 v11).bind fun v12 =>
 condV v12
 (some (2, [(.bool false)], h))
 ((aBin .add .plain (xs.getD 3 .undef) (.int .i64 1)).bind fun v13 =>
 some (0, [(xs.getD 0 .undef), (xs.getD 1 .undef), (xs.getD 2 .undef), v13], h)))
 (some (1, [], h))
noncomputable def S147 (call : Go.Fw.Call) (a0 a1 : AVal) (h : Heap) : Option J :=
 (aLen false a0).bind fun v1 =>
 (aLen false a1).bind fun v2 =>
 (aBin .neq .plain v1 v2).bind fun v3 =>
 condV v3
 (some (0, [(.bool false)], h))
 ((aLen false a0).bind fun v4 =>
 (loop (L147_0 call) [a0, a1, v4, (.int .i64 0)] h).bind fun x14 =>
 bif Nat.beq x14.1 1 then some (0, [(.bool true)], x14.2.2) else
 bif Nat.beq x14.1 2 then some (0, [(x14.2.1.getD 0 .undef)], x14.2.2) else
 none)
theorem run147 (call : Go.Fw.Call) (a0 a1 : AVal) (h : Heap) : runFn call (.code A147) [a0, a1] h = (S147 call a0 a1 h).bind ansOf := by kernel_rfl
theorem c147 (a0 a1 : AVal) (h : Heap) : E tbl 147 [a0, a1] h = (S147 (E tbl) a0 a1 h).bind ansOf := (E_eq tbl 147 [a0, a1] h).trans (by rw [show tbl 147 = some (.code A147) by kernel_rfl]; exact run147 (E tbl) a0 a1 h)
noncomputable def L148_0 (call : Go.Fw.Call) (xs : List AVal) (h : Heap) : Option J :=
 (aBin .lss .plain (xs.getD 3 .undef) (xs.getD 2 .undef)).bind fun v5 =>
 condV v5
 ((aIaddr 2 (xs.getD 0 .undef) (xs.getD 3 .undef)).bind fun v6 =>
 (aLoad h 2 v6).bind fun c7 =>
 (fromCells true c7).bind fun v8 =>
 (aIaddr 2 (xs.getD 1 .undef) (xs.getD 3 .undef)).bind fun v9 =>
 (aLoad h 2 v9).bind fun c10 =>
 (fromCells true c10).bind fun v11 =>
 (aBin .neq (.cells [2, 2]) v8 v11).bind fun v12 =>
 condV v12
 (some (2, [(.bool false)], h))
 ((aBin .add .plain (xs.getD 3 .undef) (.int .i64 1)).bind fun v13 =>
 some (0, [(xs.getD 0 .undef), (xs.getD 1 .undef), (xs.getD 2 .undef), v13], h)))
 (some (1, [], h))
noncomputable def S148 (call : Go.Fw.Call) (a0 a1 : AVal) (h : Heap) : Option J :=
 (aLen false a0).bind fun v1 =>
 (aLen false a1).bind fun v2 =>
 (aBin .neq .plain v1 v2).bind fun v3 =>
 condV v3
 (some (0, [(.bool false)], h))
 ((aLen false a0).bind fun v4 =>
 (loop (L148_0 call) [a0, a1, v4, (.int .i64 0)] h).bind fun x14 =>
 bif Nat.beq x14.1 1 then some (0, [(.bool true)], x14.2.2) else
 bif Nat.beq x14.1 2 then some (0, [(x14.2.1.getD 0 .undef)], x14.2.2) else
 none)
theorem run148 (call : Go.Fw.Call) (a0 a1 : AVal) (h : Heap) : runFn call (.code A148) [a0, a1] h = (S148 call a0 a1 h).bind ansOf := by kernel_rfl
theorem c148 (a0 a1 : AVal) (h : Heap) : E tbl 148 [a0, a1] h = (S148 (E tbl) a0 a1 h).bind ansOf := (E_eq tbl 148 [a0, a1] h).trans (by rw [show tbl 148 = some (.code A148) by kernel_rfl]; exact run148 (E tbl) a0 a1 h)
noncomputable def S155 (call : Go.Fw.Call) (a0 a1 : AVal) (h : Heap) : Option J :=
 (AVal.cells? a0).bind fun c1 =>
 (AVal.cells? a1).bind fun c2 =>
 (rdL c1 0 2).bind fun c3 =>
 (fromCells true c3).bind fun v4 =>
 (rdL c2 0 2).bind fun c5 =>
 (fromCells true c5).bind fun v6 =>
 (call 164 [v4, v6] h).bind fun r7 =>
 (aBin .lss .plain r7.1 (.int .i64 0)).bind fun v8 =>
 some (0, [v8], r7.2)
theorem run155 (call : Go.Fw.Call) (a0 a1 : AVal) (h : Heap) : runFn call (.code A155) [a0, a1] h = (S155 call a0 a1 h).bind ansOf := by kernel_rfl
theorem c155 (a0 a1 : AVal) (h : Heap) : E tbl 155 [a0, a1] h = (S155 (E tbl) a0 a1 h).bind ansOf := (E_eq tbl 155 [a0, a1] h).trans (by rw [show tbl 155 = some (.code A155) by kernel_rfl]; exact run155 (E tbl) a0 a1 h)
noncomputable def S156 (call : Go.Fw.Call) (a0 : AVal) (h : Heap) : Option J :=
 (aBin .neq .plain a0 a0).bind fun v1 =>
 some (0, [v1], h)
theorem run156 (call : Go.Fw.Call) (a0 : AVal) (h : Heap) : runFn call (.code A156) [a0] h = (S156 call a0 h).bind ansOf := by kernel_rfl
theorem c156 (a0 : AVal) (h : Heap) : E tbl 156 [a0] h = (S156 (E tbl) a0 h).bind ansOf := (E_eq tbl 156 [a0] h).trans (by rw [show tbl 156 = some (.code A156) by kernel_rfl]; exact run156 (E tbl) a0 h)
noncomputable def S157 (call : Go.Fw.Call) (a0 : AVal) (h : Heap) : Option J :=
 (aBin .neq .plain a0 a0).bind fun v1 =>
 some (0, [v1], h)
theorem run157 (call : Go.Fw.Call) (a0 : AVal) (h : Heap) : runFn call (.code A157) [a0] h = (S157 call a0 h).bind ansOf := by kernel_rfl
theorem c157 (a0 : AVal) (h : Heap) : E tbl 157 [a0] h = (S157 (E tbl) a0 h).bind ansOf := (E_eq tbl 157 [a0] h).trans (by rw [show tbl 157 = some (.code A157) by kernel_rfl]; exact run157 (E tbl) a0 h)
noncomputable def S158 (call : Go.Fw.Call) (a0 : AVal) (h : Heap) : Option J :=
 (aBin .eql .slice a0 (.nilSlice)).bind fun v1 =>
 condV v1
 (some (0, [(.nilSlice)], h))
 ((aFill (reps [.str [], .str []] 0) []).bind fun c2 =>
 (aAppend 2 32 [.str [], .str []] false (.slice h.next 0 0 0 2 true) a0 (h.alloc c2)).bind fun r3 =>
 some (0, [r3.1], r3.2))
theorem run158 (call : Go.Fw.Call) (a0 : AVal) (h : Heap) : runFn call (.code A158) [a0] h = (S158 call a0 h).bind ansOf := by kernel_rfl
theorem c158 (a0 : AVal) (h : Heap) : E tbl 158 [a0] h = (S158 (E tbl) a0 h).bind ansOf := (E_eq tbl 158 [a0] h).trans (by rw [show tbl 158 = some (.code A158) by kernel_rfl]; exact run158 (E tbl) a0 h)
noncomputable def S164 (call : Go.Fw.Call) (a0 a1 : AVal) (h : Heap) : Option J :=
 (AVal.cells? a0).bind fun c1 =>
 (AVal.cells? a1).bind fun c2 =>
 (rdL c1 0 1).bind fun c3 =>
 (fromCells false c3).bind fun v4 =>
 (rdL c2 0 1).bind fun c5 =>
 (fromCells false c5).bind fun v6 =>
 (call 183 [v4, v6] h).bind fun r7 =>
 (rdL c1 1 1).bind fun c8 =>
 (fromCells false c8).bind fun v9 =>
 (rdL c2 1 1).bind fun c10 =>
 (fromCells false c10).bind fun v11 =>
 (call 183 [v9, v11] r7.2).bind fun r12 =>
 (aFill (reps [.int .i64 0] 2) [(0, 1, r7.1), (1, 1, r12.1)]).bind fun c13 =>
 (call 124 [(.slice r12.2.next 0 2 2 1 true)] (r12.2.alloc c13)).bind fun r14 =>
 bif checkPairs [(8, some (.lrd 3 (1) 1)), (6, some (.lrd 2 (1) 1)), (4, some (.ef [(3, c2), (2, c1)] h [(3, c2), (2, c1)] r7.2))] [(6, 4), (8, 4)] then some (0, [r14.1], r14.2) else none
theorem run164 (call : Go.Fw.Call) (a0 a1 : AVal) (h : Heap) : runFn call (.code A164) [a0, a1] h = (S164 call a0 a1 h).bind ansOf := by kernel_rfl
theorem c164 (a0 a1 : AVal) (h : Heap) : E tbl 164 [a0, a1] h = (S164 (E tbl) a0 a1 h).bind ansOf := (E_eq tbl 164 [a0, a1] h).trans (by rw [show tbl 164 = some (.code A164) by kernel_rfl]; exact run164 (E tbl) a0 a1 h)
noncomputable def S183 (call : Go.Fw.Call) (a0 a1 : AVal) (h : Heap) : Option J :=
 (call 206 [a0] h).bind fun r1 =>
 (call 206 [a1] r1.2).bind fun r2 =>
 condV r1.1
 (condV r2.1
 (some (0, [(.int .i64 0)], r2.2))
 (some (0, [(.int .i64 (-1))], r2.2)))
 (condV r2.1
 (some (0, [(.int .i64 1)], r2.2))
 ((aBin .lss .plain a0 a1).bind fun v3 =>
 condV v3
 (some (0, [(.int .i64 (-1))], r2.2))
 ((aBin .gtr .plain a0 a1).bind fun v4 =>
 condV v4
 (some (0, [(.int .i64 1)], r2.2))
 (some (0, [(.int .i64 0)], r2.2)))))
theorem run183 (call : Go.Fw.Call) (a0 a1 : AVal) (h : Heap) : runFn call (.code A183) [a0, a1] h = (S183 call a0 a1 h).bind ansOf := by kernel_rfl
theorem c183 (a0 a1 : AVal) (h : Heap) : E tbl 183 [a0, a1] h = (S183 (E tbl) a0 a1 h).bind ansOf := (E_eq tbl 183 [a0, a1] h).trans (by rw [show tbl 183 = some (.code A183) by kernel_rfl]; exact run183 (E tbl) a0 a1 h)
noncomputable def S206 (call : Go.Fw.Call) (a0 : AVal) (h : Heap) : Option J :=
 (aBin .neq .plain a0 a0).bind fun v1 =>
 some (0, [v1], h)
theorem run206 (call : Go.Fw.Call) (a0 : AVal) (h : Heap) : runFn call (.code A206) [a0] h = (S206 call a0 h).bind ansOf := by kernel_rfl
theorem c206 (a0 : AVal) (h : Heap) : E tbl 206 [a0] h = (S206 (E tbl) a0 h).bind ansOf := (E_eq tbl 206 [a0] h).trans (by rw [show tbl 206 = some (.code A206) by kernel_rfl]; exact run206 (E tbl) a0 h)
theorem c128 (l : List AVal) (h : Heap) : E tbl 128 l h = Ins.sem l h := (E_eq tbl 128 l h).trans (by rw [show tbl 128 = some (.prim Ins.sem) by kernel_rfl]; rfl)
theorem c22 (h : Heap) : E tbl 22 [] h = some (.bool true, h) := (E_eq tbl 22 [] h).trans (by rw [show tbl 22 = some (.prim semT) by kernel_rfl]; rfl)
end Go.Proofs.YtinkiihdnepfjaaGreatDoor.Code
