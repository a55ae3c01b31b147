/- code -/
import Derived.Test.YtinkiihdnepfjaaGreatDoorProg
import Derived.Test.YtinkiihdnepfjaaGreatDoorIKH
import Derived.KernelRfl
set_option linter.unusedSimpArgs false
set_option linter.unusedVariables false
set_option maxRecDepth 100000
namespace Go.Proofs.YtinkiihdnepfjaaGreatDoor.Code
open Go.Fw Go.Fw.K
noncomputable def A174 : AFunc := ⟨1, (.seq (.region [.op 0 (.alloc 2 true [.int .i64 0, .int .i64 0, .int .i64 0, .int .i64 0, .int .i64 0, .int .i64 0, .int .i64 0, .str [], .str [], .bool false, .int .u32 0, .nilSlice, .nilSlice]),
 .op 1 (.mov 3 (.const (.bool false)))] [])
 (.seq (.block 0 (.seq (.region [.op 0 (.mov 5 (.tmp 0)),
 .op 1 (.nilchk 6 (.tmp 5)),
 .op 2 (.faddr 7 6 (.tmp 6)),
 .op 3 (.load 8 false 1 (.tmp 7)),
 .op 4 (.len 9 false (.tmp 8)),
 .op 5 (.bin 10 .gtr .plain (.tmp 9) (.const (.int .i64 0))),
 .op 6 (.mov 4 (.tmp 10))] [])
 (.cond (.tmp 4)
 (.seq (.region [.op 0 (.mov 11 (.tmp 0)),
 .op 1 (.call 12 196 [.tmp 11]),
 .op 2 (.store true 13 (.tmp 2) (.tmp 12)),
 .op 3 (.mov 3 (.const (.bool true)))] [])
 .ret)
 (.seq (.region [.op 0 (.mov 14 (.tmp 0)),
 .op 1 (.nilchk 15 (.tmp 14)),
 .op 2 (.faddr 16 7 (.tmp 15)),
 .op 3 (.load 17 false 1 (.tmp 16)),
 .op 4 (.mov 18 (.tmp 17)),
 .guard 18 true [.op 5 (.mov 19 (.tmp 0)),
 .op 6 (.nilchk 20 (.tmp 19)),
 .op 7 (.faddr 21 27 (.tmp 20)),
 .op 8 (.load 22 true 2 (.tmp 21)),
 .op 9 (.mov 23 (.tmp 0)),
 .op 10 (.nilchk 24 (.tmp 23)),
 .op 11 (.faddr 25 4 (.tmp 24)),
 .op 12 (.load 26 false 1 (.tmp 25)),
 .op 13 (.call 27 197 [.tmp 22, .tmp 26, .const (.int .i64 10)])] [] [27],
 .op 14 (.pick 28 (.tmp 18) (.tmp 27) (.const (.bool false))),
 .op 15 (.mov 29 (.tmp 28)),
 .guard 29 true [.op 16 (.mov 30 (.tmp 0)),
 .op 17 (.nilchk 31 (.tmp 30)),
 .op 18 (.faddr 32 11 (.tmp 31)),
 .op 19 (.load 33 false 1 (.tmp 32))] [] [33],
 .op 20 (.pick 34 (.tmp 29) (.tmp 33) (.const (.bool false))),
 .op 21 (.mov 13 (.tmp 34))] [])
 (.cond (.tmp 13)
 (.seq (.region [.op 0 (.build 35 [.int .i64 0, .int .i64 0, .int .i64 0, .int .i64 0, .int .i64 0, .int .i64 0, .int .i64 0, .str [], .str [], .bool false, .int .u32 0, .nilSlice, .nilSlice] [(1, 1, .const (.int .i64 2))]),
 .op 1 (.store true 13 (.tmp 2) (.tmp 35)),
 .op 2 (.mov 3 (.const (.bool true)))] [])
 .ret)
 (.seq (.region [.op 0 (.mov 37 (.tmp 0)),
 .op 1 (.nilchk 38 (.tmp 37)),
 .op 2 (.faddr 39 7 (.tmp 38)),
 .op 3 (.load 40 false 1 (.tmp 39)),
 .op 4 (.mov 41 (.tmp 40)),
 .guard 41 true [.op 5 (.mov 42 (.tmp 0)),
 .op 6 (.nilchk 43 (.tmp 42)),
 .op 7 (.faddr 44 27 (.tmp 43)),
 .op 8 (.load 45 true 2 (.tmp 44)),
 .op 9 (.mov 46 (.tmp 0)),
 .op 10 (.nilchk 47 (.tmp 46)),
 .op 11 (.faddr 48 4 (.tmp 47)),
 .op 12 (.load 49 false 1 (.tmp 48)),
 .op 13 (.call 50 197 [.tmp 45, .tmp 49, .const (.int .i64 10)])] [] [50],
 .op 14 (.pick 51 (.tmp 41) (.tmp 50) (.const (.bool false))),
 .op 15 (.mov 36 (.tmp 51))] [])
 (.cond (.tmp 36)
 (.seq (.region [.op 0 (.mov 52 (.tmp 0)),
 .op 1 (.call 53 198 [.tmp 52]),
 .op 2 (.store true 13 (.tmp 2) (.tmp 53)),
 .op 3 (.mov 3 (.const (.bool true)))] [])
 .ret)
 (.seq (.region [.op 0 (.mov 55 (.tmp 0)),
 .op 1 (.nilchk 56 (.tmp 55)),
 .op 2 (.faddr 57 29 (.tmp 56)),
 .op 3 (.load 58 true 2 (.tmp 57)),
 .op 4 (.mov 59 (.tmp 0)),
 .op 5 (.nilchk 60 (.tmp 59)),
 .op 6 (.faddr 61 4 (.tmp 60)),
 .op 7 (.load 62 false 1 (.tmp 61)),
 .op 8 (.call 63 197 [.tmp 58, .tmp 62, .const (.int .i64 25)]),
 .op 9 (.mov 54 (.tmp 63))] [])
 (.cond (.tmp 54)
 (.seq (.region [.op 0 (.mov 64 (.tmp 0)),
 .op 1 (.nilchk 65 (.tmp 64)),
 .op 2 (.faddr 66 5 (.tmp 65)),
 .op 3 (.load 67 false 1 (.tmp 66)),
 .op 4 (.call 68 199 [.tmp 67]),
 .op 5 (.build 69 [.int .i64 0, .int .i64 0, .int .i64 0, .int .i64 0, .int .i64 0, .int .i64 0, .int .i64 0, .str [], .str [], .bool false, .int .u32 0, .nilSlice, .nilSlice] [(1, 1, .const (.int .i64 5)), (6, 1, .tmp 68)]),
 .op 6 (.store true 13 (.tmp 2) (.tmp 69)),
 .op 7 (.mov 3 (.const (.bool true)))] [])
 .ret)
 .skip)))))))))
 (.seq (.region [.op 0 (.build 70 [.int .i64 0, .int .i64 0, .int .i64 0, .int .i64 0, .int .i64 0, .int .i64 0, .int .i64 0, .str [], .str [], .bool false, .int .u32 0, .nilSlice, .nilSlice] []),
 .op 1 (.store true 13 (.tmp 2) (.tmp 70)),
 .op 2 (.mov 3 (.const (.bool false)))] [])
 .ret))),
 [.cell 2 true 13, .tmp 3]⟩
theorem ok174 : funcOk Tryz.prog (drawOk Tryz.prog) Tryz.f174 A174 = true := by kernel_rfl
noncomputable def F174 (call : TCall) (args : List AVal) (h : TH) : KR := ans (U1 (fun a0 =>
 V (kNil a0) fun v1 =>
 V (kFaddr 6 v1) fun v2 =>
 V (kLd1 h v2) fun v3 =>
 V (kLen false v3) fun v4 =>
 V (kGtr v4 (.int .i64 0)) fun v5 =>
 C v5
 (R (call 196 [a0] h) fun v6 h7 =>
 V (kStL [.int .i64 0, .int .i64 0, .int .i64 0, .int .i64 0, .int .i64 0, .int .i64 0, .int .i64 0, .str [], .str [], .bool false, .int .u32 0, .nilSlice, .nilSlice] 0 13 v6) fun c8 =>
 V (kLdL c8 true 0 13) fun v9 =>
 .out 0 [.tuple [v9, (.bool true)]] h7)
 (V (kNil a0) fun v10 =>
 V (kFaddr 7 v10) fun v11 =>
 V (kLd1 h v11) fun v12 =>
 Jn (G v12 true
 (V (kNil a0) fun v13 =>
 V (kFaddr 27 v13) fun v14 =>
 V (kLdA h 2 v14) fun v15 =>
 V (kNil a0) fun v16 =>
 V (kFaddr 4 v16) fun v17 =>
 V (kLd1 h v17) fun v18 =>
 R (call 197 [v15, v18, (.int .i64 10)] h) fun v19 h20 =>
 .out 0 [v19] h20)
 (.out 0 [skipV] h)) fun _ x22 h21 =>
 U1 (fun g23 =>
 V (kPick v12 g23 (.bool false)) fun v24 =>
 Jn (G v24 true
 (V (kNil a0) fun v25 =>
 V (kFaddr 11 v25) fun v26 =>
 V (kLd1 h21 v26) fun v27 =>
 .out 0 [v27] h21)
 (.out 0 [skipV] h21)) fun _ x29 h28 =>
 U1 (fun g30 =>
 V (kPick v24 g30 (.bool false)) fun v31 =>
 C v31
 (V (aFill [.int .i64 0, .int .i64 0, .int .i64 0, .int .i64 0, .int .i64 0, .int .i64 0, .int .i64 0, .str [], .str [], .bool false, .int .u32 0, .nilSlice, .nilSlice] [(1, 1, (.int .i64 2))]) fun c32 =>
 V (kStL [.int .i64 0, .int .i64 0, .int .i64 0, .int .i64 0, .int .i64 0, .int .i64 0, .int .i64 0, .str [], .str [], .bool false, .int .u32 0, .nilSlice, .nilSlice] 0 13 (.agg c32)) fun c33 =>
 V (kLdL c33 true 0 13) fun v34 =>
 .out 0 [.tuple [v34, (.bool true)]] h28)
 (V (kNil a0) fun v35 =>
 V (kFaddr 7 v35) fun v36 =>
 V (kLd1 h28 v36) fun v37 =>
 Jn (G v37 true
 (V (kNil a0) fun v38 =>
 V (kFaddr 27 v38) fun v39 =>
 V (kLdA h28 2 v39) fun v40 =>
 V (kNil a0) fun v41 =>
 V (kFaddr 4 v41) fun v42 =>
 V (kLd1 h28 v42) fun v43 =>
 R (call 197 [v40, v43, (.int .i64 10)] h28) fun v44 h45 =>
 .out 0 [v44] h45)
 (.out 0 [skipV] h28)) fun _ x47 h46 =>
 U1 (fun g48 =>
 V (kPick v37 g48 (.bool false)) fun v49 =>
 C v49
 (R (call 198 [a0] h46) fun v50 h51 =>
 V (kStL [.int .i64 0, .int .i64 0, .int .i64 0, .int .i64 0, .int .i64 0, .int .i64 0, .int .i64 0, .str [], .str [], .bool false, .int .u32 0, .nilSlice, .nilSlice] 0 13 v50) fun c52 =>
 V (kLdL c52 true 0 13) fun v53 =>
 .out 0 [.tuple [v53, (.bool true)]] h51)
 (V (kNil a0) fun v54 =>
 V (kFaddr 29 v54) fun v55 =>
 V (kLdA h46 2 v55) fun v56 =>
 V (kNil a0) fun v57 =>
 V (kFaddr 4 v57) fun v58 =>
 V (kLd1 h46 v58) fun v59 =>
 R (call 197 [v56, v59, (.int .i64 25)] h46) fun v60 h61 =>
 C v60
 (V (kNil a0) fun v62 =>
 V (kFaddr 5 v62) fun v63 =>
 V (kLd1 h61 v63) fun v64 =>
 R (call 199 [v64] h61) fun v65 h66 =>
 V (aFill [.int .i64 0, .int .i64 0, .int .i64 0, .int .i64 0, .int .i64 0, .int .i64 0, .int .i64 0, .str [], .str [], .bool false, .int .u32 0, .nilSlice, .nilSlice] [(1, 1, (.int .i64 5)), (6, 1, v65)]) fun c67 =>
 V (kStL [.int .i64 0, .int .i64 0, .int .i64 0, .int .i64 0, .int .i64 0, .int .i64 0, .int .i64 0, .str [], .str [], .bool false, .int .u32 0, .nilSlice, .nilSlice] 0 13 (.agg c67)) fun c68 =>
 V (kLdL c68 true 0 13) fun v69 =>
 .out 0 [.tuple [v69, (.bool true)]] h66)
 (V (aFill [.int .i64 0, .int .i64 0, .int .i64 0, .int .i64 0, .int .i64 0, .int .i64 0, .int .i64 0, .str [], .str [], .bool false, .int .u32 0, .nilSlice, .nilSlice] []) fun c70 =>
 V (kStL [.int .i64 0, .int .i64 0, .int .i64 0, .int .i64 0, .int .i64 0, .int .i64 0, .int .i64 0, .str [], .str [], .bool false, .int .u32 0, .nilSlice, .nilSlice] 0 13 (.agg c70)) fun c71 =>
 V (kLdL c71 true 0 13) fun v72 =>
 .out 0 [.tuple [v72, (.bool false)]] h61))) x47)) x29) x22)) args)
theorem st174 (call : TCall) (args : List AVal) (h : TH) : kFunc call A174 args h = F174 call args h := by kernel_rfl
noncomputable def A175 : AFunc := ⟨2, (.seq (.region [.op 0 (.box 3 true (.tmp 1)),
 .op 1 (.alloc 4 true [.int .i64 0, .int .i64 0, .int .i64 0, .int .i64 0, .int .i64 0, .int .i64 0, .int .i64 0, .int .i64 0, .str [], .str [], .bool false, .int .u32 0, .nilSlice, .nilSlice])] [])
 (.seq (.region [.op 0 (.mov 5 (.tmp 0)),
 .op 1 (.nilchk 6 (.tmp 5)),
 .op 2 (.faddr 7 13 (.tmp 6)),
 .op 3 (.faddr 8 4 (.tmp 7)),
 .op 4 (.load 9 false 1 (.tmp 8)),
 .op 5 (.bin 10 .add .plain (.tmp 9) (.const (.int .i64 1))),
 .op 6 (.faddr 11 0 (.tmp 3)),
 .op 7 (.store false 1 (.tmp 11) (.const (.int .i64 1))),
 .op 8 (.faddr 12 4 (.tmp 3)),
 .op 9 (.store false 1 (.tmp 12) (.tmp 10))] [(4, 7)])
 (.seq (.seq (.region [.op 0 (.faddr 13 1 (.tmp 3)),
 .op 1 (.load 14 false 1 (.tmp 13))] [])
 (.join [(.normal, ⟨[0], [3, 4]⟩)] (.block 0 (.seq (.join [((.exit 0), ⟨[0], [3, 4]⟩), (.normal, ⟨[0], [3, 4]⟩)] (.block 3 (.seq (.block 2 (.seq (.block 1 (.seq (.seq (.seq (.region [.op 0 (.bin 16 .eql .plain (.tmp 14) (.const (.int .i64 5))),
 .op 1 (.mov 15 (.tmp 16))] [])
 (.cond (.tmp 15)
 (.exit 1)
 .skip))
 (.seq (.seq (.region [.op 0 (.bin 18 .eql .plain (.tmp 14) (.const (.int .i64 1))),
 .op 1 (.mov 17 (.tmp 18))] [])
 (.join [(.normal, ⟨[0, 17], [3, 4]⟩)] (.cond (.tmp 17)
 .skip
 (.region [.op 0 (.bin 19 .eql .plain (.tmp 14) (.const (.int .i64 2))),
 .op 1 (.mov 17 (.tmp 19))] []))))
 (.cond (.tmp 17)
 (.exit 2)
 .skip)))
 (.exit 3)))
 (.seq (.region [.op 0 (.mov 20 (.tmp 0)),
 .op 1 (.mov 21 (.tmp 0)),
 .op 2 (.nilchk 22 (.tmp 21)),
 .op 3 (.faddr 23 4 (.tmp 22)),
 .op 4 (.load 24 false 1 (.tmp 23)),
 .op 5 (.build 25 [.bool false, .int .i64 0] [(0, 1, .const (.bool true)), (1, 1, .tmp 24)]),
 .op 6 (.nilchk 26 (.tmp 20)),
 .op 7 (.faddr 27 29 (.tmp 26)),
 .op 8 (.store true 2 (.tmp 27) (.tmp 25))] [])
 (.exit 0))))
 (.region [.op 0 (.mov 28 (.tmp 0)),
 .op 1 (.mov 29 (.tmp 0)),
 .op 2 (.nilchk 30 (.tmp 29)),
 .op 3 (.faddr 31 4 (.tmp 30)),
 .op 4 (.load 32 false 1 (.tmp 31)),
 .op 5 (.build 33 [.bool false, .int .i64 0] [(0, 1, .const (.bool true)), (1, 1, .tmp 32)]),
 .op 6 (.nilchk 34 (.tmp 28)),
 .op 7 (.faddr 35 27 (.tmp 34)),
 .op 8 (.store true 2 (.tmp 35) (.tmp 33))] []))))
 (.seq (.region [.op 0 (.mov 36 (.tmp 0)),
 .op 1 (.nilchk 37 (.tmp 36)),
 .op 2 (.faddr 38 0 (.tmp 37)),
 .op 3 (.load 39 true 2 (.tmp 38)),
 .op 4 (.faddr 40 7 (.tmp 3)),
 .op 5 (.store true 2 (.tmp 40) (.tmp 39))] [])
 (.exit 0))))))
 (.seq (.region [.op 0 (.mov 41 (.tmp 0)),
 .op 1 (.mov 42 (.tmp 0)),
 .op 2 (.mov 43 (.tmp 0)),
 .op 3 (.load 44 true 13 (.tmp 3)),
 .op 4 (.mov 45 (.tmp 0)),
 .op 5 (.nilchk 46 (.tmp 45)),
 .op 6 (.faddr 47 4 (.tmp 46)),
 .op 7 (.load 48 false 1 (.tmp 47)),
 .op 8 (.nilchk 49 (.tmp 41)),
 .op 9 (.faddr 50 13 (.tmp 49)),
 .op 10 (.store true 13 (.tmp 50) (.tmp 44)),
 .op 11 (.nilchk 51 (.tmp 42)),
 .op 12 (.faddr 52 26 (.tmp 51)),
 .op 13 (.store false 1 (.tmp 52) (.tmp 48)),
 .op 14 (.nilchk 53 (.tmp 43)),
 .op 15 (.faddr 54 12 (.tmp 53)),
 .op 16 (.store false 1 (.tmp 54) (.const (.bool true)))] [])
 (.seq (.region [.op 0 (.mov 55 (.tmp 0)),
 .op 1 (.call 56 36 [.tmp 55]),
 .op 2 (.load 57 true 13 (.tmp 3)),
 .op 3 (.build 58 [.int .i64 0, .int .i64 0, .int .i64 0, .int .i64 0, .int .i64 0, .int .i64 0, .int .i64 0, .int .i64 0, .str [], .str [], .bool false, .int .u32 0, .nilSlice, .nilSlice] [(0, 1, .tmp 56), (1, 13, .tmp 57)]),
 .op 4 (.store true 14 (.tmp 4) (.tmp 58))] [(2, 1)])
 .ret))))),
 [.cell 4 true 14]⟩
theorem ok175 : funcOk Tryz.prog (drawOk Tryz.prog) Tryz.f175 A175 = true := by kernel_rfl
noncomputable def F175 (call : TCall) (args : List AVal) (h : TH) : KR := ans (U2 (fun a0 a1 =>
 V (kCellsQ a1) fun c1 =>
 V (kNil a0) fun v2 =>
 V (kFaddr 13 v2) fun v3 =>
 V (kFaddr 4 v3) fun v4 =>
 V (kLd1 h v4) fun v5 =>
 V (kAdd v5 (.int .i64 1)) fun v6 =>
 V (kStL c1 0 1 (.int .i64 1)) fun c7 =>
 V (kStL c7 4 1 v6) fun c8 =>
 ifB (kCheck [(7, some (.ef [(4, [.int .i64 0, .int .i64 0, .int .i64 0, .int .i64 0, .int .i64 0, .int .i64 0, .int .i64 0, .int .i64 0, .str [], .str [], .bool false, .int .u32 0, .nilSlice, .nilSlice]), (3, c1)] h [(4, [.int .i64 0, .int .i64 0, .int .i64 0, .int .i64 0, .int .i64 0, .int .i64 0, .int .i64 0, .int .i64 0, .str [], .str [], .bool false, .int .u32 0, .nilSlice, .nilSlice]), (3, c7)] h)), (4, kLogRd v4 1)] [(4, 7)]) (V (kLdL c8 false 1 1) fun v9 =>
 Jn (Jn (V (kEql v9 (.int .i64 5)) fun v10 =>
 C v10
 (V (kNil a0) fun v11 =>
 V (kFaddr 4 v11) fun v12 =>
 V (kLd1 h v12) fun v13 =>
 V (aFill [.bool false, .int .i64 0] [(0, 1, (.bool true)), (1, 1, v13)]) fun c14 =>
 V (kNil a0) fun v15 =>
 V (kFaddr 29 v15) fun v16 =>
 V (kSt h 2 v16 (.agg c14)) fun h17 =>
 .out 0 [a0, (.agg c8), (.agg [.int .i64 0, .int .i64 0, .int .i64 0, .int .i64 0, .int .i64 0, .int .i64 0, .int .i64 0, .int .i64 0, .str [], .str [], .bool false, .int .u32 0, .nilSlice, .nilSlice])] h17)
 (V (kEql v9 (.int .i64 1)) fun v18 =>
 Jn (C v18
 (.out 0 [a0, v18, (.agg c8), (.agg [.int .i64 0, .int .i64 0, .int .i64 0, .int .i64 0, .int .i64 0, .int .i64 0, .int .i64 0, .int .i64 0, .str [], .str [], .bool false, .int .u32 0, .nilSlice, .nilSlice])] h)
 (V (kEql v9 (.int .i64 2)) fun v19 =>
 .out 0 [a0, v19, (.agg c8), (.agg [.int .i64 0, .int .i64 0, .int .i64 0, .int .i64 0, .int .i64 0, .int .i64 0, .int .i64 0, .int .i64 0, .str [], .str [], .bool false, .int .u32 0, .nilSlice, .nilSlice])] h)) fun i22 x21 h20 =>
 ifB (Nat.beq i22 0) (U4 (fun g23 g24 g25 g26 =>
 C g24
 (V (kNil g23) fun v27 =>
 V (kFaddr 4 v27) fun v28 =>
 V (kLd1 h20 v28) fun v29 =>
 V (aFill [.bool false, .int .i64 0] [(0, 1, (.bool true)), (1, 1, v29)]) fun c30 =>
 V (kNil g23) fun v31 =>
 V (kFaddr 27 v31) fun v32 =>
 V (kSt h20 2 v32 (.agg c30)) fun h33 =>
 .out 1 [g23, (.agg (kAggCells g25)), (.agg (kAggCells g26))] h33)
 (.out 1 [g23, (.agg (kAggCells g25)), (.agg (kAggCells g26))] h20)) x21) (
 .no))) fun i36 x35 h34 =>
 ifB (Nat.beq i36 0) (U3 (fun g37 g38 g39 =>
 .out 0 [g37, (.agg (kAggCells g38)), (.agg (kAggCells g39))] h34) x35) (
 ifB (Nat.beq i36 1) (U3 (fun g40 g41 g42 =>
 V (kNil g40) fun v43 =>
 V (kFaddr 0 v43) fun v44 =>
 V (kLdA h34 2 v44) fun v45 =>
 V (kStL (kAggCells g41) 7 2 v45) fun c46 =>
 .out 0 [g40, (.agg c46), (.agg (kAggCells g42))] h34) x35) (
 .no))) fun i49 x48 h47 =>
 ifB (Nat.beq i49 0) (U3 (fun g50 g51 g52 =>
 V (kLdL (kAggCells g51) true 0 13) fun v53 =>
 V (kNil g50) fun v54 =>
 V (kFaddr 4 v54) fun v55 =>
 V (kLd1 h47 v55) fun v56 =>
 V (kNil g50) fun v57 =>
 V (kFaddr 13 v57) fun v58 =>
 V (kSt h47 13 v58 v53) fun h59 =>
 V (kNil g50) fun v60 =>
 V (kFaddr 26 v60) fun v61 =>
 V (kSt h59 1 v61 v56) fun h62 =>
 V (kNil g50) fun v63 =>
 V (kFaddr 12 v63) fun v64 =>
 V (kSt h62 1 v64 (.bool true)) fun h65 =>
 R (call 36 [g50] h65) fun v66 h67 =>
 V (kLdL (kAggCells g51) true 0 13) fun v68 =>
 V (aFill [.int .i64 0, .int .i64 0, .int .i64 0, .int .i64 0, .int .i64 0, .int .i64 0, .int .i64 0, .int .i64 0, .str [], .str [], .bool false, .int .u32 0, .nilSlice, .nilSlice] [(0, 1, v66), (1, 13, v68)]) fun c69 =>
 V (kStL (kAggCells g52) 0 14 (.agg c69)) fun c70 =>
 ifB (kCheck [(2, some (.lrd 3 0 13)), (1, some (.ef [(3, (kAggCells g51)), (4, (kAggCells g52))] h65 [(3, (kAggCells g51)), (4, (kAggCells g52))] h67))] [(2, 1)]) (V (kLdL c70 true 0 14) fun v71 =>
 .out 0 [v71] h67) .no) x48) (
 .no)) .no) args)
theorem st175 (call : TCall) (args : List AVal) (h : TH) : kFunc call A175 args h = F175 call args h := by kernel_rfl
noncomputable def A176 : AFunc := ⟨2, (.seq (.region [.op 0 (.box 3 true (.tmp 1)),
 .op 1 (.mov 4 (.const (.int .i64 0)))] [])
 (.seq (.seq (.region [.op 0 (.faddr 8 0 (.tmp 3)),
 .op 1 (.load 9 false 1 (.tmp 8)),
 .op 2 (.bin 10 .neq .plain (.tmp 9) (.const (.int .i64 2))),
 .op 3 (.mov 11 (.tmp 10)),
 .guard 11 false [.op 4 (.faddr 12 1 (.tmp 3)),
 .op 5 (.load 13 false 1 (.tmp 12)),
 .op 6 (.bin 14 .neq .plain (.tmp 13) (.const (.int .i64 5)))] [] [14],
 .op 7 (.pick 15 (.tmp 11) (.const (.bool true)) (.tmp 14)),
 .op 8 (.mov 16 (.tmp 15)),
 .guard 16 false [.op 9 (.faddr 17 3 (.tmp 3)),
 .op 10 (.load 18 false 1 (.tmp 17)),
 .op 11 (.bin 19 .neq .plain (.tmp 18) (.const (.int .i64 0)))] [] [19],
 .op 12 (.pick 20 (.tmp 16) (.const (.bool true)) (.tmp 19)),
 .op 13 (.mov 21 (.tmp 20)),
 .guard 21 false [.op 14 (.load 22 true 13 (.tmp 3)),
 .op 15 (.call 23 50 [.tmp 22]),
 .op 16 (.bin 24 .neq (.iface true []) (.tmp 23) (.const (.nilIface)))] [] [24],
 .op 17 (.pick 25 (.tmp 21) (.const (.bool true)) (.tmp 24))] [])
 (.cond (.tmp 25)
 (.seq (.region [.op 0 (.mov 4 (.const (.int .i64 1)))] [])
 .ret)
 .skip))
 (.seq (.seq (.region [.op 0 (.faddr 26 9 (.tmp 3)),
 .op 1 (.load 27 false 1 (.tmp 26)),
 .op 2 (.un 28 .not (.tmp 27)),
 .op 3 (.mov 29 (.tmp 28)),
 .guard 29 true [.op 4 (.mov 30 (.tmp 0)),
 .op 5 (.nilchk 31 (.tmp 30)),
 .op 6 (.faddr 32 1 (.tmp 31)),
 .op 7 (.load 33 false 1 (.tmp 32)),
 .op 8 (.bin 34 .eql .plain (.tmp 33) (.const (.int .i64 (-1))))] [] [34],
 .op 9 (.pick 35 (.tmp 29) (.tmp 34) (.const (.bool false)))] [])
 (.cond (.tmp 35)
 (.seq (.region [.op 0 (.mov 4 (.const (.int .i64 25)))] [])
 .ret)
 .skip))
 (.seq (.region [.op 0 (.mov 36 (.tmp 0)),
 .op 1 (.nilchk 37 (.tmp 36)),
 .op 2 (.faddr 38 0 (.tmp 37)),
 .op 3 (.load 39 false 1 (.tmp 38)),
 .op 4 (.mov 5 (.tmp 39))] [])
 (.seq (.seq (.region [.op 0 (.faddr 40 9 (.tmp 3)),
 .op 1 (.load 41 false 1 (.tmp 40))] [])
 (.join [(.normal, ⟨[0, 5], [3]⟩)] (.cond (.tmp 41)
 (.region [.op 0 (.mov 5 (.const (.nilSlice)))] [])
 .skip)))
 (.seq (.seq (.region [.op 0 (.faddr 42 11 (.tmp 3)),
 .op 1 (.load 43 false 1 (.tmp 42)),
 .op 2 (.len 44 false (.tmp 43)),
 .op 3 (.mov 45 (.const (.int .i64 0)))] [])
 (.block 0 (.loop ⟨[0, 5, 43, 44, 45], [3]⟩ [((.exit 0), ⟨[0, 5], [3]⟩)]
 (.seq (.region [.op 0 (.bin 46 .lss .plain (.tmp 45) (.tmp 44))] [])
 (.seq (.cond (.tmp 46)
 .skip
 (.exit 0))
 (.seq (.block 1 (.seq (.region [.op 0 (.iaddr 47 none 9 (.tmp 43) (.tmp 45)),
 .op 1 (.load 48 true 9 (.tmp 47)),
 .op 2 (.alloc 7 true [.str [], .str [], .int .i64 0, .int .i64 0, .int .i64 0, .int .i64 0, .int .i64 0, .int .i64 0, .bool false]),
 .op 3 (.store true 9 (.tmp 7) (.tmp 48))] [])
 (.region [.op 0 (.mov 49 (.tmp 5)),
 .op 1 (.load 50 true 9 (.tmp 7)),
 .op 2 (.call 51 200 [.tmp 49, .tmp 50]),
 .op 3 (.mov 5 (.tmp 51))] [])))
 (.region [.op 0 (.bin 52 .add .plain (.tmp 45) (.const (.int .i64 1))),
 .op 1 (.mov 45 (.tmp 52))] [])))))))
 (.seq (.region [.op 0 (.mov 53 (.tmp 0)),
 .op 1 (.mov 54 (.tmp 5)),
 .op 2 (.call 55 130 [.tmp 54]),
 .op 3 (.nilchk 56 (.tmp 53)),
 .op 4 (.faddr 57 0 (.tmp 56)),
 .op 5 (.store false 1 (.tmp 57) (.tmp 55))] [])
 (.seq (.seq (.region [.op 0 (.mov 58 (.tmp 0)),
 .op 1 (.nilchk 59 (.tmp 58)),
 .op 2 (.faddr 60 0 (.tmp 59)),
 .op 3 (.load 61 false 1 (.tmp 60)),
 .op 4 (.call 62 180 [.tmp 61]),
 .op 5 (.faddr 63 10 (.tmp 3)),
 .op 6 (.load 64 false 1 (.tmp 63)),
 .op 7 (.bin 65 .neq .plain (.tmp 62) (.tmp 64))] [(6, 4)])
 (.cond (.tmp 65)
 (.seq (.region [.op 0 (.mov 66 (.tmp 0)),
 .op 1 (.nilchk 67 (.tmp 66)),
 .op 2 (.faddr 68 1 (.tmp 67)),
 .op 3 (.store false 1 (.tmp 68) (.const (.int .i64 (-1))))] [])
 (.seq (.region [.op 0 (.mov 4 (.const (.int .i64 25)))] [])
 .ret))
 .skip))
 (.seq (.region [.op 0 (.mov 69 (.tmp 0)),
 .op 1 (.faddr 70 6 (.tmp 3)),
 .op 2 (.load 71 false 1 (.tmp 70)),
 .op 3 (.nilchk 72 (.tmp 69)),
 .op 4 (.faddr 73 1 (.tmp 72)),
 .op 5 (.store false 1 (.tmp 73) (.tmp 71))] [])
 (.seq (.region [.op 0 (.mov 4 (.const (.int .i64 0)))] [])
 .ret)))))))))),
 [.tmp 4]⟩
theorem ok176 : funcOk Tryz.prog (drawOk Tryz.prog) Tryz.f176 A176 = true := by kernel_rfl
noncomputable def L176_0 (call : TCall) (xs : List AVal) (h : TH) : KJ :=
 U6 (fun g46 g47 g48 g49 g50 g51 =>
 V (kLss g50 g49) fun v52 =>
 C v52
 (V (kIaddr 9 g48 g50) fun v53 =>
 V (kLdA h 9 v53) fun v54 =>
 V (kStL [.str [], .str [], .int .i64 0, .int .i64 0, .int .i64 0, .int .i64 0, .int .i64 0, .int .i64 0, .bool false] 0 9 v54) fun c55 =>
 V (kLdL c55 true 0 9) fun v56 =>
 R (call 200 [g47, v56] h) fun v57 h58 =>
 V (kAdd g50 (.int .i64 1)) fun v59 =>
 .out 0 [g46, v57, g48, g49, v59, (.agg (kAggCells g51))] h58)
 (.out 1 [g46, g47, (.agg (kAggCells g51))] h)) xs
noncomputable def F176 (call : TCall) (args : List AVal) (h : TH) : KR := ans (U2 (fun a0 a1 =>
 V (kCellsQ a1) fun c1 =>
 V (kLdL c1 false 0 1) fun v2 =>
 V (kNeq v2 (.int .i64 2)) fun v3 =>
 Jn (G v3 false
 (V (kLdL c1 false 1 1) fun v4 =>
 V (kNeq v4 (.int .i64 5)) fun v5 =>
 .out 0 [v5] h)
 (.out 0 [skipV] h)) fun _ x7 h6 =>
 U1 (fun g8 =>
 V (kPick v3 (.bool true) g8) fun v9 =>
 Jn (G v9 false
 (V (kLdL c1 false 3 1) fun v10 =>
 V (kNeq v10 (.int .i64 0)) fun v11 =>
 .out 0 [v11] h6)
 (.out 0 [skipV] h6)) fun _ x13 h12 =>
 U1 (fun g14 =>
 V (kPick v9 (.bool true) g14) fun v15 =>
 Jn (G v15 false
 (V (kLdL c1 true 0 13) fun v16 =>
 R (call 50 [v16] h12) fun v17 h18 =>
 V (kNe (.iface true []) v17 (.nilIface)) fun v19 =>
 .out 0 [v19] h18)
 (.out 0 [skipV] h12)) fun _ x21 h20 =>
 U1 (fun g22 =>
 V (kPick v15 (.bool true) g22) fun v23 =>
 C v23
 (.out 0 [(.int .i64 1)] h20)
 (V (kLdL c1 false 9 1) fun v24 =>
 V (kNot v24) fun v25 =>
 Jn (G v25 true
 (V (kNil a0) fun v26 =>
 V (kFaddr 1 v26) fun v27 =>
 V (kLd1 h20 v27) fun v28 =>
 V (kEql v28 (.int .i64 (-1))) fun v29 =>
 .out 0 [v29] h20)
 (.out 0 [skipV] h20)) fun _ x31 h30 =>
 U1 (fun g32 =>
 V (kPick v25 g32 (.bool false)) fun v33 =>
 C v33
 (.out 0 [(.int .i64 25)] h30)
 (V (kNil a0) fun v34 =>
 V (kFaddr 0 v34) fun v35 =>
 V (kLd1 h30 v35) fun v36 =>
 V (kLdL c1 false 9 1) fun v37 =>
 Jn (C v37
 (.out 0 [a0, (.nilSlice), (.agg c1)] h30)
 (.out 0 [a0, v36, (.agg c1)] h30)) fun i40 x39 h38 =>
 ifB (Nat.beq i40 0) (U3 (fun g41 g42 g43 =>
 V (kLdL (kAggCells g43) false 11 1) fun v44 =>
 V (kLen false v44) fun v45 =>
 Jn (Lp (L176_0 call) [g41, g42, v44, v45, (.int .i64 0), (.agg (kAggCells g43))] h38) fun i62 x61 h60 =>
 ifB (Nat.beq i62 1) (U3 (fun g63 g64 g65 =>
 R (call 130 [g64] h60) fun v66 h67 =>
 V (kNil g63) fun v68 =>
 V (kFaddr 0 v68) fun v69 =>
 V (kSt h67 1 v69 v66) fun h70 =>
 V (kNil g63) fun v71 =>
 V (kFaddr 0 v71) fun v72 =>
 V (kLd1 h70 v72) fun v73 =>
 R (call 180 [v73] h70) fun v74 h75 =>
 V (kLdL (kAggCells g65) false 10 1) fun v76 =>
 V (kNeq v74 v76) fun v77 =>
 ifB (kCheck [(6, some (.lrd 3 10 1)), (4, some (.ef [(3, (kAggCells g65))] h70 [(3, (kAggCells g65))] h75))] [(6, 4)]) (C v77
 (V (kNil g63) fun v78 =>
 V (kFaddr 1 v78) fun v79 =>
 V (kSt h75 1 v79 (.int .i64 (-1))) fun h80 =>
 .out 0 [(.int .i64 25)] h80)
 (V (kLdL (kAggCells g65) false 6 1) fun v81 =>
 V (kNil g63) fun v82 =>
 V (kFaddr 1 v82) fun v83 =>
 V (kSt h75 1 v83 v81) fun h84 =>
 .out 0 [(.int .i64 0)] h84)) .no) x61) (
 .no)) x39) (
 .no))) x31)) x21) x13) x7) args)
theorem st176 (call : TCall) (args : List AVal) (h : TH) : kFunc call A176 args h = F176 call args h := by kernel_rfl
noncomputable def A177 : AFunc := ⟨1, (.seq (.region [.op 0 (.box 1 true (.tmp 0)),
 .op 1 (.mov 2 (.const (.int .i64 0)))] [])
 (.seq (.block 0 (.seq (.region [.op 0 (.faddr 4 8 (.tmp 1)),
 .op 1 (.load 5 false 1 (.tmp 4)),
 .op 2 (.mov 3 (.tmp 5))] [])
 (.cond (.tmp 3)
 (.seq (.region [.op 0 (.mov 2 (.const (.int .i64 0)))] [])
 .ret)
 (.seq (.region [.op 0 (.faddr 7 3 (.tmp 1)),
 .op 1 (.load 8 false 1 (.tmp 7)),
 .op 2 (.bin 9 .neq .plain (.tmp 8) (.const (.int .i64 0))),
 .op 3 (.mov 6 (.tmp 9))] [])
 (.cond (.tmp 6)
 (.seq (.region [.op 0 (.faddr 10 3 (.tmp 1)),
 .op 1 (.load 11 false 1 (.tmp 10)),
 .op 2 (.mov 2 (.tmp 11))] [])
 .ret)
 .skip)))))
 (.seq (.region [.op 0 (.faddr 12 2 (.tmp 1)),
 .op 1 (.load 13 false 1 (.tmp 12)),
 .op 2 (.mov 2 (.tmp 13))] [])
 .ret))),
 [.tmp 2]⟩
theorem ok177 : funcOk Tryz.prog (drawOk Tryz.prog) Tryz.f177 A177 = true := by kernel_rfl
noncomputable def F177 (call : TCall) (args : List AVal) (h : TH) : KR := ans (U1 (fun a0 =>
 V (kCellsQ a0) fun c1 =>
 V (kLdL c1 false 8 1) fun v2 =>
 C v2
 (.out 0 [(.int .i64 0)] h)
 (V (kLdL c1 false 3 1) fun v3 =>
 V (kNeq v3 (.int .i64 0)) fun v4 =>
 C v4
 (V (kLdL c1 false 3 1) fun v5 =>
 .out 0 [v5] h)
 (V (kLdL c1 false 2 1) fun v6 =>
 .out 0 [v6] h))) args)
theorem st177 (call : TCall) (args : List AVal) (h : TH) : kFunc call A177 args h = F177 call args h := by kernel_rfl
noncomputable def A178 : AFunc := ⟨3, (.seq (.region [.op 0 (.mov 6 (.const (.bool false)))] [])
 (.seq (.seq (.region [.op 0 (.mov 7 (.tmp 0))] [])
 (.block 0 (.seq (.region [.op 0 (.bin 9 .eql .plain (.tmp 7) (.const (.int .i64 1))),
 .op 1 (.mov 8 (.tmp 9))] [])
 (.cond (.tmp 8)
 (.seq (.region [.op 0 (.mov 10 (.tmp 1)),
 .op 1 (.bin 11 .geq .plain (.tmp 10) (.const (.int .i64 1))),
 .op 2 (.mov 12 (.tmp 11)),
 .guard 12 true [.op 3 (.mov 13 (.tmp 1)),
 .op 4 (.bin 14 .leq .plain (.tmp 13) (.const (.int .i64 1048576)))] [] [14],
 .op 5 (.pick 15 (.tmp 12) (.tmp 14) (.const (.bool false))),
 .op 6 (.mov 16 (.tmp 15)),
 .guard 16 true [.op 7 (.mov 17 (.tmp 2)),
 .op 8 (.bin 18 .eql .plain (.tmp 17) (.const (.int .i64 1))),
 .op 9 (.mov 19 (.tmp 18)),
 .guard 19 false [.op 10 (.mov 20 (.tmp 2)),
 .op 11 (.bin 21 .eql .plain (.tmp 20) (.const (.int .i64 2)))] [] [21],
 .op 12 (.pick 22 (.tmp 19) (.const (.bool true)) (.tmp 21))] [] [22],
 .op 13 (.pick 23 (.tmp 16) (.tmp 22) (.const (.bool false))),
 .op 14 (.mov 6 (.tmp 23))] [])
 .ret)
 (.seq (.region [.op 0 (.bin 25 .eql .plain (.tmp 7) (.const (.int .i64 3))),
 .op 1 (.mov 24 (.tmp 25))] [])
 (.cond (.tmp 24)
 (.seq (.region [.op 0 (.mov 6 (.const (.bool true)))] [])
 .ret)
 (.seq (.region [.op 0 (.bin 27 .eql .plain (.tmp 7) (.const (.int .i64 4))),
 .op 1 (.mov 26 (.tmp 27))] [])
 (.cond (.tmp 26)
 (.seq (.region [.op 0 (.mov 28 (.tmp 2)),
 .op 1 (.bin 29 .geq .plain (.tmp 28) (.const (.int .i64 0))),
 .op 2 (.mov 30 (.tmp 29)),
 .guard 30 true [.op 3 (.mov 31 (.tmp 2)),
 .op 4 (.bin 32 .leq .plain (.tmp 31) (.const (.int .i64 3)))] [] [32],
 .op 5 (.pick 33 (.tmp 30) (.tmp 32) (.const (.bool false))),
 .op 6 (.mov 6 (.tmp 33))] [])
 .ret)
 .skip))))))))
 (.seq (.region [.op 0 (.mov 6 (.const (.bool false)))] [])
 .ret))),
 [.tmp 6]⟩
theorem ok178 : funcOk Tryz.prog (drawOk Tryz.prog) Tryz.f178 A178 = true := by kernel_rfl
noncomputable def F178 (call : TCall) (args : List AVal) (h : TH) : KR := ans (U3 (fun a0 a1 a2 =>
 V (kEql a0 (.int .i64 1)) fun v1 =>
 C v1
 (V (kGeq a1 (.int .i64 1)) fun v2 =>
 Jn (G v2 true
 (V (kLeq a1 (.int .i64 1048576)) fun v3 =>
 .out 0 [v3] h)
 (.out 0 [skipV] h)) fun _ x5 h4 =>
 U1 (fun g6 =>
 V (kPick v2 g6 (.bool false)) fun v7 =>
 Jn (G v7 true
 (V (kEql a2 (.int .i64 1)) fun v8 =>
 Jn (G v8 false
 (V (kEql a2 (.int .i64 2)) fun v9 =>
 .out 0 [v9] h4)
 (.out 0 [skipV] h4)) fun _ x11 h10 =>
 U1 (fun g12 =>
 V (kPick v8 (.bool true) g12) fun v13 =>
 .out 0 [v13] h10) x11)
 (.out 0 [skipV] h4)) fun _ x15 h14 =>
 U1 (fun g16 =>
 V (kPick v7 g16 (.bool false)) fun v17 =>
 .out 0 [v17] h14) x15) x5)
 (V (kEql a0 (.int .i64 3)) fun v18 =>
 C v18
 (.out 0 [(.bool true)] h)
 (V (kEql a0 (.int .i64 4)) fun v19 =>
 C v19
 (V (kGeq a2 (.int .i64 0)) fun v20 =>
 Jn (G v20 true
 (V (kLeq a2 (.int .i64 3)) fun v21 =>
 .out 0 [v21] h)
 (.out 0 [skipV] h)) fun _ x23 h22 =>
 U1 (fun g24 =>
 V (kPick v20 g24 (.bool false)) fun v25 =>
 .out 0 [v25] h22) x23)
 (.out 0 [(.bool false)] h)))) args)
theorem st178 (call : TCall) (args : List AVal) (h : TH) : kFunc call A178 args h = F178 call args h := by kernel_rfl
noncomputable def A179 : AFunc := ⟨1, (.seq (.region [.op 0 (.mov 2 (.const (.int .i64 0)))] [])
 (.seq (.region [.op 0 (.mov 3 (.tmp 0)),
 .op 1 (.nilchk 4 (.tmp 3)),
 .op 2 (.faddr 5 0 (.tmp 4)),
 .op 3 (.load 6 false 1 (.tmp 5)),
 .op 4 (.mov 2 (.tmp 6))] [])
 .ret)),
 [.tmp 2]⟩
theorem ok179 : funcOk Tryz.prog (drawOk Tryz.prog) Tryz.f179 A179 = true := by kernel_rfl
noncomputable def F179 (call : TCall) (args : List AVal) (h : TH) : KR := ans (U1 (fun a0 =>
 V (kNil a0) fun v1 =>
 V (kFaddr 0 v1) fun v2 =>
 V (kLd1 h v2) fun v3 =>
 .out 0 [v3] h) args)
theorem st179 (call : TCall) (args : List AVal) (h : TH) : kFunc call A179 args h = F179 call args h := by kernel_rfl
noncomputable def A180 : AFunc := ⟨1, (.seq (.region [.op 0 (.mov 2 (.const (.int .u32 0)))] [])
 (.seq (.region [.op 0 (.mov 3 (.tmp 0)),
 .op 1 (.call 4 202 [.tmp 3]),
 .op 2 (.call 5 201 [.tmp 4]),
 .op 3 (.mov 2 (.tmp 5))] [])
 .ret)),
 [.tmp 2]⟩
theorem ok180 : funcOk Tryz.prog (drawOk Tryz.prog) Tryz.f180 A180 = true := by kernel_rfl
noncomputable def F180 (call : TCall) (args : List AVal) (h : TH) : KR := ans (U1 (fun a0 =>
 R (call 202 [a0] h) fun v1 h2 =>
 R (call 201 [v1] h2) fun v3 h4 =>
 .out 0 [v3] h4) args)
theorem st180 (call : TCall) (args : List AVal) (h : TH) : kFunc call A180 args h = F180 call args h := by kernel_rfl
noncomputable def A182 : AFunc := ⟨3, (.seq (.region [.op 0 (.mov 6 (.const (.int .i64 20)))] [])
 (.seq (.region [.op 0 (.mov 10 (.tmp 6)),
 .op 1 (.mov 7 (.const (.int .i64 0))),
 .op 2 (.mov 8 (.tmp 10))] [])
 (.seq (.block 0 (.loop ⟨[0, 1, 2, 6, 7, 8], []⟩ [((.exit 0), ⟨[0, 1, 2, 6, 7], []⟩)]
 (.seq (.seq (.region [.op 0 (.mov 11 (.tmp 8)),
 .op 1 (.mov 12 (.tmp 1)),
 .op 2 (.bin 13 .leq .plain (.tmp 11) (.tmp 12))] [])
 (.cond (.tmp 13)
 .skip
 (.exit 0)))
 (.block 1 (.seq (.region [.op 0 (.mov 14 (.tmp 0)),
 .op 1 (.mov 15 (.tmp 7)),
 .op 2 (.mov 16 (.tmp 8)),
 .op 3 (.mov 17 (.tmp 2)),
 .op 4 (.call 18 204 [.tmp 14, .tmp 15, .tmp 16, .tmp 17])] [])
 (.seq (.region [.op 0 (.mov 19 (.tmp 8)),
 .op 1 (.mov 7 (.tmp 19))] [])
 (.region [.op 0 (.mov 20 (.tmp 8)),
 .op 1 (.mov 21 (.tmp 6)),
 .op 2 (.bin 22 .add .plain (.tmp 20) (.tmp 21)),
 .op 3 (.mov 8 (.tmp 22))] [])))))))
 (.seq (.region [.op 0 (.mov 23 (.tmp 0)),
 .op 1 (.mov 24 (.tmp 7)),
 .op 2 (.mov 25 (.tmp 1)),
 .op 3 (.mov 26 (.tmp 2)),
 .op 4 (.call 27 204 [.tmp 23, .tmp 24, .tmp 25, .tmp 26])] [])
 (.block 2 (.loop ⟨[0, 1, 2, 6], []⟩ [((.exit 2), ⟨[], []⟩)]
 (.seq (.seq (.region [.op 0 (.mov 28 (.tmp 6)),
 .op 1 (.mov 29 (.tmp 1)),
 .op 2 (.bin 30 .lss .plain (.tmp 28) (.tmp 29))] [])
 (.cond (.tmp 30)
 .skip
 (.exit 2)))
 (.block 3 (.seq (.region [.op 0 (.mov 31 (.tmp 6)),
 .op 1 (.bin 32 .mul .plain (.const (.int .i64 2)) (.tmp 31)),
 .op 2 (.mov 7 (.const (.int .i64 0))),
 .op 3 (.mov 8 (.tmp 32))] [])
 (.seq (.block 4 (.loop ⟨[0, 1, 2, 6, 7, 8], []⟩ [((.exit 4), ⟨[0, 1, 2, 6, 7], []⟩)]
 (.seq (.seq (.region [.op 0 (.mov 33 (.tmp 8)),
 .op 1 (.mov 34 (.tmp 1)),
 .op 2 (.bin 35 .leq .plain (.tmp 33) (.tmp 34))] [])
 (.cond (.tmp 35)
 .skip
 (.exit 4)))
 (.block 5 (.seq (.region [.op 0 (.mov 36 (.tmp 0)),
 .op 1 (.mov 37 (.tmp 7)),
 .op 2 (.mov 38 (.tmp 7)),
 .op 3 (.mov 39 (.tmp 6)),
 .op 4 (.bin 40 .add .plain (.tmp 38) (.tmp 39)),
 .op 5 (.mov 41 (.tmp 8)),
 .op 6 (.mov 42 (.tmp 2)),
 .op 7 (.call 43 205 [.tmp 36, .tmp 37, .tmp 40, .tmp 41, .tmp 42])] [])
 (.seq (.region [.op 0 (.mov 44 (.tmp 8)),
 .op 1 (.mov 7 (.tmp 44))] [])
 (.region [.op 0 (.mov 45 (.tmp 8)),
 .op 1 (.mov 46 (.tmp 6)),
 .op 2 (.bin 47 .mul .plain (.const (.int .i64 2)) (.tmp 46)),
 .op 3 (.bin 48 .add .plain (.tmp 45) (.tmp 47)),
 .op 4 (.mov 8 (.tmp 48))] [])))))))
 (.seq (.seq (.region [.op 0 (.mov 49 (.tmp 7)),
 .op 1 (.mov 50 (.tmp 6)),
 .op 2 (.bin 51 .add .plain (.tmp 49) (.tmp 50)),
 .op 3 (.mov 9 (.tmp 51))] [])
 (.seq (.region [.op 0 (.mov 52 (.tmp 9)),
 .op 1 (.mov 53 (.tmp 1)),
 .op 2 (.bin 54 .lss .plain (.tmp 52) (.tmp 53))] [])
 (.join [(.normal, ⟨[0, 1, 2, 6], []⟩)] (.cond (.tmp 54)
 (.region [.op 0 (.mov 55 (.tmp 0)),
 .op 1 (.mov 56 (.tmp 7)),
 .op 2 (.mov 57 (.tmp 9)),
 .op 3 (.mov 58 (.tmp 1)),
 .op 4 (.mov 59 (.tmp 2)),
 .op 5 (.call 60 205 [.tmp 55, .tmp 56, .tmp 57, .tmp 58, .tmp 59])] [])
 .skip))))
 (.region [.op 0 (.mov 61 (.tmp 6)),
 .op 1 (.bin 62 .mul .plain (.tmp 61) (.const (.int .i64 2))),
 .op 2 (.mov 6 (.tmp 62))] [])))))))))))),
 []⟩
theorem ok182 : funcOk Tryz.prog (drawOk Tryz.prog) Tryz.f182 A182 = true := by kernel_rfl
noncomputable def L182_0 (call : TCall) (xs : List AVal) (h : TH) : KJ :=
 U6 (fun g1 g2 g3 g4 g5 g6 =>
 V (kLeq g6 g2) fun v7 =>
 C v7
 (R (call 204 [g1, g5, g6, g3] h) fun v8 h9 =>
 V (kAdd g6 g4) fun v10 =>
 .out 0 [g1, g2, g3, g4, g6, v10] h9)
 (.out 1 [g1, g2, g3, g4, g5] h)) xs
noncomputable def L182_2 (call : TCall) (xs : List AVal) (h : TH) : KJ :=
 U6 (fun g27 g28 g29 g30 g31 g32 =>
 V (kLeq g32 g28) fun v33 =>
 C v33
 (V (kAdd g31 g30) fun v34 =>
 R (call 205 [g27, g31, v34, g32, g29] h) fun v35 h36 =>
 V (kMul (.int .i64 2) g30) fun v37 =>
 V (kAdd g32 v37) fun v38 =>
 .out 0 [g27, g28, g29, g30, g32, v38] h36)
 (.out 1 [g27, g28, g29, g30, g31] h)) xs
noncomputable def L182_1 (call : TCall) (xs : List AVal) (h : TH) : KJ :=
 U4 (fun g21 g22 g23 g24 =>
 V (kLss g24 g22) fun v25 =>
 C v25
 (V (kMul (.int .i64 2) g24) fun v26 =>
 Jn (Lp (L182_2 call) [g21, g22, g23, g24, (.int .i64 0), v26] h) fun i41 x40 h39 =>
 ifB (Nat.beq i41 1) (U5 (fun g42 g43 g44 g45 g46 =>
 V (kAdd g46 g45) fun v47 =>
 V (kLss v47 g43) fun v48 =>
 Jn (C v48
 (R (call 205 [g42, g46, v47, g43, g44] h39) fun v49 h50 =>
 .out 0 [g42, g43, g44, g45] h50)
 (.out 0 [g42, g43, g44, g45] h39)) fun i53 x52 h51 =>
 ifB (Nat.beq i53 0) (U4 (fun g54 g55 g56 g57 =>
 V (kMul g57 (.int .i64 2)) fun v58 =>
 .out 0 [g54, g55, g56, v58] h51) x52) (
 .no)) x40) (
 .no))
 (.out 1 [] h)) xs
noncomputable def F182 (call : TCall) (args : List AVal) (h : TH) : KR := ans (U3 (fun a0 a1 a2 =>
 Jn (Lp (L182_0 call) [a0, a1, a2, (.int .i64 20), (.int .i64 0), (.int .i64 20)] h) fun i13 x12 h11 =>
 ifB (Nat.beq i13 1) (U5 (fun g14 g15 g16 g17 g18 =>
 R (call 204 [g14, g18, g15, g16] h11) fun v19 h20 =>
 Jn (Lp (L182_1 call) [g14, g15, g16, g17] h20) fun i61 x60 h59 =>
 ifB (Nat.beq i61 1) (U0 (.out 0 [.tuple []] h59) x60) (
 .no)) x12) (
 .no)) args)
theorem st182 (call : TCall) (args : List AVal) (h : TH) : kFunc call A182 args h = F182 call args h := by kernel_rfl
noncomputable def A183 : AFunc := ⟨2, (.seq (.region [.op 0 (.mov 4 (.const (.int .i64 0)))] [])
 (.seq (.region [.op 0 (.mov 7 (.tmp 0)),
 .op 1 (.call 8 206 [.tmp 7]),
 .op 2 (.mov 5 (.tmp 8))] [])
 (.seq (.region [.op 0 (.mov 9 (.tmp 1)),
 .op 1 (.call 10 206 [.tmp 9]),
 .op 2 (.mov 6 (.tmp 10))] [])
 (.seq (.seq (.region [.op 0 (.mov 11 (.tmp 5))] [])
 (.cond (.tmp 11)
 (.seq (.seq (.region [.op 0 (.mov 12 (.tmp 6))] [])
 (.cond (.tmp 12)
 (.seq (.region [.op 0 (.mov 4 (.const (.int .i64 0)))] [])
 .ret)
 .skip))
 (.seq (.region [.op 0 (.mov 4 (.const (.int .i64 (-1))))] [])
 .ret))
 .skip))
 (.seq (.seq (.region [.op 0 (.mov 13 (.tmp 6))] [])
 (.cond (.tmp 13)
 (.seq (.region [.op 0 (.mov 4 (.const (.int .i64 1)))] [])
 .ret)
 .skip))
 (.seq (.seq (.region [.op 0 (.mov 14 (.tmp 0)),
 .op 1 (.mov 15 (.tmp 1)),
 .op 2 (.bin 16 .lss .plain (.tmp 14) (.tmp 15))] [])
 (.cond (.tmp 16)
 (.seq (.region [.op 0 (.mov 4 (.const (.int .i64 (-1))))] [])
 .ret)
 .skip))
 (.seq (.seq (.region [.op 0 (.mov 17 (.tmp 0)),
 .op 1 (.mov 18 (.tmp 1)),
 .op 2 (.bin 19 .gtr .plain (.tmp 17) (.tmp 18))] [])
 (.cond (.tmp 19)
 (.seq (.region [.op 0 (.mov 4 (.const (.int .i64 1)))] [])
 .ret)
 .skip))
 (.seq (.region [.op 0 (.mov 4 (.const (.int .i64 0)))] [])
 .ret)))))))),
 [.tmp 4]⟩
theorem ok183 : funcOk Tryz.prog (drawOk Tryz.prog) Tryz.f183 A183 = true := by kernel_rfl
noncomputable def F183 (call : TCall) (args : List AVal) (h : TH) : KR := ans (U2 (fun a0 a1 =>
 R (call 206 [a0] h) fun v1 h2 =>
 R (call 206 [a1] h2) fun v3 h4 =>
 C v1
 (C v3
 (.out 0 [(.int .i64 0)] h4)
 (.out 0 [(.int .i64 (-1))] h4))
 (C v3
 (.out 0 [(.int .i64 1)] h4)
 (V (kLss a0 a1) fun v5 =>
 C v5
 (.out 0 [(.int .i64 (-1))] h4)
 (V (kGtr a0 a1) fun v6 =>
 C v6
 (.out 0 [(.int .i64 1)] h4)
 (.out 0 [(.int .i64 0)] h4))))) args)
theorem st183 (call : TCall) (args : List AVal) (h : TH) : kFunc call A183 args h = F183 call args h := by kernel_rfl
noncomputable def A189 : AFunc := ⟨1, (.seq (.region [.op 0 (.mov 2 (.const (.nilPtr)))] [])
 (.seq (.region [.op 0 (.mov 3 (.tmp 0)),
 .op 1 (.nilchk 4 (.tmp 3)),
 .op 2 (.faddr 5 5 (.tmp 4)),
 .op 3 (.load 6 false 1 (.tmp 5)),
 .op 4 (.mov 2 (.tmp 6))] [])
 .ret)),
 [.tmp 2]⟩
theorem ok189 : funcOk Tryz.prog (drawOk Tryz.prog) Tryz.f189 A189 = true := by kernel_rfl
noncomputable def F189 (call : TCall) (args : List AVal) (h : TH) : KR := ans (U1 (fun a0 =>
 V (kNil a0) fun v1 =>
 V (kFaddr 5 v1) fun v2 =>
 V (kLd1 h v2) fun v3 =>
 .out 0 [v3] h) args)
theorem st189 (call : TCall) (args : List AVal) (h : TH) : kFunc call A189 args h = F189 call args h := by kernel_rfl
noncomputable def A190 : AFunc := ⟨2, (.seq (.seq (.region [.op 0 (.mov 5 (.tmp 1)),
 .op 1 (.mov 6 (.tmp 0)),
 .op 2 (.nilchk 7 (.tmp 6)),
 .op 3 (.faddr 8 0 (.tmp 7)),
 .op 4 (.load 9 false 1 (.tmp 8)),
 .op 5 (.bin 10 .lss .plain (.tmp 5) (.tmp 9))] [])
 (.cond (.tmp 10)
 .ret
 .skip))
 (.seq (.region [.op 0 (.mov 11 (.tmp 1)),
 .op 1 (.conv 12 (.toInt .u64) (.tmp 11)),
 .op 2 (.mov 13 (.tmp 0)),
 .op 3 (.nilchk 14 (.tmp 13)),
 .op 4 (.faddr 15 0 (.tmp 14)),
 .op 5 (.load 16 false 1 (.tmp 15)),
 .op 6 (.conv 17 (.toInt .u64) (.tmp 16)),
 .op 7 (.bin 18 .sub .plain (.tmp 12) (.tmp 17)),
 .op 8 (.bin 19 .quo .plain (.tmp 18) (.const (.int .u64 60))),
 .op 9 (.mov 4 (.tmp 19))] [])
 (.seq (.seq (.region [.op 0 (.mov 20 (.tmp 4))] [])
 (.block 0 (.seq (.region [.op 0 (.bin 25 .eql .plain (.tmp 20) (.const (.int .u64 0))),
 .op 1 (.mov 24 (.tmp 25))] [])
 (.cond (.tmp 24)
 .ret
 (.seq (.region [.op 0 (.bin 27 .eql .plain (.tmp 20) (.const (.int .u64 1))),
 .op 1 (.mov 26 (.tmp 27))] [])
 (.join [(.normal, ⟨[0, 4], []⟩)] (.cond (.tmp 26)
 (.region [.op 0 (.mov 28 (.tmp 0)),
 .op 1 (.mov 29 (.tmp 0)),
 .op 2 (.nilchk 30 (.tmp 29)),
 .op 3 (.faddr 31 2 (.tmp 30)),
 .op 4 (.load 32 false 1 (.tmp 31)),
 .op 5 (.nilchk 33 (.tmp 28)),
 .op 6 (.faddr 34 1 (.tmp 33)),
 .op 7 (.store false 1 (.tmp 34) (.tmp 32))] [])
 (.region [.op 0 (.mov 21 (.tmp 0)),
 .op 1 (.nilchk 22 (.tmp 21)),
 .op 2 (.faddr 23 1 (.tmp 22)),
 .op 3 (.store false 1 (.tmp 23) (.const (.int .i64 0)))] []))))))))
 (.seq (.region [.op 0 (.mov 35 (.tmp 0)),
 .op 1 (.nilchk 36 (.tmp 35)),
 .op 2 (.faddr 37 2 (.tmp 36)),
 .op 3 (.store false 1 (.tmp 37) (.const (.int .i64 0)))] [])
 (.region [.op 0 (.mov 38 (.tmp 0)),
 .op 1 (.mov 39 (.tmp 0)),
 .op 2 (.nilchk 40 (.tmp 39)),
 .op 3 (.faddr 41 0 (.tmp 40)),
 .op 4 (.load 42 false 1 (.tmp 41)),
 .op 5 (.conv 43 (.toInt .u64) (.tmp 42)),
 .op 6 (.mov 44 (.tmp 4)),
 .op 7 (.bin 45 .mul .plain (.tmp 44) (.const (.int .u64 60))),
 .op 8 (.bin 46 .add .plain (.tmp 43) (.tmp 45)),
 .op 9 (.conv 47 (.toInt .i64) (.tmp 46)),
 .op 10 (.nilchk 48 (.tmp 38)),
 .op 11 (.faddr 49 0 (.tmp 48)),
 .op 12 (.store false 1 (.tmp 49) (.tmp 47))] []))))),
 []⟩
theorem ok190 : funcOk Tryz.prog (drawOk Tryz.prog) Tryz.f190 A190 = true := by kernel_rfl
noncomputable def F190 (call : TCall) (args : List AVal) (h : TH) : KR := ans (U2 (fun a0 a1 =>
 V (kNil a0) fun v1 =>
 V (kFaddr 0 v1) fun v2 =>
 V (kLd1 h v2) fun v3 =>
 V (kLss a1 v3) fun v4 =>
 C v4
 (.out 0 [.tuple []] h)
 (V (kToInt .u64 a1) fun v5 =>
 V (kNil a0) fun v6 =>
 V (kFaddr 0 v6) fun v7 =>
 V (kLd1 h v7) fun v8 =>
 V (kToInt .u64 v8) fun v9 =>
 V (kSub v5 v9) fun v10 =>
 V (kSlow .quo v10 (.int .u64 60)) fun v11 =>
 V (kEql v11 (.int .u64 0)) fun v12 =>
 C v12
 (.out 0 [.tuple []] h)
 (V (kEql v11 (.int .u64 1)) fun v13 =>
 Jn (C v13
 (V (kNil a0) fun v14 =>
 V (kFaddr 2 v14) fun v15 =>
 V (kLd1 h v15) fun v16 =>
 V (kNil a0) fun v17 =>
 V (kFaddr 1 v17) fun v18 =>
 V (kSt h 1 v18 v16) fun h19 =>
 .out 0 [a0, v11] h19)
 (V (kNil a0) fun v20 =>
 V (kFaddr 1 v20) fun v21 =>
 V (kSt h 1 v21 (.int .i64 0)) fun h22 =>
 .out 0 [a0, v11] h22)) fun i25 x24 h23 =>
 ifB (Nat.beq i25 0) (U2 (fun g26 g27 =>
 V (kNil g26) fun v28 =>
 V (kFaddr 2 v28) fun v29 =>
 V (kSt h23 1 v29 (.int .i64 0)) fun h30 =>
 V (kNil g26) fun v31 =>
 V (kFaddr 0 v31) fun v32 =>
 V (kLd1 h30 v32) fun v33 =>
 V (kToInt .u64 v33) fun v34 =>
 V (kMul g27 (.int .u64 60)) fun v35 =>
 V (kAdd v34 v35) fun v36 =>
 V (kToInt .i64 v36) fun v37 =>
 V (kNil g26) fun v38 =>
 V (kFaddr 0 v38) fun v39 =>
 V (kSt h30 1 v39 v37) fun h40 =>
 .out 0 [.tuple []] h40) x24) (
 .no)))) args)
theorem st190 (call : TCall) (args : List AVal) (h : TH) : kFunc call A190 args h = F190 call args h := by kernel_rfl
noncomputable def A194 : AFunc := ⟨2, (.seq (.region [.op 0 (.mov 4 (.const (.nilSlice)))] [])
 (.seq (.region [.op 0 (.mov 8 (.tmp 0)),
 .op 1 (.nilchk 9 (.tmp 8)),
 .op 2 (.faddr 10 0 (.tmp 9)),
 .op 3 (.load 11 false 1 (.tmp 10)),
 .op 4 (.mov 12 (.tmp 1)),
 .op 5 (.call 13 105 [.tmp 11, .tmp 12]),
 .op 6 (.mov 5 (.tmp 13))] [])
 (.seq (.seq (.region [.op 0 (.mov 14 (.tmp 5)),
 .op 1 (.bin 15 .lss .plain (.tmp 14) (.const (.int .i64 0)))] [])
 (.cond (.tmp 15)
 (.seq (.region [.op 0 (.mov 4 (.const (.nilSlice)))] [])
 .ret)
 .skip))
 (.seq (.region [.op 0 (.mov 16 (.tmp 0)),
 .op 1 (.nilchk 17 (.tmp 16)),
 .op 2 (.faddr 18 1 (.tmp 17)),
 .op 3 (.load 19 false 1 (.tmp 18)),
 .op 4 (.mov 20 (.tmp 5)),
 .op 5 (.iaddr 21 none 1 (.tmp 19) (.tmp 20)),
 .op 6 (.load 22 false 1 (.tmp 21)),
 .op 7 (.len 23 false (.tmp 22)),
 .op 8 (.minmax 24 false [.tmp 23, .const (.int .i64 4)]),
 .op 9 (.mov 6 (.tmp 24))] [])
 (.seq (.region [.op 0 (.mov 25 (.tmp 0)),
 .op 1 (.nilchk 26 (.tmp 25)),
 .op 2 (.faddr 27 1 (.tmp 26)),
 .op 3 (.load 28 false 1 (.tmp 27)),
 .op 4 (.mov 29 (.tmp 5)),
 .op 5 (.iaddr 30 none 1 (.tmp 28) (.tmp 29)),
 .op 6 (.load 31 false 1 (.tmp 30)),
 .op 7 (.mov 32 (.tmp 6)),
 .op 8 (.slice 33 (.sl 9) (.tmp 31) none (some (.tmp 32)) none),
 .op 9 (.call 34 161 [.tmp 33]),
 .op 10 (.mov 7 (.tmp 34))] [])
 (.seq (.region [.op 0 (.mov 35 (.tmp 0)),
 .op 1 (.nilchk 36 (.tmp 35)),
 .op 2 (.faddr 37 1 (.tmp 36)),
 .op 3 (.load 38 false 1 (.tmp 37)),
 .op 4 (.mov 39 (.tmp 5)),
 .op 5 (.mov 40 (.tmp 0)),
 .op 6 (.nilchk 41 (.tmp 40)),
 .op 7 (.faddr 42 1 (.tmp 41)),
 .op 8 (.load 43 false 1 (.tmp 42)),
 .op 9 (.mov 44 (.tmp 5)),
 .op 10 (.iaddr 45 none 1 (.tmp 43) (.tmp 44)),
 .op 11 (.load 46 false 1 (.tmp 45)),
 .op 12 (.mov 47 (.tmp 6)),
 .op 13 (.call 48 122 [.tmp 46, .const (.int .i64 0), .tmp 47]),
 .op 14 (.iaddr 49 none 1 (.tmp 38) (.tmp 39)),
 .op 15 (.store false 1 (.tmp 49) (.tmp 48))] [(3, 13)])
 (.seq (.region [.op 0 (.mov 50 (.tmp 7)),
 .op 1 (.mov 4 (.tmp 50))] [])
 .ret))))))),
 [.tmp 4]⟩
theorem ok194 : funcOk Tryz.prog (drawOk Tryz.prog) Tryz.f194 A194 = true := by kernel_rfl
noncomputable def F194 (call : TCall) (args : List AVal) (h : TH) : KR := ans (U2 (fun a0 a1 =>
 V (kNil a0) fun v1 =>
 V (kFaddr 0 v1) fun v2 =>
 V (kLd1 h v2) fun v3 =>
 R (call 105 [v3, a1] h) fun v4 h5 =>
 V (kLss v4 (.int .i64 0)) fun v6 =>
 C v6
 (.out 0 [(.nilSlice)] h5)
 (V (kNil a0) fun v7 =>
 V (kFaddr 1 v7) fun v8 =>
 V (kLd1 h5 v8) fun v9 =>
 V (kIaddr 1 v9 v4) fun v10 =>
 V (kLd1 h5 v10) fun v11 =>
 V (kLen false v11) fun v12 =>
 V (aMinMaxL false [v12, (.int .i64 4)]) fun v13 =>
 V (kNil a0) fun v14 =>
 V (kFaddr 1 v14) fun v15 =>
 V (kLd1 h5 v15) fun v16 =>
 V (kIaddr 1 v16 v4) fun v17 =>
 V (kLd1 h5 v17) fun v18 =>
 V (kSlSl 9 v18 none (some v13) none) fun v19 =>
 R (call 161 [v19] h5) fun v20 h21 =>
 V (kNil a0) fun v22 =>
 V (kFaddr 1 v22) fun v23 =>
 V (kLd1 h21 v23) fun v24 =>
 V (kNil a0) fun v25 =>
 V (kFaddr 1 v25) fun v26 =>
 V (kLd1 h21 v26) fun v27 =>
 V (kIaddr 1 v27 v4) fun v28 =>
 V (kLd1 h21 v28) fun v29 =>
 R (call 122 [v29, (.int .i64 0), v13] h21) fun v30 h31 =>
 V (kIaddr 1 v24 v4) fun v32 =>
 V (kSt h31 1 v32 v30) fun h33 =>
 ifB (kCheck [(13, some (.ef [] h21 [] h31)), (3, kLogRd v23 1)] [(3, 13)]) (.out 0 [v20] h33) .no)) args)
theorem st194 (call : TCall) (args : List AVal) (h : TH) : kFunc call A194 args h = F194 call args h := by kernel_rfl
noncomputable def A196 : AFunc := ⟨1, (.seq (.region [.op 0 (.alloc 2 true [.int .i64 0, .int .i64 0, .int .i64 0, .int .i64 0, .int .i64 0, .int .i64 0, .int .i64 0, .str [], .str [], .bool false, .int .u32 0, .nilSlice, .nilSlice])] [])
 (.seq (.region [.op 0 (.mov 4 (.tmp 0)),
 .op 1 (.nilchk 5 (.tmp 4)),
 .op 2 (.faddr 6 6 (.tmp 5)),
 .op 3 (.load 7 false 1 (.tmp 6)),
 .op 4 (.iaddr 8 none 3 (.tmp 7) (.const (.int .i64 0))),
 .op 5 (.load 9 true 3 (.tmp 8)),
 .op 6 (.alloc 3 true [.int .i64 0, .int .i64 0, .int .i64 0]),
 .op 7 (.store true 3 (.tmp 3) (.tmp 9))] [])
 (.seq (.region [.op 0 (.mov 10 (.tmp 0)),
 .op 1 (.mov 11 (.tmp 0)),
 .op 2 (.nilchk 12 (.tmp 11)),
 .op 3 (.faddr 13 6 (.tmp 12)),
 .op 4 (.load 14 false 1 (.tmp 13)),
 .op 5 (.slice 15 (.sl 3) (.tmp 14) (some (.const (.int .i64 1))) none none),
 .op 6 (.nilchk 16 (.tmp 10)),
 .op 7 (.faddr 17 6 (.tmp 16)),
 .op 8 (.store false 1 (.tmp 17) (.tmp 15))] [])
 (.seq (.seq (.region [.op 0 (.faddr 18 0 (.tmp 3)),
 .op 1 (.load 19 false 1 (.tmp 18))] [])
 (.block 0 (.seq (.region [.op 0 (.bin 21 .eql .plain (.tmp 19) (.const (.int .i64 1))),
 .op 1 (.mov 20 (.tmp 21))] [])
 (.cond (.tmp 20)
 (.seq (.region [.op 0 (.mov 22 (.tmp 0)),
 .op 1 (.mov 23 (.tmp 0)),
 .op 2 (.load 24 true 3 (.tmp 3)),
 .op 3 (.nilchk 25 (.tmp 22)),
 .op 4 (.faddr 26 8 (.tmp 25)),
 .op 5 (.store true 3 (.tmp 26) (.tmp 24)),
 .op 6 (.nilchk 27 (.tmp 23)),
 .op 7 (.faddr 28 7 (.tmp 27)),
 .op 8 (.store false 1 (.tmp 28) (.const (.bool true)))] [])
 (.seq (.region [.op 0 (.mov 29 (.tmp 0)),
 .op 1 (.call 30 198 [.tmp 29]),
 .op 2 (.store true 13 (.tmp 2) (.tmp 30))] [])
 .ret))
 (.seq (.region [.op 0 (.bin 32 .eql .plain (.tmp 19) (.const (.int .i64 4))),
 .op 1 (.mov 31 (.tmp 32))] [])
 (.cond (.tmp 31)
 (.seq (.region [.op 0 (.faddr 33 2 (.tmp 3)),
 .op 1 (.load 34 false 1 (.tmp 33)),
 .op 2 (.build 35 [.int .i64 0, .int .i64 0, .int .i64 0, .int .i64 0, .int .i64 0, .int .i64 0, .int .i64 0, .str [], .str [], .bool false, .int .u32 0, .nilSlice, .nilSlice] [(1, 1, .const (.int .i64 4)), (2, 1, .tmp 34)]),
 .op 3 (.store true 13 (.tmp 2) (.tmp 35))] [])
 .ret)
 .skip))))))
 (.seq (.region [.op 0 (.mov 36 (.tmp 0)),
 .op 1 (.nilchk 37 (.tmp 36)),
 .op 2 (.faddr 38 7 (.tmp 37)),
 .op 3 (.store false 1 (.tmp 38) (.const (.bool false)))] [])
 (.seq (.region [.op 0 (.build 39 [.int .i64 0, .int .i64 0, .int .i64 0, .int .i64 0, .int .i64 0, .int .i64 0, .int .i64 0, .str [], .str [], .bool false, .int .u32 0, .nilSlice, .nilSlice] [(1, 1, .const (.int .i64 3))]),
 .op 1 (.store true 13 (.tmp 2) (.tmp 39))] [])
 .ret)))))),
 [.cell 2 true 13]⟩
theorem ok196 : funcOk Tryz.prog (drawOk Tryz.prog) Tryz.f196 A196 = true := by kernel_rfl
noncomputable def F196 (call : TCall) (args : List AVal) (h : TH) : KR := ans (U1 (fun a0 =>
 V (kNil a0) fun v1 =>
 V (kFaddr 6 v1) fun v2 =>
 V (kLd1 h v2) fun v3 =>
 V (kIaddr 3 v3 (.int .i64 0)) fun v4 =>
 V (kLdA h 3 v4) fun v5 =>
 V (kStL [.int .i64 0, .int .i64 0, .int .i64 0] 0 3 v5) fun c6 =>
 V (kNil a0) fun v7 =>
 V (kFaddr 6 v7) fun v8 =>
 V (kLd1 h v8) fun v9 =>
 V (kSlSl 3 v9 (some (.int .i64 1)) none none) fun v10 =>
 V (kNil a0) fun v11 =>
 V (kFaddr 6 v11) fun v12 =>
 V (kSt h 1 v12 v10) fun h13 =>
 V (kLdL c6 false 0 1) fun v14 =>
 V (kEql v14 (.int .i64 1)) fun v15 =>
 C v15
 (V (kLdL c6 true 0 3) fun v16 =>
 V (kNil a0) fun v17 =>
 V (kFaddr 8 v17) fun v18 =>
 V (kSt h13 3 v18 v16) fun h19 =>
 V (kNil a0) fun v20 =>
 V (kFaddr 7 v20) fun v21 =>
 V (kSt h19 1 v21 (.bool true)) fun h22 =>
 R (call 198 [a0] h22) fun v23 h24 =>
 V (kStL [.int .i64 0, .int .i64 0, .int .i64 0, .int .i64 0, .int .i64 0, .int .i64 0, .int .i64 0, .str [], .str [], .bool false, .int .u32 0, .nilSlice, .nilSlice] 0 13 v23) fun c25 =>
 V (kLdL c25 true 0 13) fun v26 =>
 .out 0 [v26] h24)
 (V (kEql v14 (.int .i64 4)) fun v27 =>
 C v27
 (V (kLdL c6 false 2 1) fun v28 =>
 V (aFill [.int .i64 0, .int .i64 0, .int .i64 0, .int .i64 0, .int .i64 0, .int .i64 0, .int .i64 0, .str [], .str [], .bool false, .int .u32 0, .nilSlice, .nilSlice] [(1, 1, (.int .i64 4)), (2, 1, v28)]) fun c29 =>
 V (kStL [.int .i64 0, .int .i64 0, .int .i64 0, .int .i64 0, .int .i64 0, .int .i64 0, .int .i64 0, .str [], .str [], .bool false, .int .u32 0, .nilSlice, .nilSlice] 0 13 (.agg c29)) fun c30 =>
 V (kLdL c30 true 0 13) fun v31 =>
 .out 0 [v31] h13)
 (V (kNil a0) fun v32 =>
 V (kFaddr 7 v32) fun v33 =>
 V (kSt h13 1 v33 (.bool false)) fun h34 =>
 V (aFill [.int .i64 0, .int .i64 0, .int .i64 0, .int .i64 0, .int .i64 0, .int .i64 0, .int .i64 0, .str [], .str [], .bool false, .int .u32 0, .nilSlice, .nilSlice] [(1, 1, (.int .i64 3))]) fun c35 =>
 V (kStL [.int .i64 0, .int .i64 0, .int .i64 0, .int .i64 0, .int .i64 0, .int .i64 0, .int .i64 0, .str [], .str [], .bool false, .int .u32 0, .nilSlice, .nilSlice] 0 13 (.agg c35)) fun c36 =>
 V (kLdL c36 true 0 13) fun v37 =>
 .out 0 [v37] h34))) args)
theorem st196 (call : TCall) (args : List AVal) (h : TH) : kFunc call A196 args h = F196 call args h := by kernel_rfl
noncomputable def A197 : AFunc := ⟨3, (.seq (.region [.op 0 (.box 3 true (.tmp 0)),
 .op 1 (.mov 6 (.const (.bool false)))] [])
 (.seq (.region [.op 0 (.faddr 7 0 (.tmp 3)),
 .op 1 (.load 8 false 1 (.tmp 7)),
 .op 2 (.un 9 .not (.tmp 8)),
 .op 3 (.mov 10 (.tmp 9)),
 .guard 10 false [.op 4 (.mov 11 (.tmp 1)),
 .op 5 (.faddr 12 1 (.tmp 3)),
 .op 6 (.load 13 false 1 (.tmp 12)),
 .op 7 (.bin 14 .sub .plain (.tmp 11) (.tmp 13)),
 .op 8 (.mov 15 (.tmp 2)),
 .op 9 (.bin 16 .geq .plain (.tmp 14) (.tmp 15))] [] [16],
 .op 10 (.pick 17 (.tmp 10) (.const (.bool true)) (.tmp 16)),
 .op 11 (.mov 6 (.tmp 17))] [])
 .ret)),
 [.tmp 6]⟩
theorem ok197 : funcOk Tryz.prog (drawOk Tryz.prog) Tryz.f197 A197 = true := by kernel_rfl
noncomputable def F197 (call : TCall) (args : List AVal) (h : TH) : KR := ans (U3 (fun a0 a1 a2 =>
 V (kCellsQ a0) fun c1 =>
 V (kLdL c1 false 0 1) fun v2 =>
 V (kNot v2) fun v3 =>
 Jn (G v3 false
 (V (kLdL c1 false 1 1) fun v4 =>
 V (kSub a1 v4) fun v5 =>
 V (kGeq v5 a2) fun v6 =>
 .out 0 [v6] h)
 (.out 0 [skipV] h)) fun _ x8 h7 =>
 U1 (fun g9 =>
 V (kPick v3 (.bool true) g9) fun v10 =>
 .out 0 [v10] h7) x8) args)
theorem st197 (call : TCall) (args : List AVal) (h : TH) : kFunc call A197 args h = F197 call args h := by kernel_rfl
noncomputable def A198 : AFunc := ⟨1, (.seq (.region [.op 0 (.alloc 2 true [.int .i64 0, .int .i64 0, .int .i64 0, .int .i64 0, .int .i64 0, .int .i64 0, .int .i64 0, .str [], .str [], .bool false, .int .u32 0, .nilSlice, .nilSlice])] [])
 (.seq (.region [.op 0 (.mov 3 (.tmp 0)),
 .op 1 (.nilchk 4 (.tmp 3)),
 .op 2 (.faddr 5 8 (.tmp 4)),
 .op 3 (.faddr 6 1 (.tmp 5)),
 .op 4 (.load 7 false 1 (.tmp 6)),
 .op 5 (.mov 8 (.tmp 0)),
 .op 6 (.nilchk 9 (.tmp 8)),
 .op 7 (.faddr 10 8 (.tmp 9)),
 .op 8 (.faddr 11 2 (.tmp 10)),
 .op 9 (.load 12 false 1 (.tmp 11)),
 .op 10 (.build 13 [.int .i64 0, .int .i64 0, .int .i64 0, .int .i64 0, .int .i64 0, .int .i64 0, .int .i64 0, .str [], .str [], .bool false, .int .u32 0, .nilSlice, .nilSlice] [(1, 1, .const (.int .i64 1)), (5, 1, .tmp 7), (2, 1, .tmp 12)]),
 .op 11 (.store true 13 (.tmp 2) (.tmp 13))] [])
 .ret)),
 [.cell 2 true 13]⟩
theorem ok198 : funcOk Tryz.prog (drawOk Tryz.prog) Tryz.f198 A198 = true := by kernel_rfl
noncomputable def F198 (call : TCall) (args : List AVal) (h : TH) : KR := ans (U1 (fun a0 =>
 V (kNil a0) fun v1 =>
 V (kFaddr 8 v1) fun v2 =>
 V (kFaddr 1 v2) fun v3 =>
 V (kLd1 h v3) fun v4 =>
 V (kNil a0) fun v5 =>
 V (kFaddr 8 v5) fun v6 =>
 V (kFaddr 2 v6) fun v7 =>
 V (kLd1 h v7) fun v8 =>
 V (aFill [.int .i64 0, .int .i64 0, .int .i64 0, .int .i64 0, .int .i64 0, .int .i64 0, .int .i64 0, .str [], .str [], .bool false, .int .u32 0, .nilSlice, .nilSlice] [(1, 1, (.int .i64 1)), (5, 1, v4), (2, 1, v8)]) fun c9 =>
 V (kStL [.int .i64 0, .int .i64 0, .int .i64 0, .int .i64 0, .int .i64 0, .int .i64 0, .int .i64 0, .str [], .str [], .bool false, .int .u32 0, .nilSlice, .nilSlice] 0 13 (.agg c9)) fun c10 =>
 V (kLdL c10 true 0 13) fun v11 =>
 .out 0 [v11] h) args)
theorem st198 (call : TCall) (args : List AVal) (h : TH) : kFunc call A198 args h = F198 call args h := by kernel_rfl
noncomputable def A199 : AFunc := ⟨1, (.seq (.region [.op 0 (.mov 2 (.const (.int .i64 0)))] [])
 (.seq (.region [.op 0 (.mov 3 (.tmp 0)),
 .op 1 (.nilchk 4 (.tmp 3)),
 .op 2 (.faddr 5 1 (.tmp 4)),
 .op 3 (.load 6 false 1 (.tmp 5)),
 .op 4 (.mov 2 (.tmp 6))] [])
 .ret)),
 [.tmp 2]⟩
theorem ok199 : funcOk Tryz.prog (drawOk Tryz.prog) Tryz.f199 A199 = true := by kernel_rfl
noncomputable def F199 (call : TCall) (args : List AVal) (h : TH) : KR := ans (U1 (fun a0 =>
 V (kNil a0) fun v1 =>
 V (kFaddr 1 v1) fun v2 =>
 V (kLd1 h v2) fun v3 =>
 .out 0 [v3] h) args)
theorem st199 (call : TCall) (args : List AVal) (h : TH) : kFunc call A199 args h = F199 call args h := by kernel_rfl
noncomputable def A200 : AFunc := ⟨2, (.seq (.region [.op 0 (.box 3 true (.tmp 1)),
 .op 1 (.mov 4 (.const (.nilSlice)))] [])
 (.seq (.region [.op 0 (.mov 5 (.const (.nilSlice)))] [])
 (.seq (.seq (.region [.op 0 (.mov 8 (.tmp 0)),
 .op 1 (.len 9 false (.tmp 8)),
 .op 2 (.mov 10 (.const (.int .i64 0)))] [])
 (.block 0 (.loop ⟨[5, 8, 9, 10], [3]⟩ [((.exit 0), ⟨[5], [3]⟩)]
 (.seq (.region [.op 0 (.bin 11 .lss .plain (.tmp 10) (.tmp 9))] [])
 (.seq (.cond (.tmp 11)
 .skip
 (.exit 0))
 (.seq (.block 1 (.seq (.region [.op 0 (.iaddr 12 none 9 (.tmp 8) (.tmp 10)),
 .op 1 (.load 13 true 9 (.tmp 12)),
 .op 2 (.alloc 7 true [.str [], .str [], .int .i64 0, .int .i64 0, .int .i64 0, .int .i64 0, .int .i64 0, .int .i64 0, .bool false]),
 .op 3 (.store true 9 (.tmp 7) (.tmp 13))] [])
 (.seq (.region [.op 0 (.faddr 14 0 (.tmp 7)),
 .op 1 (.load 15 true 2 (.tmp 14)),
 .op 2 (.faddr 16 0 (.tmp 3)),
 .op 3 (.load 17 true 2 (.tmp 16)),
 .op 4 (.bin 18 .neq (.cells [2, 2]) (.tmp 15) (.tmp 17))] [])
 (.join [(.normal, ⟨[5, 8, 9, 10], [3]⟩)] (.cond (.tmp 18)
 (.region [.op 0 (.mov 19 (.tmp 5)),
 .op 1 (.load 20 true 9 (.tmp 7)),
 .op 2 (.buildSl 21 [.str [], .str [], .int .i64 0, .int .i64 0, .int .i64 0, .int .i64 0, .int .i64 0, .int .i64 0, .bool false] 9 1 [(0, .tmp 20)]),
 .op 3 (.append 22 9 88 [.str [], .str [], .int .i64 0, .int .i64 0, .int .i64 0, .int .i64 0, .int .i64 0, .int .i64 0, .bool false] false (.tmp 19) (.tmp 21)),
 .op 4 (.mov 5 (.tmp 22))] [])
 .skip)))))
 (.region [.op 0 (.bin 23 .add .plain (.tmp 10) (.const (.int .i64 1))),
 .op 1 (.mov 10 (.tmp 23))] [])))))))
 (.seq (.seq (.region [.op 0 (.faddr 24 8 (.tmp 3)),
 .op 1 (.load 25 false 1 (.tmp 24)),
 .op 2 (.un 26 .not (.tmp 25))] [])
 (.join [(.normal, ⟨[5], []⟩)] (.cond (.tmp 26)
 (.region [.op 0 (.mov 27 (.tmp 5)),
 .op 1 (.load 28 true 9 (.tmp 3)),
 .op 2 (.buildSl 29 [.str [], .str [], .int .i64 0, .int .i64 0, .int .i64 0, .int .i64 0, .int .i64 0, .int .i64 0, .bool false] 9 1 [(0, .tmp 28)]),
 .op 3 (.append 30 9 88 [.str [], .str [], .int .i64 0, .int .i64 0, .int .i64 0, .int .i64 0, .int .i64 0, .int .i64 0, .bool false] false (.tmp 27) (.tmp 29)),
 .op 4 (.mov 5 (.tmp 30))] [])
 .skip)))
 (.seq (.region [.op 0 (.mov 31 (.tmp 5)),
 .op 1 (.mov 4 (.tmp 31))] [])
 .ret))))),
 [.tmp 4]⟩
theorem ok200 : funcOk Tryz.prog (drawOk Tryz.prog) Tryz.f200 A200 = true := by kernel_rfl
noncomputable def L200_0 (call : TCall) (xs : List AVal) (h : TH) : KJ :=
 U5 (fun g3 g4 g5 g6 g7 =>
 V (kLss g6 g5) fun v8 =>
 C v8
 (V (kIaddr 9 g4 g6) fun v9 =>
 V (kLdA h 9 v9) fun v10 =>
 V (kStL [.str [], .str [], .int .i64 0, .int .i64 0, .int .i64 0, .int .i64 0, .int .i64 0, .int .i64 0, .bool false] 0 9 v10) fun c11 =>
 V (kLdL c11 true 0 2) fun v12 =>
 V (kLdL (kAggCells g7) true 0 2) fun v13 =>
 V (kNe (.cells [2, 2]) v12 v13) fun v14 =>
 Jn (C v14
 (V (kLdL c11 true 0 9) fun v15 =>
 V (aFill (reps [.str [], .str [], .int .i64 0, .int .i64 0, .int .i64 0, .int .i64 0, .int .i64 0, .int .i64 0, .bool false] 1) [(0, 9, v15)]) fun c16 =>
 R (kAppend 9 88 [.str [], .str [], .int .i64 0, .int .i64 0, .int .i64 0, .int .i64 0, .int .i64 0, .int .i64 0, .bool false] false g3 (.slice h.next 0 1 1 9 true) (h.alloc c16)) fun v17 h18 =>
 .out 0 [v17, g4, g5, g6, (.agg (kAggCells g7))] h18)
 (.out 0 [g3, g4, g5, g6, (.agg (kAggCells g7))] h)) fun i21 x20 h19 =>
 ifB (Nat.beq i21 0) (U5 (fun g22 g23 g24 g25 g26 =>
 V (kAdd g25 (.int .i64 1)) fun v27 =>
 .out 0 [g22, g23, g24, v27, (.agg (kAggCells g26))] h19) x20) (
 .no))
 (.out 1 [g3, (.agg (kAggCells g7))] h)) xs
noncomputable def F200 (call : TCall) (args : List AVal) (h : TH) : KR := ans (U2 (fun a0 a1 =>
 V (kCellsQ a1) fun c1 =>
 V (kLen false a0) fun v2 =>
 Jn (Lp (L200_0 call) [(.nilSlice), a0, v2, (.int .i64 0), (.agg c1)] h) fun i30 x29 h28 =>
 ifB (Nat.beq i30 1) (U2 (fun g31 g32 =>
 V (kLdL (kAggCells g32) false 8 1) fun v33 =>
 V (kNot v33) fun v34 =>
 Jn (C v34
 (V (kLdL (kAggCells g32) true 0 9) fun v35 =>
 V (aFill (reps [.str [], .str [], .int .i64 0, .int .i64 0, .int .i64 0, .int .i64 0, .int .i64 0, .int .i64 0, .bool false] 1) [(0, 9, v35)]) fun c36 =>
 R (kAppend 9 88 [.str [], .str [], .int .i64 0, .int .i64 0, .int .i64 0, .int .i64 0, .int .i64 0, .int .i64 0, .bool false] false g31 (.slice h28.next 0 1 1 9 true) (h28.alloc c36)) fun v37 h38 =>
 .out 0 [v37] h38)
 (.out 0 [g31] h28)) fun i41 x40 h39 =>
 ifB (Nat.beq i41 0) (U1 (fun g42 =>
 .out 0 [g42] h39) x40) (
 .no)) x29) (
 .no)) args)
theorem st200 (call : TCall) (args : List AVal) (h : TH) : kFunc call A200 args h = F200 call args h := by kernel_rfl
noncomputable def A201 : AFunc := ⟨1, (.seq (.region [.op 0 (.mov 2 (.const (.int .u32 0)))] [])
 (.seq (.region [.op 0 (.mov 3 (.const (.int .u32 17)))] [])
 (.seq (.seq (.region [.op 0 (.mov 6 (.tmp 0)),
 .op 1 (.len 7 false (.tmp 6)),
 .op 2 (.mov 8 (.const (.int .i64 0)))] [])
 (.block 0 (.loop ⟨[3, 6, 7, 8], []⟩ [((.exit 0), ⟨[3], []⟩)]
 (.seq (.region [.op 0 (.bin 9 .lss .plain (.tmp 8) (.tmp 7))] [])
 (.seq (.cond (.tmp 9)
 .skip
 (.exit 0))
 (.seq (.block 1 (.seq (.region [.op 0 (.iaddr 10 none 1 (.tmp 6) (.tmp 8)),
 .op 1 (.load 11 false 1 (.tmp 10)),
 .op 2 (.mov 5 (.tmp 11))] [])
 (.region [.op 0 (.mov 12 (.tmp 3)),
 .op 1 (.bin 13 .mul .plain (.tmp 12) (.const (.int .u32 31))),
 .op 2 (.mov 14 (.tmp 5)),
 .op 3 (.conv 15 (.toInt .u32) (.tmp 14)),
 .op 4 (.bin 16 .add .plain (.tmp 13) (.tmp 15)),
 .op 5 (.bin 17 .add .plain (.tmp 16) (.const (.int .u32 7))),
 .op 6 (.mov 3 (.tmp 17))] [])))
 (.region [.op 0 (.bin 18 .add .plain (.tmp 8) (.const (.int .i64 1))),
 .op 1 (.mov 8 (.tmp 18))] [])))))))
 (.seq (.region [.op 0 (.mov 19 (.tmp 3)),
 .op 1 (.mov 2 (.tmp 19))] [])
 .ret)))),
 [.tmp 2]⟩
theorem ok201 : funcOk Tryz.prog (drawOk Tryz.prog) Tryz.f201 A201 = true := by kernel_rfl
noncomputable def L201_0 (call : TCall) (xs : List AVal) (h : TH) : KJ :=
 U4 (fun g2 g3 g4 g5 =>
 V (kLss g5 g4) fun v6 =>
 C v6
 (V (kIaddr 1 g3 g5) fun v7 =>
 V (kLd1 h v7) fun v8 =>
 V (kMul g2 (.int .u32 31)) fun v9 =>
 V (kToInt .u32 v8) fun v10 =>
 V (kAdd v9 v10) fun v11 =>
 V (kAdd v11 (.int .u32 7)) fun v12 =>
 V (kAdd g5 (.int .i64 1)) fun v13 =>
 .out 0 [v12, g3, g4, v13] h)
 (.out 1 [g2] h)) xs
noncomputable def F201 (call : TCall) (args : List AVal) (h : TH) : KR := ans (U1 (fun a0 =>
 V (kLen false a0) fun v1 =>
 Jn (Lp (L201_0 call) [(.int .u32 17), a0, v1, (.int .i64 0)] h) fun i16 x15 h14 =>
 ifB (Nat.beq i16 1) (U1 (fun g17 =>
 .out 0 [g17] h14) x15) (
 .no)) args)
theorem st201 (call : TCall) (args : List AVal) (h : TH) : kFunc call A201 args h = F201 call args h := by kernel_rfl
noncomputable def A202 : AFunc := ⟨1, (.seq (.region [.op 0 (.mov 2 (.const (.nilSlice)))] [])
 (.seq (.region [.op 0 (.mov 3 (.const (.nilSlice)))] [])
 (.seq (.seq (.region [.op 0 (.mov 6 (.tmp 0)),
 .op 1 (.call 7 150 [.tmp 6]),
 .op 2 (.len 8 false (.tmp 7)),
 .op 3 (.mov 9 (.const (.int .i64 0)))] [])
 (.block 0 (.loop ⟨[3, 7, 8, 9], []⟩ [((.exit 0), ⟨[3], []⟩)]
 (.seq (.region [.op 0 (.bin 10 .lss .plain (.tmp 9) (.tmp 8))] [])
 (.seq (.cond (.tmp 10)
 .skip
 (.exit 0))
 (.seq (.block 1 (.seq (.region [.op 0 (.iaddr 11 none 9 (.tmp 7) (.tmp 9)),
 .op 1 (.load 12 true 9 (.tmp 11)),
 .op 2 (.alloc 5 true [.str [], .str [], .int .i64 0, .int .i64 0, .int .i64 0, .int .i64 0, .int .i64 0, .int .i64 0, .bool false]),
 .op 3 (.store true 9 (.tmp 5) (.tmp 12))] [])
 (.seq (.region [.op 0 (.mov 13 (.tmp 3)),
 .op 1 (.faddr 14 0 (.tmp 5)),
 .op 2 (.faddr 15 0 (.tmp 14)),
 .op 3 (.load 16 false 1 (.tmp 15)),
 .op 4 (.call 17 216 [.tmp 13, .tmp 16]),
 .op 5 (.faddr 18 0 (.tmp 5)),
 .op 6 (.faddr 19 1 (.tmp 18)),
 .op 7 (.load 20 false 1 (.tmp 19)),
 .op 8 (.call 21 216 [.tmp 17, .tmp 20]),
 .op 9 (.load 22 true 9 (.tmp 5)),
 .op 10 (.call 23 177 [.tmp 22]),
 .op 11 (.call 24 215 [.tmp 21, .tmp 23]),
 .op 12 (.mov 3 (.tmp 24))] [(7, 4), (9, 4), (9, 8)])
 (.region [.op 0 (.mov 25 (.tmp 3)),
 .op 1 (.faddr 26 4 (.tmp 5)),
 .op 2 (.load 27 false 1 (.tmp 26)),
 .op 3 (.call 28 217 [.tmp 25, .tmp 27]),
 .op 4 (.mov 3 (.tmp 28))] []))))
 (.region [.op 0 (.bin 29 .add .plain (.tmp 9) (.const (.int .i64 1))),
 .op 1 (.mov 9 (.tmp 29))] [])))))))
 (.seq (.region [.op 0 (.mov 30 (.tmp 3)),
 .op 1 (.mov 2 (.tmp 30))] [])
 .ret)))),
 [.tmp 2]⟩
theorem ok202 : funcOk Tryz.prog (drawOk Tryz.prog) Tryz.f202 A202 = true := by kernel_rfl
noncomputable def L202_0 (call : TCall) (xs : List AVal) (h : TH) : KJ :=
 U4 (fun g4 g5 g6 g7 =>
 V (kLss g7 g6) fun v8 =>
 C v8
 (V (kIaddr 9 g5 g7) fun v9 =>
 V (kLdA h 9 v9) fun v10 =>
 V (kStL [.str [], .str [], .int .i64 0, .int .i64 0, .int .i64 0, .int .i64 0, .int .i64 0, .int .i64 0, .bool false] 0 9 v10) fun c11 =>
 V (kLdL c11 false 0 1) fun v12 =>
 R (call 216 [g4, v12] h) fun v13 h14 =>
 V (kLdL c11 false 1 1) fun v15 =>
 R (call 216 [v13, v15] h14) fun v16 h17 =>
 V (kLdL c11 true 0 9) fun v18 =>
 R (call 177 [v18] h17) fun v19 h20 =>
 R (call 215 [v16, v19] h20) fun v21 h22 =>
 ifB (kCheck [(9, some (.lrd 5 0 9)), (8, some (.ef [(5, c11)] h14 [(5, c11)] h17)), (7, some (.lrd 5 1 1)), (4, some (.ef [(5, c11)] h [(5, c11)] h14))] [(7, 4), (9, 4), (9, 8)]) (V (kLdL c11 false 4 1) fun v23 =>
 R (call 217 [v21, v23] h22) fun v24 h25 =>
 V (kAdd g7 (.int .i64 1)) fun v26 =>
 .out 0 [v24, g5, g6, v26] h25) .no)
 (.out 1 [g4] h)) xs
noncomputable def F202 (call : TCall) (args : List AVal) (h : TH) : KR := ans (U1 (fun a0 =>
 R (call 150 [a0] h) fun v1 h2 =>
 V (kLen false v1) fun v3 =>
 Jn (Lp (L202_0 call) [(.nilSlice), v1, v3, (.int .i64 0)] h2) fun i29 x28 h27 =>
 ifB (Nat.beq i29 1) (U1 (fun g30 =>
 .out 0 [g30] h27) x28) (
 .no)) args)
theorem st202 (call : TCall) (args : List AVal) (h : TH) : kFunc call A202 args h = F202 call args h := by kernel_rfl
noncomputable def A204 : AFunc := ⟨4, (.seq (.region [.op 0 (.mov 10 (.tmp 1)),
 .op 1 (.bin 11 .add .plain (.tmp 10) (.const (.int .i64 1))),
 .op 2 (.mov 8 (.tmp 11))] [])
 (.block 0 (.loop ⟨[0, 1, 2, 3, 8], []⟩ [((.exit 0), ⟨[], []⟩)]
 (.seq (.seq (.region [.op 0 (.mov 12 (.tmp 8)),
 .op 1 (.mov 13 (.tmp 2)),
 .op 2 (.bin 14 .lss .plain (.tmp 12) (.tmp 13))] [])
 (.cond (.tmp 14)
 .skip
 (.exit 0)))
 (.seq (.block 1 (.seq (.region [.op 0 (.mov 17 (.tmp 8)),
 .op 1 (.mov 9 (.tmp 17))] [])
 (.block 2 (.loop ⟨[0, 1, 2, 3, 8, 9], []⟩ [((.exit 2), ⟨[0, 1, 2, 3, 8], []⟩)]
 (.seq (.seq (.region [.op 0 (.mov 18 (.tmp 9)),
 .op 1 (.mov 19 (.tmp 1)),
 .op 2 (.bin 20 .gtr .plain (.tmp 18) (.tmp 19)),
 .op 3 (.mov 21 (.tmp 20)),
 .guard 21 true [.op 4 (.mov 22 (.tmp 3)),
 .op 5 (.mov 23 (.tmp 0)),
 .op 6 (.mov 24 (.tmp 9)),
 .op 7 (.iaddr 25 none 9 (.tmp 23) (.tmp 24)),
 .op 8 (.load 26 true 9 (.tmp 25)),
 .op 9 (.mov 27 (.tmp 0)),
 .op 10 (.mov 28 (.tmp 9)),
 .op 11 (.bin 29 .sub .plain (.tmp 28) (.const (.int .i64 1))),
 .op 12 (.iaddr 30 none 9 (.tmp 27) (.tmp 29)),
 .op 13 (.load 31 true 9 (.tmp 30)),
 .op 14 (.callv 32 (.tmp 22) [.tmp 26, .tmp 31]),
 .op 15 (.bin 33 .lss .plain (.tmp 32) (.const (.int .i64 0)))] [] [33],
 .op 16 (.pick 34 (.tmp 21) (.tmp 33) (.const (.bool false)))] [])
 (.cond (.tmp 34)
 .skip
 (.exit 2)))
 (.seq (.block 3 (.region [.op 0 (.mov 37 (.tmp 0)),
 .op 1 (.mov 38 (.tmp 9)),
 .op 2 (.mov 39 (.tmp 0)),
 .op 3 (.mov 40 (.tmp 9)),
 .op 4 (.bin 41 .sub .plain (.tmp 40) (.const (.int .i64 1))),
 .op 5 (.mov 42 (.tmp 0)),
 .op 6 (.mov 43 (.tmp 9)),
 .op 7 (.bin 44 .sub .plain (.tmp 43) (.const (.int .i64 1))),
 .op 8 (.iaddr 45 none 9 (.tmp 42) (.tmp 44)),
 .op 9 (.load 46 true 9 (.tmp 45)),
 .op 10 (.mov 47 (.tmp 0)),
 .op 11 (.mov 48 (.tmp 9)),
 .op 12 (.iaddr 49 none 9 (.tmp 47) (.tmp 48)),
 .op 13 (.load 50 true 9 (.tmp 49)),
 .op 14 (.iaddr 51 none 9 (.tmp 37) (.tmp 38)),
 .op 15 (.store true 9 (.tmp 51) (.tmp 46)),
 .op 16 (.iaddr 52 none 9 (.tmp 39) (.tmp 41)),
 .op 17 (.store true 9 (.tmp 52) (.tmp 50))] []))
 (.region [.op 0 (.mov 35 (.tmp 9)),
 .op 1 (.bin 36 .sub .plain (.tmp 35) (.const (.int .i64 1))),
 .op 2 (.mov 9 (.tmp 36))] [])))))))
 (.region [.op 0 (.mov 15 (.tmp 8)),
 .op 1 (.bin 16 .add .plain (.tmp 15) (.const (.int .i64 1))),
 .op 2 (.mov 8 (.tmp 16))] [])))))),
 []⟩
theorem ok204 : funcOk Tryz.prog (drawOk Tryz.prog) Tryz.f204 A204 = true := by kernel_rfl
noncomputable def L204_1 (call : TCall) (xs : List AVal) (h : TH) : KJ :=
 U6 (fun g8 g9 g10 g11 g12 g13 =>
 V (kGtr g13 g9) fun v14 =>
 Jn (G v14 true
 (V (kIaddr 9 g8 g13) fun v15 =>
 V (kLdA h 9 v15) fun v16 =>
 V (kSub g13 (.int .i64 1)) fun v17 =>
 V (kIaddr 9 g8 v17) fun v18 =>
 V (kLdA h 9 v18) fun v19 =>
 V (kFn g11) fun q20 =>
 R (call q20.1 ([v16, v19] ++ q20.2) h) fun v21 h22 =>
 V (kLss v21 (.int .i64 0)) fun v23 =>
 .out 0 [v23] h22)
 (.out 0 [skipV] h)) fun _ x25 h24 =>
 U1 (fun g26 =>
 V (kPick v14 g26 (.bool false)) fun v27 =>
 C v27
 (V (kSub g13 (.int .i64 1)) fun v28 =>
 V (kSub g13 (.int .i64 1)) fun v29 =>
 V (kIaddr 9 g8 v29) fun v30 =>
 V (kLdA h24 9 v30) fun v31 =>
 V (kIaddr 9 g8 g13) fun v32 =>
 V (kLdA h24 9 v32) fun v33 =>
 V (kIaddr 9 g8 g13) fun v34 =>
 V (kSt h24 9 v34 v31) fun h35 =>
 V (kIaddr 9 g8 v28) fun v36 =>
 V (kSt h35 9 v36 v33) fun h37 =>
 V (kSub g13 (.int .i64 1)) fun v38 =>
 .out 0 [g8, g9, g10, g11, g12, v38] h37)
 (.out 1 [g8, g9, g10, g11, g12] h24)) x25) xs
noncomputable def L204_0 (call : TCall) (xs : List AVal) (h : TH) : KJ :=
 U5 (fun g2 g3 g4 g5 g6 =>
 V (kLss g6 g4) fun v7 =>
 C v7
 (Jn (Lp (L204_1 call) [g2, g3, g4, g5, g6, g6] h) fun i41 x40 h39 =>
 ifB (Nat.beq i41 1) (U5 (fun g42 g43 g44 g45 g46 =>
 V (kAdd g46 (.int .i64 1)) fun v47 =>
 .out 0 [g42, g43, g44, g45, v47] h39) x40) (
 .no))
 (.out 1 [] h)) xs
noncomputable def F204 (call : TCall) (args : List AVal) (h : TH) : KR := ans (U4 (fun a0 a1 a2 a3 =>
 V (kAdd a1 (.int .i64 1)) fun v1 =>
 Jn (Lp (L204_0 call) [a0, a1, a2, a3, v1] h) fun i50 x49 h48 =>
 ifB (Nat.beq i50 1) (U0 (.out 0 [.tuple []] h48) x49) (
 .no)) args)
theorem st204 (call : TCall) (args : List AVal) (h : TH) : kFunc call A204 args h = F204 call args h := by kernel_rfl
noncomputable def A206 : AFunc := ⟨1, (.seq (.region [.op 0 (.mov 2 (.const (.bool false)))] [])
 (.seq (.region [.op 0 (.mov 3 (.tmp 0)),
 .op 1 (.mov 4 (.tmp 0)),
 .op 2 (.bin 5 .neq .plain (.tmp 3) (.tmp 4)),
 .op 3 (.mov 2 (.tmp 5))] [])
 .ret)),
 [.tmp 2]⟩
theorem ok206 : funcOk Tryz.prog (drawOk Tryz.prog) Tryz.f206 A206 = true := by kernel_rfl
noncomputable def F206 (call : TCall) (args : List AVal) (h : TH) : KR := ans (U1 (fun a0 =>
 V (kNeq a0 a0) fun v1 =>
 .out 0 [v1] h) args)
theorem st206 (call : TCall) (args : List AVal) (h : TH) : kFunc call A206 args h = F206 call args h := by kernel_rfl
noncomputable def A215 : AFunc := ⟨2, (.seq (.region [.op 0 (.mov 4 (.const (.nilSlice)))] [])
 (.seq (.region [.op 0 (.mov 5 (.tmp 0)),
 .op 1 (.call 6 166 [.tmp 5]),
 .op 2 (.mov 7 (.tmp 1)),
 .op 3 (.conv 8 (.toInt .u8) (.tmp 7)),
 .op 4 (.buildSl 9 [.int .u8 0] 1 1 [(0, .tmp 8)]),
 .op 5 (.append 10 1 1 [.int .u8 0] false (.tmp 6) (.tmp 9)),
 .op 6 (.mov 4 (.tmp 10))] [])
 .ret)),
 [.tmp 4]⟩
theorem ok215 : funcOk Tryz.prog (drawOk Tryz.prog) Tryz.f215 A215 = true := by kernel_rfl
noncomputable def F215 (call : TCall) (args : List AVal) (h : TH) : KR := ans (U2 (fun a0 a1 =>
 R (call 166 [a0] h) fun v1 h2 =>
 V (kToInt .u8 a1) fun v3 =>
 V (aFill (reps [.int .u8 0] 1) [(0, 1, v3)]) fun c4 =>
 R (kAppend 1 1 [.int .u8 0] false v1 (.slice h2.next 0 1 1 1 true) (h2.alloc c4)) fun v5 h6 =>
 .out 0 [v5] h6) args)
theorem st215 (call : TCall) (args : List AVal) (h : TH) : kFunc call A215 args h = F215 call args h := by kernel_rfl
noncomputable def A216 : AFunc := ⟨2, (.seq (.region [.op 0 (.mov 4 (.const (.nilSlice)))] [])
 (.seq (.region [.op 0 (.mov 5 (.tmp 1)),
 .op 1 (.mov 6 (.tmp 1)),
 .op 2 (.len 7 true (.tmp 6)),
 .op 3 (.minmax 8 false [.tmp 7, .const (.int .i64 255)]),
 .op 4 (.slice 9 .str (.tmp 5) none (some (.tmp 8)) none),
 .op 5 (.mov 1 (.tmp 9))] [])
 (.seq (.region [.op 0 (.mov 10 (.tmp 0)),
 .op 1 (.mov 11 (.tmp 1)),
 .op 2 (.len 12 true (.tmp 11)),
 .op 3 (.call 13 215 [.tmp 10, .tmp 12]),
 .op 4 (.mov 14 (.tmp 1)),
 .op 5 (.append 15 1 1 [.int .u8 0] false (.tmp 13) (.tmp 14)),
 .op 6 (.mov 4 (.tmp 15))] [])
 .ret))),
 [.tmp 4]⟩
theorem ok216 : funcOk Tryz.prog (drawOk Tryz.prog) Tryz.f216 A216 = true := by kernel_rfl
noncomputable def F216 (call : TCall) (args : List AVal) (h : TH) : KR := ans (U2 (fun a0 a1 =>
 V (kLen true a1) fun v1 =>
 V (aMinMaxL false [v1, (.int .i64 255)]) fun v2 =>
 V (kSlStr a1 none (some v2)) fun v3 =>
 V (kLen true v3) fun v4 =>
 R (call 215 [a0, v4] h) fun v5 h6 =>
 R (kAppend 1 1 [.int .u8 0] false v5 v3 h6) fun v7 h8 =>
 .out 0 [v7] h8) args)
theorem st216 (call : TCall) (args : List AVal) (h : TH) : kFunc call A216 args h = F216 call args h := by kernel_rfl
noncomputable def A217 : AFunc := ⟨2, (.seq (.region [.op 0 (.mov 4 (.const (.nilSlice)))] [])
 (.seq (.region [.op 0 (.mov 7 (.tmp 0)),
 .op 1 (.call 8 166 [.tmp 7]),
 .op 2 (.mov 5 (.tmp 8))] [])
 (.seq (.seq (.region [.op 0 (.mov 6 (.const (.int .i64 7)))] [])
 (.block 0 (.loop ⟨[1, 5, 6], []⟩ [((.exit 0), ⟨[5], []⟩)]
 (.seq (.seq (.region [.op 0 (.mov 9 (.tmp 6)),
 .op 1 (.bin 10 .geq .plain (.tmp 9) (.const (.int .i64 0)))] [])
 (.cond (.tmp 10)
 .skip
 (.exit 0)))
 (.seq (.block 1 (.region [.op 0 (.mov 13 (.tmp 5)),
 .op 1 (.mov 14 (.tmp 1)),
 .op 2 (.mov 15 (.tmp 6)),
 .op 3 (.bin 16 .mul .plain (.const (.int .i64 8)) (.tmp 15)),
 .op 4 (.bin 17 .shr .plain (.tmp 14) (.tmp 16)),
 .op 5 (.conv 18 (.toInt .u8) (.tmp 17)),
 .op 6 (.buildSl 19 [.int .u8 0] 1 1 [(0, .tmp 18)]),
 .op 7 (.append 20 1 1 [.int .u8 0] false (.tmp 13) (.tmp 19)),
 .op 8 (.mov 5 (.tmp 20))] []))
 (.region [.op 0 (.mov 11 (.tmp 6)),
 .op 1 (.bin 12 .sub .plain (.tmp 11) (.const (.int .i64 1))),
 .op 2 (.mov 6 (.tmp 12))] []))))))
 (.seq (.region [.op 0 (.mov 21 (.tmp 5)),
 .op 1 (.call 22 229 [.tmp 21]),
 .op 2 (.mov 4 (.tmp 22))] [])
 .ret)))),
 [.tmp 4]⟩
theorem ok217 : funcOk Tryz.prog (drawOk Tryz.prog) Tryz.f217 A217 = true := by kernel_rfl
noncomputable def L217_0 (call : TCall) (xs : List AVal) (h : TH) : KJ :=
 U3 (fun g3 g4 g5 =>
 V (kGeq g5 (.int .i64 0)) fun v6 =>
 C v6
 (V (kMul (.int .i64 8) g5) fun v7 =>
 V (kShr g3 v7) fun v8 =>
 V (kToInt .u8 v8) fun v9 =>
 V (aFill (reps [.int .u8 0] 1) [(0, 1, v9)]) fun c10 =>
 R (kAppend 1 1 [.int .u8 0] false g4 (.slice h.next 0 1 1 1 true) (h.alloc c10)) fun v11 h12 =>
 V (kSub g5 (.int .i64 1)) fun v13 =>
 .out 0 [g3, v11, v13] h12)
 (.out 1 [g4] h)) xs
noncomputable def F217 (call : TCall) (args : List AVal) (h : TH) : KR := ans (U2 (fun a0 a1 =>
 R (call 166 [a0] h) fun v1 h2 =>
 Jn (Lp (L217_0 call) [a1, v1, (.int .i64 7)] h2) fun i16 x15 h14 =>
 ifB (Nat.beq i16 1) (U1 (fun g17 =>
 R (call 229 [g17] h14) fun v18 h19 =>
 .out 0 [v18] h19) x15) (
 .no)) args)
theorem st217 (call : TCall) (args : List AVal) (h : TH) : kFunc call A217 args h = F217 call args h := by kernel_rfl
noncomputable def A229 : AFunc := ⟨1, (.seq (.region [.op 0 (.mov 2 (.const (.nilSlice)))] [])
 (.seq (.region [.op 0 (.mov 3 (.tmp 0)),
 .op 1 (.mov 4 (.tmp 0)),
 .op 2 (.len 5 false (.tmp 4)),
 .op 3 (.mov 6 (.tmp 0)),
 .op 4 (.len 7 false (.tmp 6)),
 .op 5 (.slice 8 (.sl 1) (.tmp 3) none (some (.tmp 5)) (some (.tmp 7))),
 .op 6 (.mov 2 (.tmp 8))] [])
 .ret)),
 [.tmp 2]⟩
theorem ok229 : funcOk Tryz.prog (drawOk Tryz.prog) Tryz.f229 A229 = true := by kernel_rfl
noncomputable def F229 (call : TCall) (args : List AVal) (h : TH) : KR := ans (U1 (fun a0 =>
 V (kLen false a0) fun v1 =>
 V (kLen false a0) fun v2 =>
 V (kSlSl 1 a0 none (some v1) (some v2)) fun v3 =>
 .out 0 [v3] h) args)
theorem st229 (call : TCall) (args : List AVal) (h : TH) : kFunc call A229 args h = F229 call args h := by kernel_rfl
noncomputable def A257 : AFunc := ⟨2, (.seq (.region [.op 0 (.alloc 4 true [.int .i64 0, .int .i64 0, .nilSlice]),
 .op 1 (.mov 5 (.const (.int .i64 0)))] [])
 (.seq (.block 0 (.seq (.region [.op 0 (.mov 8 (.tmp 0)),
 .op 1 (.mov 9 (.tmp 1)),
 .op 2 (.call 10 263 [.tmp 8, .tmp 9]),
 .op 3 (.un 11 .not (.tmp 10)),
 .op 4 (.mov 7 (.tmp 11))] [])
 (.cond (.tmp 7)
 (.seq (.region [.op 0 (.build 12 [.int .i64 0, .int .i64 0, .nilSlice] []),
 .op 1 (.store true 3 (.tmp 4) (.tmp 12)),
 .op 2 (.mov 5 (.const (.int .i64 23)))] [])
 .ret)
 (.seq (.region [.op 0 (.mov 14 (.tmp 0)),
 .op 1 (.mov 15 (.tmp 0)),
 .op 2 (.nilchk 16 (.tmp 15)),
 .op 3 (.faddr 17 1 (.tmp 16)),
 .op 4 (.load 18 false 1 (.tmp 17)),
 .op 5 (.mov 19 (.tmp 1)),
 .op 6 (.iaddr 20 none 3 (.tmp 18) (.tmp 19)),
 .op 7 (.faddr 21 0 (.tmp 20)),
 .op 8 (.load 22 false 1 (.tmp 21)),
 .op 9 (.mov 23 (.tmp 0)),
 .op 10 (.nilchk 24 (.tmp 23)),
 .op 11 (.faddr 25 1 (.tmp 24)),
 .op 12 (.load 26 false 1 (.tmp 25)),
 .op 13 (.mov 27 (.tmp 1)),
 .op 14 (.iaddr 28 none 3 (.tmp 26) (.tmp 27)),
 .op 15 (.faddr 29 1 (.tmp 28)),
 .op 16 (.load 30 false 1 (.tmp 29)),
 .op 17 (.call 31 96 [.tmp 14, .tmp 22, .tmp 30]),
 .op 18 (.mov 13 (.tmp 31))] [])
 (.cond (.tmp 13)
 (.seq (.region [.op 0 (.build 32 [.int .i64 0, .int .i64 0, .nilSlice] []),
 .op 1 (.store true 3 (.tmp 4) (.tmp 32)),
 .op 2 (.mov 5 (.const (.int .i64 26)))] [])
 .ret)
 .skip)))))
 (.seq (.region [.op 0 (.mov 33 (.tmp 0)),
 .op 1 (.nilchk 34 (.tmp 33)),
 .op 2 (.faddr 35 1 (.tmp 34)),
 .op 3 (.load 36 false 1 (.tmp 35)),
 .op 4 (.mov 37 (.tmp 1)),
 .op 5 (.iaddr 38 none 3 (.tmp 36) (.tmp 37)),
 .op 6 (.load 39 true 3 (.tmp 38)),
 .op 7 (.alloc 6 true [.int .i64 0, .int .i64 0, .nilSlice]),
 .op 8 (.store true 3 (.tmp 6) (.tmp 39))] [])
 (.seq (.region [.op 0 (.mov 40 (.tmp 0)),
 .op 1 (.mov 41 (.tmp 0)),
 .op 2 (.nilchk 42 (.tmp 41)),
 .op 3 (.faddr 43 1 (.tmp 42)),
 .op 4 (.load 44 false 1 (.tmp 43)),
 .op 5 (.mov 45 (.tmp 1)),
 .op 6 (.mov 46 (.tmp 1)),
 .op 7 (.bin 47 .add .plain (.tmp 46) (.const (.int .i64 1))),
 .op 8 (.call 48 264 [.tmp 44, .tmp 45, .tmp 47]),
 .op 9 (.nilchk 49 (.tmp 40)),
 .op 10 (.faddr 50 1 (.tmp 49)),
 .op 11 (.store false 1 (.tmp 50) (.tmp 48))] [])
 (.seq (.region [.op 0 (.load 51 true 3 (.tmp 6)),
 .op 1 (.store true 3 (.tmp 4) (.tmp 51)),
 .op 2 (.mov 5 (.const (.int .i64 0)))] [])
 .ret))))),
 [.cell 4 true 3, .tmp 5]⟩
theorem ok257 : funcOk Tryz.prog (drawOk Tryz.prog) Tryz.f257 A257 = true := by kernel_rfl
noncomputable def F257 (call : TCall) (args : List AVal) (h : TH) : KR := ans (U2 (fun a0 a1 =>
 R (call 263 [a0, a1] h) fun v1 h2 =>
 V (kNot v1) fun v3 =>
 C v3
 (V (aFill [.int .i64 0, .int .i64 0, .nilSlice] []) fun c4 =>
 V (kStL [.int .i64 0, .int .i64 0, .nilSlice] 0 3 (.agg c4)) fun c5 =>
 V (kLdL c5 true 0 3) fun v6 =>
 .out 0 [.tuple [v6, (.int .i64 23)]] h2)
 (V (kNil a0) fun v7 =>
 V (kFaddr 1 v7) fun v8 =>
 V (kLd1 h2 v8) fun v9 =>
 V (kIaddr 3 v9 a1) fun v10 =>
 V (kFaddr 0 v10) fun v11 =>
 V (kLd1 h2 v11) fun v12 =>
 V (kNil a0) fun v13 =>
 V (kFaddr 1 v13) fun v14 =>
 V (kLd1 h2 v14) fun v15 =>
 V (kIaddr 3 v15 a1) fun v16 =>
 V (kFaddr 1 v16) fun v17 =>
 V (kLd1 h2 v17) fun v18 =>
 R (call 96 [a0, v12, v18] h2) fun v19 h20 =>
 C v19
 (V (aFill [.int .i64 0, .int .i64 0, .nilSlice] []) fun c21 =>
 V (kStL [.int .i64 0, .int .i64 0, .nilSlice] 0 3 (.agg c21)) fun c22 =>
 V (kLdL c22 true 0 3) fun v23 =>
 .out 0 [.tuple [v23, (.int .i64 26)]] h20)
 (V (kNil a0) fun v24 =>
 V (kFaddr 1 v24) fun v25 =>
 V (kLd1 h20 v25) fun v26 =>
 V (kIaddr 3 v26 a1) fun v27 =>
 V (kLdA h20 3 v27) fun v28 =>
 V (kStL [.int .i64 0, .int .i64 0, .nilSlice] 0 3 v28) fun c29 =>
 V (kNil a0) fun v30 =>
 V (kFaddr 1 v30) fun v31 =>
 V (kLd1 h20 v31) fun v32 =>
 V (kAdd a1 (.int .i64 1)) fun v33 =>
 R (call 264 [v32, a1, v33] h20) fun v34 h35 =>
 V (kNil a0) fun v36 =>
 V (kFaddr 1 v36) fun v37 =>
 V (kSt h35 1 v37 v34) fun h38 =>
 V (kLdL c29 true 0 3) fun v39 =>
 V (kStL [.int .i64 0, .int .i64 0, .nilSlice] 0 3 v39) fun c40 =>
 V (kLdL c40 true 0 3) fun v41 =>
 .out 0 [.tuple [v41, (.int .i64 0)]] h38))) args)
theorem st257 (call : TCall) (args : List AVal) (h : TH) : kFunc call A257 args h = F257 call args h := by kernel_rfl
noncomputable def A260 : AFunc := ⟨2, (.seq (.region [.op 0 (.box 3 true (.tmp 1)),
 .op 1 (.mov 4 (.const (.int .i64 0)))] [])
 (.seq (.block 0 (.seq (.region [.op 0 (.mov 6 (.tmp 0)),
 .op 1 (.faddr 7 0 (.tmp 3)),
 .op 2 (.load 8 false 1 (.tmp 7)),
 .op 3 (.call 9 134 [.tmp 6, .tmp 8]),
 .op 4 (.un 10 .not (.tmp 9)),
 .op 5 (.mov 11 (.tmp 10)),
 .guard 11 false [.op 6 (.mov 12 (.tmp 0)),
 .op 7 (.faddr 13 1 (.tmp 3)),
 .op 8 (.load 14 false 1 (.tmp 13)),
 .op 9 (.call 15 134 [.tmp 12, .tmp 14]),
 .op 10 (.un 16 .not (.tmp 15))] [] [16],
 .op 11 (.pick 17 (.tmp 11) (.const (.bool true)) (.tmp 16)),
 .op 12 (.mov 5 (.tmp 17))] [])
 (.cond (.tmp 5)
 (.seq (.region [.op 0 (.mov 4 (.const (.int .i64 23)))] [])
 .ret)
 (.seq (.region [.op 0 (.mov 19 (.tmp 0)),
 .op 1 (.nilchk 20 (.tmp 19)),
 .op 2 (.faddr 21 1 (.tmp 20)),
 .op 3 (.load 22 false 1 (.tmp 21)),
 .op 4 (.len 23 false (.tmp 22)),
 .op 5 (.bin 24 .geq .plain (.tmp 23) (.const (.int .i64 64))),
 .op 6 (.mov 18 (.tmp 24))] [])
 (.cond (.tmp 18)
 (.seq (.region [.op 0 (.mov 4 (.const (.int .i64 24)))] [])
 .ret)
 .skip)))))
 (.seq (.region [.op 0 (.mov 25 (.tmp 0)),
 .op 1 (.mov 26 (.tmp 0)),
 .op 2 (.nilchk 27 (.tmp 26)),
 .op 3 (.faddr 28 1 (.tmp 27)),
 .op 4 (.load 29 false 1 (.tmp 28)),
 .op 5 (.load 30 true 3 (.tmp 3)),
 .op 6 (.call 31 133 [.tmp 30]),
 .op 7 (.buildSl 32 [.int .i64 0, .int .i64 0, .nilSlice] 3 1 [(0, .tmp 31)]),
 .op 8 (.append 33 3 40 [.int .i64 0, .int .i64 0, .nilSlice] false (.tmp 29) (.tmp 32)),
 .op 9 (.nilchk 34 (.tmp 25)),
 .op 10 (.faddr 35 1 (.tmp 34)),
 .op 11 (.store false 1 (.tmp 35) (.tmp 33))] [(4, 6), (4, 7)])
 (.seq (.region [.op 0 (.mov 4 (.const (.int .i64 0)))] [])
 .ret)))),
 [.tmp 4]⟩
theorem ok260 : funcOk Tryz.prog (drawOk Tryz.prog) Tryz.f260 A260 = true := by kernel_rfl
noncomputable def F260 (call : TCall) (args : List AVal) (h : TH) : KR := ans (U2 (fun a0 a1 =>
 V (kCellsQ a1) fun c1 =>
 V (kLdL c1 false 0 1) fun v2 =>
 R (call 134 [a0, v2] h) fun v3 h4 =>
 V (kNot v3) fun v5 =>
 Jn (G v5 false
 (V (kLdL c1 false 1 1) fun v6 =>
 R (call 134 [a0, v6] h4) fun v7 h8 =>
 V (kNot v7) fun v9 =>
 .out 0 [v9] h8)
 (.out 0 [skipV] h4)) fun _ x11 h10 =>
 U1 (fun g12 =>
 V (kPick v5 (.bool true) g12) fun v13 =>
 C v13
 (.out 0 [(.int .i64 23)] h10)
 (V (kNil a0) fun v14 =>
 V (kFaddr 1 v14) fun v15 =>
 V (kLd1 h10 v15) fun v16 =>
 V (kLen false v16) fun v17 =>
 V (kGeq v17 (.int .i64 64)) fun v18 =>
 C v18
 (.out 0 [(.int .i64 24)] h10)
 (V (kNil a0) fun v19 =>
 V (kFaddr 1 v19) fun v20 =>
 V (kLd1 h10 v20) fun v21 =>
 V (kLdL c1 true 0 3) fun v22 =>
 R (call 133 [v22] h10) fun v23 h24 =>
 V (aFill (reps [.int .i64 0, .int .i64 0, .nilSlice] 1) [(0, 3, v23)]) fun c25 =>
 R (kAppend 3 40 [.int .i64 0, .int .i64 0, .nilSlice] false v21 (.slice h24.next 0 1 1 3 true) (h24.alloc c25)) fun v26 h27 =>
 V (kNil a0) fun v28 =>
 V (kFaddr 1 v28) fun v29 =>
 V (kSt h27 1 v29 v26) fun h30 =>
 ifB (kCheck [(7, some (.al h24.next)), (6, some (.ef [(3, c1)] h10 [(3, c1)] h24)), (4, kLogRd v20 1)] [(4, 6), (4, 7)]) (.out 0 [(.int .i64 0)] h30) .no))) x11) args)
theorem st260 (call : TCall) (args : List AVal) (h : TH) : kFunc call A260 args h = F260 call args h := by kernel_rfl
noncomputable def A263 : AFunc := ⟨2, (.seq (.region [.op 0 (.mov 4 (.const (.bool false)))] [])
 (.seq (.region [.op 0 (.mov 5 (.tmp 1)),
 .op 1 (.bin 6 .geq .plain (.tmp 5) (.const (.int .i64 0))),
 .op 2 (.mov 7 (.tmp 6)),
 .guard 7 true [.op 3 (.mov 8 (.tmp 1)),
 .op 4 (.mov 9 (.tmp 0)),
 .op 5 (.nilchk 10 (.tmp 9)),
 .op 6 (.faddr 11 1 (.tmp 10)),
 .op 7 (.load 12 false 1 (.tmp 11)),
 .op 8 (.len 13 false (.tmp 12)),
 .op 9 (.bin 14 .lss .plain (.tmp 8) (.tmp 13))] [] [14],
 .op 10 (.pick 15 (.tmp 7) (.tmp 14) (.const (.bool false))),
 .op 11 (.mov 4 (.tmp 15))] [])
 .ret)),
 [.tmp 4]⟩
theorem ok263 : funcOk Tryz.prog (drawOk Tryz.prog) Tryz.f263 A263 = true := by kernel_rfl
noncomputable def F263 (call : TCall) (args : List AVal) (h : TH) : KR := ans (U2 (fun a0 a1 =>
 V (kGeq a1 (.int .i64 0)) fun v1 =>
 Jn (G v1 true
 (V (kNil a0) fun v2 =>
 V (kFaddr 1 v2) fun v3 =>
 V (kLd1 h v3) fun v4 =>
 V (kLen false v4) fun v5 =>
 V (kLss a1 v5) fun v6 =>
 .out 0 [v6] h)
 (.out 0 [skipV] h)) fun _ x8 h7 =>
 U1 (fun g9 =>
 V (kPick v1 g9 (.bool false)) fun v10 =>
 .out 0 [v10] h7) x8) args)
theorem st263 (call : TCall) (args : List AVal) (h : TH) : kFunc call A263 args h = F263 call args h := by kernel_rfl
noncomputable def A264 : AFunc := ⟨3, (.seq (.region [.op 0 (.mov 6 (.const (.nilSlice)))] [])
 (.seq (.region [.op 0 (.mov 8 (.tmp 0)),
 .op 1 (.mov 9 (.tmp 1)),
 .op 2 (.mov 10 (.tmp 2)),
 .op 3 (.mov 11 (.tmp 0)),
 .op 4 (.len 12 false (.tmp 11)),
 .op 5 (.slice 13 (.sl 3) (.tmp 8) (some (.tmp 9)) (some (.tmp 10)) (some (.tmp 12)))] [])
 (.seq (.seq (.region [.op 0 (.mov 14 (.tmp 1)),
 .op 1 (.mov 15 (.tmp 2)),
 .op 2 (.bin 16 .eql .plain (.tmp 14) (.tmp 15))] [])
 (.cond (.tmp 16)
 (.seq (.region [.op 0 (.mov 17 (.tmp 0)),
 .op 1 (.mov 6 (.tmp 17))] [])
 .ret)
 .skip))
 (.seq (.region [.op 0 (.mov 18 (.tmp 0)),
 .op 1 (.len 19 false (.tmp 18)),
 .op 2 (.mov 7 (.tmp 19))] [])
 (.seq (.region [.op 0 (.mov 20 (.tmp 0)),
 .op 1 (.mov 21 (.tmp 1)),
 .op 2 (.slice 22 (.sl 3) (.tmp 20) none (some (.tmp 21)) none),
 .op 3 (.mov 23 (.tmp 0)),
 .op 4 (.mov 24 (.tmp 2)),
 .op 5 (.slice 25 (.sl 3) (.tmp 23) (some (.tmp 24)) none none),
 .op 6 (.append 26 3 40 [.int .i64 0, .int .i64 0, .nilSlice] false (.tmp 22) (.tmp 25)),
 .op 7 (.mov 0 (.tmp 26))] [])
 (.seq (.region [.op 0 (.mov 27 (.tmp 0)),
 .op 1 (.mov 28 (.tmp 0)),
 .op 2 (.len 29 false (.tmp 28)),
 .op 3 (.mov 30 (.tmp 7)),
 .op 4 (.slice 31 (.sl 3) (.tmp 27) (some (.tmp 29)) (some (.tmp 30)) none),
 .op 5 (.clear 0 [.int .i64 0, .int .i64 0, .nilSlice] (.tmp 31))] [])
 (.seq (.region [.op 0 (.mov 32 (.tmp 0)),
 .op 1 (.mov 6 (.tmp 32))] [])
 .ret))))))),
 [.tmp 6]⟩
theorem ok264 : funcOk Tryz.prog (drawOk Tryz.prog) Tryz.f264 A264 = true := by kernel_rfl
noncomputable def F264 (call : TCall) (args : List AVal) (h : TH) : KR := ans (U3 (fun a0 a1 a2 =>
 V (kLen false a0) fun v1 =>
 V (kSlSl 3 a0 (some a1) (some a2) (some v1)) fun v2 =>
 V (kEql a1 a2) fun v3 =>
 C v3
 (.out 0 [a0] h)
 (V (kLen false a0) fun v4 =>
 V (kSlSl 3 a0 none (some a1) none) fun v5 =>
 V (kSlSl 3 a0 (some a2) none none) fun v6 =>
 R (kAppend 3 40 [.int .i64 0, .int .i64 0, .nilSlice] false v5 v6 h) fun v7 h8 =>
 V (kLen false v7) fun v9 =>
 V (kSlSl 3 v7 (some v9) (some v4) none) fun v10 =>
 R (kClear [.int .i64 0, .int .i64 0, .nilSlice] v10 h8) fun _ h12 =>
 .out 0 [v7] h12)) args)
theorem st264 (call : TCall) (args : List AVal) (h : TH) : kFunc call A264 args h = F264 call args h := by kernel_rfl
noncomputable def A265 : AFunc := ⟨2, (.seq (.region [.op 0 (.box 2 true (.tmp 0)),
 .op 1 (.alloc 4 true [.int .i64 0, .int .i64 0, .int .i64 0, .int .i64 0, .int .i64 0, .int .i64 0, .int .i64 0, .int .i64 0, .int .i64 0, .str [], .str [], .bool false, .int .u32 0, .nilSlice, .nilSlice, .int .i64 0]),
 .op 2 (.mov 5 (.const (.int .i64 0)))] [])
 (.seq (.region [.op 0 (.faddr 11 0 (.tmp 2)),
 .op 1 (.load 12 false 1 (.tmp 11)),
 .op 2 (.mov 13 (.tmp 1)),
 .op 3 (.call 14 257 [.tmp 12, .tmp 13]),
 .op 4 (.mov 10 (.tmp 14)),
 .op 5 (.extract 15 (.tmp 10) 0),
 .op 6 (.extract 16 (.tmp 10) 1),
 .op 7 (.alloc 6 true [.int .i64 0, .int .i64 0, .nilSlice]),
 .op 8 (.store true 3 (.tmp 6) (.tmp 15)),
 .op 9 (.mov 7 (.tmp 16))] [])
 (.seq (.seq (.region [.op 0 (.mov 17 (.tmp 7)),
 .op 1 (.bin 18 .neq .plain (.tmp 17) (.const (.int .i64 0)))] [])
 (.cond (.tmp 18)
 (.seq (.region [.op 0 (.build 19 [.int .i64 0, .int .i64 0, .int .i64 0, .int .i64 0, .int .i64 0, .int .i64 0, .int .i64 0, .int .i64 0, .int .i64 0, .str [], .str [], .bool false, .int .u32 0, .nilSlice, .nilSlice, .int .i64 0] []),
 .op 1 (.mov 20 (.tmp 7)),
 .op 2 (.store true 16 (.tmp 4) (.tmp 19)),
 .op 3 (.mov 5 (.tmp 20))] [])
 .ret)
 .skip))
 (.seq (.region [.op 0 (.load 22 true 3 (.tmp 6)),
 .op 1 (.call 23 267 [.tmp 22]),
 .op 2 (.mov 21 (.tmp 23)),
 .op 3 (.extract 24 (.tmp 21) 0),
 .op 4 (.extract 25 (.tmp 21) 1),
 .op 5 (.alloc 8 true [.int .i64 0, .int .i64 0, .int .i64 0, .int .i64 0, .int .i64 0, .int .i64 0, .int .i64 0, .str [], .str [], .bool false, .int .u32 0, .nilSlice, .nilSlice]),
 .op 6 (.store true 13 (.tmp 8) (.tmp 24)),
 .op 7 (.mov 9 (.tmp 25))] [])
 (.seq (.region [.op 0 (.faddr 26 0 (.tmp 6)),
 .op 1 (.load 27 false 1 (.tmp 26)),
 .op 2 (.faddr 28 1 (.tmp 6)),
 .op 3 (.load 29 false 1 (.tmp 28)),
 .op 4 (.load 30 true 13 (.tmp 8)),
 .op 5 (.mov 31 (.tmp 9)),
 .op 6 (.build 32 [.int .i64 0, .int .i64 0, .int .i64 0, .int .i64 0, .int .i64 0, .int .i64 0, .int .i64 0, .int .i64 0, .int .i64 0, .str [], .str [], .bool false, .int .u32 0, .nilSlice, .nilSlice, .int .i64 0] [(0, 1, .tmp 27), (1, 1, .tmp 29), (2, 13, .tmp 30), (15, 1, .tmp 31)]),
 .op 7 (.store true 16 (.tmp 4) (.tmp 32)),
 .op 8 (.mov 5 (.const (.int .i64 0)))] [])
 .ret))))),
 [.cell 4 true 16, .tmp 5]⟩
theorem ok265 : funcOk Tryz.prog (drawOk Tryz.prog) Tryz.f265 A265 = true := by kernel_rfl
noncomputable def F265 (call : TCall) (args : List AVal) (h : TH) : KR := ans (U2 (fun a0 a1 =>
 V (kCellsQ a0) fun c1 =>
 V (kLdL c1 false 0 1) fun v2 =>
 R (call 257 [v2, a1] h) fun v3 h4 =>
 V (kExtract 0 v3) fun v5 =>
 V (kExtract 1 v3) fun v6 =>
 V (kStL [.int .i64 0, .int .i64 0, .nilSlice] 0 3 v5) fun c7 =>
 V (kNeq v6 (.int .i64 0)) fun v8 =>
 C v8
 (V (aFill [.int .i64 0, .int .i64 0, .int .i64 0, .int .i64 0, .int .i64 0, .int .i64 0, .int .i64 0, .int .i64 0, .int .i64 0, .str [], .str [], .bool false, .int .u32 0, .nilSlice, .nilSlice, .int .i64 0] []) fun c9 =>
 V (kStL [.int .i64 0, .int .i64 0, .int .i64 0, .int .i64 0, .int .i64 0, .int .i64 0, .int .i64 0, .int .i64 0, .int .i64 0, .str [], .str [], .bool false, .int .u32 0, .nilSlice, .nilSlice, .int .i64 0] 0 16 (.agg c9)) fun c10 =>
 V (kLdL c10 true 0 16) fun v11 =>
 .out 0 [.tuple [v11, v6]] h4)
 (V (kLdL c7 true 0 3) fun v12 =>
 R (call 267 [v12] h4) fun v13 h14 =>
 V (kExtract 0 v13) fun v15 =>
 V (kExtract 1 v13) fun v16 =>
 V (kStL [.int .i64 0, .int .i64 0, .int .i64 0, .int .i64 0, .int .i64 0, .int .i64 0, .int .i64 0, .str [], .str [], .bool false, .int .u32 0, .nilSlice, .nilSlice] 0 13 v15) fun c17 =>
 V (kLdL c7 false 0 1) fun v18 =>
 V (kLdL c7 false 1 1) fun v19 =>
 V (kLdL c17 true 0 13) fun v20 =>
 V (aFill [.int .i64 0, .int .i64 0, .int .i64 0, .int .i64 0, .int .i64 0, .int .i64 0, .int .i64 0, .int .i64 0, .int .i64 0, .str [], .str [], .bool false, .int .u32 0, .nilSlice, .nilSlice, .int .i64 0] [(0, 1, v18), (1, 1, v19), (2, 13, v20), (15, 1, v16)]) fun c21 =>
 V (kStL [.int .i64 0, .int .i64 0, .int .i64 0, .int .i64 0, .int .i64 0, .int .i64 0, .int .i64 0, .int .i64 0, .int .i64 0, .str [], .str [], .bool false, .int .u32 0, .nilSlice, .nilSlice, .int .i64 0] 0 16 (.agg c21)) fun c22 =>
 V (kLdL c22 true 0 16) fun v23 =>
 .out 0 [.tuple [v23, (.int .i64 0)]] h14)) args)
theorem st265 (call : TCall) (args : List AVal) (h : TH) : kFunc call A265 args h = F265 call args h := by kernel_rfl
noncomputable def A266 : AFunc := ⟨3, (.seq (.region [.op 0 (.box 3 true (.tmp 0)),
 .op 1 (.box 5 true (.tmp 2))] [])
 (.seq (.region [.op 0 (.faddr 11 1 (.tmp 5)),
 .op 1 (.load 12 true 13 (.tmp 11)),
 .op 2 (.call 13 268 [.tmp 12]),
 .op 3 (.mov 10 (.tmp 13)),
 .op 4 (.extract 14 (.tmp 10) 0),
 .op 5 (.extract 15 (.tmp 10) 1),
 .op 6 (.mov 6 (.tmp 14)),
 .op 7 (.mov 7 (.tmp 15))] [])
 (.seq (.seq (.region [.op 0 (.mov 16 (.tmp 7)),
 .op 1 (.bin 17 .neq (.iface true []) (.tmp 16) (.const (.nilIface)))] [])
 (.cond (.tmp 17)
 .ret
 .skip))
 (.seq (.region [.op 0 (.mov 19 (.tmp 6)),
 .op 1 (.call 20 269 [.tmp 19]),
 .op 2 (.mov 18 (.tmp 20)),
 .op 3 (.extract 21 (.tmp 18) 0),
 .op 4 (.extract 22 (.tmp 18) 1),
 .op 5 (.mov 8 (.tmp 21)),
 .op 6 (.mov 9 (.tmp 22))] [])
 (.seq (.region [.op 0 (.mov 23 (.tmp 9)),
 .op 1 (.bin 24 .eql .plain (.tmp 23) (.const (.int .i64 0)))] [])
 (.cond (.tmp 24)
 (.region [.op 0 (.faddr 25 0 (.tmp 3)),
 .op 1 (.load 26 false 1 (.tmp 25)),
 .op 2 (.mov 27 (.tmp 1)),
 .op 3 (.faddr 28 0 (.tmp 5)),
 .op 4 (.load 29 false 1 (.tmp 28)),
 .op 5 (.mov 30 (.tmp 8)),
 .op 6 (.build 31 [.int .i64 0, .int .i64 0, .nilSlice] [(0, 1, .tmp 27), (1, 1, .tmp 29), (2, 1, .tmp 30)]),
 .op 7 (.call 32 260 [.tmp 26, .tmp 31])] [])
 .skip)))))),
 []⟩
theorem ok266 : funcOk Tryz.prog (drawOk Tryz.prog) Tryz.f266 A266 = true := by kernel_rfl
noncomputable def F266 (call : TCall) (args : List AVal) (h : TH) : KR := ans (U3 (fun a0 a1 a2 =>
 V (kCellsQ a0) fun c1 =>
 V (kCellsQ a2) fun c2 =>
 V (kLdL c2 true 1 13) fun v3 =>
 R (call 268 [v3] h) fun v4 h5 =>
 V (kExtract 0 v4) fun v6 =>
 V (kExtract 1 v4) fun v7 =>
 V (kNe (.iface true []) v7 (.nilIface)) fun v8 =>
 C v8
 (.out 0 [.tuple []] h5)
 (R (call 269 [v6] h5) fun v9 h10 =>
 V (kExtract 0 v9) fun v11 =>
 V (kExtract 1 v9) fun v12 =>
 V (kEql v12 (.int .i64 0)) fun v13 =>
 C v13
 (V (kLdL c1 false 0 1) fun v14 =>
 V (kLdL c2 false 0 1) fun v15 =>
 V (aFill [.int .i64 0, .int .i64 0, .nilSlice] [(0, 1, a1), (1, 1, v15), (2, 1, v11)]) fun c16 =>
 R (call 260 [v14, (.agg c16)] h10) fun v17 h18 =>
 .out 0 [.tuple []] h18)
 (.out 0 [.tuple []] h10))) args)
theorem st266 (call : TCall) (args : List AVal) (h : TH) : kFunc call A266 args h = F266 call args h := by kernel_rfl
noncomputable def A267 : AFunc := ⟨1, (.seq (.region [.op 0 (.box 1 true (.tmp 0)),
 .op 1 (.alloc 2 true [.int .i64 0, .int .i64 0, .int .i64 0, .int .i64 0, .int .i64 0, .int .i64 0, .int .i64 0, .str [], .str [], .bool false, .int .u32 0, .nilSlice, .nilSlice]),
 .op 2 (.mov 3 (.const (.int .i64 0)))] [])
 (.seq (.region [.op 0 (.faddr 9 2 (.tmp 1)),
 .op 1 (.load 10 false 1 (.tmp 9)),
 .op 2 (.call 11 270 [.tmp 10]),
 .op 3 (.mov 8 (.tmp 11)),
 .op 4 (.extract 12 (.tmp 8) 0),
 .op 5 (.extract 13 (.tmp 8) 1),
 .op 6 (.mov 4 (.tmp 12)),
 .op 7 (.mov 5 (.tmp 13))] [])
 (.seq (.seq (.region [.op 0 (.mov 14 (.tmp 5)),
 .op 1 (.bin 15 .neq .plain (.tmp 14) (.const (.int .i64 0)))] [])
 (.cond (.tmp 15)
 (.seq (.region [.op 0 (.build 16 [.int .i64 0, .int .i64 0, .int .i64 0, .int .i64 0, .int .i64 0, .int .i64 0, .int .i64 0, .str [], .str [], .bool false, .int .u32 0, .nilSlice, .nilSlice] []),
 .op 1 (.mov 17 (.tmp 5)),
 .op 2 (.store true 13 (.tmp 2) (.tmp 16)),
 .op 3 (.mov 3 (.tmp 17))] [])
 .ret)
 .skip))
 (.seq (.region [.op 0 (.mov 19 (.tmp 4)),
 .op 1 (.call 20 271 [.tmp 19]),
 .op 2 (.mov 18 (.tmp 20)),
 .op 3 (.extract 21 (.tmp 18) 0),
 .op 4 (.extract 22 (.tmp 18) 1),
 .op 5 (.alloc 6 true [.int .i64 0, .int .i64 0, .int .i64 0, .int .i64 0, .int .i64 0, .int .i64 0, .int .i64 0, .str [], .str [], .bool false, .int .u32 0, .nilSlice, .nilSlice]),
 .op 6 (.store true 13 (.tmp 6) (.tmp 21)),
 .op 7 (.mov 7 (.tmp 22))] [])
 (.seq (.region [.op 0 (.load 23 true 13 (.tmp 6)),
 .op 1 (.mov 24 (.tmp 7)),
 .op 2 (.call 25 272 [.tmp 24]),
 .op 3 (.store true 13 (.tmp 2) (.tmp 23)),
 .op 4 (.mov 3 (.tmp 25))] [(0, 2)])
 .ret))))),
 [.cell 2 true 13, .tmp 3]⟩
theorem ok267 : funcOk Tryz.prog (drawOk Tryz.prog) Tryz.f267 A267 = true := by kernel_rfl
noncomputable def F267 (call : TCall) (args : List AVal) (h : TH) : KR := ans (U1 (fun a0 =>
 V (kCellsQ a0) fun c1 =>
 V (kLdL c1 false 2 1) fun v2 =>
 R (call 270 [v2] h) fun v3 h4 =>
 V (kExtract 0 v3) fun v5 =>
 V (kExtract 1 v3) fun v6 =>
 V (kNeq v6 (.int .i64 0)) fun v7 =>
 C v7
 (V (aFill [.int .i64 0, .int .i64 0, .int .i64 0, .int .i64 0, .int .i64 0, .int .i64 0, .int .i64 0, .str [], .str [], .bool false, .int .u32 0, .nilSlice, .nilSlice] []) fun c8 =>
 V (kStL [.int .i64 0, .int .i64 0, .int .i64 0, .int .i64 0, .int .i64 0, .int .i64 0, .int .i64 0, .str [], .str [], .bool false, .int .u32 0, .nilSlice, .nilSlice] 0 13 (.agg c8)) fun c9 =>
 V (kLdL c9 true 0 13) fun v10 =>
 .out 0 [.tuple [v10, v6]] h4)
 (R (call 271 [v5] h4) fun v11 h12 =>
 V (kExtract 0 v11) fun v13 =>
 V (kExtract 1 v11) fun v14 =>
 V (kStL [.int .i64 0, .int .i64 0, .int .i64 0, .int .i64 0, .int .i64 0, .int .i64 0, .int .i64 0, .str [], .str [], .bool false, .int .u32 0, .nilSlice, .nilSlice] 0 13 v13) fun c15 =>
 V (kLdL c15 true 0 13) fun v16 =>
 R (call 272 [v14] h12) fun v17 h18 =>
 V (kStL [.int .i64 0, .int .i64 0, .int .i64 0, .int .i64 0, .int .i64 0, .int .i64 0, .int .i64 0, .str [], .str [], .bool false, .int .u32 0, .nilSlice, .nilSlice] 0 13 v16) fun c19 =>
 ifB (kCheck [(2, some (.ef [(6, c15), (2, [.int .i64 0, .int .i64 0, .int .i64 0, .int .i64 0, .int .i64 0, .int .i64 0, .int .i64 0, .str [], .str [], .bool false, .int .u32 0, .nilSlice, .nilSlice]), (1, c1)] h12 [(6, c15), (2, [.int .i64 0, .int .i64 0, .int .i64 0, .int .i64 0, .int .i64 0, .int .i64 0, .int .i64 0, .str [], .str [], .bool false, .int .u32 0, .nilSlice, .nilSlice]), (1, c1)] h18)), (0, some (.lrd 6 0 13))] [(0, 2)]) (V (kLdL c19 true 0 13) fun v20 =>
 .out 0 [.tuple [v20, v17]] h18) .no)) args)
theorem st267 (call : TCall) (args : List AVal) (h : TH) : kFunc call A267 args h = F267 call args h := by kernel_rfl
noncomputable def A268 : AFunc := ⟨1, (.seq (.region [.op 0 (.box 1 true (.tmp 0)),
 .op 1 (.mov 2 (.const (.nilSlice))),
 .op 2 (.mov 3 (.const (.nilIface)))] [])
 (.seq (.seq (.region [.op 0 (.load 6 true 13 (.tmp 1)),
 .op 1 (.call 7 50 [.tmp 6]),
 .op 2 (.mov 4 (.tmp 7))] [])
 (.seq (.region [.op 0 (.mov 8 (.tmp 4)),
 .op 1 (.bin 9 .neq (.iface true []) (.tmp 8) (.const (.nilIface)))] [])
 (.cond (.tmp 9)
 (.seq (.region [.op 0 (.mov 10 (.tmp 4)),
 .op 1 (.call 11 273 [.const (.str [119, 114, 105, 116, 101]), .tmp 10]),
 .op 2 (.mov 2 (.const (.nilSlice))),
 .op 3 (.mov 3 (.tmp 11))] [])
 .ret)
 .skip)))
 (.seq (.region [.op 0 (.faddr 12 0 (.tmp 1)),
 .op 1 (.load 13 false 1 (.tmp 12)),
 .op 2 (.call 14 215 [.const (.nilSlice), .tmp 13]),
 .op 3 (.mov 5 (.tmp 14))] [])
 (.seq (.seq (.region [.op 0 (.faddr 15 0 (.tmp 1)),
 .op 1 (.load 16 false 1 (.tmp 15))] [])
 (.block 0 (.seq (.region [.op 0 (.bin 18 .eql .plain (.tmp 16) (.const (.int .i64 1))),
 .op 1 (.mov 17 (.tmp 18))] [])
 (.join [(.normal, ⟨[5], []⟩)] (.cond (.tmp 17)
 (.seq (.region [.op 0 (.mov 19 (.tmp 5)),
 .op 1 (.faddr 20 4 (.tmp 1)),
 .op 2 (.load 21 false 1 (.tmp 20)),
 .op 3 (.call 22 217 [.tmp 19, .tmp 21]),
 .op 4 (.faddr 23 1 (.tmp 1)),
 .op 5 (.load 24 false 1 (.tmp 23)),
 .op 6 (.call 25 215 [.tmp 22, .tmp 24]),
 .op 7 (.faddr 26 7 (.tmp 1)),
 .op 8 (.load 27 true 2 (.tmp 26)),
 .op 9 (.call 28 274 [.tmp 25, .tmp 27]),
 .op 10 (.mov 5 (.tmp 28))] [(5, 3), (8, 3), (8, 6)])
 (.region [.op 0 (.mov 29 (.tmp 5)),
 .op 1 (.faddr 30 5 (.tmp 1)),
 .op 2 (.load 31 false 1 (.tmp 30)),
 .op 3 (.call 32 217 [.tmp 29, .tmp 31]),
 .op 4 (.faddr 33 2 (.tmp 1)),
 .op 5 (.load 34 false 1 (.tmp 33)),
 .op 6 (.call 35 215 [.tmp 32, .tmp 34]),
 .op 7 (.faddr 36 6 (.tmp 1)),
 .op 8 (.load 37 false 1 (.tmp 36)),
 .op 9 (.call 38 217 [.tmp 35, .tmp 37]),
 .op 10 (.mov 5 (.tmp 38))] [(5, 3), (8, 3), (8, 6)]))
 (.seq (.region [.op 0 (.bin 40 .eql .plain (.tmp 16) (.const (.int .i64 2))),
 .op 1 (.mov 39 (.tmp 40))] [])
 (.join [(.normal, ⟨[5], []⟩)] (.cond (.tmp 39)
 (.seq (.region [.op 0 (.mov 41 (.tmp 5)),
 .op 1 (.faddr 42 4 (.tmp 1)),
 .op 2 (.load 43 false 1 (.tmp 42)),
 .op 3 (.call 44 217 [.tmp 41, .tmp 43]),
 .op 4 (.faddr 45 1 (.tmp 1)),
 .op 5 (.load 46 false 1 (.tmp 45)),
 .op 6 (.call 47 215 [.tmp 44, .tmp 46]),
 .op 7 (.faddr 48 7 (.tmp 1)),
 .op 8 (.load 49 true 2 (.tmp 48)),
 .op 9 (.call 50 274 [.tmp 47, .tmp 49]),
 .op 10 (.mov 5 (.tmp 50))] [(5, 3), (8, 3), (8, 6)])
 (.seq (.region [.op 0 (.mov 51 (.tmp 5)),
 .op 1 (.faddr 52 3 (.tmp 1)),
 .op 2 (.load 53 false 1 (.tmp 52)),
 .op 3 (.call 54 215 [.tmp 51, .tmp 53]),
 .op 4 (.faddr 55 9 (.tmp 1)),
 .op 5 (.load 56 false 1 (.tmp 55)),
 .op 6 (.call 57 275 [.tmp 56]),
 .op 7 (.call 58 215 [.tmp 54, .tmp 57]),
 .op 8 (.mov 5 (.tmp 58))] [(5, 3)])
 (.region [.op 0 (.mov 59 (.tmp 5)),
 .op 1 (.faddr 60 6 (.tmp 1)),
 .op 2 (.load 61 false 1 (.tmp 60)),
 .op 3 (.call 62 217 [.tmp 59, .tmp 61]),
 .op 4 (.faddr 63 10 (.tmp 1)),
 .op 5 (.load 64 false 1 (.tmp 63)),
 .op 6 (.conv 65 (.toInt .i64) (.tmp 64)),
 .op 7 (.call 66 217 [.tmp 62, .tmp 65]),
 .op 8 (.faddr 67 11 (.tmp 1)),
 .op 9 (.load 68 false 1 (.tmp 67)),
 .op 10 (.call 69 276 [.tmp 66, .tmp 68]),
 .op 11 (.mov 5 (.tmp 69))] [(5, 3), (9, 3), (9, 7)])))
 (.seq (.seq (.region [.op 0 (.bin 71 .eql .plain (.tmp 16) (.const (.int .i64 3))),
 .op 1 (.mov 70 (.tmp 71))] [])
 (.join [(.normal, ⟨[5, 16, 70], [1]⟩)] (.cond (.tmp 70)
 .skip
 (.region [.op 0 (.bin 72 .eql .plain (.tmp 16) (.const (.int .i64 4))),
 .op 1 (.mov 70 (.tmp 72))] []))))
 (.join [(.normal, ⟨[5], []⟩)] (.cond (.tmp 70)
 (.region [.op 0 (.mov 73 (.tmp 5)),
 .op 1 (.faddr 74 11 (.tmp 1)),
 .op 2 (.load 75 false 1 (.tmp 74)),
 .op 3 (.call 76 276 [.tmp 73, .tmp 75]),
 .op 4 (.mov 5 (.tmp 76))] [])
 (.seq (.region [.op 0 (.bin 78 .eql .plain (.tmp 16) (.const (.int .i64 5))),
 .op 1 (.mov 77 (.tmp 78))] [])
 (.join [(.normal, ⟨[5], []⟩)] (.cond (.tmp 77)
 (.region [.op 0 (.mov 79 (.tmp 5)),
 .op 1 (.faddr 80 12 (.tmp 1)),
 .op 2 (.load 81 false 1 (.tmp 80)),
 .op 3 (.call 82 277 [.tmp 79, .tmp 81]),
 .op 4 (.mov 5 (.tmp 82))] [])
 .skip))))))))))))))
 (.seq (.region [.op 0 (.mov 83 (.tmp 5)),
 .op 1 (.call 84 229 [.tmp 83]),
 .op 2 (.mov 2 (.tmp 84)),
 .op 3 (.mov 3 (.const (.nilIface)))] [])
 .ret))))),
 [.tmp 2, .tmp 3]⟩
theorem ok268 : funcOk Tryz.prog (drawOk Tryz.prog) Tryz.f268 A268 = true := by kernel_rfl
noncomputable def F268 (call : TCall) (args : List AVal) (h : TH) : KR := ans (U1 (fun a0 =>
 V (kCellsQ a0) fun c1 =>
 V (kLdL c1 true 0 13) fun v2 =>
 R (call 50 [v2] h) fun v3 h4 =>
 V (kNe (.iface true []) v3 (.nilIface)) fun v5 =>
 C v5
 (R (call 273 [(.str [119, 114, 105, 116, 101]), v3] h4) fun v6 h7 =>
 .out 0 [.tuple [(.nilSlice), v6]] h7)
 (V (kLdL c1 false 0 1) fun v8 =>
 R (call 215 [(.nilSlice), v8] h4) fun v9 h10 =>
 V (kLdL c1 false 0 1) fun v11 =>
 V (kEql v11 (.int .i64 1)) fun v12 =>
 Jn (C v12
 (V (kLdL c1 false 4 1) fun v13 =>
 R (call 217 [v9, v13] h10) fun v14 h15 =>
 V (kLdL c1 false 1 1) fun v16 =>
 R (call 215 [v14, v16] h15) fun v17 h18 =>
 V (kLdL c1 true 7 2) fun v19 =>
 R (call 274 [v17, v19] h18) fun v20 h21 =>
 ifB (kCheck [(8, some (.lrd 1 7 2)), (6, some (.ef [(1, c1)] h15 [(1, c1)] h18)), (5, some (.lrd 1 1 1)), (3, some (.ef [(1, c1)] h10 [(1, c1)] h15))] [(5, 3), (8, 3), (8, 6)]) (V (kLdL c1 false 5 1) fun v22 =>
 R (call 217 [v20, v22] h21) fun v23 h24 =>
 V (kLdL c1 false 2 1) fun v25 =>
 R (call 215 [v23, v25] h24) fun v26 h27 =>
 V (kLdL c1 false 6 1) fun v28 =>
 R (call 217 [v26, v28] h27) fun v29 h30 =>
 ifB (kCheck [(8, some (.lrd 1 6 1)), (6, some (.ef [(1, c1)] h24 [(1, c1)] h27)), (5, some (.lrd 1 2 1)), (3, some (.ef [(1, c1)] h21 [(1, c1)] h24))] [(5, 3), (8, 3), (8, 6)]) (.out 0 [v29] h30) .no) .no)
 (V (kEql v11 (.int .i64 2)) fun v31 =>
 Jn (C v31
 (V (kLdL c1 false 4 1) fun v32 =>
 R (call 217 [v9, v32] h10) fun v33 h34 =>
 V (kLdL c1 false 1 1) fun v35 =>
 R (call 215 [v33, v35] h34) fun v36 h37 =>
 V (kLdL c1 true 7 2) fun v38 =>
 R (call 274 [v36, v38] h37) fun v39 h40 =>
 ifB (kCheck [(8, some (.lrd 1 7 2)), (6, some (.ef [(1, c1)] h34 [(1, c1)] h37)), (5, some (.lrd 1 1 1)), (3, some (.ef [(1, c1)] h10 [(1, c1)] h34))] [(5, 3), (8, 3), (8, 6)]) (V (kLdL c1 false 3 1) fun v41 =>
 R (call 215 [v39, v41] h40) fun v42 h43 =>
 V (kLdL c1 false 9 1) fun v44 =>
 R (call 275 [v44] h43) fun v45 h46 =>
 R (call 215 [v42, v45] h46) fun v47 h48 =>
 ifB (kCheck [(5, some (.lrd 1 9 1)), (3, some (.ef [(1, c1)] h40 [(1, c1)] h43))] [(5, 3)]) (V (kLdL c1 false 6 1) fun v49 =>
 R (call 217 [v47, v49] h48) fun v50 h51 =>
 V (kLdL c1 false 10 1) fun v52 =>
 V (kToInt .i64 v52) fun v53 =>
 R (call 217 [v50, v53] h51) fun v54 h55 =>
 V (kLdL c1 false 11 1) fun v56 =>
 R (call 276 [v54, v56] h55) fun v57 h58 =>
 ifB (kCheck [(9, some (.lrd 1 11 1)), (7, some (.ef [(1, c1)] h51 [(1, c1)] h55)), (5, some (.lrd 1 10 1)), (3, some (.ef [(1, c1)] h48 [(1, c1)] h51))] [(5, 3), (9, 3), (9, 7)]) (.out 0 [v57] h58) .no) .no) .no)
 (V (kEql v11 (.int .i64 3)) fun v59 =>
 Jn (C v59
 (.out 0 [v9, v11, v59, (.agg c1)] h10)
 (V (kEql v11 (.int .i64 4)) fun v60 =>
 .out 0 [v9, v11, v60, (.agg c1)] h10)) fun i63 x62 h61 =>
 ifB (Nat.beq i63 0) (U4 (fun g64 g65 g66 g67 =>
 Jn (C g66
 (V (kLdL (kAggCells g67) false 11 1) fun v68 =>
 R (call 276 [g64, v68] h61) fun v69 h70 =>
 .out 0 [v69] h70)
 (V (kEql g65 (.int .i64 5)) fun v71 =>
 Jn (C v71
 (V (kLdL (kAggCells g67) false 12 1) fun v72 =>
 R (call 277 [g64, v72] h61) fun v73 h74 =>
 .out 0 [v73] h74)
 (.out 0 [g64] h61)) fun i77 x76 h75 =>
 ifB (Nat.beq i77 0) (U1 (fun g78 =>
 .out 0 [g78] h75) x76) (
 .no))) fun i81 x80 h79 =>
 ifB (Nat.beq i81 0) (U1 (fun g82 =>
 .out 0 [g82] h79) x80) (
 .no)) x62) (
 .no))) fun i85 x84 h83 =>
 ifB (Nat.beq i85 0) (U1 (fun g86 =>
 .out 0 [g86] h83) x84) (
 .no))) fun i89 x88 h87 =>
 ifB (Nat.beq i89 0) (U1 (fun g90 =>
 R (call 229 [g90] h87) fun v91 h92 =>
 .out 0 [.tuple [v91, (.nilIface)]] h92) x88) (
 .no))) args)
theorem st268 (call : TCall) (args : List AVal) (h : TH) : kFunc call A268 args h = F268 call args h := by kernel_rfl
noncomputable def A269 : AFunc := ⟨1, (.seq (.region [.op 0 (.mov 2 (.const (.nilSlice))),
 .op 1 (.mov 3 (.const (.int .i64 0)))] [])
 (.seq (.seq (.region [.op 0 (.mov 5 (.tmp 0)),
 .op 1 (.len 6 false (.tmp 5)),
 .op 2 (.bin 7 .gtr .plain (.tmp 6) (.const (.int .i64 8192)))] [])
 (.cond (.tmp 7)
 (.seq (.region [.op 0 (.mov 2 (.const (.nilSlice))),
 .op 1 (.mov 3 (.const (.int .i64 3)))] [])
 .ret)
 .skip))
 (.seq (.region [.op 0 (.mov 8 (.tmp 0)),
 .op 1 (.len 9 false (.tmp 8)),
 .op 2 (.conv 10 (.toInt .u32) (.tmp 9)),
 .op 3 (.call 11 278 [.const (.nilSlice), .tmp 10]),
 .op 4 (.mov 12 (.tmp 0)),
 .op 5 (.append 13 1 1 [.int .u8 0] false (.tmp 11) (.tmp 12)),
 .op 6 (.mov 4 (.tmp 13))] [])
 (.seq (.region [.op 0 (.mov 14 (.tmp 4)),
 .op 1 (.mov 15 (.tmp 4)),
 .op 2 (.call 16 201 [.tmp 15]),
 .op 3 (.call 17 278 [.tmp 14, .tmp 16]),
 .op 4 (.call 18 229 [.tmp 17]),
 .op 5 (.mov 2 (.tmp 18)),
 .op 6 (.mov 3 (.const (.int .i64 0)))] [])
 .ret)))),
 [.tmp 2, .tmp 3]⟩
theorem ok269 : funcOk Tryz.prog (drawOk Tryz.prog) Tryz.f269 A269 = true := by kernel_rfl
noncomputable def F269 (call : TCall) (args : List AVal) (h : TH) : KR := ans (U1 (fun a0 =>
 V (kLen false a0) fun v1 =>
 V (kGtr v1 (.int .i64 8192)) fun v2 =>
 C v2
 (.out 0 [.tuple [(.nilSlice), (.int .i64 3)]] h)
 (V (kLen false a0) fun v3 =>
 V (kToInt .u32 v3) fun v4 =>
 R (call 278 [(.nilSlice), v4] h) fun v5 h6 =>
 R (kAppend 1 1 [.int .u8 0] false v5 a0 h6) fun v7 h8 =>
 R (call 201 [v7] h8) fun v9 h10 =>
 R (call 278 [v7, v9] h10) fun v11 h12 =>
 R (call 229 [v11] h12) fun v13 h14 =>
 .out 0 [.tuple [v13, (.int .i64 0)]] h14)) args)
theorem st269 (call : TCall) (args : List AVal) (h : TH) : kFunc call A269 args h = F269 call args h := by kernel_rfl
noncomputable def A270 : AFunc := ⟨1, (.seq (.region [.op 0 (.mov 2 (.const (.nilSlice))),
 .op 1 (.mov 3 (.const (.int .i64 0)))] [])
 (.seq (.seq (.region [.op 0 (.mov 5 (.tmp 0)),
 .op 1 (.len 6 false (.tmp 5)),
 .op 2 (.bin 7 .lss .plain (.tmp 6) (.const (.int .i64 4)))] [])
 (.cond (.tmp 7)
 (.seq (.region [.op 0 (.mov 2 (.const (.nilSlice))),
 .op 1 (.mov 3 (.const (.int .i64 12)))] [])
 .ret)
 .skip))
 (.seq (.region [.op 0 (.mov 8 (.tmp 0)),
 .op 1 (.call 9 279 [.tmp 8]),
 .op 2 (.mov 4 (.tmp 9))] [])
 (.seq (.block 0 (.seq (.region [.op 0 (.mov 11 (.tmp 4)),
 .op 1 (.bin 12 .gtr .plain (.tmp 11) (.const (.int .u32 8192))),
 .op 2 (.mov 10 (.tmp 12))] [])
 (.cond (.tmp 10)
 (.seq (.region [.op 0 (.mov 2 (.const (.nilSlice))),
 .op 1 (.mov 3 (.const (.int .i64 3)))] [])
 .ret)
 (.seq (.region [.op 0 (.mov 14 (.tmp 0)),
 .op 1 (.len 15 false (.tmp 14)),
 .op 2 (.mov 16 (.tmp 4)),
 .op 3 (.conv 17 (.toInt .i64) (.tmp 16)),
 .op 4 (.bin 18 .add .plain (.tmp 17) (.const (.int .i64 8))),
 .op 5 (.bin 19 .neq .plain (.tmp 15) (.tmp 18)),
 .op 6 (.mov 13 (.tmp 19))] [])
 (.cond (.tmp 13)
 (.seq (.region [.op 0 (.mov 2 (.const (.nilSlice))),
 .op 1 (.mov 3 (.const (.int .i64 12)))] [])
 .ret)
 (.seq (.region [.op 0 (.mov 21 (.tmp 0)),
 .op 1 (.mov 22 (.tmp 0)),
 .op 2 (.len 23 false (.tmp 22)),
 .op 3 (.bin 24 .sub .plain (.tmp 23) (.const (.int .i64 4))),
 .op 4 (.slice 25 (.sl 1) (.tmp 21) none (some (.tmp 24)) none),
 .op 5 (.call 26 201 [.tmp 25]),
 .op 6 (.mov 27 (.tmp 0)),
 .op 7 (.mov 28 (.tmp 0)),
 .op 8 (.len 29 false (.tmp 28)),
 .op 9 (.bin 30 .sub .plain (.tmp 29) (.const (.int .i64 4))),
 .op 10 (.slice 31 (.sl 1) (.tmp 27) (some (.tmp 30)) none none),
 .op 11 (.call 32 279 [.tmp 31]),
 .op 12 (.bin 33 .neq .plain (.tmp 26) (.tmp 32)),
 .op 13 (.mov 20 (.tmp 33))] [])
 (.cond (.tmp 20)
 (.seq (.region [.op 0 (.mov 2 (.const (.nilSlice))),
 .op 1 (.mov 3 (.const (.int .i64 13)))] [])
 .ret)
 .skip)))))))
 (.seq (.region [.op 0 (.mov 34 (.tmp 0)),
 .op 1 (.mov 35 (.tmp 0)),
 .op 2 (.len 36 false (.tmp 35)),
 .op 3 (.bin 37 .sub .plain (.tmp 36) (.const (.int .i64 4))),
 .op 4 (.slice 38 (.sl 1) (.tmp 34) (some (.const (.int .i64 4))) (some (.tmp 37)) none),
 .op 5 (.call 39 166 [.tmp 38]),
 .op 6 (.mov 2 (.tmp 39)),
 .op 7 (.mov 3 (.const (.int .i64 0)))] [])
 .ret))))),
 [.tmp 2, .tmp 3]⟩
theorem ok270 : funcOk Tryz.prog (drawOk Tryz.prog) Tryz.f270 A270 = true := by kernel_rfl
noncomputable def F270 (call : TCall) (args : List AVal) (h : TH) : KR := ans (U1 (fun a0 =>
 V (kLen false a0) fun v1 =>
 V (kLss v1 (.int .i64 4)) fun v2 =>
 C v2
 (.out 0 [.tuple [(.nilSlice), (.int .i64 12)]] h)
 (R (call 279 [a0] h) fun v3 h4 =>
 V (kGtr v3 (.int .u32 8192)) fun v5 =>
 C v5
 (.out 0 [.tuple [(.nilSlice), (.int .i64 3)]] h4)
 (V (kLen false a0) fun v6 =>
 V (kToInt .i64 v3) fun v7 =>
 V (kAdd v7 (.int .i64 8)) fun v8 =>
 V (kNeq v6 v8) fun v9 =>
 C v9
 (.out 0 [.tuple [(.nilSlice), (.int .i64 12)]] h4)
 (V (kLen false a0) fun v10 =>
 V (kSub v10 (.int .i64 4)) fun v11 =>
 V (kSlSl 1 a0 none (some v11) none) fun v12 =>
 R (call 201 [v12] h4) fun v13 h14 =>
 V (kLen false a0) fun v15 =>
 V (kSub v15 (.int .i64 4)) fun v16 =>
 V (kSlSl 1 a0 (some v16) none none) fun v17 =>
 R (call 279 [v17] h14) fun v18 h19 =>
 V (kNeq v13 v18) fun v20 =>
 C v20
 (.out 0 [.tuple [(.nilSlice), (.int .i64 13)]] h19)
 (V (kLen false a0) fun v21 =>
 V (kSub v21 (.int .i64 4)) fun v22 =>
 V (kSlSl 1 a0 (some (.int .i64 4)) (some v22) none) fun v23 =>
 R (call 166 [v23] h19) fun v24 h25 =>
 .out 0 [.tuple [v24, (.int .i64 0)]] h25))))) args)
theorem st270 (call : TCall) (args : List AVal) (h : TH) : kFunc call A270 args h = F270 call args h := by kernel_rfl
noncomputable def A271 : AFunc := ⟨1, (.seq (.region [.op 0 (.alloc 2 true [.int .i64 0, .int .i64 0, .int .i64 0, .int .i64 0, .int .i64 0, .int .i64 0, .int .i64 0, .str [], .str [], .bool false, .int .u32 0, .nilSlice, .nilSlice]),
 .op 1 (.mov 3 (.const (.nilIface)))] [])
 (.seq (.region [.op 0 (.mov 7 (.tmp 0)),
 .op 1 (.call 8 280 [.tmp 7]),
 .op 2 (.build 9 [.nilPtr, .bool false] [(0, 1, .tmp 8)]),
 .op 3 (.box 10 false (.tmp 9)),
 .op 4 (.mov 4 (.tmp 10))] [])
 (.seq (.region [.op 0 (.mov 11 (.tmp 4)),
 .op 1 (.call 12 281 [.tmp 11]),
 .op 2 (.alloc 5 true [.int .i64 0, .int .i64 0, .int .i64 0, .int .i64 0, .int .i64 0, .int .i64 0, .int .i64 0, .str [], .str [], .bool false, .int .u32 0, .nilSlice, .nilSlice]),
 .op 3 (.store true 13 (.tmp 5) (.tmp 12))] [])
 (.seq (.seq (.region [.op 0 (.mov 13 (.tmp 4)),
 .op 1 (.nilchk 14 (.tmp 13)),
 .op 2 (.faddr 15 0 (.tmp 14)),
 .op 3 (.load 16 false 1 (.tmp 15)),
 .op 4 (.call 17 282 [.tmp 16]),
 .op 5 (.un 18 .not (.tmp 17)),
 .op 6 (.mov 19 (.tmp 18)),
 .guard 19 false [.op 7 (.mov 20 (.tmp 4)),
 .op 8 (.nilchk 21 (.tmp 20)),
 .op 9 (.faddr 22 1 (.tmp 21)),
 .op 10 (.load 23 false 1 (.tmp 22))] [] [23],
 .op 11 (.pick 24 (.tmp 19) (.const (.bool true)) (.tmp 23))] [])
 (.cond (.tmp 24)
 (.seq (.region [.op 0 (.build 25 [.int .i64 0, .int .i64 0, .int .i64 0, .int .i64 0, .int .i64 0, .int .i64 0, .int .i64 0, .str [], .str [], .bool false, .int .u32 0, .nilSlice, .nilSlice] []),
 .op 1 (.call 26 72 [.const (.str [98, 121, 116, 101, 115]), .const (.int .i64 12)]),
 .op 2 (.call 27 273 [.const (.str [114, 101, 97, 100]), .tmp 26]),
 .op 3 (.store true 13 (.tmp 2) (.tmp 25)),
 .op 4 (.mov 3 (.tmp 27))] [])
 .ret)
 .skip))
 (.seq (.seq (.region [.op 0 (.load 28 true 13 (.tmp 5)),
 .op 1 (.call 29 50 [.tmp 28]),
 .op 2 (.mov 6 (.tmp 29))] [])
 (.seq (.region [.op 0 (.mov 30 (.tmp 6)),
 .op 1 (.bin 31 .neq (.iface true []) (.tmp 30) (.const (.nilIface)))] [])
 (.cond (.tmp 31)
 (.seq (.region [.op 0 (.build 32 [.int .i64 0, .int .i64 0, .int .i64 0, .int .i64 0, .int .i64 0, .int .i64 0, .int .i64 0, .str [], .str [], .bool false, .int .u32 0, .nilSlice, .nilSlice] []),
 .op 1 (.mov 33 (.tmp 6)),
 .op 2 (.call 34 273 [.const (.str [114, 101, 97, 100]), .tmp 33]),
 .op 3 (.store true 13 (.tmp 2) (.tmp 32)),
 .op 4 (.mov 3 (.tmp 34))] [])
 .ret)
 .skip)))
 (.seq (.region [.op 0 (.load 35 true 13 (.tmp 5)),
 .op 1 (.store true 13 (.tmp 2) (.tmp 35)),
 .op 2 (.mov 3 (.const (.nilIface)))] [])
 .ret)))))),
 [.cell 2 true 13, .tmp 3]⟩
theorem ok271 : funcOk Tryz.prog (drawOk Tryz.prog) Tryz.f271 A271 = true := by kernel_rfl
noncomputable def F271 (call : TCall) (args : List AVal) (h : TH) : KR := ans (U1 (fun a0 =>
 R (call 280 [a0] h) fun v1 h2 =>
 V (aFill [.nilPtr, .bool false] [(0, 1, v1)]) fun c3 =>
 V (kCellsQ (.agg c3)) fun c4 =>
 R (call 281 [(.ptr h2.next 0)] (h2.alloc c4)) fun v5 h6 =>
 V (kStL [.int .i64 0, .int .i64 0, .int .i64 0, .int .i64 0, .int .i64 0, .int .i64 0, .int .i64 0, .str [], .str [], .bool false, .int .u32 0, .nilSlice, .nilSlice] 0 13 v5) fun c7 =>
 V (kNil (.ptr h2.next 0)) fun v8 =>
 V (kFaddr 0 v8) fun v9 =>
 V (kLd1 h6 v9) fun v10 =>
 R (call 282 [v10] h6) fun v11 h12 =>
 V (kNot v11) fun v13 =>
 Jn (G v13 false
 (V (kNil (.ptr h2.next 0)) fun v14 =>
 V (kFaddr 1 v14) fun v15 =>
 V (kLd1 h12 v15) fun v16 =>
 .out 0 [v16] h12)
 (.out 0 [skipV] h12)) fun _ x18 h17 =>
 U1 (fun g19 =>
 V (kPick v13 (.bool true) g19) fun v20 =>
 C v20
 (V (aFill [.int .i64 0, .int .i64 0, .int .i64 0, .int .i64 0, .int .i64 0, .int .i64 0, .int .i64 0, .str [], .str [], .bool false, .int .u32 0, .nilSlice, .nilSlice] []) fun c21 =>
 R (call 72 [(.str [98, 121, 116, 101, 115]), (.int .i64 12)] h17) fun v22 h23 =>
 R (call 273 [(.str [114, 101, 97, 100]), v22] h23) fun v24 h25 =>
 V (kStL [.int .i64 0, .int .i64 0, .int .i64 0, .int .i64 0, .int .i64 0, .int .i64 0, .int .i64 0, .str [], .str [], .bool false, .int .u32 0, .nilSlice, .nilSlice] 0 13 (.agg c21)) fun c26 =>
 V (kLdL c26 true 0 13) fun v27 =>
 .out 0 [.tuple [v27, v24]] h25)
 (V (kLdL c7 true 0 13) fun v28 =>
 R (call 50 [v28] h17) fun v29 h30 =>
 V (kNe (.iface true []) v29 (.nilIface)) fun v31 =>
 C v31
 (V (aFill [.int .i64 0, .int .i64 0, .int .i64 0, .int .i64 0, .int .i64 0, .int .i64 0, .int .i64 0, .str [], .str [], .bool false, .int .u32 0, .nilSlice, .nilSlice] []) fun c32 =>
 R (call 273 [(.str [114, 101, 97, 100]), v29] h30) fun v33 h34 =>
 V (kStL [.int .i64 0, .int .i64 0, .int .i64 0, .int .i64 0, .int .i64 0, .int .i64 0, .int .i64 0, .str [], .str [], .bool false, .int .u32 0, .nilSlice, .nilSlice] 0 13 (.agg c32)) fun c35 =>
 V (kLdL c35 true 0 13) fun v36 =>
 .out 0 [.tuple [v36, v33]] h34)
 (V (kLdL c7 true 0 13) fun v37 =>
 V (kStL [.int .i64 0, .int .i64 0, .int .i64 0, .int .i64 0, .int .i64 0, .int .i64 0, .int .i64 0, .str [], .str [], .bool false, .int .u32 0, .nilSlice, .nilSlice] 0 13 v37) fun c38 =>
 V (kLdL c38 true 0 13) fun v39 =>
 .out 0 [.tuple [v39, (.nilIface)]] h30))) x18) args)
theorem st271 (call : TCall) (args : List AVal) (h : TH) : kFunc call A271 args h = F271 call args h := by kernel_rfl
noncomputable def A272 : AFunc := ⟨1, (.seq (.region [.op 0 (.mov 2 (.const (.int .i64 0)))] [])
 (.seq (.seq (.region [.op 0 (.mov 4 (.tmp 0)),
 .op 1 (.bin 5 .eql (.iface true []) (.tmp 4) (.const (.nilIface)))] [])
 (.cond (.tmp 5)
 (.seq (.region [.op 0 (.mov 2 (.const (.int .i64 0)))] [])
 .ret)
 .skip))
 (.seq (.region [.op 0 (.alloc 3 false [.int .i64 0])] [])
 (.seq (.seq (.region [.op 0 (.mov 6 (.tmp 0)),
 .op 1 (.mkIface 7 344 (.tmp 3)),
 .op 2 (.call 8 283 [.tmp 6, .tmp 7])] [])
 (.cond (.tmp 8)
 (.seq (.region [.op 0 (.load 9 false 1 (.tmp 3)),
 .op 1 (.mov 2 (.tmp 9))] [])
 .ret)
 .skip))
 (.seq (.region [.op 0 (.mov 2 (.const (.int .i64 14)))] [])
 .ret))))),
 [.tmp 2]⟩
theorem ok272 : funcOk Tryz.prog (drawOk Tryz.prog) Tryz.f272 A272 = true := by kernel_rfl
noncomputable def F272 (call : TCall) (args : List AVal) (h : TH) : KR := ans (U1 (fun a0 =>
 V (kEq (.iface true []) a0 (.nilIface)) fun v1 =>
 C v1
 (.out 0 [(.int .i64 0)] h)
 (R (call 283 [a0, (.iface 344 (.ptr h.next 0))] (h.alloc [.int .i64 0])) fun v2 h3 =>
 C v2
 (V (kLd1 h3 (.ptr h.next 0)) fun v4 =>
 .out 0 [v4] h3)
 (.out 0 [(.int .i64 14)] h3))) args)
theorem st272 (call : TCall) (args : List AVal) (h : TH) : kFunc call A272 args h = F272 call args h := by kernel_rfl
noncomputable def A274 : AFunc := ⟨2, (.seq (.region [.op 0 (.box 3 true (.tmp 1)),
 .op 1 (.mov 4 (.const (.nilSlice)))] [])
 (.seq (.region [.op 0 (.mov 5 (.tmp 0)),
 .op 1 (.faddr 6 0 (.tmp 3)),
 .op 2 (.load 7 false 1 (.tmp 6)),
 .op 3 (.call 8 216 [.tmp 5, .tmp 7]),
 .op 4 (.faddr 9 1 (.tmp 3)),
 .op 5 (.load 10 false 1 (.tmp 9)),
 .op 6 (.call 11 216 [.tmp 8, .tmp 10]),
 .op 7 (.mov 4 (.tmp 11))] [(5, 3)])
 .ret)),
 [.tmp 4]⟩
theorem ok274 : funcOk Tryz.prog (drawOk Tryz.prog) Tryz.f274 A274 = true := by kernel_rfl
noncomputable def F274 (call : TCall) (args : List AVal) (h : TH) : KR := ans (U2 (fun a0 a1 =>
 V (kCellsQ a1) fun c1 =>
 V (kLdL c1 false 0 1) fun v2 =>
 R (call 216 [a0, v2] h) fun v3 h4 =>
 V (kLdL c1 false 1 1) fun v5 =>
 R (call 216 [v3, v5] h4) fun v6 h7 =>
 ifB (kCheck [(5, some (.lrd 3 1 1)), (3, some (.ef [(3, c1)] h [(3, c1)] h4))] [(5, 3)]) (.out 0 [v6] h7) .no) args)
theorem st274 (call : TCall) (args : List AVal) (h : TH) : kFunc call A274 args h = F274 call args h := by kernel_rfl
noncomputable def A275 : AFunc := ⟨1, (.seq (.region [.op 0 (.mov 2 (.const (.int .i64 0)))] [])
 (.seq (.seq (.region [.op 0 (.mov 3 (.tmp 0))] [])
 (.cond (.tmp 3)
 (.seq (.region [.op 0 (.mov 2 (.const (.int .i64 1)))] [])
 .ret)
 .skip))
 (.seq (.region [.op 0 (.mov 2 (.const (.int .i64 0)))] [])
 .ret))),
 [.tmp 2]⟩
theorem ok275 : funcOk Tryz.prog (drawOk Tryz.prog) Tryz.f275 A275 = true := by kernel_rfl
noncomputable def F275 (call : TCall) (args : List AVal) (h : TH) : KR := ans (U1 (fun a0 =>
 C a0
 (.out 0 [(.int .i64 1)] h)
 (.out 0 [(.int .i64 0)] h)) args)
theorem st275 (call : TCall) (args : List AVal) (h : TH) : kFunc call A275 args h = F275 call args h := by kernel_rfl
noncomputable def A276 : AFunc := ⟨2, (.seq (.region [.op 0 (.mov 4 (.const (.nilSlice)))] [])
 (.seq (.region [.op 0 (.mov 7 (.tmp 0)),
 .op 1 (.mov 8 (.tmp 1)),
 .op 2 (.len 9 false (.tmp 8)),
 .op 3 (.call 10 215 [.tmp 7, .tmp 9]),
 .op 4 (.mov 0 (.tmp 10))] [])
 (.seq (.seq (.region [.op 0 (.mov 11 (.tmp 1)),
 .op 1 (.len 12 false (.tmp 11)),
 .op 2 (.mov 13 (.const (.int .i64 0)))] [])
 (.block 0 (.loop ⟨[0, 11, 12, 13], []⟩ [((.exit 0), ⟨[0], []⟩)]
 (.seq (.region [.op 0 (.bin 14 .lss .plain (.tmp 13) (.tmp 12))] [])
 (.seq (.cond (.tmp 14)
 .skip
 (.exit 0))
 (.seq (.block 1 (.seq (.region [.op 0 (.iaddr 15 none 9 (.tmp 11) (.tmp 13)),
 .op 1 (.load 16 true 9 (.tmp 15)),
 .op 2 (.alloc 6 true [.str [], .str [], .int .i64 0, .int .i64 0, .int .i64 0, .int .i64 0, .int .i64 0, .int .i64 0, .bool false]),
 .op 3 (.store true 9 (.tmp 6) (.tmp 16))] [])
 (.seq (.region [.op 0 (.mov 17 (.tmp 0)),
 .op 1 (.faddr 18 0 (.tmp 6)),
 .op 2 (.load 19 true 2 (.tmp 18)),
 .op 3 (.call 20 274 [.tmp 17, .tmp 19]),
 .op 4 (.faddr 21 2 (.tmp 6)),
 .op 5 (.load 22 false 1 (.tmp 21)),
 .op 6 (.call 23 215 [.tmp 20, .tmp 22]),
 .op 7 (.faddr 24 3 (.tmp 6)),
 .op 8 (.load 25 false 1 (.tmp 24)),
 .op 9 (.call 26 215 [.tmp 23, .tmp 25]),
 .op 10 (.mov 0 (.tmp 26))] [(5, 3), (8, 3), (8, 6)])
 (.seq (.region [.op 0 (.mov 27 (.tmp 0)),
 .op 1 (.faddr 28 4 (.tmp 6)),
 .op 2 (.load 29 false 1 (.tmp 28)),
 .op 3 (.call 30 217 [.tmp 27, .tmp 29]),
 .op 4 (.faddr 31 5 (.tmp 6)),
 .op 5 (.faddr 32 0 (.tmp 31)),
 .op 6 (.load 33 false 1 (.tmp 32)),
 .op 7 (.call 34 217 [.tmp 30, .tmp 33]),
 .op 8 (.faddr 35 5 (.tmp 6)),
 .op 9 (.faddr 36 1 (.tmp 35)),
 .op 10 (.load 37 false 1 (.tmp 36)),
 .op 11 (.call 38 215 [.tmp 34, .tmp 37]),
 .op 12 (.mov 0 (.tmp 38))] [(6, 3), (10, 3), (10, 7)])
 (.region [.op 0 (.mov 39 (.tmp 0)),
 .op 1 (.faddr 40 5 (.tmp 6)),
 .op 2 (.faddr 41 2 (.tmp 40)),
 .op 3 (.load 42 false 1 (.tmp 41)),
 .op 4 (.call 43 217 [.tmp 39, .tmp 42]),
 .op 5 (.faddr 44 8 (.tmp 6)),
 .op 6 (.load 45 false 1 (.tmp 44)),
 .op 7 (.call 46 275 [.tmp 45]),
 .op 8 (.call 47 215 [.tmp 43, .tmp 46]),
 .op 9 (.mov 0 (.tmp 47))] [(6, 4)])))))
 (.region [.op 0 (.bin 48 .add .plain (.tmp 13) (.const (.int .i64 1))),
 .op 1 (.mov 13 (.tmp 48))] [])))))))
 (.seq (.region [.op 0 (.mov 49 (.tmp 0)),
 .op 1 (.mov 4 (.tmp 49))] [])
 .ret)))),
 [.tmp 4]⟩
theorem ok276 : funcOk Tryz.prog (drawOk Tryz.prog) Tryz.f276 A276 = true := by kernel_rfl
noncomputable def L276_0 (call : TCall) (xs : List AVal) (h : TH) : KJ :=
 U4 (fun g5 g6 g7 g8 =>
 V (kLss g8 g7) fun v9 =>
 C v9
 (V (kIaddr 9 g6 g8) fun v10 =>
 V (kLdA h 9 v10) fun v11 =>
 V (kStL [.str [], .str [], .int .i64 0, .int .i64 0, .int .i64 0, .int .i64 0, .int .i64 0, .int .i64 0, .bool false] 0 9 v11) fun c12 =>
 V (kLdL c12 true 0 2) fun v13 =>
 R (call 274 [g5, v13] h) fun v14 h15 =>
 V (kLdL c12 false 2 1) fun v16 =>
 R (call 215 [v14, v16] h15) fun v17 h18 =>
 V (kLdL c12 false 3 1) fun v19 =>
 R (call 215 [v17, v19] h18) fun v20 h21 =>
 ifB (kCheck [(8, some (.lrd 6 3 1)), (6, some (.ef [(6, c12)] h15 [(6, c12)] h18)), (5, some (.lrd 6 2 1)), (3, some (.ef [(6, c12)] h [(6, c12)] h15))] [(5, 3), (8, 3), (8, 6)]) (V (kLdL c12 false 4 1) fun v22 =>
 R (call 217 [v20, v22] h21) fun v23 h24 =>
 V (kLdL c12 false 5 1) fun v25 =>
 R (call 217 [v23, v25] h24) fun v26 h27 =>
 V (kLdL c12 false 6 1) fun v28 =>
 R (call 215 [v26, v28] h27) fun v29 h30 =>
 ifB (kCheck [(10, some (.lrd 6 6 1)), (7, some (.ef [(6, c12)] h24 [(6, c12)] h27)), (6, some (.lrd 6 5 1)), (3, some (.ef [(6, c12)] h21 [(6, c12)] h24))] [(6, 3), (10, 3), (10, 7)]) (V (kLdL c12 false 7 1) fun v31 =>
 R (call 217 [v29, v31] h30) fun v32 h33 =>
 V (kLdL c12 false 8 1) fun v34 =>
 R (call 275 [v34] h33) fun v35 h36 =>
 R (call 215 [v32, v35] h36) fun v37 h38 =>
 ifB (kCheck [(6, some (.lrd 6 8 1)), (4, some (.ef [(6, c12)] h30 [(6, c12)] h33))] [(6, 4)]) (V (kAdd g8 (.int .i64 1)) fun v39 =>
 .out 0 [v37, g6, g7, v39] h38) .no) .no) .no)
 (.out 1 [g5] h)) xs
noncomputable def F276 (call : TCall) (args : List AVal) (h : TH) : KR := ans (U2 (fun a0 a1 =>
 V (kLen false a1) fun v1 =>
 R (call 215 [a0, v1] h) fun v2 h3 =>
 V (kLen false a1) fun v4 =>
 Jn (Lp (L276_0 call) [v2, a1, v4, (.int .i64 0)] h3) fun i42 x41 h40 =>
 ifB (Nat.beq i42 1) (U1 (fun g43 =>
 .out 0 [g43] h40) x41) (
 .no)) args)
theorem st276 (call : TCall) (args : List AVal) (h : TH) : kFunc call A276 args h = F276 call args h := by kernel_rfl
noncomputable def A278 : AFunc := ⟨2, (.seq (.region [.op 0 (.mov 4 (.const (.nilSlice)))] [])
 (.seq (.seq (.region [.op 0 (.mov 5 (.const (.int .i64 3)))] [])
 (.block 0 (.loop ⟨[0, 1, 5], []⟩ [((.exit 0), ⟨[0], []⟩)]
 (.seq (.seq (.region [.op 0 (.mov 6 (.tmp 5)),
 .op 1 (.bin 7 .geq .plain (.tmp 6) (.const (.int .i64 0)))] [])
 (.cond (.tmp 7)
 .skip
 (.exit 0)))
 (.seq (.block 1 (.region [.op 0 (.mov 10 (.tmp 0)),
 .op 1 (.mov 11 (.tmp 1)),
 .op 2 (.mov 12 (.tmp 5)),
 .op 3 (.bin 13 .mul .plain (.const (.int .i64 8)) (.tmp 12)),
 .op 4 (.bin 14 .shr .plain (.tmp 11) (.tmp 13)),
 .op 5 (.conv 15 (.toInt .u8) (.tmp 14)),
 .op 6 (.buildSl 16 [.int .u8 0] 1 1 [(0, .tmp 15)]),
 .op 7 (.append 17 1 1 [.int .u8 0] false (.tmp 10) (.tmp 16)),
 .op 8 (.mov 0 (.tmp 17))] []))
 (.region [.op 0 (.mov 8 (.tmp 5)),
 .op 1 (.bin 9 .sub .plain (.tmp 8) (.const (.int .i64 1))),
 .op 2 (.mov 5 (.tmp 9))] []))))))
 (.seq (.region [.op 0 (.mov 18 (.tmp 0)),
 .op 1 (.mov 4 (.tmp 18))] [])
 .ret))),
 [.tmp 4]⟩
theorem ok278 : funcOk Tryz.prog (drawOk Tryz.prog) Tryz.f278 A278 = true := by kernel_rfl
noncomputable def L278_0 (call : TCall) (xs : List AVal) (h : TH) : KJ :=
 U3 (fun g1 g2 g3 =>
 V (kGeq g3 (.int .i64 0)) fun v4 =>
 C v4
 (V (kMul (.int .i64 8) g3) fun v5 =>
 V (kShr g2 v5) fun v6 =>
 V (kToInt .u8 v6) fun v7 =>
 V (aFill (reps [.int .u8 0] 1) [(0, 1, v7)]) fun c8 =>
 R (kAppend 1 1 [.int .u8 0] false g1 (.slice h.next 0 1 1 1 true) (h.alloc c8)) fun v9 h10 =>
 V (kSub g3 (.int .i64 1)) fun v11 =>
 .out 0 [v9, g2, v11] h10)
 (.out 1 [g1] h)) xs
noncomputable def F278 (call : TCall) (args : List AVal) (h : TH) : KR := ans (U2 (fun a0 a1 =>
 Jn (Lp (L278_0 call) [a0, a1, (.int .i64 3)] h) fun i14 x13 h12 =>
 ifB (Nat.beq i14 1) (U1 (fun g15 =>
 .out 0 [g15] h12) x13) (
 .no)) args)
theorem st278 (call : TCall) (args : List AVal) (h : TH) : kFunc call A278 args h = F278 call args h := by kernel_rfl
noncomputable def A279 : AFunc := ⟨1, (.seq (.region [.op 0 (.mov 2 (.const (.int .u32 0)))] [])
 (.seq (.region [.op 0 (.mov 3 (.const (.int .u32 0)))] [])
 (.seq (.seq (.region [.op 0 (.mov 6 (.tmp 0)),
 .op 1 (.slice 7 (.sl 1) (.tmp 6) none (some (.const (.int .i64 4))) none),
 .op 2 (.len 8 false (.tmp 7)),
 .op 3 (.mov 9 (.const (.int .i64 0)))] [])
 (.block 0 (.loop ⟨[3, 7, 8, 9], []⟩ [((.exit 0), ⟨[3], []⟩)]
 (.seq (.region [.op 0 (.bin 10 .lss .plain (.tmp 9) (.tmp 8))] [])
 (.seq (.cond (.tmp 10)
 .skip
 (.exit 0))
 (.seq (.block 1 (.seq (.region [.op 0 (.iaddr 11 none 1 (.tmp 7) (.tmp 9)),
 .op 1 (.load 12 false 1 (.tmp 11)),
 .op 2 (.mov 5 (.tmp 12))] [])
 (.region [.op 0 (.mov 13 (.tmp 3)),
 .op 1 (.bin 14 .shl .plain (.tmp 13) (.const (.int .u64 8))),
 .op 2 (.mov 15 (.tmp 5)),
 .op 3 (.conv 16 (.toInt .u32) (.tmp 15)),
 .op 4 (.bin 17 .or .plain (.tmp 14) (.tmp 16)),
 .op 5 (.mov 3 (.tmp 17))] [])))
 (.region [.op 0 (.bin 18 .add .plain (.tmp 9) (.const (.int .i64 1))),
 .op 1 (.mov 9 (.tmp 18))] [])))))))
 (.seq (.region [.op 0 (.mov 19 (.tmp 3)),
 .op 1 (.mov 2 (.tmp 19))] [])
 .ret)))),
 [.tmp 2]⟩
theorem ok279 : funcOk Tryz.prog (drawOk Tryz.prog) Tryz.f279 A279 = true := by kernel_rfl
noncomputable def L279_0 (call : TCall) (xs : List AVal) (h : TH) : KJ :=
 U4 (fun g3 g4 g5 g6 =>
 V (kLss g6 g5) fun v7 =>
 C v7
 (V (kIaddr 1 g4 g6) fun v8 =>
 V (kLd1 h v8) fun v9 =>
 V (kShl g3 (.int .u64 8)) fun v10 =>
 V (kToInt .u32 v9) fun v11 =>
 V (kSlow .or v10 v11) fun v12 =>
 V (kAdd g6 (.int .i64 1)) fun v13 =>
 .out 0 [v12, g4, g5, v13] h)
 (.out 1 [g3] h)) xs
noncomputable def F279 (call : TCall) (args : List AVal) (h : TH) : KR := ans (U1 (fun a0 =>
 V (kSlSl 1 a0 none (some (.int .i64 4)) none) fun v1 =>
 V (kLen false v1) fun v2 =>
 Jn (Lp (L279_0 call) [(.int .u32 0), v1, v2, (.int .i64 0)] h) fun i16 x15 h14 =>
 ifB (Nat.beq i16 1) (U1 (fun g17 =>
 .out 0 [g17] h14) x15) (
 .no)) args)
theorem st279 (call : TCall) (args : List AVal) (h : TH) : kFunc call A279 args h = F279 call args h := by kernel_rfl
noncomputable def A280 : AFunc := ⟨1, (.seq (.region [.op 0 (.mov 2 (.const (.nilPtr)))] [])
 (.seq (.region [.op 0 (.mov 3 (.tmp 0)),
 .op 1 (.call 4 166 [.tmp 3]),
 .op 2 (.build 5 [.nilSlice, .bool false] [(0, 1, .tmp 4)]),
 .op 3 (.box 6 false (.tmp 5)),
 .op 4 (.mov 2 (.tmp 6))] [])
 .ret)),
 [.tmp 2]⟩
theorem ok280 : funcOk Tryz.prog (drawOk Tryz.prog) Tryz.f280 A280 = true := by kernel_rfl
noncomputable def F280 (call : TCall) (args : List AVal) (h : TH) : KR := ans (U1 (fun a0 =>
 R (call 166 [a0] h) fun v1 h2 =>
 V (aFill [.nilSlice, .bool false] [(0, 1, v1)]) fun c3 =>
 V (kCellsQ (.agg c3)) fun c4 =>
 .out 0 [(.ptr h2.next 0)] (h2.alloc c4)) args)
theorem st280 (call : TCall) (args : List AVal) (h : TH) : kFunc call A280 args h = F280 call args h := by kernel_rfl
noncomputable def A281 : AFunc := ⟨1, (.seq (.region [.op 0 (.alloc 2 true [.int .i64 0, .int .i64 0, .int .i64 0, .int .i64 0, .int .i64 0, .int .i64 0, .int .i64 0, .str [], .str [], .bool false, .int .u32 0, .nilSlice, .nilSlice])] [])
 (.seq (.region [.op 0 (.mov 4 (.tmp 0)),
 .op 1 (.nilchk 5 (.tmp 4)),
 .op 2 (.faddr 6 0 (.tmp 5)),
 .op 3 (.load 7 false 1 (.tmp 6)),
 .op 4 (.call 8 284 [.tmp 7]),
 .op 5 (.build 9 [.int .i64 0, .int .i64 0, .int .i64 0, .int .i64 0, .int .i64 0, .int .i64 0, .int .i64 0, .str [], .str [], .bool false, .int .u32 0, .nilSlice, .nilSlice] [(0, 1, .tmp 8)]),
 .op 6 (.alloc 3 true [.int .i64 0, .int .i64 0, .int .i64 0, .int .i64 0, .int .i64 0, .int .i64 0, .int .i64 0, .str [], .str [], .bool false, .int .u32 0, .nilSlice, .nilSlice]),
 .op 7 (.store true 13 (.tmp 3) (.tmp 9))] [])
 (.seq (.seq (.region [.op 0 (.faddr 10 0 (.tmp 3)),
 .op 1 (.load 11 false 1 (.tmp 10))] [])
 (.block 0 (.seq (.region [.op 0 (.bin 13 .eql .plain (.tmp 11) (.const (.int .i64 1))),
 .op 1 (.mov 12 (.tmp 13))] [])
 (.join [(.normal, ⟨[], [2, 3]⟩)] (.cond (.tmp 12)
 (.seq (.region [.op 0 (.mov 14 (.tmp 0)),
 .op 1 (.nilchk 15 (.tmp 14)),
 .op 2 (.faddr 16 0 (.tmp 15)),
 .op 3 (.load 17 false 1 (.tmp 16)),
 .op 4 (.call 18 285 [.tmp 17]),
 .op 5 (.mov 19 (.tmp 0)),
 .op 6 (.nilchk 20 (.tmp 19)),
 .op 7 (.faddr 21 0 (.tmp 20)),
 .op 8 (.load 22 false 1 (.tmp 21)),
 .op 9 (.call 23 284 [.tmp 22]),
 .op 10 (.faddr 24 4 (.tmp 3)),
 .op 11 (.store false 1 (.tmp 24) (.tmp 18)),
 .op 12 (.faddr 25 1 (.tmp 3)),
 .op 13 (.store false 1 (.tmp 25) (.tmp 23))] [(8, 4)])
 (.seq (.region [.op 0 (.mov 26 (.tmp 0)),
 .op 1 (.call 27 286 [.tmp 26]),
 .op 2 (.faddr 28 7 (.tmp 3)),
 .op 3 (.store true 2 (.tmp 28) (.tmp 27))] [])
 (.region [.op 0 (.mov 29 (.tmp 0)),
 .op 1 (.nilchk 30 (.tmp 29)),
 .op 2 (.faddr 31 0 (.tmp 30)),
 .op 3 (.load 32 false 1 (.tmp 31)),
 .op 4 (.call 33 285 [.tmp 32]),
 .op 5 (.mov 34 (.tmp 0)),
 .op 6 (.nilchk 35 (.tmp 34)),
 .op 7 (.faddr 36 0 (.tmp 35)),
 .op 8 (.load 37 false 1 (.tmp 36)),
 .op 9 (.call 38 284 [.tmp 37]),
 .op 10 (.mov 39 (.tmp 0)),
 .op 11 (.nilchk 40 (.tmp 39)),
 .op 12 (.faddr 41 0 (.tmp 40)),
 .op 13 (.load 42 false 1 (.tmp 41)),
 .op 14 (.call 43 285 [.tmp 42]),
 .op 15 (.faddr 44 5 (.tmp 3)),
 .op 16 (.store false 1 (.tmp 44) (.tmp 33)),
 .op 17 (.faddr 45 2 (.tmp 3)),
 .op 18 (.store false 1 (.tmp 45) (.tmp 38)),
 .op 19 (.faddr 46 6 (.tmp 3)),
 .op 20 (.store false 1 (.tmp 46) (.tmp 43))] [(8, 4), (13, 4), (13, 9)])))
 (.seq (.region [.op 0 (.bin 48 .eql .plain (.tmp 11) (.const (.int .i64 2))),
 .op 1 (.mov 47 (.tmp 48))] [])
 (.join [(.normal, ⟨[], [2, 3]⟩)] (.cond (.tmp 47)
 (.seq (.region [.op 0 (.mov 49 (.tmp 0)),
 .op 1 (.nilchk 50 (.tmp 49)),
 .op 2 (.faddr 51 0 (.tmp 50)),
 .op 3 (.load 52 false 1 (.tmp 51)),
 .op 4 (.call 53 285 [.tmp 52]),
 .op 5 (.mov 54 (.tmp 0)),
 .op 6 (.nilchk 55 (.tmp 54)),
 .op 7 (.faddr 56 0 (.tmp 55)),
 .op 8 (.load 57 false 1 (.tmp 56)),
 .op 9 (.call 58 284 [.tmp 57]),
 .op 10 (.faddr 59 4 (.tmp 3)),
 .op 11 (.store false 1 (.tmp 59) (.tmp 53)),
 .op 12 (.faddr 60 1 (.tmp 3)),
 .op 13 (.store false 1 (.tmp 60) (.tmp 58))] [(8, 4)])
 (.seq (.region [.op 0 (.mov 61 (.tmp 0)),
 .op 1 (.call 62 286 [.tmp 61]),
 .op 2 (.faddr 63 7 (.tmp 3)),
 .op 3 (.store true 2 (.tmp 63) (.tmp 62))] [])
 (.seq (.region [.op 0 (.mov 64 (.tmp 0)),
 .op 1 (.nilchk 65 (.tmp 64)),
 .op 2 (.faddr 66 0 (.tmp 65)),
 .op 3 (.load 67 false 1 (.tmp 66)),
 .op 4 (.call 68 284 [.tmp 67]),
 .op 5 (.mov 69 (.tmp 0)),
 .op 6 (.call 70 287 [.tmp 69]),
 .op 7 (.mov 71 (.tmp 0)),
 .op 8 (.nilchk 72 (.tmp 71)),
 .op 9 (.faddr 73 0 (.tmp 72)),
 .op 10 (.load 74 false 1 (.tmp 73)),
 .op 11 (.call 75 285 [.tmp 74]),
 .op 12 (.mov 76 (.tmp 0)),
 .op 13 (.call 77 288 [.tmp 76]),
 .op 14 (.faddr 78 3 (.tmp 3)),
 .op 15 (.store false 1 (.tmp 78) (.tmp 68)),
 .op 16 (.faddr 79 9 (.tmp 3)),
 .op 17 (.store false 1 (.tmp 79) (.tmp 70)),
 .op 18 (.faddr 80 6 (.tmp 3)),
 .op 19 (.store false 1 (.tmp 80) (.tmp 75)),
 .op 20 (.faddr 81 10 (.tmp 3)),
 .op 21 (.store false 1 (.tmp 81) (.tmp 77))] [(10, 4), (10, 6)])
 (.region [.op 0 (.mov 82 (.tmp 0)),
 .op 1 (.call 83 289 [.tmp 82]),
 .op 2 (.faddr 84 11 (.tmp 3)),
 .op 3 (.store false 1 (.tmp 84) (.tmp 83))] []))))
 (.seq (.seq (.region [.op 0 (.bin 86 .eql .plain (.tmp 11) (.const (.int .i64 3))),
 .op 1 (.mov 85 (.tmp 86))] [])
 (.join [(.normal, ⟨[0, 11, 85], [2, 3]⟩)] (.cond (.tmp 85)
 .skip
 (.region [.op 0 (.bin 87 .eql .plain (.tmp 11) (.const (.int .i64 4))),
 .op 1 (.mov 85 (.tmp 87))] []))))
 (.join [(.normal, ⟨[], [2, 3]⟩)] (.cond (.tmp 85)
 (.region [.op 0 (.mov 88 (.tmp 0)),
 .op 1 (.call 89 289 [.tmp 88]),
 .op 2 (.faddr 90 11 (.tmp 3)),
 .op 3 (.store false 1 (.tmp 90) (.tmp 89))] [])
 (.seq (.region [.op 0 (.bin 92 .eql .plain (.tmp 11) (.const (.int .i64 5))),
 .op 1 (.mov 91 (.tmp 92))] [])
 (.join [(.normal, ⟨[], [2, 3]⟩)] (.cond (.tmp 91)
 (.region [.op 0 (.mov 93 (.tmp 0)),
 .op 1 (.call 94 290 [.tmp 93]),
 .op 2 (.faddr 95 12 (.tmp 3)),
 .op 3 (.store false 1 (.tmp 95) (.tmp 94))] [])
 .skip))))))))))))))
 (.seq (.region [.op 0 (.load 96 true 13 (.tmp 3)),
 .op 1 (.store true 13 (.tmp 2) (.tmp 96))] [])
 .ret)))),
 [.cell 2 true 13]⟩
theorem ok281 : funcOk Tryz.prog (drawOk Tryz.prog) Tryz.f281 A281 = true := by kernel_rfl
noncomputable def F281 (call : TCall) (args : List AVal) (h : TH) : KR := ans (U1 (fun a0 =>
 V (kNil a0) fun v1 =>
 V (kFaddr 0 v1) fun v2 =>
 V (kLd1 h v2) fun v3 =>
 R (call 284 [v3] h) fun v4 h5 =>
 V (aFill [.int .i64 0, .int .i64 0, .int .i64 0, .int .i64 0, .int .i64 0, .int .i64 0, .int .i64 0, .str [], .str [], .bool false, .int .u32 0, .nilSlice, .nilSlice] [(0, 1, v4)]) fun c6 =>
 V (kStL [.int .i64 0, .int .i64 0, .int .i64 0, .int .i64 0, .int .i64 0, .int .i64 0, .int .i64 0, .str [], .str [], .bool false, .int .u32 0, .nilSlice, .nilSlice] 0 13 (.agg c6)) fun c7 =>
 V (kLdL c7 false 0 1) fun v8 =>
 V (kEql v8 (.int .i64 1)) fun v9 =>
 Jn (C v9
 (V (kNil a0) fun v10 =>
 V (kFaddr 0 v10) fun v11 =>
 V (kLd1 h5 v11) fun v12 =>
 R (call 285 [v12] h5) fun v13 h14 =>
 V (kNil a0) fun v15 =>
 V (kFaddr 0 v15) fun v16 =>
 V (kLd1 h14 v16) fun v17 =>
 R (call 284 [v17] h14) fun v18 h19 =>
 V (kStL c7 4 1 v13) fun c20 =>
 V (kStL c20 1 1 v18) fun c21 =>
 ifB (kCheck [(8, kLogRd v16 1), (4, some (.ef [(3, c7), (2, [.int .i64 0, .int .i64 0, .int .i64 0, .int .i64 0, .int .i64 0, .int .i64 0, .int .i64 0, .str [], .str [], .bool false, .int .u32 0, .nilSlice, .nilSlice])] h5 [(3, c7), (2, [.int .i64 0, .int .i64 0, .int .i64 0, .int .i64 0, .int .i64 0, .int .i64 0, .int .i64 0, .str [], .str [], .bool false, .int .u32 0, .nilSlice, .nilSlice])] h14))] [(8, 4)]) (R (call 286 [a0] h19) fun v22 h23 =>
 V (kStL c21 7 2 v22) fun c24 =>
 V (kNil a0) fun v25 =>
 V (kFaddr 0 v25) fun v26 =>
 V (kLd1 h23 v26) fun v27 =>
 R (call 285 [v27] h23) fun v28 h29 =>
 V (kNil a0) fun v30 =>
 V (kFaddr 0 v30) fun v31 =>
 V (kLd1 h29 v31) fun v32 =>
 R (call 284 [v32] h29) fun v33 h34 =>
 V (kNil a0) fun v35 =>
 V (kFaddr 0 v35) fun v36 =>
 V (kLd1 h34 v36) fun v37 =>
 R (call 285 [v37] h34) fun v38 h39 =>
 V (kStL c24 5 1 v28) fun c40 =>
 V (kStL c40 2 1 v33) fun c41 =>
 V (kStL c41 6 1 v38) fun c42 =>
 ifB (kCheck [(13, kLogRd v36 1), (9, some (.ef [(3, c24), (2, [.int .i64 0, .int .i64 0, .int .i64 0, .int .i64 0, .int .i64 0, .int .i64 0, .int .i64 0, .str [], .str [], .bool false, .int .u32 0, .nilSlice, .nilSlice])] h29 [(3, c24), (2, [.int .i64 0, .int .i64 0, .int .i64 0, .int .i64 0, .int .i64 0, .int .i64 0, .int .i64 0, .str [], .str [], .bool false, .int .u32 0, .nilSlice, .nilSlice])] h34)), (8, kLogRd v31 1), (4, some (.ef [(3, c24), (2, [.int .i64 0, .int .i64 0, .int .i64 0, .int .i64 0, .int .i64 0, .int .i64 0, .int .i64 0, .str [], .str [], .bool false, .int .u32 0, .nilSlice, .nilSlice])] h23 [(3, c24), (2, [.int .i64 0, .int .i64 0, .int .i64 0, .int .i64 0, .int .i64 0, .int .i64 0, .int .i64 0, .str [], .str [], .bool false, .int .u32 0, .nilSlice, .nilSlice])] h29))] [(8, 4), (13, 4), (13, 9)]) (.out 0 [(.agg [.int .i64 0, .int .i64 0, .int .i64 0, .int .i64 0, .int .i64 0, .int .i64 0, .int .i64 0, .str [], .str [], .bool false, .int .u32 0, .nilSlice, .nilSlice]), (.agg c42)] h39) .no) .no)
 (V (kEql v8 (.int .i64 2)) fun v43 =>
 Jn (C v43
 (V (kNil a0) fun v44 =>
 V (kFaddr 0 v44) fun v45 =>
 V (kLd1 h5 v45) fun v46 =>
 R (call 285 [v46] h5) fun v47 h48 =>
 V (kNil a0) fun v49 =>
 V (kFaddr 0 v49) fun v50 =>
 V (kLd1 h48 v50) fun v51 =>
 R (call 284 [v51] h48) fun v52 h53 =>
 V (kStL c7 4 1 v47) fun c54 =>
 V (kStL c54 1 1 v52) fun c55 =>
 ifB (kCheck [(8, kLogRd v50 1), (4, some (.ef [(3, c7), (2, [.int .i64 0, .int .i64 0, .int .i64 0, .int .i64 0, .int .i64 0, .int .i64 0, .int .i64 0, .str [], .str [], .bool false, .int .u32 0, .nilSlice, .nilSlice])] h5 [(3, c7), (2, [.int .i64 0, .int .i64 0, .int .i64 0, .int .i64 0, .int .i64 0, .int .i64 0, .int .i64 0, .str [], .str [], .bool false, .int .u32 0, .nilSlice, .nilSlice])] h48))] [(8, 4)]) (R (call 286 [a0] h53) fun v56 h57 =>
 V (kStL c55 7 2 v56) fun c58 =>
 V (kNil a0) fun v59 =>
 V (kFaddr 0 v59) fun v60 =>
 V (kLd1 h57 v60) fun v61 =>
 R (call 284 [v61] h57) fun v62 h63 =>
 R (call 287 [a0] h63) fun v64 h65 =>
 V (kNil a0) fun v66 =>
 V (kFaddr 0 v66) fun v67 =>
 V (kLd1 h65 v67) fun v68 =>
 R (call 285 [v68] h65) fun v69 h70 =>
 R (call 288 [a0] h70) fun v71 h72 =>
 V (kStL c58 3 1 v62) fun c73 =>
 V (kStL c73 9 1 v64) fun c74 =>
 V (kStL c74 6 1 v69) fun c75 =>
 V (kStL c75 10 1 v71) fun c76 =>
 ifB (kCheck [(10, kLogRd v67 1), (6, some (.ef [(3, c58), (2, [.int .i64 0, .int .i64 0, .int .i64 0, .int .i64 0, .int .i64 0, .int .i64 0, .int .i64 0, .str [], .str [], .bool false, .int .u32 0, .nilSlice, .nilSlice])] h63 [(3, c58), (2, [.int .i64 0, .int .i64 0, .int .i64 0, .int .i64 0, .int .i64 0, .int .i64 0, .int .i64 0, .str [], .str [], .bool false, .int .u32 0, .nilSlice, .nilSlice])] h65)), (4, some (.ef [(3, c58), (2, [.int .i64 0, .int .i64 0, .int .i64 0, .int .i64 0, .int .i64 0, .int .i64 0, .int .i64 0, .str [], .str [], .bool false, .int .u32 0, .nilSlice, .nilSlice])] h57 [(3, c58), (2, [.int .i64 0, .int .i64 0, .int .i64 0, .int .i64 0, .int .i64 0, .int .i64 0, .int .i64 0, .str [], .str [], .bool false, .int .u32 0, .nilSlice, .nilSlice])] h63))] [(10, 4), (10, 6)]) (R (call 289 [a0] h72) fun v77 h78 =>
 V (kStL c76 11 1 v77) fun c79 =>
 .out 0 [(.agg [.int .i64 0, .int .i64 0, .int .i64 0, .int .i64 0, .int .i64 0, .int .i64 0, .int .i64 0, .str [], .str [], .bool false, .int .u32 0, .nilSlice, .nilSlice]), (.agg c79)] h78) .no) .no)
 (V (kEql v8 (.int .i64 3)) fun v80 =>
 Jn (C v80
 (.out 0 [a0, v8, v80, (.agg [.int .i64 0, .int .i64 0, .int .i64 0, .int .i64 0, .int .i64 0, .int .i64 0, .int .i64 0, .str [], .str [], .bool false, .int .u32 0, .nilSlice, .nilSlice]), (.agg c7)] h5)
 (V (kEql v8 (.int .i64 4)) fun v81 =>
 .out 0 [a0, v8, v81, (.agg [.int .i64 0, .int .i64 0, .int .i64 0, .int .i64 0, .int .i64 0, .int .i64 0, .int .i64 0, .str [], .str [], .bool false, .int .u32 0, .nilSlice, .nilSlice]), (.agg c7)] h5)) fun i84 x83 h82 =>
 ifB (Nat.beq i84 0) (U5 (fun g85 g86 g87 g88 g89 =>
 Jn (C g87
 (R (call 289 [g85] h82) fun v90 h91 =>
 V (kStL (kAggCells g89) 11 1 v90) fun c92 =>
 .out 0 [(.agg (kAggCells g88)), (.agg c92)] h91)
 (V (kEql g86 (.int .i64 5)) fun v93 =>
 Jn (C v93
 (R (call 290 [g85] h82) fun v94 h95 =>
 V (kStL (kAggCells g89) 12 1 v94) fun c96 =>
 .out 0 [(.agg (kAggCells g88)), (.agg c96)] h95)
 (.out 0 [(.agg (kAggCells g88)), (.agg (kAggCells g89))] h82)) fun i99 x98 h97 =>
 ifB (Nat.beq i99 0) (U2 (fun g100 g101 =>
 .out 0 [(.agg (kAggCells g100)), (.agg (kAggCells g101))] h97) x98) (
 .no))) fun i104 x103 h102 =>
 ifB (Nat.beq i104 0) (U2 (fun g105 g106 =>
 .out 0 [(.agg (kAggCells g105)), (.agg (kAggCells g106))] h102) x103) (
 .no)) x83) (
 .no))) fun i109 x108 h107 =>
 ifB (Nat.beq i109 0) (U2 (fun g110 g111 =>
 .out 0 [(.agg (kAggCells g110)), (.agg (kAggCells g111))] h107) x108) (
 .no))) fun i114 x113 h112 =>
 ifB (Nat.beq i114 0) (U2 (fun g115 g116 =>
 V (kLdL (kAggCells g116) true 0 13) fun v117 =>
 V (kStL (kAggCells g115) 0 13 v117) fun c118 =>
 V (kLdL c118 true 0 13) fun v119 =>
 .out 0 [v119] h112) x113) (
 .no)) args)
theorem st281 (call : TCall) (args : List AVal) (h : TH) : kFunc call A281 args h = F281 call args h := by kernel_rfl
noncomputable def A282 : AFunc := ⟨1, (.seq (.region [.op 0 (.mov 2 (.const (.bool false)))] [])
 (.seq (.region [.op 0 (.mov 3 (.tmp 0)),
 .op 1 (.nilchk 4 (.tmp 3)),
 .op 2 (.faddr 5 1 (.tmp 4)),
 .op 3 (.load 6 false 1 (.tmp 5)),
 .op 4 (.un 7 .not (.tmp 6)),
 .op 5 (.mov 8 (.tmp 7)),
 .guard 8 true [.op 6 (.mov 9 (.tmp 0)),
 .op 7 (.nilchk 10 (.tmp 9)),
 .op 8 (.faddr 11 0 (.tmp 10)),
 .op 9 (.load 12 false 1 (.tmp 11)),
 .op 10 (.len 13 false (.tmp 12)),
 .op 11 (.bin 14 .eql .plain (.tmp 13) (.const (.int .i64 0)))] [] [14],
 .op 12 (.pick 15 (.tmp 8) (.tmp 14) (.const (.bool false))),
 .op 13 (.mov 2 (.tmp 15))] [])
 .ret)),
 [.tmp 2]⟩
theorem ok282 : funcOk Tryz.prog (drawOk Tryz.prog) Tryz.f282 A282 = true := by kernel_rfl
noncomputable def F282 (call : TCall) (args : List AVal) (h : TH) : KR := ans (U1 (fun a0 =>
 V (kNil a0) fun v1 =>
 V (kFaddr 1 v1) fun v2 =>
 V (kLd1 h v2) fun v3 =>
 V (kNot v3) fun v4 =>
 Jn (G v4 true
 (V (kNil a0) fun v5 =>
 V (kFaddr 0 v5) fun v6 =>
 V (kLd1 h v6) fun v7 =>
 V (kLen false v7) fun v8 =>
 V (kEql v8 (.int .i64 0)) fun v9 =>
 .out 0 [v9] h)
 (.out 0 [skipV] h)) fun _ x11 h10 =>
 U1 (fun g12 =>
 V (kPick v4 g12 (.bool false)) fun v13 =>
 .out 0 [v13] h10) x11) args)
theorem st282 (call : TCall) (args : List AVal) (h : TH) : kFunc call A282 args h = F282 call args h := by kernel_rfl
noncomputable def A284 : AFunc := ⟨1, (.seq (.region [.op 0 (.mov 2 (.const (.int .i64 0)))] [])
 (.seq (.seq (.region [.op 0 (.mov 5 (.tmp 0)),
 .op 1 (.call 6 295 [.tmp 5, .const (.int .i64 1)]),
 .op 2 (.len 7 false (.tmp 6)),
 .op 3 (.mov 8 (.const (.int .i64 0)))] [])
 (.block 0 (.loop ⟨[6, 7, 8], []⟩ [((.exit 0), ⟨[], []⟩), (.ret, ⟨[2], []⟩)]
 (.seq (.region [.op 0 (.bin 9 .lss .plain (.tmp 8) (.tmp 7))] [])
 (.seq (.cond (.tmp 9)
 .skip
 (.exit 0))
 (.seq (.block 1 (.seq (.region [.op 0 (.iaddr 10 none 1 (.tmp 6) (.tmp 8)),
 .op 1 (.load 11 false 1 (.tmp 10)),
 .op 2 (.mov 4 (.tmp 11))] [])
 (.seq (.region [.op 0 (.mov 12 (.tmp 4)),
 .op 1 (.conv 13 (.toInt .i64) (.tmp 12)),
 .op 2 (.mov 2 (.tmp 13))] [])
 .ret)))
 (.region [.op 0 (.bin 14 .add .plain (.tmp 8) (.const (.int .i64 1))),
 .op 1 (.mov 8 (.tmp 14))] [])))))))
 (.seq (.region [.op 0 (.mov 2 (.const (.int .i64 0)))] [])
 .ret))),
 [.tmp 2]⟩
theorem ok284 : funcOk Tryz.prog (drawOk Tryz.prog) Tryz.f284 A284 = true := by kernel_rfl
noncomputable def L284_0 (call : TCall) (xs : List AVal) (h : TH) : KJ :=
 U3 (fun g4 g5 g6 =>
 V (kLss g6 g5) fun v7 =>
 C v7
 (V (kIaddr 1 g4 g6) fun v8 =>
 V (kLd1 h v8) fun v9 =>
 V (kToInt .i64 v9) fun v10 =>
 .out 2 [v10] h)
 (.out 1 [] h)) xs
noncomputable def F284 (call : TCall) (args : List AVal) (h : TH) : KR := ans (U1 (fun a0 =>
 R (call 295 [a0, (.int .i64 1)] h) fun v1 h2 =>
 V (kLen false v1) fun v3 =>
 Jn (Lp (L284_0 call) [v1, v3, (.int .i64 0)] h2) fun i13 x12 h11 =>
 ifB (Nat.beq i13 1) (U0 (.out 0 [(.int .i64 0)] h11) x12) (
 ifB (Nat.beq i13 2) (U1 (fun g14 =>
 .out 0 [g14] h11) x12) (
 .no))) args)
theorem st284 (call : TCall) (args : List AVal) (h : TH) : kFunc call A284 args h = F284 call args h := by kernel_rfl
noncomputable def A285 : AFunc := ⟨1, (.seq (.region [.op 0 (.mov 2 (.const (.int .i64 0)))] [])
 (.seq (.region [.op 0 (.mov 3 (.const (.int .i64 0)))] [])
 (.seq (.seq (.region [.op 0 (.mov 6 (.tmp 0)),
 .op 1 (.call 7 295 [.tmp 6, .const (.int .i64 8)]),
 .op 2 (.len 8 false (.tmp 7)),
 .op 3 (.mov 9 (.const (.int .i64 0)))] [])
 (.block 0 (.loop ⟨[3, 7, 8, 9], []⟩ [((.exit 0), ⟨[3], []⟩)]
 (.seq (.region [.op 0 (.bin 10 .lss .plain (.tmp 9) (.tmp 8))] [])
 (.seq (.cond (.tmp 10)
 .skip
 (.exit 0))
 (.seq (.block 1 (.seq (.region [.op 0 (.iaddr 11 none 1 (.tmp 7) (.tmp 9)),
 .op 1 (.load 12 false 1 (.tmp 11)),
 .op 2 (.mov 5 (.tmp 12))] [])
 (.region [.op 0 (.mov 13 (.tmp 3)),
 .op 1 (.bin 14 .shl .plain (.tmp 13) (.const (.int .u64 8))),
 .op 2 (.mov 15 (.tmp 5)),
 .op 3 (.conv 16 (.toInt .i64) (.tmp 15)),
 .op 4 (.bin 17 .or .plain (.tmp 14) (.tmp 16)),
 .op 5 (.mov 3 (.tmp 17))] [])))
 (.region [.op 0 (.bin 18 .add .plain (.tmp 9) (.const (.int .i64 1))),
 .op 1 (.mov 9 (.tmp 18))] [])))))))
 (.seq (.region [.op 0 (.mov 19 (.tmp 3)),
 .op 1 (.mov 2 (.tmp 19))] [])
 .ret)))),
 [.tmp 2]⟩
theorem ok285 : funcOk Tryz.prog (drawOk Tryz.prog) Tryz.f285 A285 = true := by kernel_rfl
noncomputable def L285_0 (call : TCall) (xs : List AVal) (h : TH) : KJ :=
 U4 (fun g4 g5 g6 g7 =>
 V (kLss g7 g6) fun v8 =>
 C v8
 (V (kIaddr 1 g5 g7) fun v9 =>
 V (kLd1 h v9) fun v10 =>
 V (kShl g4 (.int .u64 8)) fun v11 =>
 V (kToInt .i64 v10) fun v12 =>
 V (kSlow .or v11 v12) fun v13 =>
 V (kAdd g7 (.int .i64 1)) fun v14 =>
 .out 0 [v13, g5, g6, v14] h)
 (.out 1 [g4] h)) xs
noncomputable def F285 (call : TCall) (args : List AVal) (h : TH) : KR := ans (U1 (fun a0 =>
 R (call 295 [a0, (.int .i64 8)] h) fun v1 h2 =>
 V (kLen false v1) fun v3 =>
 Jn (Lp (L285_0 call) [(.int .i64 0), v1, v3, (.int .i64 0)] h2) fun i17 x16 h15 =>
 ifB (Nat.beq i17 1) (U1 (fun g18 =>
 .out 0 [g18] h15) x16) (
 .no)) args)
theorem st285 (call : TCall) (args : List AVal) (h : TH) : kFunc call A285 args h = F285 call args h := by kernel_rfl
noncomputable def A286 : AFunc := ⟨1, (.seq (.region [.op 0 (.alloc 2 true [.str [], .str []])] [])
 (.seq (.region [.op 0 (.mov 4 (.tmp 0)),
 .op 1 (.nilchk 5 (.tmp 4)),
 .op 2 (.faddr 6 0 (.tmp 5)),
 .op 3 (.load 7 false 1 (.tmp 6)),
 .op 4 (.call 8 296 [.tmp 7]),
 .op 5 (.mov 3 (.tmp 8))] [])
 (.seq (.region [.op 0 (.mov 9 (.tmp 3)),
 .op 1 (.mov 10 (.tmp 0)),
 .op 2 (.nilchk 11 (.tmp 10)),
 .op 3 (.faddr 12 0 (.tmp 11)),
 .op 4 (.load 13 false 1 (.tmp 12)),
 .op 5 (.call 14 296 [.tmp 13]),
 .op 6 (.build 15 [.str [], .str []] [(0, 1, .tmp 9), (1, 1, .tmp 14)]),
 .op 7 (.store true 2 (.tmp 2) (.tmp 15))] [])
 .ret))),
 [.cell 2 true 2]⟩
theorem ok286 : funcOk Tryz.prog (drawOk Tryz.prog) Tryz.f286 A286 = true := by kernel_rfl
noncomputable def F286 (call : TCall) (args : List AVal) (h : TH) : KR := ans (U1 (fun a0 =>
 V (kNil a0) fun v1 =>
 V (kFaddr 0 v1) fun v2 =>
 V (kLd1 h v2) fun v3 =>
 R (call 296 [v3] h) fun v4 h5 =>
 V (kNil a0) fun v6 =>
 V (kFaddr 0 v6) fun v7 =>
 V (kLd1 h5 v7) fun v8 =>
 R (call 296 [v8] h5) fun v9 h10 =>
 V (aFill [.str [], .str []] [(0, 1, v4), (1, 1, v9)]) fun c11 =>
 V (kStL [.str [], .str []] 0 2 (.agg c11)) fun c12 =>
 V (kLdL c12 true 0 2) fun v13 =>
 .out 0 [v13] h10) args)
theorem st286 (call : TCall) (args : List AVal) (h : TH) : kFunc call A286 args h = F286 call args h := by kernel_rfl
noncomputable def A287 : AFunc := ⟨1, (.seq (.region [.op 0 (.mov 2 (.const (.bool false)))] [])
 (.seq (.region [.op 0 (.mov 4 (.tmp 0)),
 .op 1 (.nilchk 5 (.tmp 4)),
 .op 2 (.faddr 6 0 (.tmp 5)),
 .op 3 (.load 7 false 1 (.tmp 6)),
 .op 4 (.call 8 284 [.tmp 7]),
 .op 5 (.mov 3 (.tmp 8))] [])
 (.seq (.region [.op 0 (.mov 9 (.tmp 0)),
 .op 1 (.mov 10 (.tmp 0)),
 .op 2 (.nilchk 11 (.tmp 10)),
 .op 3 (.faddr 12 1 (.tmp 11)),
 .op 4 (.load 13 false 1 (.tmp 12)),
 .op 5 (.mov 14 (.tmp 13)),
 .guard 14 false [.op 6 (.mov 15 (.tmp 3)),
 .op 7 (.bin 16 .gtr .plain (.tmp 15) (.const (.int .i64 1)))] [] [16],
 .op 8 (.pick 17 (.tmp 14) (.const (.bool true)) (.tmp 16)),
 .op 9 (.nilchk 18 (.tmp 9)),
 .op 10 (.faddr 19 1 (.tmp 18)),
 .op 11 (.store false 1 (.tmp 19) (.tmp 17))] [])
 (.seq (.region [.op 0 (.mov 20 (.tmp 3)),
 .op 1 (.bin 21 .eql .plain (.tmp 20) (.const (.int .i64 1))),
 .op 2 (.mov 2 (.tmp 21))] [])
 .ret)))),
 [.tmp 2]⟩
theorem ok287 : funcOk Tryz.prog (drawOk Tryz.prog) Tryz.f287 A287 = true := by kernel_rfl
noncomputable def F287 (call : TCall) (args : List AVal) (h : TH) : KR := ans (U1 (fun a0 =>
 V (kNil a0) fun v1 =>
 V (kFaddr 0 v1) fun v2 =>
 V (kLd1 h v2) fun v3 =>
 R (call 284 [v3] h) fun v4 h5 =>
 V (kNil a0) fun v6 =>
 V (kFaddr 1 v6) fun v7 =>
 V (kLd1 h5 v7) fun v8 =>
 Jn (G v8 false
 (V (kGtr v4 (.int .i64 1)) fun v9 =>
 .out 0 [v9] h5)
 (.out 0 [skipV] h5)) fun _ x11 h10 =>
 U1 (fun g12 =>
 V (kPick v8 (.bool true) g12) fun v13 =>
 V (kNil a0) fun v14 =>
 V (kFaddr 1 v14) fun v15 =>
 V (kSt h10 1 v15 v13) fun h16 =>
 V (kEql v4 (.int .i64 1)) fun v17 =>
 .out 0 [v17] h16) x11) args)
theorem st287 (call : TCall) (args : List AVal) (h : TH) : kFunc call A287 args h = F287 call args h := by kernel_rfl
noncomputable def A288 : AFunc := ⟨1, (.seq (.region [.op 0 (.mov 2 (.const (.int .u32 0)))] [])
 (.seq (.region [.op 0 (.mov 4 (.tmp 0)),
 .op 1 (.nilchk 5 (.tmp 4)),
 .op 2 (.faddr 6 0 (.tmp 5)),
 .op 3 (.load 7 false 1 (.tmp 6)),
 .op 4 (.call 8 285 [.tmp 7]),
 .op 5 (.mov 3 (.tmp 8))] [])
 (.seq (.region [.op 0 (.mov 9 (.tmp 0)),
 .op 1 (.mov 10 (.tmp 0)),
 .op 2 (.nilchk 11 (.tmp 10)),
 .op 3 (.faddr 12 1 (.tmp 11)),
 .op 4 (.load 13 false 1 (.tmp 12)),
 .op 5 (.mov 14 (.tmp 13)),
 .guard 14 false [.op 6 (.mov 15 (.tmp 3)),
 .op 7 (.bin 16 .lss .plain (.tmp 15) (.const (.int .i64 0)))] [] [16],
 .op 8 (.pick 17 (.tmp 14) (.const (.bool true)) (.tmp 16)),
 .op 9 (.mov 18 (.tmp 17)),
 .guard 18 false [.op 10 (.mov 19 (.tmp 3)),
 .op 11 (.bin 20 .gtr .plain (.tmp 19) (.const (.int .i64 4294967295)))] [] [20],
 .op 12 (.pick 21 (.tmp 18) (.const (.bool true)) (.tmp 20)),
 .op 13 (.nilchk 22 (.tmp 9)),
 .op 14 (.faddr 23 1 (.tmp 22)),
 .op 15 (.store false 1 (.tmp 23) (.tmp 21))] [])
 (.seq (.region [.op 0 (.mov 24 (.tmp 3)),
 .op 1 (.conv 25 (.toInt .u32) (.tmp 24)),
 .op 2 (.mov 2 (.tmp 25))] [])
 .ret)))),
 [.tmp 2]⟩
theorem ok288 : funcOk Tryz.prog (drawOk Tryz.prog) Tryz.f288 A288 = true := by kernel_rfl
noncomputable def F288 (call : TCall) (args : List AVal) (h : TH) : KR := ans (U1 (fun a0 =>
 V (kNil a0) fun v1 =>
 V (kFaddr 0 v1) fun v2 =>
 V (kLd1 h v2) fun v3 =>
 R (call 285 [v3] h) fun v4 h5 =>
 V (kNil a0) fun v6 =>
 V (kFaddr 1 v6) fun v7 =>
 V (kLd1 h5 v7) fun v8 =>
 Jn (G v8 false
 (V (kLss v4 (.int .i64 0)) fun v9 =>
 .out 0 [v9] h5)
 (.out 0 [skipV] h5)) fun _ x11 h10 =>
 U1 (fun g12 =>
 V (kPick v8 (.bool true) g12) fun v13 =>
 Jn (G v13 false
 (V (kGtr v4 (.int .i64 4294967295)) fun v14 =>
 .out 0 [v14] h10)
 (.out 0 [skipV] h10)) fun _ x16 h15 =>
 U1 (fun g17 =>
 V (kPick v13 (.bool true) g17) fun v18 =>
 V (kNil a0) fun v19 =>
 V (kFaddr 1 v19) fun v20 =>
 V (kSt h15 1 v20 v18) fun h21 =>
 V (kToInt .u32 v4) fun v22 =>
 .out 0 [v22] h21) x16) x11) args)
theorem st288 (call : TCall) (args : List AVal) (h : TH) : kFunc call A288 args h = F288 call args h := by kernel_rfl
noncomputable def A289 : AFunc := ⟨1, (.seq (.region [.op 0 (.mov 2 (.const (.nilSlice)))] [])
 (.seq (.region [.op 0 (.mov 3 (.const (.nilSlice)))] [])
 (.seq (.seq (.region [.op 0 (.mov 5 (.tmp 0)),
 .op 1 (.nilchk 6 (.tmp 5)),
 .op 2 (.faddr 7 0 (.tmp 6)),
 .op 3 (.load 8 false 1 (.tmp 7)),
 .op 4 (.call 9 284 [.tmp 8]),
 .op 5 (.mov 10 (.const (.int .i64 0)))] [])
 (.block 0 (.loop ⟨[0, 3, 9, 10], []⟩ [((.exit 0), ⟨[3], []⟩)]
 (.seq (.region [.op 0 (.bin 11 .lss .plain (.tmp 10) (.tmp 9))] [])
 (.seq (.cond (.tmp 11)
 .skip
 (.exit 0))
 (.seq (.block 1 (.seq (.region [.op 0 (.mov 12 (.tmp 0)),
 .op 1 (.call 13 286 [.tmp 12]),
 .op 2 (.build 14 [.str [], .str [], .int .i64 0, .int .i64 0, .int .i64 0, .int .i64 0, .int .i64 0, .int .i64 0, .bool false] [(0, 2, .tmp 13)]),
 .op 3 (.alloc 4 true [.str [], .str [], .int .i64 0, .int .i64 0, .int .i64 0, .int .i64 0, .int .i64 0, .int .i64 0, .bool false]),
 .op 4 (.store true 9 (.tmp 4) (.tmp 14))] [])
 (.seq (.region [.op 0 (.mov 15 (.tmp 0)),
 .op 1 (.nilchk 16 (.tmp 15)),
 .op 2 (.faddr 17 0 (.tmp 16)),
 .op 3 (.load 18 false 1 (.tmp 17)),
 .op 4 (.call 19 284 [.tmp 18]),
 .op 5 (.mov 20 (.tmp 0)),
 .op 6 (.nilchk 21 (.tmp 20)),
 .op 7 (.faddr 22 0 (.tmp 21)),
 .op 8 (.load 23 false 1 (.tmp 22)),
 .op 9 (.call 24 284 [.tmp 23]),
 .op 10 (.faddr 25 2 (.tmp 4)),
 .op 11 (.store false 1 (.tmp 25) (.tmp 19)),
 .op 12 (.faddr 26 3 (.tmp 4)),
 .op 13 (.store false 1 (.tmp 26) (.tmp 24))] [(8, 4)])
 (.seq (.region [.op 0 (.mov 27 (.tmp 0)),
 .op 1 (.nilchk 28 (.tmp 27)),
 .op 2 (.faddr 29 0 (.tmp 28)),
 .op 3 (.load 30 false 1 (.tmp 29)),
 .op 4 (.call 31 285 [.tmp 30]),
 .op 5 (.mov 32 (.tmp 0)),
 .op 6 (.nilchk 33 (.tmp 32)),
 .op 7 (.faddr 34 0 (.tmp 33)),
 .op 8 (.load 35 false 1 (.tmp 34)),
 .op 9 (.call 36 285 [.tmp 35]),
 .op 10 (.faddr 37 4 (.tmp 4)),
 .op 11 (.store false 1 (.tmp 37) (.tmp 31)),
 .op 12 (.faddr 38 5 (.tmp 4)),
 .op 13 (.faddr 39 0 (.tmp 38)),
 .op 14 (.store false 1 (.tmp 39) (.tmp 36))] [(8, 4)])
 (.seq (.region [.op 0 (.mov 40 (.tmp 0)),
 .op 1 (.nilchk 41 (.tmp 40)),
 .op 2 (.faddr 42 0 (.tmp 41)),
 .op 3 (.load 43 false 1 (.tmp 42)),
 .op 4 (.call 44 284 [.tmp 43]),
 .op 5 (.faddr 45 5 (.tmp 4)),
 .op 6 (.faddr 46 1 (.tmp 45)),
 .op 7 (.store false 1 (.tmp 46) (.tmp 44))] [])
 (.seq (.region [.op 0 (.mov 47 (.tmp 0)),
 .op 1 (.nilchk 48 (.tmp 47)),
 .op 2 (.faddr 49 0 (.tmp 48)),
 .op 3 (.load 50 false 1 (.tmp 49)),
 .op 4 (.call 51 285 [.tmp 50]),
 .op 5 (.faddr 52 5 (.tmp 4)),
 .op 6 (.faddr 53 2 (.tmp 52)),
 .op 7 (.store false 1 (.tmp 53) (.tmp 51))] [])
 (.seq (.region [.op 0 (.mov 54 (.tmp 0)),
 .op 1 (.call 55 287 [.tmp 54]),
 .op 2 (.faddr 56 8 (.tmp 4)),
 .op 3 (.store false 1 (.tmp 56) (.tmp 55))] [])
 (.region [.op 0 (.mov 57 (.tmp 3)),
 .op 1 (.load 58 true 9 (.tmp 4)),
 .op 2 (.buildSl 59 [.str [], .str [], .int .i64 0, .int .i64 0, .int .i64 0, .int .i64 0, .int .i64 0, .int .i64 0, .bool false] 9 1 [(0, .tmp 58)]),
 .op 3 (.append 60 9 88 [.str [], .str [], .int .i64 0, .int .i64 0, .int .i64 0, .int .i64 0, .int .i64 0, .int .i64 0, .bool false] false (.tmp 57) (.tmp 59)),
 .op 4 (.mov 3 (.tmp 60))] []))))))))
 (.region [.op 0 (.bin 61 .add .plain (.tmp 10) (.const (.int .i64 1))),
 .op 1 (.mov 10 (.tmp 61))] [])))))))
 (.seq (.region [.op 0 (.mov 62 (.tmp 3)),
 .op 1 (.mov 2 (.tmp 62))] [])
 .ret)))),
 [.tmp 2]⟩
theorem ok289 : funcOk Tryz.prog (drawOk Tryz.prog) Tryz.f289 A289 = true := by kernel_rfl
noncomputable def L289_0 (call : TCall) (xs : List AVal) (h : TH) : KJ :=
 U4 (fun g6 g7 g8 g9 =>
 V (kLss g9 g8) fun v10 =>
 C v10
 (R (call 286 [g6] h) fun v11 h12 =>
 V (aFill [.str [], .str [], .int .i64 0, .int .i64 0, .int .i64 0, .int .i64 0, .int .i64 0, .int .i64 0, .bool false] [(0, 2, v11)]) fun c13 =>
 V (kStL [.str [], .str [], .int .i64 0, .int .i64 0, .int .i64 0, .int .i64 0, .int .i64 0, .int .i64 0, .bool false] 0 9 (.agg c13)) fun c14 =>
 V (kNil g6) fun v15 =>
 V (kFaddr 0 v15) fun v16 =>
 V (kLd1 h12 v16) fun v17 =>
 R (call 284 [v17] h12) fun v18 h19 =>
 V (kNil g6) fun v20 =>
 V (kFaddr 0 v20) fun v21 =>
 V (kLd1 h19 v21) fun v22 =>
 R (call 284 [v22] h19) fun v23 h24 =>
 V (kStL c14 2 1 v18) fun c25 =>
 V (kStL c25 3 1 v23) fun c26 =>
 ifB (kCheck [(8, kLogRd v21 1), (4, some (.ef [(4, c14)] h12 [(4, c14)] h19))] [(8, 4)]) (V (kNil g6) fun v27 =>
 V (kFaddr 0 v27) fun v28 =>
 V (kLd1 h24 v28) fun v29 =>
 R (call 285 [v29] h24) fun v30 h31 =>
 V (kNil g6) fun v32 =>
 V (kFaddr 0 v32) fun v33 =>
 V (kLd1 h31 v33) fun v34 =>
 R (call 285 [v34] h31) fun v35 h36 =>
 V (kStL c26 4 1 v30) fun c37 =>
 V (kStL c37 5 1 v35) fun c38 =>
 ifB (kCheck [(8, kLogRd v33 1), (4, some (.ef [(4, c26)] h24 [(4, c26)] h31))] [(8, 4)]) (V (kNil g6) fun v39 =>
 V (kFaddr 0 v39) fun v40 =>
 V (kLd1 h36 v40) fun v41 =>
 R (call 284 [v41] h36) fun v42 h43 =>
 V (kStL c38 6 1 v42) fun c44 =>
 V (kNil g6) fun v45 =>
 V (kFaddr 0 v45) fun v46 =>
 V (kLd1 h43 v46) fun v47 =>
 R (call 285 [v47] h43) fun v48 h49 =>
 V (kStL c44 7 1 v48) fun c50 =>
 R (call 287 [g6] h49) fun v51 h52 =>
 V (kStL c50 8 1 v51) fun c53 =>
 V (kLdL c53 true 0 9) fun v54 =>
 V (aFill (reps [.str [], .str [], .int .i64 0, .int .i64 0, .int .i64 0, .int .i64 0, .int .i64 0, .int .i64 0, .bool false] 1) [(0, 9, v54)]) fun c55 =>
 R (kAppend 9 88 [.str [], .str [], .int .i64 0, .int .i64 0, .int .i64 0, .int .i64 0, .int .i64 0, .int .i64 0, .bool false] false g7 (.slice h52.next 0 1 1 9 true) (h52.alloc c55)) fun v56 h57 =>
 V (kAdd g9 (.int .i64 1)) fun v58 =>
 .out 0 [g6, v56, g8, v58] h57) .no) .no)
 (.out 1 [g7] h)) xs
noncomputable def F289 (call : TCall) (args : List AVal) (h : TH) : KR := ans (U1 (fun a0 =>
 V (kNil a0) fun v1 =>
 V (kFaddr 0 v1) fun v2 =>
 V (kLd1 h v2) fun v3 =>
 R (call 284 [v3] h) fun v4 h5 =>
 Jn (Lp (L289_0 call) [a0, (.nilSlice), v4, (.int .i64 0)] h5) fun i61 x60 h59 =>
 ifB (Nat.beq i61 1) (U1 (fun g62 =>
 .out 0 [g62] h59) x60) (
 .no)) args)
theorem st289 (call : TCall) (args : List AVal) (h : TH) : kFunc call A289 args h = F289 call args h := by kernel_rfl
noncomputable def A295 : AFunc := ⟨2, (.seq (.region [.op 0 (.mov 4 (.const (.nilSlice)))] [])
 (.seq (.seq (.region [.op 0 (.mov 6 (.tmp 0)),
 .op 1 (.nilchk 7 (.tmp 6)),
 .op 2 (.faddr 8 1 (.tmp 7)),
 .op 3 (.load 9 false 1 (.tmp 8)),
 .op 4 (.mov 10 (.tmp 9)),
 .guard 10 false [.op 5 (.mov 11 (.tmp 1)),
 .op 6 (.mov 12 (.tmp 0)),
 .op 7 (.nilchk 13 (.tmp 12)),
 .op 8 (.faddr 14 0 (.tmp 13)),
 .op 9 (.load 15 false 1 (.tmp 14)),
 .op 10 (.len 16 false (.tmp 15)),
 .op 11 (.bin 17 .gtr .plain (.tmp 11) (.tmp 16))] [] [17],
 .op 12 (.pick 18 (.tmp 10) (.const (.bool true)) (.tmp 17))] [])
 (.cond (.tmp 18)
 (.seq (.region [.op 0 (.mov 19 (.tmp 0)),
 .op 1 (.nilchk 20 (.tmp 19)),
 .op 2 (.faddr 21 1 (.tmp 20)),
 .op 3 (.store false 1 (.tmp 21) (.const (.bool true)))] [])
 (.seq (.region [.op 0 (.mov 4 (.const (.nilSlice)))] [])
 .ret))
 .skip))
 (.seq (.region [.op 0 (.mov 22 (.tmp 0)),
 .op 1 (.nilchk 23 (.tmp 22)),
 .op 2 (.faddr 24 0 (.tmp 23)),
 .op 3 (.load 25 false 1 (.tmp 24)),
 .op 4 (.mov 26 (.tmp 1)),
 .op 5 (.slice 27 (.sl 1) (.tmp 25) none (some (.tmp 26)) none),
 .op 6 (.mov 5 (.tmp 27))] [])
 (.seq (.region [.op 0 (.mov 28 (.tmp 0)),
 .op 1 (.mov 29 (.tmp 0)),
 .op 2 (.nilchk 30 (.tmp 29)),
 .op 3 (.faddr 31 0 (.tmp 30)),
 .op 4 (.load 32 false 1 (.tmp 31)),
 .op 5 (.mov 33 (.tmp 1)),
 .op 6 (.slice 34 (.sl 1) (.tmp 32) (some (.tmp 33)) none none),
 .op 7 (.nilchk 35 (.tmp 28)),
 .op 8 (.faddr 36 0 (.tmp 35)),
 .op 9 (.store false 1 (.tmp 36) (.tmp 34))] [])
 (.seq (.region [.op 0 (.mov 37 (.tmp 5)),
 .op 1 (.mov 4 (.tmp 37))] [])
 .ret))))),
 [.tmp 4]⟩
theorem ok295 : funcOk Tryz.prog (drawOk Tryz.prog) Tryz.f295 A295 = true := by kernel_rfl
noncomputable def F295 (call : TCall) (args : List AVal) (h : TH) : KR := ans (U2 (fun a0 a1 =>
 V (kNil a0) fun v1 =>
 V (kFaddr 1 v1) fun v2 =>
 V (kLd1 h v2) fun v3 =>
 Jn (G v3 false
 (V (kNil a0) fun v4 =>
 V (kFaddr 0 v4) fun v5 =>
 V (kLd1 h v5) fun v6 =>
 V (kLen false v6) fun v7 =>
 V (kGtr a1 v7) fun v8 =>
 .out 0 [v8] h)
 (.out 0 [skipV] h)) fun _ x10 h9 =>
 U1 (fun g11 =>
 V (kPick v3 (.bool true) g11) fun v12 =>
 C v12
 (V (kNil a0) fun v13 =>
 V (kFaddr 1 v13) fun v14 =>
 V (kSt h9 1 v14 (.bool true)) fun h15 =>
 .out 0 [(.nilSlice)] h15)
 (V (kNil a0) fun v16 =>
 V (kFaddr 0 v16) fun v17 =>
 V (kLd1 h9 v17) fun v18 =>
 V (kSlSl 1 v18 none (some a1) none) fun v19 =>
 V (kNil a0) fun v20 =>
 V (kFaddr 0 v20) fun v21 =>
 V (kLd1 h9 v21) fun v22 =>
 V (kSlSl 1 v22 (some a1) none none) fun v23 =>
 V (kNil a0) fun v24 =>
 V (kFaddr 0 v24) fun v25 =>
 V (kSt h9 1 v25 v23) fun h26 =>
 .out 0 [v19] h26)) x10) args)
theorem st295 (call : TCall) (args : List AVal) (h : TH) : kFunc call A295 args h = F295 call args h := by kernel_rfl
noncomputable def A296 : AFunc := ⟨1, (.seq (.region [.op 0 (.mov 2 (.const (.str [])))] [])
 (.seq (.region [.op 0 (.mov 3 (.tmp 0)),
 .op 1 (.mov 4 (.tmp 0)),
 .op 2 (.call 5 284 [.tmp 4]),
 .op 3 (.call 6 295 [.tmp 3, .tmp 5]),
 .op 4 (.conv 7 .bytesStr (.tmp 6)),
 .op 5 (.mov 2 (.tmp 7))] [])
 .ret)),
 [.tmp 2]⟩
theorem ok296 : funcOk Tryz.prog (drawOk Tryz.prog) Tryz.f296 A296 = true := by kernel_rfl
noncomputable def F296 (call : TCall) (args : List AVal) (h : TH) : KR := ans (U1 (fun a0 =>
 R (call 284 [a0] h) fun v1 h2 =>
 R (call 295 [a0, v1] h2) fun v3 h4 =>
 V (kStr v3 h4) fun v5 =>
 .out 0 [v5] h4) args)
theorem st296 (call : TCall) (args : List AVal) (h : TH) : kFunc call A296 args h = F296 call args h := by kernel_rfl
end Go.Proofs.YtinkiihdnepfjaaGreatDoor.Code
