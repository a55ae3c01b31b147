/- YtjibfbphiemljaaGreatDoorCode -/
import Derived.Test.YtjibfbphiemljaaGreatDoorCodeA
set_option linter.unusedSimpArgs false
set_option linter.unusedVariables false
namespace Go.Proofs.YtjibfbphiemljaaGreatDoor.Code
open Go.Fw
noncomputable def A35 : AFunc := ⟨1, (.seq (.region [.op 0 (.box 1 true (.tmp 0)),
 .op 1 (.mov 2 (.const (.bool false)))] [])
 (.seq (.region [.op 0 (.faddr 3 0 (.tmp 1)),
 .op 1 (.load 4 false 1 (.tmp 3)),
 .op 2 (.call 5 64 [.tmp 4]),
 .op 3 (.mov 6 (.tmp 5)),
 .guard 6 true [.op 4 (.faddr 7 1 (.tmp 1)),
 .op 5 (.load 8 false 1 (.tmp 7)),
 .op 6 (.call 9 64 [.tmp 8])] [] [9],
 .op 7 (.pick 10 (.tmp 6) (.tmp 9) (.const (.bool false))),
 .op 8 (.mov 2 (.tmp 10))] [])
 .ret)),
 [.tmp 2]⟩
theorem ok35 : funcOk Tryz.prog (drawOk Tryz.prog) Tryz.f35 A35 = true := by kernel_rfl
noncomputable def S35 (call : Go.Fw.Call) (a0 : AVal) (h : Heap) : Option J :=
 (AVal.cells? a0).bind fun c1 =>
 (rdL c1 0 1).bind fun c2 =>
 (fromCells false c2).bind fun v3 =>
 (call 64 [v3] h).bind fun r4 =>
 (guardV r4.1 true
 ((rdL c1 1 1).bind fun c5 =>
 (fromCells false c5).bind fun v6 =>
 (call 64 [v6] r4.2).bind fun r7 =>
 some (0, [r7.1], r7.2))
 (some (0, [skipV], r4.2))).bind fun g8 =>
 (aPick r4.1 (g8.2.1.getD 0 .undef) (.bool false)).bind fun v9 =>
 some (0, [v9], g8.2.2)
theorem run35 (call : Go.Fw.Call) (a0 : AVal) (h : Heap) : runFn call (.code A35) [a0] h = (S35 call a0 h).bind ansOf := by kernel_rfl
noncomputable def A36 : AFunc := ⟨1, (.seq (.region [.op 0 (.box 1 true (.tmp 0)),
 .op 1 (.mov 2 (.const (.bool false)))] [])
 (.seq (.region [.op 0 (.faddr 3 0 (.tmp 1)),
 .op 1 (.faddr 4 0 (.tmp 3)),
 .op 2 (.load 5 false 1 (.tmp 4)),
 .op 3 (.call 6 64 [.tmp 5]),
 .op 4 (.mov 7 (.tmp 6)),
 .guard 7 true [.op 5 (.faddr 8 0 (.tmp 1)),
 .op 6 (.faddr 9 1 (.tmp 8)),
 .op 7 (.load 10 false 1 (.tmp 9)),
 .op 8 (.call 11 64 [.tmp 10])] [] [11],
 .op 9 (.pick 12 (.tmp 7) (.tmp 11) (.const (.bool false))),
 .op 10 (.mov 13 (.tmp 12)),
 .guard 13 true [.op 11 (.faddr 14 2 (.tmp 1)),
 .op 12 (.load 15 false 1 (.tmp 14)),
 .op 13 (.bin 16 .eql .plain (.tmp 15) (.const (.int .i64 1))),
 .op 14 (.mov 17 (.tmp 16)),
 .guard 17 false [.op 15 (.faddr 18 2 (.tmp 1)),
 .op 16 (.load 19 false 1 (.tmp 18)),
 .op 17 (.bin 20 .eql .plain (.tmp 19) (.const (.int .i64 2)))] [] [20],
 .op 18 (.pick 21 (.tmp 17) (.const (.bool true)) (.tmp 20))] [] [21],
 .op 19 (.pick 22 (.tmp 13) (.tmp 21) (.const (.bool false))),
 .op 20 (.mov 23 (.tmp 22)),
 .guard 23 true [.op 21 (.faddr 24 3 (.tmp 1)),
 .op 22 (.load 25 false 1 (.tmp 24)),
 .op 23 (.bin 26 .geq .plain (.tmp 25) (.const (.int .i64 0)))] [] [26],
 .op 24 (.pick 27 (.tmp 23) (.tmp 26) (.const (.bool false))),
 .op 25 (.mov 28 (.tmp 27)),
 .guard 28 true [.op 26 (.faddr 29 3 (.tmp 1)),
 .op 27 (.load 30 false 1 (.tmp 29)),
 .op 28 (.bin 31 .leq .plain (.tmp 30) (.const (.int .i64 3)))] [] [31],
 .op 29 (.pick 32 (.tmp 28) (.tmp 31) (.const (.bool false))),
 .op 30 (.mov 33 (.tmp 32)),
 .guard 33 true [.op 31 (.faddr 34 4 (.tmp 1)),
 .op 32 (.load 35 false 1 (.tmp 34)),
 .op 33 (.bin 36 .geq .plain (.tmp 35) (.const (.int .i64 1)))] [] [36],
 .op 34 (.pick 37 (.tmp 33) (.tmp 36) (.const (.bool false))),
 .op 35 (.mov 38 (.tmp 37)),
 .guard 38 true [.op 36 (.faddr 39 4 (.tmp 1)),
 .op 37 (.load 40 false 1 (.tmp 39)),
 .op 38 (.bin 41 .leq .plain (.tmp 40) (.const (.int .i64 1048576)))] [] [41],
 .op 39 (.pick 42 (.tmp 38) (.tmp 41) (.const (.bool false))),
 .op 40 (.mov 43 (.tmp 42)),
 .guard 43 true [.op 41 (.faddr 44 5 (.tmp 1)),
 .op 42 (.load 45 true 3 (.tmp 44)),
 .op 43 (.call 46 65 [.tmp 45])] [] [46],
 .op 44 (.pick 47 (.tmp 43) (.tmp 46) (.const (.bool false))),
 .op 45 (.mov 2 (.tmp 47))] [])
 .ret)),
 [.tmp 2]⟩
theorem ok36 : funcOk Tryz.prog (drawOk Tryz.prog) Tryz.f36 A36 = true := by kernel_rfl
noncomputable def S36 (call : Go.Fw.Call) (a0 : AVal) (h : Heap) : Option J :=
 (AVal.cells? a0).bind fun c1 =>
 (rdL c1 0 1).bind fun c2 =>
 (fromCells false c2).bind fun v3 =>
 (call 64 [v3] h).bind fun r4 =>
 (guardV r4.1 true
 ((rdL c1 1 1).bind fun c5 =>
 (fromCells false c5).bind fun v6 =>
 (call 64 [v6] r4.2).bind fun r7 =>
 some (0, [r7.1], r7.2))
 (some (0, [skipV], r4.2))).bind fun g8 =>
 (aPick r4.1 (g8.2.1.getD 0 .undef) (.bool false)).bind fun v9 =>
 (guardV v9 true
 ((rdL c1 2 1).bind fun c10 =>
 (fromCells false c10).bind fun v11 =>
 (aBin .eql .plain v11 (.int .i64 1)).bind fun v12 =>
 (guardV v12 false
 ((rdL c1 2 1).bind fun c13 =>
 (fromCells false c13).bind fun v14 =>
 (aBin .eql .plain v14 (.int .i64 2)).bind fun v15 =>
 some (0, [v15], g8.2.2))
 (some (0, [skipV], g8.2.2))).bind fun g16 =>
 (aPick v12 (.bool true) (g16.2.1.getD 0 .undef)).bind fun v17 =>
 some (0, [v17], g16.2.2))
 (some (0, [skipV], g8.2.2))).bind fun g18 =>
 (aPick v9 (g18.2.1.getD 0 .undef) (.bool false)).bind fun v19 =>
 (guardV v19 true
 ((rdL c1 3 1).bind fun c20 =>
 (fromCells false c20).bind fun v21 =>
 (aBin .geq .plain v21 (.int .i64 0)).bind fun v22 =>
 some (0, [v22], g18.2.2))
 (some (0, [skipV], g18.2.2))).bind fun g23 =>
 (aPick v19 (g23.2.1.getD 0 .undef) (.bool false)).bind fun v24 =>
 (guardV v24 true
 ((rdL c1 3 1).bind fun c25 =>
 (fromCells false c25).bind fun v26 =>
 (aBin .leq .plain v26 (.int .i64 3)).bind fun v27 =>
 some (0, [v27], g23.2.2))
 (some (0, [skipV], g23.2.2))).bind fun g28 =>
 (aPick v24 (g28.2.1.getD 0 .undef) (.bool false)).bind fun v29 =>
 (guardV v29 true
 ((rdL c1 4 1).bind fun c30 =>
 (fromCells false c30).bind fun v31 =>
 (aBin .geq .plain v31 (.int .i64 1)).bind fun v32 =>
 some (0, [v32], g28.2.2))
 (some (0, [skipV], g28.2.2))).bind fun g33 =>
 (aPick v29 (g33.2.1.getD 0 .undef) (.bool false)).bind fun v34 =>
 (guardV v34 true
 ((rdL c1 4 1).bind fun c35 =>
 (fromCells false c35).bind fun v36 =>
 (aBin .leq .plain v36 (.int .i64 1048576)).bind fun v37 =>
 some (0, [v37], g33.2.2))
 (some (0, [skipV], g33.2.2))).bind fun g38 =>
 (aPick v34 (g38.2.1.getD 0 .undef) (.bool false)).bind fun v39 =>
 (guardV v39 true
 ((rdL c1 5 3).bind fun c40 =>
 (fromCells true c40).bind fun v41 =>
 (call 65 [v41] g38.2.2).bind fun r42 =>
 some (0, [r42.1], r42.2))
 (some (0, [skipV], g38.2.2))).bind fun g43 =>
 (aPick v39 (g43.2.1.getD 0 .undef) (.bool false)).bind fun v44 =>
 some (0, [v44], g43.2.2)
theorem run36 (call : Go.Fw.Call) (a0 : AVal) (h : Heap) : runFn call (.code A36) [a0] h = (S36 call a0 h).bind ansOf := by kernel_rfl
noncomputable def A37 : AFunc := ⟨2, (.seq (.region [.op 0 (.mov 4 (.const (.nilIface)))] [])
 (.seq (.seq (.region [.op 0 (.mov 5 (.tmp 1)),
 .op 1 (.bin 6 .eql (.iface true []) (.tmp 5) (.const (.nilIface)))] [])
 (.cond (.tmp 6)
 (.seq (.region [.op 0 (.mov 4 (.const (.nilIface)))] [])
 .ret)
 .skip))
 (.seq (.region [.op 0 (.mov 7 (.tmp 0)),
 .op 1 (.mov 8 (.tmp 1)),
 .op 2 (.build 9 [.str [], .nilIface] [(0, 1, .tmp 7), (1, 1, .tmp 8)]),
 .op 3 (.box 10 false (.tmp 9)),
 .op 4 (.mkIface 11 98 (.tmp 10)),
 .op 5 (.mov 4 (.tmp 11))] [])
 .ret))),
 [.tmp 4]⟩
theorem ok37 : funcOk Tryz.prog (drawOk Tryz.prog) Tryz.f37 A37 = true := by kernel_rfl
noncomputable def S37 (call : Go.Fw.Call) (a0 a1 : AVal) (h : Heap) : Option J :=
 (aBin .eql (.iface true []) a1 (.nilIface)).bind fun v1 =>
 condV v1
 (some (0, [(.nilIface)], h))
 ((aFill [.str [], .nilIface] [(0, 1, a0), (1, 1, a1)]).bind fun c2 =>
 (AVal.cells? (.agg c2)).bind fun c3 =>
 some (0, [(.iface 98 (.ptr h.next 0))], (h.alloc c3)))
theorem run37 (call : Go.Fw.Call) (a0 a1 : AVal) (h : Heap) : runFn call (.code A37) [a0, a1] h = (S37 call a0 a1 h).bind ansOf := by kernel_rfl
noncomputable def A38 : AFunc := ⟨2, (.seq (.region [.op 0 (.mov 4 (.const (.nilSlice)))] [])
 (.seq (.region [.op 0 (.mov 5 (.tmp 0)),
 .op 1 (.call 6 66 [.tmp 5]),
 .op 2 (.mov 7 (.tmp 1)),
 .op 3 (.conv 8 (.toInt .u8) (.tmp 7)),
 .op 4 (.buildSl 9 [.int .u8 0] 1 1 [(0, .tmp 8)]),
 .op 5 (.append 10 1 1 [.int .u8 0] false (.tmp 6) (.tmp 9)),
 .op 6 (.mov 4 (.tmp 10))] [])
 .ret)),
 [.tmp 4]⟩
theorem ok38 : funcOk Tryz.prog (drawOk Tryz.prog) Tryz.f38 A38 = true := by kernel_rfl
noncomputable def S38 (call : Go.Fw.Call) (a0 a1 : AVal) (h : Heap) : Option J :=
 (call 66 [a0] h).bind fun r1 =>
 (aConv (.toInt .u8) a1 r1.2).bind fun r2 =>
 (aFill (reps [.int .u8 0] 1) [(0, 1, r2.1)]).bind fun c3 =>
 (aAppend 1 1 [.int .u8 0] false r1.1 (.slice r2.2.next 0 1 1 1 true) (r2.2.alloc c3)).bind fun r4 =>
 some (0, [r4.1], r4.2)
theorem run38 (call : Go.Fw.Call) (a0 a1 : AVal) (h : Heap) : runFn call (.code A38) [a0, a1] h = (S38 call a0 a1 h).bind ansOf := by kernel_rfl
noncomputable def A39 : AFunc := ⟨2, (.seq (.region [.op 0 (.box 3 true (.tmp 1)),
 .op 1 (.mov 4 (.const (.nilSlice)))] [])
 (.seq (.region [.op 0 (.mov 5 (.tmp 0)),
 .op 1 (.faddr 6 0 (.tmp 3)),
 .op 2 (.load 7 false 1 (.tmp 6)),
 .op 3 (.call 8 67 [.tmp 5, .tmp 7]),
 .op 4 (.faddr 9 1 (.tmp 3)),
 .op 5 (.load 10 false 1 (.tmp 9)),
 .op 6 (.call 11 67 [.tmp 8, .tmp 10]),
 .op 7 (.mov 4 (.tmp 11))] [(5, 3)])
 .ret)),
 [.tmp 4]⟩
theorem ok39 : funcOk Tryz.prog (drawOk Tryz.prog) Tryz.f39 A39 = true := by kernel_rfl
noncomputable def S39 (call : Go.Fw.Call) (a0 a1 : AVal) (h : Heap) : Option J :=
 (AVal.cells? a1).bind fun c1 =>
 (rdL c1 0 1).bind fun c2 =>
 (fromCells false c2).bind fun v3 =>
 (call 67 [a0, v3] h).bind fun r4 =>
 (rdL c1 1 1).bind fun c5 =>
 (fromCells false c5).bind fun v6 =>
 (call 67 [r4.1, v6] r4.2).bind fun r7 =>
 bif checkPairs [(5, some (.lrd 3 (1) 1)), (3, some (.ef [(3, c1)] h [(3, c1)] r4.2))] [(5, 3)] then some (0, [r7.1], r7.2) else none
theorem run39 (call : Go.Fw.Call) (a0 a1 : AVal) (h : Heap) : runFn call (.code A39) [a0, a1] h = (S39 call a0 a1 h).bind ansOf := by kernel_rfl
noncomputable def A40 : AFunc := ⟨2, (.seq (.region [.op 0 (.mov 4 (.const (.nilSlice)))] [])
 (.seq (.region [.op 0 (.mov 7 (.tmp 0)),
 .op 1 (.call 8 66 [.tmp 7]),
 .op 2 (.mov 5 (.tmp 8))] [])
 (.seq (.seq (.region [.op 0 (.mov 6 (.const (.int .i64 7)))] [])
 (.block 0 (.loop ⟨[1, 5, 6], []⟩ [((.exit 0), ⟨[5], []⟩)]
 (.seq (.seq (.region [.op 0 (.mov 9 (.tmp 6)),
 .op 1 (.bin 10 .geq .plain (.tmp 9) (.const (.int .i64 0)))] [])
 (.cond (.tmp 10)
 .skip
 (.exit 0)))
 (.seq (.block 1 (.region [.op 0 (.mov 13 (.tmp 5)),
 .op 1 (.mov 14 (.tmp 1)),
 .op 2 (.mov 15 (.tmp 6)),
 .op 3 (.bin 16 .mul .plain (.const (.int .i64 8)) (.tmp 15)),
 .op 4 (.bin 17 .shr .plain (.tmp 14) (.tmp 16)),
 .op 5 (.conv 18 (.toInt .u8) (.tmp 17)),
 .op 6 (.buildSl 19 [.int .u8 0] 1 1 [(0, .tmp 18)]),
 .op 7 (.append 20 1 1 [.int .u8 0] false (.tmp 13) (.tmp 19)),
 .op 8 (.mov 5 (.tmp 20))] []))
 (.region [.op 0 (.mov 11 (.tmp 6)),
 .op 1 (.bin 12 .sub .plain (.tmp 11) (.const (.int .i64 1))),
 .op 2 (.mov 6 (.tmp 12))] []))))))
 (.seq (.region [.op 0 (.mov 21 (.tmp 5)),
 .op 1 (.call 22 44 [.tmp 21]),
 .op 2 (.mov 4 (.tmp 22))] [])
 .ret)))),
 [.tmp 4]⟩
theorem ok40 : funcOk Tryz.prog (drawOk Tryz.prog) Tryz.f40 A40 = true := by kernel_rfl
noncomputable def L40_0 (call : Go.Fw.Call) (xs : List AVal) (h : Heap) : Option J :=
 (aBin .geq .plain (xs.getD 2 .undef) (.int .i64 0)).bind fun v2 =>
 condV v2
 ((aBin .mul .plain (.int .i64 8) (xs.getD 2 .undef)).bind fun v3 =>
 (aBin .shr .plain (xs.getD 0 .undef) v3).bind fun v4 =>
 (aConv (.toInt .u8) v4 h).bind fun r5 =>
 (aFill (reps [.int .u8 0] 1) [(0, 1, r5.1)]).bind fun c6 =>
 (aAppend 1 1 [.int .u8 0] false (xs.getD 1 .undef) (.slice r5.2.next 0 1 1 1 true) (r5.2.alloc c6)).bind fun r7 =>
 (aBin .sub .plain (xs.getD 2 .undef) (.int .i64 1)).bind fun v8 =>
 some (0, [(xs.getD 0 .undef), r7.1, v8], r7.2))
 (some (1, [(xs.getD 1 .undef)], h))
noncomputable def S40 (call : Go.Fw.Call) (a0 a1 : AVal) (h : Heap) : Option J :=
 (call 66 [a0] h).bind fun r1 =>
 (loop (L40_0 call) [a1, r1.1, (.int .i64 7)] r1.2).bind fun x9 =>
 bif Nat.beq x9.1 1 then (call 44 [(x9.2.1.getD 0 .undef)] x9.2.2).bind fun r10 =>
 some (0, [r10.1], r10.2) else
 none
theorem run40 (call : Go.Fw.Call) (a0 a1 : AVal) (h : Heap) : runFn call (.code A40) [a0, a1] h = (S40 call a0 a1 h).bind ansOf := by kernel_rfl
noncomputable def A41 : AFunc := ⟨1, (.seq (.region [.op 0 (.mov 2 (.const (.int .i64 0)))] [])
 (.seq (.seq (.region [.op 0 (.mov 3 (.tmp 0))] [])
 (.cond (.tmp 3)
 (.seq (.region [.op 0 (.mov 2 (.const (.int .i64 1)))] [])
 .ret)
 .skip))
 (.seq (.region [.op 0 (.mov 2 (.const (.int .i64 0)))] [])
 .ret))),
 [.tmp 2]⟩
theorem ok41 : funcOk Tryz.prog (drawOk Tryz.prog) Tryz.f41 A41 = true := by kernel_rfl
noncomputable def S41 (call : Go.Fw.Call) (a0 : AVal) (h : Heap) : Option J :=
 condV a0
 (some (0, [(.int .i64 1)], h))
 (some (0, [(.int .i64 0)], h))
theorem run41 (call : Go.Fw.Call) (a0 : AVal) (h : Heap) : runFn call (.code A41) [a0] h = (S41 call a0 h).bind ansOf := by kernel_rfl
noncomputable def A42 : AFunc := ⟨2, (.seq (.region [.op 0 (.mov 4 (.const (.nilSlice)))] [])
 (.seq (.region [.op 0 (.mov 7 (.tmp 0)),
 .op 1 (.mov 8 (.tmp 1)),
 .op 2 (.len 9 false (.tmp 8)),
 .op 3 (.call 10 38 [.tmp 7, .tmp 9]),
 .op 4 (.mov 0 (.tmp 10))] [])
 (.seq (.seq (.region [.op 0 (.mov 11 (.tmp 1)),
 .op 1 (.len 12 false (.tmp 11)),
 .op 2 (.mov 13 (.const (.int .i64 0)))] [])
 (.block 0 (.loop ⟨[0, 11, 12, 13], []⟩ [((.exit 0), ⟨[0], []⟩)]
 (.seq (.region [.op 0 (.bin 14 .lss .plain (.tmp 13) (.tmp 12))] [])
 (.seq (.cond (.tmp 14)
 .skip
 (.exit 0))
 (.seq (.block 1 (.seq (.region [.op 0 (.iaddr 15 none 9 (.tmp 11) (.tmp 13)),
 .op 1 (.load 16 true 9 (.tmp 15)),
 .op 2 (.alloc 6 true cz),
 .op 3 (.store true 9 (.tmp 6) (.tmp 16))] [])
 (.seq (.region [.op 0 (.mov 17 (.tmp 0)),
 .op 1 (.faddr 18 0 (.tmp 6)),
 .op 2 (.load 19 true 2 (.tmp 18)),
 .op 3 (.call 20 39 [.tmp 17, .tmp 19]),
 .op 4 (.faddr 21 2 (.tmp 6)),
 .op 5 (.load 22 false 1 (.tmp 21)),
 .op 6 (.call 23 38 [.tmp 20, .tmp 22]),
 .op 7 (.faddr 24 3 (.tmp 6)),
 .op 8 (.load 25 false 1 (.tmp 24)),
 .op 9 (.call 26 38 [.tmp 23, .tmp 25]),
 .op 10 (.mov 0 (.tmp 26))] [(5, 3), (8, 3), (8, 6)])
 (.seq (.region [.op 0 (.mov 27 (.tmp 0)),
 .op 1 (.faddr 28 4 (.tmp 6)),
 .op 2 (.load 29 false 1 (.tmp 28)),
 .op 3 (.call 30 40 [.tmp 27, .tmp 29]),
 .op 4 (.faddr 31 5 (.tmp 6)),
 .op 5 (.faddr 32 0 (.tmp 31)),
 .op 6 (.load 33 false 1 (.tmp 32)),
 .op 7 (.call 34 40 [.tmp 30, .tmp 33]),
 .op 8 (.faddr 35 5 (.tmp 6)),
 .op 9 (.faddr 36 1 (.tmp 35)),
 .op 10 (.load 37 false 1 (.tmp 36)),
 .op 11 (.call 38 38 [.tmp 34, .tmp 37]),
 .op 12 (.mov 0 (.tmp 38))] [(6, 3), (10, 3), (10, 7)])
 (.region [.op 0 (.mov 39 (.tmp 0)),
 .op 1 (.faddr 40 5 (.tmp 6)),
 .op 2 (.faddr 41 2 (.tmp 40)),
 .op 3 (.load 42 false 1 (.tmp 41)),
 .op 4 (.call 43 40 [.tmp 39, .tmp 42]),
 .op 5 (.faddr 44 8 (.tmp 6)),
 .op 6 (.load 45 false 1 (.tmp 44)),
 .op 7 (.call 46 41 [.tmp 45]),
 .op 8 (.call 47 38 [.tmp 43, .tmp 46]),
 .op 9 (.mov 0 (.tmp 47))] [(6, 4)])))))
 (.region [.op 0 (.bin 48 .add .plain (.tmp 13) (.const (.int .i64 1))),
 .op 1 (.mov 13 (.tmp 48))] [])))))))
 (.seq (.region [.op 0 (.mov 49 (.tmp 0)),
 .op 1 (.mov 4 (.tmp 49))] [])
 .ret)))),
 [.tmp 4]⟩
theorem ok42 : funcOk Tryz.prog (drawOk Tryz.prog) Tryz.f42 A42 = true := by kernel_rfl
noncomputable def L42_0 (call : Go.Fw.Call) (xs : List AVal) (h : Heap) : Option J :=
 (aBin .lss .plain (xs.getD 3 .undef) (xs.getD 2 .undef)).bind fun v4 =>
 condV v4
 ((aIaddr 9 (xs.getD 1 .undef) (xs.getD 3 .undef)).bind fun v5 =>
 (aLoad h 9 v5).bind fun c6 =>
 (fromCells true c6).bind fun v7 =>
 (aCells 9 v7).bind fun c8 =>
 bif Nat.ble ((0) + 9) (List.length (α := AVal) [.str [], .str [], .int .i64 0, .int .i64 0, .int .i64 0, .int .i64 0, .int .i64 0, .int .i64 0, .bool false]) then (rdL (splice [.str [], .str [], .int .i64 0, .int .i64 0, .int .i64 0, .int .i64 0, .int .i64 0, .int .i64 0, .bool false] (0) c8) 0 2).bind fun c9 =>
 (fromCells true c9).bind fun v10 =>
 (call 39 [(xs.getD 0 .undef), v10] h).bind fun r11 =>
 (rdL (splice [.str [], .str [], .int .i64 0, .int .i64 0, .int .i64 0, .int .i64 0, .int .i64 0, .int .i64 0, .bool false] (0) c8) 2 1).bind fun c12 =>
 (fromCells false c12).bind fun v13 =>
 (call 38 [r11.1, v13] r11.2).bind fun r14 =>
 (rdL (splice [.str [], .str [], .int .i64 0, .int .i64 0, .int .i64 0, .int .i64 0, .int .i64 0, .int .i64 0, .bool false] (0) c8) 3 1).bind fun c15 =>
 (fromCells false c15).bind fun v16 =>
 (call 38 [r14.1, v16] r14.2).bind fun r17 =>
 bif checkPairs [(8, some (.lrd 6 (3) 1)), (6, some (.ef [(6, (splice [.str [], .str [], .int .i64 0, .int .i64 0, .int .i64 0, .int .i64 0, .int .i64 0, .int .i64 0, .bool false] (0) c8))] r11.2 [(6, (splice [.str [], .str [], .int .i64 0, .int .i64 0, .int .i64 0, .int .i64 0, .int .i64 0, .int .i64 0, .bool false] (0) c8))] r14.2)), (5, some (.lrd 6 (2) 1)), (3, some (.ef [(6, (splice [.str [], .str [], .int .i64 0, .int .i64 0, .int .i64 0, .int .i64 0, .int .i64 0, .int .i64 0, .bool false] (0) c8))] h [(6, (splice [.str [], .str [], .int .i64 0, .int .i64 0, .int .i64 0, .int .i64 0, .int .i64 0, .int .i64 0, .bool false] (0) c8))] r11.2))] [(5, 3), (8, 3), (8, 6)] then (rdL (splice [.str [], .str [], .int .i64 0, .int .i64 0, .int .i64 0, .int .i64 0, .int .i64 0, .int .i64 0, .bool false] (0) c8) 4 1).bind fun c18 =>
 (fromCells false c18).bind fun v19 =>
 (call 40 [r17.1, v19] r17.2).bind fun r20 =>
 (rdL (splice [.str [], .str [], .int .i64 0, .int .i64 0, .int .i64 0, .int .i64 0, .int .i64 0, .int .i64 0, .bool false] (0) c8) 5 1).bind fun c21 =>
 (fromCells false c21).bind fun v22 =>
 (call 40 [r20.1, v22] r20.2).bind fun r23 =>
 (rdL (splice [.str [], .str [], .int .i64 0, .int .i64 0, .int .i64 0, .int .i64 0, .int .i64 0, .int .i64 0, .bool false] (0) c8) 6 1).bind fun c24 =>
 (fromCells false c24).bind fun v25 =>
 (call 38 [r23.1, v25] r23.2).bind fun r26 =>
 bif checkPairs [(10, some (.lrd 6 (6) 1)), (7, some (.ef [(6, (splice [.str [], .str [], .int .i64 0, .int .i64 0, .int .i64 0, .int .i64 0, .int .i64 0, .int .i64 0, .bool false] (0) c8))] r20.2 [(6, (splice [.str [], .str [], .int .i64 0, .int .i64 0, .int .i64 0, .int .i64 0, .int .i64 0, .int .i64 0, .bool false] (0) c8))] r23.2)), (6, some (.lrd 6 (5) 1)), (3, some (.ef [(6, (splice [.str [], .str [], .int .i64 0, .int .i64 0, .int .i64 0, .int .i64 0, .int .i64 0, .int .i64 0, .bool false] (0) c8))] r17.2 [(6, (splice [.str [], .str [], .int .i64 0, .int .i64 0, .int .i64 0, .int .i64 0, .int .i64 0, .int .i64 0, .bool false] (0) c8))] r20.2))] [(6, 3), (10, 3), (10, 7)] then (rdL (splice [.str [], .str [], .int .i64 0, .int .i64 0, .int .i64 0, .int .i64 0, .int .i64 0, .int .i64 0, .bool false] (0) c8) 7 1).bind fun c27 =>
 (fromCells false c27).bind fun v28 =>
 (call 40 [r26.1, v28] r26.2).bind fun r29 =>
 (rdL (splice [.str [], .str [], .int .i64 0, .int .i64 0, .int .i64 0, .int .i64 0, .int .i64 0, .int .i64 0, .bool false] (0) c8) 8 1).bind fun c30 =>
 (fromCells false c30).bind fun v31 =>
 (call 41 [v31] r29.2).bind fun r32 =>
 (call 38 [r29.1, r32.1] r32.2).bind fun r33 =>
 bif checkPairs [(6, some (.lrd 6 (8) 1)), (4, some (.ef [(6, (splice [.str [], .str [], .int .i64 0, .int .i64 0, .int .i64 0, .int .i64 0, .int .i64 0, .int .i64 0, .bool false] (0) c8))] r26.2 [(6, (splice [.str [], .str [], .int .i64 0, .int .i64 0, .int .i64 0, .int .i64 0, .int .i64 0, .int .i64 0, .bool false] (0) c8))] r29.2))] [(6, 4)] then (aBin .add .plain (xs.getD 3 .undef) (.int .i64 1)).bind fun v34 =>
 some (0, [r33.1, (xs.getD 1 .undef), (xs.getD 2 .undef), v34], r33.2) else none else none else none else none)
 (some (1, [(xs.getD 0 .undef)], h))
noncomputable def S42 (call : Go.Fw.Call) (a0 a1 : AVal) (h : Heap) : Option J :=
 (aLen false a1).bind fun v1 =>
 (call 38 [a0, v1] h).bind fun r2 =>
 (aLen false a1).bind fun v3 =>
 (loop (L42_0 call) [r2.1, a1, v3, (.int .i64 0)] r2.2).bind fun x35 =>
 bif Nat.beq x35.1 1 then some (0, [(x35.2.1.getD 0 .undef)], x35.2.2) else
 none
theorem run42 (call : Go.Fw.Call) (a0 a1 : AVal) (h : Heap) : runFn call (.code A42) [a0, a1] h = (S42 call a0 a1 h).bind ansOf := by kernel_rfl
noncomputable def A43 : AFunc := ⟨2, (.seq (.region [.op 0 (.mov 4 (.const (.nilSlice)))] [])
 (.seq (.region [.op 0 (.mov 7 (.tmp 0)),
 .op 1 (.mov 8 (.tmp 1)),
 .op 2 (.len 9 false (.tmp 8)),
 .op 3 (.call 10 38 [.tmp 7, .tmp 9]),
 .op 4 (.mov 0 (.tmp 10))] [])
 (.seq (.seq (.region [.op 0 (.mov 11 (.tmp 1)),
 .op 1 (.len 12 false (.tmp 11)),
 .op 2 (.mov 13 (.const (.int .i64 0)))] [])
 (.block 0 (.loop ⟨[0, 11, 12, 13], []⟩ [((.exit 0), ⟨[0], []⟩)]
 (.seq (.region [.op 0 (.bin 14 .lss .plain (.tmp 13) (.tmp 12))] [])
 (.seq (.cond (.tmp 14)
 .skip
 (.exit 0))
 (.seq (.block 1 (.seq (.region [.op 0 (.iaddr 15 none 2 (.tmp 11) (.tmp 13)),
 .op 1 (.load 16 true 2 (.tmp 15)),
 .op 2 (.alloc 6 true [.str [], .str []]),
 .op 3 (.store true 2 (.tmp 6) (.tmp 16))] [])
 (.region [.op 0 (.mov 17 (.tmp 0)),
 .op 1 (.load 18 true 2 (.tmp 6)),
 .op 2 (.call 19 39 [.tmp 17, .tmp 18]),
 .op 3 (.mov 0 (.tmp 19))] [])))
 (.region [.op 0 (.bin 20 .add .plain (.tmp 13) (.const (.int .i64 1))),
 .op 1 (.mov 13 (.tmp 20))] [])))))))
 (.seq (.region [.op 0 (.mov 21 (.tmp 0)),
 .op 1 (.mov 4 (.tmp 21))] [])
 .ret)))),
 [.tmp 4]⟩
theorem ok43 : funcOk Tryz.prog (drawOk Tryz.prog) Tryz.f43 A43 = true := by kernel_rfl
noncomputable def L43_0 (call : Go.Fw.Call) (xs : List AVal) (h : Heap) : Option J :=
 (aBin .lss .plain (xs.getD 3 .undef) (xs.getD 2 .undef)).bind fun v4 =>
 condV v4
 ((aIaddr 2 (xs.getD 1 .undef) (xs.getD 3 .undef)).bind fun v5 =>
 (aLoad h 2 v5).bind fun c6 =>
 (fromCells true c6).bind fun v7 =>
 (aCells 2 v7).bind fun c8 =>
 bif Nat.ble ((0) + 2) (List.length (α := AVal) [.str [], .str []]) then (rdL (splice [.str [], .str []] (0) c8) 0 2).bind fun c9 =>
 (fromCells true c9).bind fun v10 =>
 (call 39 [(xs.getD 0 .undef), v10] h).bind fun r11 =>
 (aBin .add .plain (xs.getD 3 .undef) (.int .i64 1)).bind fun v12 =>
 some (0, [r11.1, (xs.getD 1 .undef), (xs.getD 2 .undef), v12], r11.2) else none)
 (some (1, [(xs.getD 0 .undef)], h))
noncomputable def S43 (call : Go.Fw.Call) (a0 a1 : AVal) (h : Heap) : Option J :=
 (aLen false a1).bind fun v1 =>
 (call 38 [a0, v1] h).bind fun r2 =>
 (aLen false a1).bind fun v3 =>
 (loop (L43_0 call) [r2.1, a1, v3, (.int .i64 0)] r2.2).bind fun x13 =>
 bif Nat.beq x13.1 1 then some (0, [(x13.2.1.getD 0 .undef)], x13.2.2) else
 none
theorem run43 (call : Go.Fw.Call) (a0 a1 : AVal) (h : Heap) : runFn call (.code A43) [a0, a1] h = (S43 call a0 a1 h).bind ansOf := by kernel_rfl
noncomputable def A44 : AFunc := ⟨1, (.seq (.region [.op 0 (.mov 2 (.const (.nilSlice)))] [])
 (.seq (.region [.op 0 (.mov 3 (.tmp 0)),
 .op 1 (.mov 4 (.tmp 0)),
 .op 2 (.len 5 false (.tmp 4)),
 .op 3 (.mov 6 (.tmp 0)),
 .op 4 (.len 7 false (.tmp 6)),
 .op 5 (.slice 8 (.sl 1) (.tmp 3) none (some (.tmp 5)) (some (.tmp 7))),
 .op 6 (.mov 2 (.tmp 8))] [])
 .ret)),
 [.tmp 2]⟩
theorem ok44 : funcOk Tryz.prog (drawOk Tryz.prog) Tryz.f44 A44 = true := by kernel_rfl
noncomputable def S44 (call : Go.Fw.Call) (a0 : AVal) (h : Heap) : Option J :=
 (aLen false a0).bind fun v1 =>
 (aLen false a0).bind fun v2 =>
 (aSliceSl 1 a0 none (some v1) (some v2)).bind fun v3 =>
 some (0, [v3], h)
theorem run44 (call : Go.Fw.Call) (a0 : AVal) (h : Heap) : runFn call (.code A44) [a0] h = (S44 call a0 h).bind ansOf := by kernel_rfl
noncomputable def A45 : AFunc := ⟨1, (.seq (.region [.op 0 (.mov 2 (.const (.int .i64 0)))] [])
 (.seq (.seq (.region [.op 0 (.mov 4 (.tmp 0)),
 .op 1 (.bin 5 .eql (.iface true []) (.tmp 4) (.const (.nilIface)))] [])
 (.cond (.tmp 5)
 (.seq (.region [.op 0 (.mov 2 (.const (.int .i64 0)))] [])
 .ret)
 .skip))
 (.seq (.region [.op 0 (.alloc 3 false [.int .i64 0])] [])
 (.seq (.seq (.region [.op 0 (.mov 6 (.tmp 0)),
 .op 1 (.mkIface 7 102 (.tmp 3)),
 .op 2 (.call 8 68 [.tmp 6, .tmp 7])] [])
 (.cond (.tmp 8)
 (.seq (.region [.op 0 (.load 9 false 1 (.tmp 3)),
 .op 1 (.mov 2 (.tmp 9))] [])
 .ret)
 .skip))
 (.seq (.region [.op 0 (.mov 2 (.const (.int .i64 14)))] [])
 .ret))))),
 [.tmp 2]⟩
theorem ok45 : funcOk Tryz.prog (drawOk Tryz.prog) Tryz.f45 A45 = true := by kernel_rfl
noncomputable def S45 (call : Go.Fw.Call) (a0 : AVal) (h : Heap) : Option J :=
 (aBin .eql (.iface true []) a0 (.nilIface)).bind fun v1 =>
 condV v1
 (some (0, [(.int .i64 0)], h))
 ((call 68 [a0, (.iface 102 (.ptr h.next 0))] (h.alloc [.int .i64 0])).bind fun r2 =>
 condV r2.1
 ((aLoad r2.2 1 (.ptr h.next 0)).bind fun c3 =>
 (fromCells false c3).bind fun v4 =>
 some (0, [v4], r2.2))
 (some (0, [(.int .i64 14)], r2.2)))
theorem run45 (call : Go.Fw.Call) (a0 : AVal) (h : Heap) : runFn call (.code A45) [a0] h = (S45 call a0 h).bind ansOf := by kernel_rfl
noncomputable def A46 : AFunc := ⟨2, (.seq (.region [.op 0 (.mov 4 (.const (.bool false)))] [])
 (.seq (.seq (.region [.op 0 (.mov 6 (.tmp 0)),
 .op 1 (.len 7 false (.tmp 6)),
 .op 2 (.mov 8 (.tmp 1)),
 .op 3 (.len 9 false (.tmp 8)),
 .op 4 (.bin 10 .neq .plain (.tmp 7) (.tmp 9))] [])
 (.cond (.tmp 10)
 (.seq (.region [.op 0 (.mov 4 (.const (.bool false)))] [])
 .ret)
 .skip))
 (.seq (.seq (.region [.op 0 (.mov 5 (.const (.int .i64 0)))] [])
 (.block 0 (.loop ⟨[0, 1, 5], []⟩ [((.exit 0), ⟨[], []⟩), (.ret, ⟨[4], []⟩)]
 (.seq (.seq (.region [.op 0 (.mov 11 (.tmp 5)),
 .op 1 (.mov 12 (.tmp 0)),
 .op 2 (.len 13 false (.tmp 12)),
 .op 3 (.bin 14 .lss .plain (.tmp 11) (.tmp 13))] [])
 (.cond (.tmp 14)
 .skip
 (.exit 0)))
 (.seq (.block 1 (.seq (.region [.op 0 (.mov 17 (.tmp 0)),
 .op 1 (.mov 18 (.tmp 5)),
 .op 2 (.iaddr 19 none 1 (.tmp 17) (.tmp 18)),
 .op 3 (.load 20 false 1 (.tmp 19)),
 .op 4 (.mov 21 (.tmp 1)),
 .op 5 (.mov 22 (.tmp 5)),
 .op 6 (.iaddr 23 none 1 (.tmp 21) (.tmp 22)),
 .op 7 (.load 24 false 1 (.tmp 23)),
 .op 8 (.bin 25 .neq .plain (.tmp 20) (.tmp 24))] [])
 (.cond (.tmp 25)
 (.seq (.region [.op 0 (.mov 4 (.const (.bool false)))] [])
 .ret)
 .skip)))
 (.region [.op 0 (.mov 15 (.tmp 5)),
 .op 1 (.bin 16 .add .plain (.tmp 15) (.const (.int .i64 1))),
 .op 2 (.mov 5 (.tmp 16))] []))))))
 (.seq (.region [.op 0 (.mov 4 (.const (.bool true)))] [])
 .ret)))),
 [.tmp 4]⟩
theorem ok46 : funcOk Tryz.prog (drawOk Tryz.prog) Tryz.f46 A46 = true := by kernel_rfl
noncomputable def L46_0 (call : Go.Fw.Call) (xs : List AVal) (h : Heap) : Option J :=
 (aLen false (xs.getD 0 .undef)).bind fun v4 =>
 (aBin .lss .plain (xs.getD 2 .undef) v4).bind fun v5 =>
 condV v5
 ((aIaddr 1 (xs.getD 0 .undef) (xs.getD 2 .undef)).bind fun v6 =>
 (aLoad h 1 v6).bind fun c7 =>
 (fromCells false c7).bind fun v8 =>
 (aIaddr 1 (xs.getD 1 .undef) (xs.getD 2 .undef)).bind fun v9 =>
 (aLoad h 1 v9).bind fun c10 =>
 (fromCells false c10).bind fun v11 =>
 (aBin .neq .plain v8 v11).bind fun v12 =>
 condV v12
 (some (2, [(.bool false)], h))
 ((aBin .add .plain (xs.getD 2 .undef) (.int .i64 1)).bind fun v13 =>
 some (0, [(xs.getD 0 .undef), (xs.getD 1 .undef), v13], h)))
 (some (1, [], h))
noncomputable def S46 (call : Go.Fw.Call) (a0 a1 : AVal) (h : Heap) : Option J :=
 (aLen false a0).bind fun v1 =>
 (aLen false a1).bind fun v2 =>
 (aBin .neq .plain v1 v2).bind fun v3 =>
 condV v3
 (some (0, [(.bool false)], h))
 ((loop (L46_0 call) [a0, a1, (.int .i64 0)] h).bind fun x14 =>
 bif Nat.beq x14.1 1 then some (0, [(.bool true)], x14.2.2) else
 bif Nat.beq x14.1 2 then some (0, [(x14.2.1.getD 0 .undef)], x14.2.2) else
 none)
theorem run46 (call : Go.Fw.Call) (a0 a1 : AVal) (h : Heap) : runFn call (.code A46) [a0, a1] h = (S46 call a0 a1 h).bind ansOf := by kernel_rfl
noncomputable def A47 : AFunc := ⟨1, (.seq (.region [.op 0 (.mov 2 (.const (.nilSlice)))] [])
 (.seq (.region [.op 0 (.mov 3 (.const (.nilSlice)))] [])
 (.seq (.region [.op 0 (.alloc 4 false [.nilPtr])] [])
 (.seq (.block 0 (.loop ⟨[0, 3, 4], []⟩ [((.exit 0), ⟨[3], []⟩)]
 (.seq (.seq (.region [.op 0 (.mov 5 (.tmp 0)),
 .op 1 (.mkIface 6 103 (.tmp 4)),
 .op 2 (.call 7 68 [.tmp 5, .tmp 6])] [])
 (.cond (.tmp 7)
 .skip
 (.exit 0)))
 (.block 1 (.seq (.region [.op 0 (.mov 8 (.tmp 3)),
 .op 1 (.load 9 false 1 (.tmp 4)),
 .op 2 (.nilchk 10 (.tmp 9)),
 .op 3 (.faddr 11 0 (.tmp 10)),
 .op 4 (.load 12 false 1 (.tmp 11)),
 .op 5 (.buildSl 13 [.str []] 1 1 [(0, .tmp 12)]),
 .op 6 (.append 14 1 16 [.str []] false (.tmp 8) (.tmp 13)),
 .op 7 (.mov 3 (.tmp 14))] [])
 (.region [.op 0 (.load 15 false 1 (.tmp 4)),
 .op 1 (.nilchk 16 (.tmp 15)),
 .op 2 (.faddr 17 1 (.tmp 16)),
 .op 3 (.load 18 false 1 (.tmp 17)),
 .op 4 (.mov 0 (.tmp 18))] []))))))
 (.seq (.region [.op 0 (.mov 19 (.tmp 3)),
 .op 1 (.mov 2 (.tmp 19))] [])
 .ret))))),
 [.tmp 2]⟩
theorem ok47 : funcOk Tryz.prog (drawOk Tryz.prog) Tryz.f47 A47 = true := by kernel_rfl
noncomputable def L47_0 (call : Go.Fw.Call) (xs : List AVal) (h : Heap) : Option J :=
 (call 68 [(xs.getD 0 .undef), (.iface 103 (xs.getD 2 .undef))] h).bind fun r1 =>
 condV r1.1
 ((aLoad r1.2 1 (xs.getD 2 .undef)).bind fun c2 =>
 (fromCells false c2).bind fun v3 =>
 (aNilchk v3).bind fun v4 =>
 (aFaddr 0 v4).bind fun v5 =>
 (aLoad r1.2 1 v5).bind fun c6 =>
 (fromCells false c6).bind fun v7 =>
 (aFill (reps [.str []] 1) [(0, 1, v7)]).bind fun c8 =>
 (aAppend 1 16 [.str []] false (xs.getD 1 .undef) (.slice r1.2.next 0 1 1 1 true) (r1.2.alloc c8)).bind fun r9 =>
 (aLoad r9.2 1 (xs.getD 2 .undef)).bind fun c10 =>
 (fromCells false c10).bind fun v11 =>
 (aNilchk v11).bind fun v12 =>
 (aFaddr 1 v12).bind fun v13 =>
 (aLoad r9.2 1 v13).bind fun c14 =>
 (fromCells false c14).bind fun v15 =>
 some (0, [v15, r9.1, (xs.getD 2 .undef)], r9.2))
 (some (1, [(xs.getD 1 .undef)], r1.2))
noncomputable def S47 (call : Go.Fw.Call) (a0 : AVal) (h : Heap) : Option J :=
 (loop (L47_0 call) [a0, (.nilSlice), (.ptr h.next 0)] (h.alloc [.nilPtr])).bind fun x16 =>
 bif Nat.beq x16.1 1 then some (0, [(x16.2.1.getD 0 .undef)], x16.2.2) else
 none
theorem run47 (call : Go.Fw.Call) (a0 : AVal) (h : Heap) : runFn call (.code A47) [a0] h = (S47 call a0 h).bind ansOf := by kernel_rfl
noncomputable def A48 : AFunc := ⟨2, (.seq (.region [.op 0 (.mov 4 (.const (.nilIface)))] [])
 (.seq (.seq (.region [.op 0 (.mov 5 (.tmp 1)),
 .op 1 (.bin 6 .eql .plain (.tmp 5) (.const (.int .i64 0)))] [])
 (.cond (.tmp 6)
 (.seq (.region [.op 0 (.mov 4 (.const (.nilIface)))] [])
 .ret)
 .skip))
 (.seq (.region [.op 0 (.mov 7 (.tmp 0)),
 .op 1 (.mov 8 (.tmp 1)),
 .op 2 (.mkIface 9 50 (.tmp 8)),
 .op 3 (.build 10 [.str [], .nilIface] [(0, 1, .tmp 7), (1, 1, .tmp 9)]),
 .op 4 (.box 11 false (.tmp 10)),
 .op 5 (.mkIface 12 98 (.tmp 11)),
 .op 6 (.mov 4 (.tmp 12))] [])
 .ret))),
 [.tmp 4]⟩
theorem ok48 : funcOk Tryz.prog (drawOk Tryz.prog) Tryz.f48 A48 = true := by kernel_rfl
noncomputable def S48 (call : Go.Fw.Call) (a0 a1 : AVal) (h : Heap) : Option J :=
 (aBin .eql .plain a1 (.int .i64 0)).bind fun v1 =>
 condV v1
 (some (0, [(.nilIface)], h))
 ((aFill [.str [], .nilIface] [(0, 1, a0), (1, 1, (.iface 50 a1))]).bind fun c2 =>
 (AVal.cells? (.agg c2)).bind fun c3 =>
 some (0, [(.iface 98 (.ptr h.next 0))], (h.alloc c3)))
theorem run48 (call : Go.Fw.Call) (a0 a1 : AVal) (h : Heap) : runFn call (.code A48) [a0, a1] h = (S48 call a0 a1 h).bind ansOf := by kernel_rfl
noncomputable def A49 : AFunc := ⟨1, (.seq (.region [.op 0 (.box 1 true (.tmp 0)),
 .op 1 (.mov 2 (.const (.bool false)))] [])
 (.seq (.seq (.region [.op 0 (.faddr 3 0 (.tmp 1)),
 .op 1 (.load 4 false 1 (.tmp 3))] [])
 (.block 0 (.seq (.region [.op 0 (.bin 6 .eql .plain (.tmp 4) (.const (.int .i64 1))),
 .op 1 (.mov 5 (.tmp 6))] [])
 (.join [(.normal, ⟨[], [1]⟩)] (.cond (.tmp 5)
 (.region [.op 0 (.build 7 [.str [], .str []] []),
 .op 1 (.faddr 8 4 (.tmp 1)),
 .op 2 (.store false 1 (.tmp 8) (.const (.int .i64 0))),
 .op 3 (.faddr 9 1 (.tmp 1)),
 .op 4 (.store false 1 (.tmp 9) (.const (.int .i64 0))),
 .op 5 (.faddr 10 7 (.tmp 1)),
 .op 6 (.store true 2 (.tmp 10) (.tmp 7)),
 .op 7 (.faddr 11 5 (.tmp 1)),
 .op 8 (.store false 1 (.tmp 11) (.const (.int .i64 0))),
 .op 9 (.faddr 12 2 (.tmp 1)),
 .op 10 (.store false 1 (.tmp 12) (.const (.int .i64 0))),
 .op 11 (.faddr 13 6 (.tmp 1)),
 .op 12 (.store false 1 (.tmp 13) (.const (.int .i64 0)))] [])
 (.seq (.region [.op 0 (.bin 15 .eql .plain (.tmp 4) (.const (.int .i64 2))),
 .op 1 (.mov 14 (.tmp 15))] [])
 (.join [(.normal, ⟨[], [1]⟩)] (.cond (.tmp 14)
 (.region [.op 0 (.build 16 [.str [], .str []] []),
 .op 1 (.faddr 17 4 (.tmp 1)),
 .op 2 (.store false 1 (.tmp 17) (.const (.int .i64 0))),
 .op 3 (.faddr 18 1 (.tmp 1)),
 .op 4 (.store false 1 (.tmp 18) (.const (.int .i64 0))),
 .op 5 (.faddr 19 7 (.tmp 1)),
 .op 6 (.store true 2 (.tmp 19) (.tmp 16)),
 .op 7 (.faddr 20 3 (.tmp 1)),
 .op 8 (.store false 1 (.tmp 20) (.const (.int .i64 0))),
 .op 9 (.faddr 21 9 (.tmp 1)),
 .op 10 (.store false 1 (.tmp 21) (.const (.bool false))),
 .op 11 (.faddr 22 6 (.tmp 1)),
 .op 12 (.store false 1 (.tmp 22) (.const (.int .i64 0))),
 .op 13 (.faddr 23 10 (.tmp 1)),
 .op 14 (.store false 1 (.tmp 23) (.const (.int .u32 0))),
 .op 15 (.faddr 24 11 (.tmp 1)),
 .op 16 (.store false 1 (.tmp 24) (.const (.nilSlice)))] [])
 (.seq (.seq (.region [.op 0 (.bin 26 .eql .plain (.tmp 4) (.const (.int .i64 3))),
 .op 1 (.mov 25 (.tmp 26))] [])
 (.join [(.normal, ⟨[4, 25], [1]⟩)] (.cond (.tmp 25)
 .skip
 (.region [.op 0 (.bin 27 .eql .plain (.tmp 4) (.const (.int .i64 4))),
 .op 1 (.mov 25 (.tmp 27))] []))))
 (.join [(.normal, ⟨[], [1]⟩)] (.cond (.tmp 25)
 (.region [.op 0 (.faddr 28 11 (.tmp 1)),
 .op 1 (.store false 1 (.tmp 28) (.const (.nilSlice)))] [])
 (.seq (.region [.op 0 (.bin 30 .eql .plain (.tmp 4) (.const (.int .i64 5))),
 .op 1 (.mov 29 (.tmp 30))] [])
 (.join [(.normal, ⟨[], [1]⟩)] (.cond (.tmp 29)
 (.region [.op 0 (.faddr 31 12 (.tmp 1)),
 .op 1 (.store false 1 (.tmp 31) (.const (.nilSlice)))] [])
 .skip))))))))))))))
 (.seq (.region [.op 0 (.faddr 32 0 (.tmp 1)),
 .op 1 (.store false 1 (.tmp 32) (.const (.int .i64 0)))] [])
 (.seq (.region [.op 0 (.load 33 true 13 (.tmp 1)),
 .op 1 (.build 34 mz []),
 .op 2 (.call 35 14 [.tmp 33, .tmp 34]),
 .op 3 (.mov 2 (.tmp 35))] [])
 .ret)))),
 [.tmp 2]⟩
theorem ok49 : funcOk Tryz.prog (drawOk Tryz.prog) Tryz.f49 A49 = true := by kernel_rfl
noncomputable def S49 (call : Go.Fw.Call) (a0 : AVal) (h : Heap) : Option J :=
 (AVal.cells? a0).bind fun c1 =>
 (rdL c1 0 1).bind fun c2 =>
 (fromCells false c2).bind fun v3 =>
 (aBin .eql .plain v3 (.int .i64 1)).bind fun v4 =>
 (condV v4
 ((aFill [.str [], .str []] []).bind fun c5 =>
 (aCells 1 (.int .i64 0)).bind fun c6 =>
 bif Nat.ble ((4) + 1) (List.length (α := AVal) c1) then (aCells 1 (.int .i64 0)).bind fun c7 =>
 bif Nat.ble ((1) + 1) (List.length (α := AVal) (splice c1 (4) c6)) then (aCells 2 (.agg c5)).bind fun c8 =>
 bif Nat.ble ((7) + 2) (List.length (α := AVal) (splice (splice c1 (4) c6) (1) c7)) then (aCells 1 (.int .i64 0)).bind fun c9 =>
 bif Nat.ble ((5) + 1) (List.length (α := AVal) (splice (splice (splice c1 (4) c6) (1) c7) (7) c8)) then (aCells 1 (.int .i64 0)).bind fun c10 =>
 bif Nat.ble ((2) + 1) (List.length (α := AVal) (splice (splice (splice (splice c1 (4) c6) (1) c7) (7) c8) (5) c9)) then (aCells 1 (.int .i64 0)).bind fun c11 =>
 bif Nat.ble ((6) + 1) (List.length (α := AVal) (splice (splice (splice (splice (splice c1 (4) c6) (1) c7) (7) c8) (5) c9) (2) c10)) then some (0, [(.agg (splice (splice (splice (splice (splice (splice c1 (4) c6) (1) c7) (7) c8) (5) c9) (2) c10) (6) c11))], h) else none else none else none else none else none else none)
 ((aBin .eql .plain v3 (.int .i64 2)).bind fun v12 =>
 (condV v12
 ((aFill [.str [], .str []] []).bind fun c13 =>
 (aCells 1 (.int .i64 0)).bind fun c14 =>
 bif Nat.ble ((4) + 1) (List.length (α := AVal) c1) then (aCells 1 (.int .i64 0)).bind fun c15 =>
 bif Nat.ble ((1) + 1) (List.length (α := AVal) (splice c1 (4) c14)) then (aCells 2 (.agg c13)).bind fun c16 =>
 bif Nat.ble ((7) + 2) (List.length (α := AVal) (splice (splice c1 (4) c14) (1) c15)) then (aCells 1 (.int .i64 0)).bind fun c17 =>
 bif Nat.ble ((3) + 1) (List.length (α := AVal) (splice (splice (splice c1 (4) c14) (1) c15) (7) c16)) then (aCells 1 (.bool false)).bind fun c18 =>
 bif Nat.ble ((9) + 1) (List.length (α := AVal) (splice (splice (splice (splice c1 (4) c14) (1) c15) (7) c16) (3) c17)) then (aCells 1 (.int .i64 0)).bind fun c19 =>
 bif Nat.ble ((6) + 1) (List.length (α := AVal) (splice (splice (splice (splice (splice c1 (4) c14) (1) c15) (7) c16) (3) c17) (9) c18)) then (aCells 1 (.int .u32 0)).bind fun c20 =>
 bif Nat.ble ((10) + 1) (List.length (α := AVal) (splice (splice (splice (splice (splice (splice c1 (4) c14) (1) c15) (7) c16) (3) c17) (9) c18) (6) c19)) then (aCells 1 (.nilSlice)).bind fun c21 =>
 bif Nat.ble ((11) + 1) (List.length (α := AVal) (splice (splice (splice (splice (splice (splice (splice c1 (4) c14) (1) c15) (7) c16) (3) c17) (9) c18) (6) c19) (10) c20)) then some (0, [(.agg (splice (splice (splice (splice (splice (splice (splice (splice c1 (4) c14) (1) c15) (7) c16) (3) c17) (9) c18) (6) c19) (10) c20) (11) c21))], h) else none else none else none else none else none else none else none else none)
 ((aBin .eql .plain v3 (.int .i64 3)).bind fun v22 =>
 (condV v22
 (some (0, [v3, v22, (.agg c1)], h))
 ((aBin .eql .plain v3 (.int .i64 4)).bind fun v23 =>
 some (0, [v3, v23, (.agg c1)], h))).bind fun x24 =>
 bif Nat.beq x24.1 0 then (condV (x24.2.1.getD 1 .undef)
 ((aCells 1 (.nilSlice)).bind fun c25 =>
 bif Nat.ble ((11) + 1) (List.length (α := AVal) (AVal.aggCells (x24.2.1.getD 2 .undef))) then some (0, [(.agg (splice (AVal.aggCells (x24.2.1.getD 2 .undef)) (11) c25))], x24.2.2) else none)
 ((aBin .eql .plain (x24.2.1.getD 0 .undef) (.int .i64 5)).bind fun v26 =>
 (condV v26
 ((aCells 1 (.nilSlice)).bind fun c27 =>
 bif Nat.ble ((12) + 1) (List.length (α := AVal) (AVal.aggCells (x24.2.1.getD 2 .undef))) then some (0, [(.agg (splice (AVal.aggCells (x24.2.1.getD 2 .undef)) (12) c27))], x24.2.2) else none)
 (some (0, [(.agg (AVal.aggCells (x24.2.1.getD 2 .undef)))], x24.2.2))).bind fun x28 =>
 bif Nat.beq x28.1 0 then some (0, [(.agg (AVal.aggCells (x28.2.1.getD 0 .undef)))], x28.2.2) else
 none)).bind fun x29 =>
 bif Nat.beq x29.1 0 then some (0, [(.agg (AVal.aggCells (x29.2.1.getD 0 .undef)))], x29.2.2) else
 none else
 none)).bind fun x30 =>
 bif Nat.beq x30.1 0 then some (0, [(.agg (AVal.aggCells (x30.2.1.getD 0 .undef)))], x30.2.2) else
 none)).bind fun x31 =>
 bif Nat.beq x31.1 0 then (aCells 1 (.int .i64 0)).bind fun c32 =>
 bif Nat.ble ((0) + 1) (List.length (α := AVal) (AVal.aggCells (x31.2.1.getD 0 .undef))) then (rdL (splice (AVal.aggCells (x31.2.1.getD 0 .undef)) (0) c32) 0 13).bind fun c33 =>
 (fromCells true c33).bind fun v34 =>
 (aFill [.int .i64 0, .int .i64 0, .int .i64 0, .int .i64 0, .int .i64 0, .int .i64 0, .int .i64 0, .str [], .str [], .bool false, .int .u32 0, .nilSlice, .nilSlice] []).bind fun c35 =>
 (call 14 [v34, (.agg c35)] x31.2.2).bind fun r36 =>
 some (0, [r36.1], r36.2) else none else
 none
theorem run49 (call : Go.Fw.Call) (a0 : AVal) (h : Heap) : runFn call (.code A49) [a0] h = (S49 call a0 h).bind ansOf := by kernel_rfl
noncomputable def A50 : AFunc := ⟨1, (.seq (.region [.op 0 (.box 1 true (.tmp 0)),
 .op 1 (.mov 2 (.const (.bool false)))] [])
 (.seq (.block 0 (.seq (.region [.op 0 (.load 4 true 13 (.tmp 1)),
 .op 1 (.call 5 69 [.tmp 4]),
 .op 2 (.un 6 .not (.tmp 5)),
 .op 3 (.mov 3 (.tmp 6))] [])
 (.cond (.tmp 3)
 (.seq (.region [.op 0 (.mov 2 (.const (.bool true)))] [])
 .ret)
 (.seq (.region [.op 0 (.faddr 8 1 (.tmp 1)),
 .op 1 (.load 9 false 1 (.tmp 8)),
 .op 2 (.bin 10 .eql .plain (.tmp 9) (.const (.int .i64 5))),
 .op 3 (.mov 7 (.tmp 10))] [])
 (.cond (.tmp 7)
 (.seq (.region [.op 0 (.faddr 11 7 (.tmp 1)),
 .op 1 (.load 12 true 2 (.tmp 11)),
 .op 2 (.build 13 [.str [], .str []] []),
 .op 3 (.bin 14 .eql (.cells [2, 2]) (.tmp 12) (.tmp 13)),
 .op 4 (.mov 2 (.tmp 14))] [])
 .ret)
 .skip)))))
 (.seq (.region [.op 0 (.faddr 15 1 (.tmp 1)),
 .op 1 (.load 16 false 1 (.tmp 15)),
 .op 2 (.bin 17 .geq .plain (.tmp 16) (.const (.int .i64 1))),
 .op 3 (.mov 18 (.tmp 17)),
 .guard 18 true [.op 4 (.faddr 19 1 (.tmp 1)),
 .op 5 (.load 20 false 1 (.tmp 19)),
 .op 6 (.bin 21 .lss .plain (.tmp 20) (.const (.int .i64 5)))] [] [21],
 .op 7 (.pick 22 (.tmp 18) (.tmp 21) (.const (.bool false))),
 .op 8 (.mov 23 (.tmp 22)),
 .guard 23 true [.op 9 (.faddr 24 7 (.tmp 1)),
 .op 10 (.load 25 true 2 (.tmp 24)),
 .op 11 (.call 26 57 [.tmp 25])] [] [26],
 .op 12 (.pick 27 (.tmp 23) (.tmp 26) (.const (.bool false))),
 .op 13 (.mov 2 (.tmp 27))] [])
 .ret))),
 [.tmp 2]⟩
theorem ok50 : funcOk Tryz.prog (drawOk Tryz.prog) Tryz.f50 A50 = true := by kernel_rfl
noncomputable def S50 (call : Go.Fw.Call) (a0 : AVal) (h : Heap) : Option J :=
 (AVal.cells? a0).bind fun c1 =>
 (rdL c1 0 13).bind fun c2 =>
 (fromCells true c2).bind fun v3 =>
 (call 69 [v3] h).bind fun r4 =>
 (aUn .not r4.1).bind fun v5 =>
 condV v5
 (some (0, [(.bool true)], r4.2))
 ((rdL c1 1 1).bind fun c6 =>
 (fromCells false c6).bind fun v7 =>
 (aBin .eql .plain v7 (.int .i64 5)).bind fun v8 =>
 condV v8
 ((rdL c1 7 2).bind fun c9 =>
 (fromCells true c9).bind fun v10 =>
 (aFill [.str [], .str []] []).bind fun c11 =>
 (aBin .eql (.cells [2, 2]) v10 (.agg c11)).bind fun v12 =>
 some (0, [v12], r4.2))
 ((rdL c1 1 1).bind fun c13 =>
 (fromCells false c13).bind fun v14 =>
 (aBin .geq .plain v14 (.int .i64 1)).bind fun v15 =>
 (guardV v15 true
 ((rdL c1 1 1).bind fun c16 =>
 (fromCells false c16).bind fun v17 =>
 (aBin .lss .plain v17 (.int .i64 5)).bind fun v18 =>
 some (0, [v18], r4.2))
 (some (0, [skipV], r4.2))).bind fun g19 =>
 (aPick v15 (g19.2.1.getD 0 .undef) (.bool false)).bind fun v20 =>
 (guardV v20 true
 ((rdL c1 7 2).bind fun c21 =>
 (fromCells true c21).bind fun v22 =>
 (call 57 [v22] g19.2.2).bind fun r23 =>
 some (0, [r23.1], r23.2))
 (some (0, [skipV], g19.2.2))).bind fun g24 =>
 (aPick v20 (g24.2.1.getD 0 .undef) (.bool false)).bind fun v25 =>
 some (0, [v25], g24.2.2)))
theorem run50 (call : Go.Fw.Call) (a0 : AVal) (h : Heap) : runFn call (.code A50) [a0] h = (S50 call a0 h).bind ansOf := by kernel_rfl
noncomputable def A51 : AFunc := ⟨1, (.seq (.region [.op 0 (.mov 2 (.const (.bool false)))] [])
 (.seq (.region [.op 0 (.mov 3 (.tmp 0)),
 .op 1 (.bin 4 .geq .plain (.tmp 3) (.const (.int .i64 0))),
 .op 2 (.mov 5 (.tmp 4)),
 .guard 5 true [.op 3 (.mov 6 (.tmp 0)),
 .op 4 (.bin 7 .leq .plain (.tmp 6) (.const (.int .i64 255)))] [] [7],
 .op 5 (.pick 8 (.tmp 5) (.tmp 7) (.const (.bool false))),
 .op 6 (.mov 2 (.tmp 8))] [])
 .ret)),
 [.tmp 2]⟩
theorem ok51 : funcOk Tryz.prog (drawOk Tryz.prog) Tryz.f51 A51 = true := by kernel_rfl
noncomputable def S51 (call : Go.Fw.Call) (a0 : AVal) (h : Heap) : Option J :=
 (aBin .geq .plain a0 (.int .i64 0)).bind fun v1 =>
 (guardV v1 true
 ((aBin .leq .plain a0 (.int .i64 255)).bind fun v2 =>
 some (0, [v2], h))
 (some (0, [skipV], h))).bind fun g3 =>
 (aPick v1 (g3.2.1.getD 0 .undef) (.bool false)).bind fun v4 =>
 some (0, [v4], g3.2.2)
theorem run51 (call : Go.Fw.Call) (a0 : AVal) (h : Heap) : runFn call (.code A51) [a0] h = (S51 call a0 h).bind ansOf := by kernel_rfl
noncomputable def A52 : AFunc := ⟨2, (.seq (.region [.op 0 (.mov 4 (.const (.bool false)))] [])
 (.seq (.region [.op 0 (.mov 5 (.tmp 0)),
 .op 1 (.mov 6 (.tmp 1)),
 .op 2 (.call 7 70 [.tmp 5, .tmp 6]),
 .op 3 (.bin 8 .geq .plain (.tmp 7) (.const (.int .i64 0))),
 .op 4 (.mov 4 (.tmp 8))] [])
 .ret)),
 [.tmp 4]⟩
theorem ok52 : funcOk Tryz.prog (drawOk Tryz.prog) Tryz.f52 A52 = true := by kernel_rfl
noncomputable def S52 (call : Go.Fw.Call) (a0 a1 : AVal) (h : Heap) : Option J :=
 (call 70 [a0, a1] h).bind fun r1 =>
 (aBin .geq .plain r1.1 (.int .i64 0)).bind fun v2 =>
 some (0, [v2], r1.2)
theorem run52 (call : Go.Fw.Call) (a0 a1 : AVal) (h : Heap) : runFn call (.code A52) [a0, a1] h = (S52 call a0 a1 h).bind ansOf := by kernel_rfl
noncomputable def A53 : AFunc := ⟨1, (.seq (.region [.op 0 (.box 1 true (.tmp 0)),
 .op 1 (.mov 2 (.const (.bool false)))] [])
 (.seq (.region [.op 0 (.load 3 true 9 (.tmp 1)),
 .op 1 (.call 4 54 [.tmp 3]),
 .op 2 (.un 5 .not (.tmp 4)),
 .op 3 (.mov 2 (.tmp 5))] [])
 .ret)),
 [.tmp 2]⟩
theorem ok53 : funcOk Tryz.prog (drawOk Tryz.prog) Tryz.f53 A53 = true := by kernel_rfl
noncomputable def S53 (call : Go.Fw.Call) (a0 : AVal) (h : Heap) : Option J :=
 (AVal.cells? a0).bind fun c1 =>
 (rdL c1 0 9).bind fun c2 =>
 (fromCells true c2).bind fun v3 =>
 (call 54 [v3] h).bind fun r4 =>
 (aUn .not r4.1).bind fun v5 =>
 some (0, [v5], r4.2)
theorem run53 (call : Go.Fw.Call) (a0 : AVal) (h : Heap) : runFn call (.code A53) [a0] h = (S53 call a0 h).bind ansOf := by kernel_rfl
noncomputable def A54 : AFunc := ⟨1, (.seq (.region [.op 0 (.box 1 true (.tmp 0)),
 .op 1 (.mov 2 (.const (.bool false)))] [])
 (.seq (.block 0 (.seq (.region [.op 0 (.faddr 4 0 (.tmp 1)),
 .op 1 (.faddr 5 0 (.tmp 4)),
 .op 2 (.load 6 false 1 (.tmp 5)),
 .op 3 (.call 7 71 [.tmp 6]),
 .op 4 (.un 8 .not (.tmp 7)),
 .op 5 (.mov 9 (.tmp 8)),
 .guard 9 false [.op 6 (.faddr 10 0 (.tmp 1)),
 .op 7 (.faddr 11 1 (.tmp 10)),
 .op 8 (.load 12 false 1 (.tmp 11)),
 .op 9 (.call 13 71 [.tmp 12]),
 .op 10 (.un 14 .not (.tmp 13))] [] [14],
 .op 11 (.pick 15 (.tmp 9) (.const (.bool true)) (.tmp 14)),
 .op 12 (.mov 3 (.tmp 15))] [])
 (.cond (.tmp 3)
 (.seq (.region [.op 0 (.mov 2 (.const (.bool false)))] [])
 .ret)
 (.seq (.region [.op 0 (.faddr 17 2 (.tmp 1)),
 .op 1 (.load 18 false 1 (.tmp 17)),
 .op 2 (.bin 19 .neq .plain (.tmp 18) (.const (.int .i64 1))),
 .op 3 (.mov 20 (.tmp 19)),
 .guard 20 true [.op 4 (.faddr 21 2 (.tmp 1)),
 .op 5 (.load 22 false 1 (.tmp 21)),
 .op 6 (.bin 23 .neq .plain (.tmp 22) (.const (.int .i64 2)))] [] [23],
 .op 7 (.pick 24 (.tmp 20) (.tmp 23) (.const (.bool false))),
 .op 8 (.mov 16 (.tmp 24))] [])
 (.cond (.tmp 16)
 (.seq (.region [.op 0 (.mov 2 (.const (.bool false)))] [])
 .ret)
 (.seq (.region [.op 0 (.faddr 26 3 (.tmp 1)),
 .op 1 (.load 27 false 1 (.tmp 26)),
 .op 2 (.bin 28 .lss .plain (.tmp 27) (.const (.int .i64 0))),
 .op 3 (.mov 29 (.tmp 28)),
 .guard 29 false [.op 4 (.faddr 30 3 (.tmp 1)),
 .op 5 (.load 31 false 1 (.tmp 30)),
 .op 6 (.bin 32 .gtr .plain (.tmp 31) (.const (.int .i64 3)))] [] [32],
 .op 7 (.pick 33 (.tmp 29) (.const (.bool true)) (.tmp 32)),
 .op 8 (.mov 25 (.tmp 33))] [])
 (.cond (.tmp 25)
 (.seq (.region [.op 0 (.mov 2 (.const (.bool false)))] [])
 .ret)
 .skip)))))))
 (.seq (.region [.op 0 (.faddr 34 4 (.tmp 1)),
 .op 1 (.load 35 false 1 (.tmp 34)),
 .op 2 (.bin 36 .geq .plain (.tmp 35) (.const (.int .i64 1))),
 .op 3 (.mov 37 (.tmp 36)),
 .guard 37 true [.op 4 (.faddr 38 4 (.tmp 1)),
 .op 5 (.load 39 false 1 (.tmp 38)),
 .op 6 (.bin 40 .leq .plain (.tmp 39) (.const (.int .i64 1048576)))] [] [40],
 .op 7 (.pick 41 (.tmp 37) (.tmp 40) (.const (.bool false))),
 .op 8 (.mov 42 (.tmp 41)),
 .guard 42 true [.op 9 (.faddr 43 5 (.tmp 1)),
 .op 10 (.load 44 true 3 (.tmp 43)),
 .op 11 (.call 45 72 [.tmp 44])] [] [45],
 .op 12 (.pick 46 (.tmp 42) (.tmp 45) (.const (.bool false))),
 .op 13 (.mov 2 (.tmp 46))] [])
 .ret))),
 [.tmp 2]⟩
theorem ok54 : funcOk Tryz.prog (drawOk Tryz.prog) Tryz.f54 A54 = true := by kernel_rfl
noncomputable def S54 (call : Go.Fw.Call) (a0 : AVal) (h : Heap) : Option J :=
 (AVal.cells? a0).bind fun c1 =>
 (rdL c1 0 1).bind fun c2 =>
 (fromCells false c2).bind fun v3 =>
 (call 71 [v3] h).bind fun r4 =>
 (aUn .not r4.1).bind fun v5 =>
 (guardV v5 false
 ((rdL c1 1 1).bind fun c6 =>
 (fromCells false c6).bind fun v7 =>
 (call 71 [v7] r4.2).bind fun r8 =>
 (aUn .not r8.1).bind fun v9 =>
 some (0, [v9], r8.2))
 (some (0, [skipV], r4.2))).bind fun g10 =>
 (aPick v5 (.bool true) (g10.2.1.getD 0 .undef)).bind fun v11 =>
 condV v11
 (some (0, [(.bool false)], g10.2.2))
 ((rdL c1 2 1).bind fun c12 =>
 (fromCells false c12).bind fun v13 =>
 (aBin .neq .plain v13 (.int .i64 1)).bind fun v14 =>
 (guardV v14 true
 ((rdL c1 2 1).bind fun c15 =>
 (fromCells false c15).bind fun v16 =>
 (aBin .neq .plain v16 (.int .i64 2)).bind fun v17 =>
 some (0, [v17], g10.2.2))
 (some (0, [skipV], g10.2.2))).bind fun g18 =>
 (aPick v14 (g18.2.1.getD 0 .undef) (.bool false)).bind fun v19 =>
 condV v19
 (some (0, [(.bool false)], g18.2.2))
 ((rdL c1 3 1).bind fun c20 =>
 (fromCells false c20).bind fun v21 =>
 (aBin .lss .plain v21 (.int .i64 0)).bind fun v22 =>
 (guardV v22 false
 ((rdL c1 3 1).bind fun c23 =>
 (fromCells false c23).bind fun v24 =>
 (aBin .gtr .plain v24 (.int .i64 3)).bind fun v25 =>
 some (0, [v25], g18.2.2))
 (some (0, [skipV], g18.2.2))).bind fun g26 =>
 (aPick v22 (.bool true) (g26.2.1.getD 0 .undef)).bind fun v27 =>
 condV v27
 (some (0, [(.bool false)], g26.2.2))
 ((rdL c1 4 1).bind fun c28 =>
 (fromCells false c28).bind fun v29 =>
 (aBin .geq .plain v29 (.int .i64 1)).bind fun v30 =>
 (guardV v30 true
 ((rdL c1 4 1).bind fun c31 =>
 (fromCells false c31).bind fun v32 =>
 (aBin .leq .plain v32 (.int .i64 1048576)).bind fun v33 =>
 some (0, [v33], g26.2.2))
 (some (0, [skipV], g26.2.2))).bind fun g34 =>
 (aPick v30 (g34.2.1.getD 0 .undef) (.bool false)).bind fun v35 =>
 (guardV v35 true
 ((rdL c1 5 3).bind fun c36 =>
 (fromCells true c36).bind fun v37 =>
 (call 72 [v37] g34.2.2).bind fun r38 =>
 some (0, [r38.1], r38.2))
 (some (0, [skipV], g34.2.2))).bind fun g39 =>
 (aPick v35 (g39.2.1.getD 0 .undef) (.bool false)).bind fun v40 =>
 some (0, [v40], g39.2.2))))
theorem run54 (call : Go.Fw.Call) (a0 : AVal) (h : Heap) : runFn call (.code A54) [a0] h = (S54 call a0 h).bind ansOf := by kernel_rfl
noncomputable def A55 : AFunc := ⟨2, (.seq (.region [.op 0 (.mov 4 (.const (.bool false)))] [])
 (.seq (.region [.op 0 (.mov 5 (.tmp 0)),
 .op 1 (.mov 6 (.tmp 1)),
 .op 2 (.call 7 73 [.tmp 5, .tmp 6]),
 .op 3 (.bin 8 .geq .plain (.tmp 7) (.const (.int .i64 0))),
 .op 4 (.mov 4 (.tmp 8))] [])
 .ret)),
 [.tmp 4]⟩
theorem ok55 : funcOk Tryz.prog (drawOk Tryz.prog) Tryz.f55 A55 = true := by kernel_rfl
noncomputable def S55 (call : Go.Fw.Call) (a0 a1 : AVal) (h : Heap) : Option J :=
 (call 73 [a0, a1] h).bind fun r1 =>
 (aBin .geq .plain r1.1 (.int .i64 0)).bind fun v2 =>
 some (0, [v2], r1.2)
theorem run55 (call : Go.Fw.Call) (a0 a1 : AVal) (h : Heap) : runFn call (.code A55) [a0, a1] h = (S55 call a0 a1 h).bind ansOf := by kernel_rfl
noncomputable def A56 : AFunc := ⟨1, (.seq (.region [.op 0 (.box 1 true (.tmp 0)),
 .op 1 (.mov 2 (.const (.bool false)))] [])
 (.seq (.region [.op 0 (.load 3 true 2 (.tmp 1)),
 .op 1 (.call 4 57 [.tmp 3]),
 .op 2 (.un 5 .not (.tmp 4)),
 .op 3 (.mov 2 (.tmp 5))] [])
 .ret)),
 [.tmp 2]⟩
theorem ok56 : funcOk Tryz.prog (drawOk Tryz.prog) Tryz.f56 A56 = true := by kernel_rfl
noncomputable def S56 (call : Go.Fw.Call) (a0 : AVal) (h : Heap) : Option J :=
 (AVal.cells? a0).bind fun c1 =>
 (rdL c1 0 2).bind fun c2 =>
 (fromCells true c2).bind fun v3 =>
 (call 57 [v3] h).bind fun r4 =>
 (aUn .not r4.1).bind fun v5 =>
 some (0, [v5], r4.2)
theorem run56 (call : Go.Fw.Call) (a0 : AVal) (h : Heap) : runFn call (.code A56) [a0] h = (S56 call a0 h).bind ansOf := by kernel_rfl
noncomputable def A57 : AFunc := ⟨1, (.seq (.region [.op 0 (.box 1 true (.tmp 0)),
 .op 1 (.mov 2 (.const (.bool false)))] [])
 (.seq (.region [.op 0 (.faddr 3 0 (.tmp 1)),
 .op 1 (.load 4 false 1 (.tmp 3)),
 .op 2 (.call 5 71 [.tmp 4]),
 .op 3 (.mov 6 (.tmp 5)),
 .guard 6 true [.op 4 (.faddr 7 1 (.tmp 1)),
 .op 5 (.load 8 false 1 (.tmp 7)),
 .op 6 (.call 9 71 [.tmp 8])] [] [9],
 .op 7 (.pick 10 (.tmp 6) (.tmp 9) (.const (.bool false))),
 .op 8 (.mov 2 (.tmp 10))] [])
 .ret)),
 [.tmp 2]⟩
theorem ok57 : funcOk Tryz.prog (drawOk Tryz.prog) Tryz.f57 A57 = true := by kernel_rfl
noncomputable def S57 (call : Go.Fw.Call) (a0 : AVal) (h : Heap) : Option J :=
 (AVal.cells? a0).bind fun c1 =>
 (rdL c1 0 1).bind fun c2 =>
 (fromCells false c2).bind fun v3 =>
 (call 71 [v3] h).bind fun r4 =>
 (guardV r4.1 true
 ((rdL c1 1 1).bind fun c5 =>
 (fromCells false c5).bind fun v6 =>
 (call 71 [v6] r4.2).bind fun r7 =>
 some (0, [r7.1], r7.2))
 (some (0, [skipV], r4.2))).bind fun g8 =>
 (aPick r4.1 (g8.2.1.getD 0 .undef) (.bool false)).bind fun v9 =>
 some (0, [v9], g8.2.2)
theorem run57 (call : Go.Fw.Call) (a0 : AVal) (h : Heap) : runFn call (.code A57) [a0] h = (S57 call a0 h).bind ansOf := by kernel_rfl
noncomputable def A58 : AFunc := ⟨2, (.seq (.region [.op 0 (.mov 4 (.const (.nilSlice)))] [])
 (.seq (.seq (.region [.op 0 (.mov 5 (.tmp 1)),
 .op 1 (.len 6 true (.tmp 5)),
 .op 2 (.bin 7 .gtr .plain (.tmp 6) (.const (.int .i64 255)))] [])
 (.join [(.normal, ⟨[0, 1], []⟩)] (.cond (.tmp 7)
 (.region [.op 0 (.mov 8 (.tmp 1)),
 .op 1 (.slice 9 .str (.tmp 8) none (some (.const (.int .i64 255))) none),
 .op 2 (.mov 1 (.tmp 9))] [])
 .skip)))
 (.seq (.region [.op 0 (.mov 10 (.tmp 0)),
 .op 1 (.mov 11 (.tmp 1)),
 .op 2 (.len 12 true (.tmp 11)),
 .op 3 (.call 13 23 [.tmp 10, .tmp 12]),
 .op 4 (.mov 14 (.tmp 1)),
 .op 5 (.append 15 1 1 [.int .u8 0] false (.tmp 13) (.tmp 14)),
 .op 6 (.mov 4 (.tmp 15))] [])
 .ret))),
 [.tmp 4]⟩
theorem ok58 : funcOk Tryz.prog (drawOk Tryz.prog) Tryz.f58 A58 = true := by kernel_rfl
noncomputable def S58 (call : Go.Fw.Call) (a0 a1 : AVal) (h : Heap) : Option J :=
 (aLen true a1).bind fun v1 =>
 (aBin .gtr .plain v1 (.int .i64 255)).bind fun v2 =>
 (condV v2
 ((aSliceStr a1 none (some (.int .i64 255))).bind fun v3 =>
 some (0, [a0, v3], h))
 (some (0, [a0, a1], h))).bind fun x4 =>
 bif Nat.beq x4.1 0 then (aLen true (x4.2.1.getD 1 .undef)).bind fun v5 =>
 (call 23 [(x4.2.1.getD 0 .undef), v5] x4.2.2).bind fun r6 =>
 (aAppend 1 1 [.int .u8 0] false r6.1 (x4.2.1.getD 1 .undef) r6.2).bind fun r7 =>
 some (0, [r7.1], r7.2) else
 none
theorem run58 (call : Go.Fw.Call) (a0 a1 : AVal) (h : Heap) : runFn call (.code A58) [a0, a1] h = (S58 call a0 a1 h).bind ansOf := by kernel_rfl
noncomputable def A59 : AFunc := ⟨1, (.seq (.region [.op 0 (.mov 2 (.const (.nilPtr)))] [])
 (.seq (.region [.op 0 (.mov 3 (.tmp 0)),
 .op 1 (.call 4 66 [.tmp 3]),
 .op 2 (.build 5 [.nilSlice, .bool false] [(0, 1, .tmp 4)]),
 .op 3 (.box 6 false (.tmp 5)),
 .op 4 (.mov 2 (.tmp 6))] [])
 .ret)),
 [.tmp 2]⟩
theorem ok59 : funcOk Tryz.prog (drawOk Tryz.prog) Tryz.f59 A59 = true := by kernel_rfl
noncomputable def S59 (call : Go.Fw.Call) (a0 : AVal) (h : Heap) : Option J :=
 (call 66 [a0] h).bind fun r1 =>
 (aFill [.nilSlice, .bool false] [(0, 1, r1.1)]).bind fun c2 =>
 (AVal.cells? (.agg c2)).bind fun c3 =>
 some (0, [(.ptr r1.2.next 0)], (r1.2.alloc c3))
theorem run59 (call : Go.Fw.Call) (a0 : AVal) (h : Heap) : runFn call (.code A59) [a0] h = (S59 call a0 h).bind ansOf := by kernel_rfl
noncomputable def A60 : AFunc := ⟨1, (.seq (.region [.op 0 (.alloc 2 true mz)] [])
 (.seq (.region [.op 0 (.mov 4 (.tmp 0)),
 .op 1 (.nilchk 5 (.tmp 4)),
 .op 2 (.faddr 6 0 (.tmp 5)),
 .op 3 (.load 7 false 1 (.tmp 6)),
 .op 4 (.call 8 74 [.tmp 7]),
 .op 5 (.build 9 mz [(0, 1, .tmp 8)]),
 .op 6 (.alloc 3 true mz),
 .op 7 (.store true 13 (.tmp 3) (.tmp 9))] [])
 (.seq (.seq (.region [.op 0 (.faddr 10 0 (.tmp 3)),
 .op 1 (.load 11 false 1 (.tmp 10))] [])
 (.block 0 (.seq (.region [.op 0 (.bin 13 .eql .plain (.tmp 11) (.const (.int .i64 1))),
 .op 1 (.mov 12 (.tmp 13))] [])
 (.join [(.normal, ⟨[], [2, 3]⟩)] (.cond (.tmp 12)
 (.seq (.region [.op 0 (.mov 14 (.tmp 0)),
 .op 1 (.nilchk 15 (.tmp 14)),
 .op 2 (.faddr 16 0 (.tmp 15)),
 .op 3 (.load 17 false 1 (.tmp 16)),
 .op 4 (.call 18 75 [.tmp 17]),
 .op 5 (.mov 19 (.tmp 0)),
 .op 6 (.nilchk 20 (.tmp 19)),
 .op 7 (.faddr 21 0 (.tmp 20)),
 .op 8 (.load 22 false 1 (.tmp 21)),
 .op 9 (.call 23 74 [.tmp 22]),
 .op 10 (.faddr 24 4 (.tmp 3)),
 .op 11 (.store false 1 (.tmp 24) (.tmp 18)),
 .op 12 (.faddr 25 1 (.tmp 3)),
 .op 13 (.store false 1 (.tmp 25) (.tmp 23))] [(8, 4)])
 (.seq (.region [.op 0 (.mov 26 (.tmp 0)),
 .op 1 (.call 27 76 [.tmp 26]),
 .op 2 (.faddr 28 7 (.tmp 3)),
 .op 3 (.store true 2 (.tmp 28) (.tmp 27))] [])
 (.region [.op 0 (.mov 29 (.tmp 0)),
 .op 1 (.nilchk 30 (.tmp 29)),
 .op 2 (.faddr 31 0 (.tmp 30)),
 .op 3 (.load 32 false 1 (.tmp 31)),
 .op 4 (.call 33 75 [.tmp 32]),
 .op 5 (.mov 34 (.tmp 0)),
 .op 6 (.nilchk 35 (.tmp 34)),
 .op 7 (.faddr 36 0 (.tmp 35)),
 .op 8 (.load 37 false 1 (.tmp 36)),
 .op 9 (.call 38 74 [.tmp 37]),
 .op 10 (.mov 39 (.tmp 0)),
 .op 11 (.nilchk 40 (.tmp 39)),
 .op 12 (.faddr 41 0 (.tmp 40)),
 .op 13 (.load 42 false 1 (.tmp 41)),
 .op 14 (.call 43 75 [.tmp 42]),
 .op 15 (.faddr 44 5 (.tmp 3)),
 .op 16 (.store false 1 (.tmp 44) (.tmp 33)),
 .op 17 (.faddr 45 2 (.tmp 3)),
 .op 18 (.store false 1 (.tmp 45) (.tmp 38)),
 .op 19 (.faddr 46 6 (.tmp 3)),
 .op 20 (.store false 1 (.tmp 46) (.tmp 43))] [(8, 4), (13, 4), (13, 9)])))
 (.seq (.region [.op 0 (.bin 48 .eql .plain (.tmp 11) (.const (.int .i64 2))),
 .op 1 (.mov 47 (.tmp 48))] [])
 (.join [(.normal, ⟨[], [2, 3]⟩)] (.cond (.tmp 47)
 (.seq (.region [.op 0 (.mov 49 (.tmp 0)),
 .op 1 (.nilchk 50 (.tmp 49)),
 .op 2 (.faddr 51 0 (.tmp 50)),
 .op 3 (.load 52 false 1 (.tmp 51)),
 .op 4 (.call 53 75 [.tmp 52]),
 .op 5 (.mov 54 (.tmp 0)),
 .op 6 (.nilchk 55 (.tmp 54)),
 .op 7 (.faddr 56 0 (.tmp 55)),
 .op 8 (.load 57 false 1 (.tmp 56)),
 .op 9 (.call 58 74 [.tmp 57]),
 .op 10 (.faddr 59 4 (.tmp 3)),
 .op 11 (.store false 1 (.tmp 59) (.tmp 53)),
 .op 12 (.faddr 60 1 (.tmp 3)),
 .op 13 (.store false 1 (.tmp 60) (.tmp 58))] [(8, 4)])
 (.seq (.region [.op 0 (.mov 61 (.tmp 0)),
 .op 1 (.call 62 76 [.tmp 61]),
 .op 2 (.faddr 63 7 (.tmp 3)),
 .op 3 (.store true 2 (.tmp 63) (.tmp 62))] [])
 (.seq (.region [.op 0 (.mov 64 (.tmp 0)),
 .op 1 (.nilchk 65 (.tmp 64)),
 .op 2 (.faddr 66 0 (.tmp 65)),
 .op 3 (.load 67 false 1 (.tmp 66)),
 .op 4 (.call 68 74 [.tmp 67]),
 .op 5 (.mov 69 (.tmp 0)),
 .op 6 (.call 70 77 [.tmp 69]),
 .op 7 (.mov 71 (.tmp 0)),
 .op 8 (.nilchk 72 (.tmp 71)),
 .op 9 (.faddr 73 0 (.tmp 72)),
 .op 10 (.load 74 false 1 (.tmp 73)),
 .op 11 (.call 75 75 [.tmp 74]),
 .op 12 (.mov 76 (.tmp 0)),
 .op 13 (.call 77 78 [.tmp 76]),
 .op 14 (.faddr 78 3 (.tmp 3)),
 .op 15 (.store false 1 (.tmp 78) (.tmp 68)),
 .op 16 (.faddr 79 9 (.tmp 3)),
 .op 17 (.store false 1 (.tmp 79) (.tmp 70)),
 .op 18 (.faddr 80 6 (.tmp 3)),
 .op 19 (.store false 1 (.tmp 80) (.tmp 75)),
 .op 20 (.faddr 81 10 (.tmp 3)),
 .op 21 (.store false 1 (.tmp 81) (.tmp 77))] [(10, 4), (10, 6)])
 (.region [.op 0 (.mov 82 (.tmp 0)),
 .op 1 (.call 83 79 [.tmp 82]),
 .op 2 (.faddr 84 11 (.tmp 3)),
 .op 3 (.store false 1 (.tmp 84) (.tmp 83))] []))))
 (.seq (.seq (.region [.op 0 (.bin 86 .eql .plain (.tmp 11) (.const (.int .i64 3))),
 .op 1 (.mov 85 (.tmp 86))] [])
 (.join [(.normal, ⟨[0, 11, 85], [2, 3]⟩)] (.cond (.tmp 85)
 .skip
 (.region [.op 0 (.bin 87 .eql .plain (.tmp 11) (.const (.int .i64 4))),
 .op 1 (.mov 85 (.tmp 87))] []))))
 (.join [(.normal, ⟨[], [2, 3]⟩)] (.cond (.tmp 85)
 (.region [.op 0 (.mov 88 (.tmp 0)),
 .op 1 (.call 89 79 [.tmp 88]),
 .op 2 (.faddr 90 11 (.tmp 3)),
 .op 3 (.store false 1 (.tmp 90) (.tmp 89))] [])
 (.seq (.region [.op 0 (.bin 92 .eql .plain (.tmp 11) (.const (.int .i64 5))),
 .op 1 (.mov 91 (.tmp 92))] [])
 (.join [(.normal, ⟨[], [2, 3]⟩)] (.cond (.tmp 91)
 (.region [.op 0 (.mov 93 (.tmp 0)),
 .op 1 (.call 94 80 [.tmp 93]),
 .op 2 (.faddr 95 12 (.tmp 3)),
 .op 3 (.store false 1 (.tmp 95) (.tmp 94))] [])
 .skip))))))))))))))
 (.seq (.region [.op 0 (.load 96 true 13 (.tmp 3)),
 .op 1 (.store true 13 (.tmp 2) (.tmp 96))] [])
 .ret)))),
 [.cell 2 true 13]⟩
theorem ok60 : funcOk Tryz.prog (drawOk Tryz.prog) Tryz.f60 A60 = true := by kernel_rfl
noncomputable def S60 (call : Go.Fw.Call) (a0 : AVal) (h : Heap) : Option J :=
 (aNilchk a0).bind fun v1 =>
 (aFaddr 0 v1).bind fun v2 =>
 (aLoad h 1 v2).bind fun c3 =>
 (fromCells false c3).bind fun v4 =>
 (call 74 [v4] h).bind fun r5 =>
 (aFill [.int .i64 0, .int .i64 0, .int .i64 0, .int .i64 0, .int .i64 0, .int .i64 0, .int .i64 0, .str [], .str [], .bool false, .int .u32 0, .nilSlice, .nilSlice] [(0, 1, r5.1)]).bind fun c6 =>
 (aCells 13 (.agg c6)).bind fun c7 =>
 bif Nat.ble ((0) + 13) (List.length (α := AVal) [.int .i64 0, .int .i64 0, .int .i64 0, .int .i64 0, .int .i64 0, .int .i64 0, .int .i64 0, .str [], .str [], .bool false, .int .u32 0, .nilSlice, .nilSlice]) then (rdL (splice [.int .i64 0, .int .i64 0, .int .i64 0, .int .i64 0, .int .i64 0, .int .i64 0, .int .i64 0, .str [], .str [], .bool false, .int .u32 0, .nilSlice, .nilSlice] (0) c7) 0 1).bind fun c8 =>
 (fromCells false c8).bind fun v9 =>
 (aBin .eql .plain v9 (.int .i64 1)).bind fun v10 =>
 (condV v10
 ((aNilchk a0).bind fun v11 =>
 (aFaddr 0 v11).bind fun v12 =>
 (aLoad r5.2 1 v12).bind fun c13 =>
 (fromCells false c13).bind fun v14 =>
 (call 75 [v14] r5.2).bind fun r15 =>
 (aNilchk a0).bind fun v16 =>
 (aFaddr 0 v16).bind fun v17 =>
 (aLoad r15.2 1 v17).bind fun c18 =>
 (fromCells false c18).bind fun v19 =>
 (call 74 [v19] r15.2).bind fun r20 =>
 (aCells 1 r15.1).bind fun c21 =>
 bif Nat.ble ((4) + 1) (List.length (α := AVal) (splice [.int .i64 0, .int .i64 0, .int .i64 0, .int .i64 0, .int .i64 0, .int .i64 0, .int .i64 0, .str [], .str [], .bool false, .int .u32 0, .nilSlice, .nilSlice] (0) c7)) then (aCells 1 r20.1).bind fun c22 =>
 bif Nat.ble ((1) + 1) (List.length (α := AVal) (splice (splice [.int .i64 0, .int .i64 0, .int .i64 0, .int .i64 0, .int .i64 0, .int .i64 0, .int .i64 0, .str [], .str [], .bool false, .int .u32 0, .nilSlice, .nilSlice] (0) c7) (4) c21)) then bif checkPairs [(8, logRd v17 1), (4, some (.ef [(3, (splice [.int .i64 0, .int .i64 0, .int .i64 0, .int .i64 0, .int .i64 0, .int .i64 0, .int .i64 0, .str [], .str [], .bool false, .int .u32 0, .nilSlice, .nilSlice] (0) c7)), (2, [.int .i64 0, .int .i64 0, .int .i64 0, .int .i64 0, .int .i64 0, .int .i64 0, .int .i64 0, .str [], .str [], .bool false, .int .u32 0, .nilSlice, .nilSlice])] r5.2 [(3, (splice [.int .i64 0, .int .i64 0, .int .i64 0, .int .i64 0, .int .i64 0, .int .i64 0, .int .i64 0, .str [], .str [], .bool false, .int .u32 0, .nilSlice, .nilSlice] (0) c7)), (2, [.int .i64 0, .int .i64 0, .int .i64 0, .int .i64 0, .int .i64 0, .int .i64 0, .int .i64 0, .str [], .str [], .bool false, .int .u32 0, .nilSlice, .nilSlice])] r15.2))] [(8, 4)] then (call 76 [a0] r20.2).bind fun r23 =>
 (aCells 2 r23.1).bind fun c24 =>
 bif Nat.ble ((7) + 2) (List.length (α := AVal) (splice (splice (splice [.int .i64 0, .int .i64 0, .int .i64 0, .int .i64 0, .int .i64 0, .int .i64 0, .int .i64 0, .str [], .str [], .bool false, .int .u32 0, .nilSlice, .nilSlice] (0) c7) (4) c21) (1) c22)) then (aNilchk a0).bind fun v25 =>
 (aFaddr 0 v25).bind fun v26 =>
 (aLoad r23.2 1 v26).bind fun c27 =>
 (fromCells false c27).bind fun v28 =>
 (call 75 [v28] r23.2).bind fun r29 =>
 (aNilchk a0).bind fun v30 =>
 (aFaddr 0 v30).bind fun v31 =>
 (aLoad r29.2 1 v31).bind fun c32 =>
 (fromCells false c32).bind fun v33 =>
 (call 74 [v33] r29.2).bind fun r34 =>
 (aNilchk a0).bind fun v35 =>
 (aFaddr 0 v35).bind fun v36 =>
 (aLoad r34.2 1 v36).bind fun c37 =>
 (fromCells false c37).bind fun v38 =>
 (call 75 [v38] r34.2).bind fun r39 =>
 (aCells 1 r29.1).bind fun c40 =>
 bif Nat.ble ((5) + 1) (List.length (α := AVal) (splice (splice (splice (splice [.int .i64 0, .int .i64 0, .int .i64 0, .int .i64 0, .int .i64 0, .int .i64 0, .int .i64 0, .str [], .str [], .bool false, .int .u32 0, .nilSlice, .nilSlice] (0) c7) (4) c21) (1) c22) (7) c24)) then (aCells 1 r34.1).bind fun c41 =>
 bif Nat.ble ((2) + 1) (List.length (α := AVal) (splice (splice (splice (splice (splice [.int .i64 0, .int .i64 0, .int .i64 0, .int .i64 0, .int .i64 0, .int .i64 0, .int .i64 0, .str [], .str [], .bool false, .int .u32 0, .nilSlice, .nilSlice] (0) c7) (4) c21) (1) c22) (7) c24) (5) c40)) then (aCells 1 r39.1).bind fun c42 =>
 bif Nat.ble ((6) + 1) (List.length (α := AVal) (splice (splice (splice (splice (splice (splice [.int .i64 0, .int .i64 0, .int .i64 0, .int .i64 0, .int .i64 0, .int .i64 0, .int .i64 0, .str [], .str [], .bool false, .int .u32 0, .nilSlice, .nilSlice] (0) c7) (4) c21) (1) c22) (7) c24) (5) c40) (2) c41)) then bif checkPairs [(13, logRd v36 1), (9, some (.ef [(3, (splice (splice (splice (splice [.int .i64 0, .int .i64 0, .int .i64 0, .int .i64 0, .int .i64 0, .int .i64 0, .int .i64 0, .str [], .str [], .bool false, .int .u32 0, .nilSlice, .nilSlice] (0) c7) (4) c21) (1) c22) (7) c24)), (2, [.int .i64 0, .int .i64 0, .int .i64 0, .int .i64 0, .int .i64 0, .int .i64 0, .int .i64 0, .str [], .str [], .bool false, .int .u32 0, .nilSlice, .nilSlice])] r29.2 [(3, (splice (splice (splice (splice [.int .i64 0, .int .i64 0, .int .i64 0, .int .i64 0, .int .i64 0, .int .i64 0, .int .i64 0, .str [], .str [], .bool false, .int .u32 0, .nilSlice, .nilSlice] (0) c7) (4) c21) (1) c22) (7) c24)), (2, [.int .i64 0, .int .i64 0, .int .i64 0, .int .i64 0, .int .i64 0, .int .i64 0, .int .i64 0, .str [], .str [], .bool false, .int .u32 0, .nilSlice, .nilSlice])] r34.2)), (8, logRd v31 1), (4, some (.ef [(3, (splice (splice (splice (splice [.int .i64 0, .int .i64 0, .int .i64 0, .int .i64 0, .int .i64 0, .int .i64 0, .int .i64 0, .str [], .str [], .bool false, .int .u32 0, .nilSlice, .nilSlice] (0) c7) (4) c21) (1) c22) (7) c24)), (2, [.int .i64 0, .int .i64 0, .int .i64 0, .int .i64 0, .int .i64 0, .int .i64 0, .int .i64 0, .str [], .str [], .bool false, .int .u32 0, .nilSlice, .nilSlice])] r23.2 [(3, (splice (splice (splice (splice [.int .i64 0, .int .i64 0, .int .i64 0, .int .i64 0, .int .i64 0, .int .i64 0, .int .i64 0, .str [], .str [], .bool false, .int .u32 0, .nilSlice, .nilSlice] (0) c7) (4) c21) (1) c22) (7) c24)), (2, [.int .i64 0, .int .i64 0, .int .i64 0, .int .i64 0, .int .i64 0, .int .i64 0, .int .i64 0, .str [], .str [], .bool false, .int .u32 0, .nilSlice, .nilSlice])] r29.2))] [(8, 4), (13, 4), (13, 9)] then some (0, [(.agg [.int .i64 0, .int .i64 0, .int .i64 0, .int .i64 0, .int .i64 0, .int .i64 0, .int .i64 0, .str [], .str [], .bool false, .int .u32 0, .nilSlice, .nilSlice]), (.agg (splice (splice (splice (splice (splice (splice (splice [.int .i64 0, .int .i64 0, .int .i64 0, .int .i64 0, .int .i64 0, .int .i64 0, .int .i64 0, .str [], .str [], .bool false, .int .u32 0, .nilSlice, .nilSlice] (0) c7) (4) c21) (1) c22) (7) c24) (5) c40) (2) c41) (6) c42))], r39.2) else none else none else none else none else none else none else none else none)
 ((aBin .eql .plain v9 (.int .i64 2)).bind fun v43 =>
 (condV v43
 ((aNilchk a0).bind fun v44 =>
 (aFaddr 0 v44).bind fun v45 =>
 (aLoad r5.2 1 v45).bind fun c46 =>
 (fromCells false c46).bind fun v47 =>
 (call 75 [v47] r5.2).bind fun r48 =>
 (aNilchk a0).bind fun v49 =>
 (aFaddr 0 v49).bind fun v50 =>
 (aLoad r48.2 1 v50).bind fun c51 =>
 (fromCells false c51).bind fun v52 =>
 (call 74 [v52] r48.2).bind fun r53 =>
 (aCells 1 r48.1).bind fun c54 =>
 bif Nat.ble ((4) + 1) (List.length (α := AVal) (splice [.int .i64 0, .int .i64 0, .int .i64 0, .int .i64 0, .int .i64 0, .int .i64 0, .int .i64 0, .str [], .str [], .bool false, .int .u32 0, .nilSlice, .nilSlice] (0) c7)) then (aCells 1 r53.1).bind fun c55 =>
 bif Nat.ble ((1) + 1) (List.length (α := AVal) (splice (splice [.int .i64 0, .int .i64 0, .int .i64 0, .int .i64 0, .int .i64 0, .int .i64 0, .int .i64 0, .str [], .str [], .bool false, .int .u32 0, .nilSlice, .nilSlice] (0) c7) (4) c54)) then bif checkPairs [(8, logRd v50 1), (4, some (.ef [(3, (splice [.int .i64 0, .int .i64 0, .int .i64 0, .int .i64 0, .int .i64 0, .int .i64 0, .int .i64 0, .str [], .str [], .bool false, .int .u32 0, .nilSlice, .nilSlice] (0) c7)), (2, [.int .i64 0, .int .i64 0, .int .i64 0, .int .i64 0, .int .i64 0, .int .i64 0, .int .i64 0, .str [], .str [], .bool false, .int .u32 0, .nilSlice, .nilSlice])] r5.2 [(3, (splice [.int .i64 0, .int .i64 0, .int .i64 0, .int .i64 0, .int .i64 0, .int .i64 0, .int .i64 0, .str [], .str [], .bool false, .int .u32 0, .nilSlice, .nilSlice] (0) c7)), (2, [.int .i64 0, .int .i64 0, .int .i64 0, .int .i64 0, .int .i64 0, .int .i64 0, .int .i64 0, .str [], .str [], .bool false, .int .u32 0, .nilSlice, .nilSlice])] r48.2))] [(8, 4)] then (call 76 [a0] r53.2).bind fun r56 =>
 (aCells 2 r56.1).bind fun c57 =>
 bif Nat.ble ((7) + 2) (List.length (α := AVal) (splice (splice (splice [.int .i64 0, .int .i64 0, .int .i64 0, .int .i64 0, .int .i64 0, .int .i64 0, .int .i64 0, .str [], .str [], .bool false, .int .u32 0, .nilSlice, .nilSlice] (0) c7) (4) c54) (1) c55)) then (aNilchk a0).bind fun v58 =>
 (aFaddr 0 v58).bind fun v59 =>
 (aLoad r56.2 1 v59).bind fun c60 =>
 (fromCells false c60).bind fun v61 =>
 (call 74 [v61] r56.2).bind fun r62 =>
 (call 77 [a0] r62.2).bind fun r63 =>
 (aNilchk a0).bind fun v64 =>
 (aFaddr 0 v64).bind fun v65 =>
 (aLoad r63.2 1 v65).bind fun c66 =>
 (fromCells false c66).bind fun v67 =>
 (call 75 [v67] r63.2).bind fun r68 =>
 (call 78 [a0] r68.2).bind fun r69 =>
 (aCells 1 r62.1).bind fun c70 =>
 bif Nat.ble ((3) + 1) (List.length (α := AVal) (splice (splice (splice (splice [.int .i64 0, .int .i64 0, .int .i64 0, .int .i64 0, .int .i64 0, .int .i64 0, .int .i64 0, .str [], .str [], .bool false, .int .u32 0, .nilSlice, .nilSlice] (0) c7) (4) c54) (1) c55) (7) c57)) then (aCells 1 r63.1).bind fun c71 =>
 bif Nat.ble ((9) + 1) (List.length (α := AVal) (splice (splice (splice (splice (splice [.int .i64 0, .int .i64 0, .int .i64 0, .int .i64 0, .int .i64 0, .int .i64 0, .int .i64 0, .str [], .str [], .bool false, .int .u32 0, .nilSlice, .nilSlice] (0) c7) (4) c54) (1) c55) (7) c57) (3) c70)) then (aCells 1 r68.1).bind fun c72 =>
 bif Nat.ble ((6) + 1) (List.length (α := AVal) (splice (splice (splice (splice (splice (splice [.int .i64 0, .int .i64 0, .int .i64 0, .int .i64 0, .int .i64 0, .int .i64 0, .int .i64 0, .str [], .str [], .bool false, .int .u32 0, .nilSlice, .nilSlice] (0) c7) (4) c54) (1) c55) (7) c57) (3) c70) (9) c71)) then (aCells 1 r69.1).bind fun c73 =>
 bif Nat.ble ((10) + 1) (List.length (α := AVal) (splice (splice (splice (splice (splice (splice (splice [.int .i64 0, .int .i64 0, .int .i64 0, .int .i64 0, .int .i64 0, .int .i64 0, .int .i64 0, .str [], .str [], .bool false, .int .u32 0, .nilSlice, .nilSlice] (0) c7) (4) c54) (1) c55) (7) c57) (3) c70) (9) c71) (6) c72)) then bif checkPairs [(10, logRd v65 1), (6, some (.ef [(3, (splice (splice (splice (splice [.int .i64 0, .int .i64 0, .int .i64 0, .int .i64 0, .int .i64 0, .int .i64 0, .int .i64 0, .str [], .str [], .bool false, .int .u32 0, .nilSlice, .nilSlice] (0) c7) (4) c54) (1) c55) (7) c57)), (2, [.int .i64 0, .int .i64 0, .int .i64 0, .int .i64 0, .int .i64 0, .int .i64 0, .int .i64 0, .str [], .str [], .bool false, .int .u32 0, .nilSlice, .nilSlice])] r62.2 [(3, (splice (splice (splice (splice [.int .i64 0, .int .i64 0, .int .i64 0, .int .i64 0, .int .i64 0, .int .i64 0, .int .i64 0, .str [], .str [], .bool false, .int .u32 0, .nilSlice, .nilSlice] (0) c7) (4) c54) (1) c55) (7) c57)), (2, [.int .i64 0, .int .i64 0, .int .i64 0, .int .i64 0, .int .i64 0, .int .i64 0, .int .i64 0, .str [], .str [], .bool false, .int .u32 0, .nilSlice, .nilSlice])] r63.2)), (4, some (.ef [(3, (splice (splice (splice (splice [.int .i64 0, .int .i64 0, .int .i64 0, .int .i64 0, .int .i64 0, .int .i64 0, .int .i64 0, .str [], .str [], .bool false, .int .u32 0, .nilSlice, .nilSlice] (0) c7) (4) c54) (1) c55) (7) c57)), (2, [.int .i64 0, .int .i64 0, .int .i64 0, .int .i64 0, .int .i64 0, .int .i64 0, .int .i64 0, .str [], .str [], .bool false, .int .u32 0, .nilSlice, .nilSlice])] r56.2 [(3, (splice (splice (splice (splice [.int .i64 0, .int .i64 0, .int .i64 0, .int .i64 0, .int .i64 0, .int .i64 0, .int .i64 0, .str [], .str [], .bool false, .int .u32 0, .nilSlice, .nilSlice] (0) c7) (4) c54) (1) c55) (7) c57)), (2, [.int .i64 0, .int .i64 0, .int .i64 0, .int .i64 0, .int .i64 0, .int .i64 0, .int .i64 0, .str [], .str [], .bool false, .int .u32 0, .nilSlice, .nilSlice])] r62.2))] [(10, 4), (10, 6)] then (call 79 [a0] r69.2).bind fun r74 =>
 (aCells 1 r74.1).bind fun c75 =>
 bif Nat.ble ((11) + 1) (List.length (α := AVal) (splice (splice (splice (splice (splice (splice (splice (splice [.int .i64 0, .int .i64 0, .int .i64 0, .int .i64 0, .int .i64 0, .int .i64 0, .int .i64 0, .str [], .str [], .bool false, .int .u32 0, .nilSlice, .nilSlice] (0) c7) (4) c54) (1) c55) (7) c57) (3) c70) (9) c71) (6) c72) (10) c73)) then some (0, [(.agg [.int .i64 0, .int .i64 0, .int .i64 0, .int .i64 0, .int .i64 0, .int .i64 0, .int .i64 0, .str [], .str [], .bool false, .int .u32 0, .nilSlice, .nilSlice]), (.agg (splice (splice (splice (splice (splice (splice (splice (splice (splice [.int .i64 0, .int .i64 0, .int .i64 0, .int .i64 0, .int .i64 0, .int .i64 0, .int .i64 0, .str [], .str [], .bool false, .int .u32 0, .nilSlice, .nilSlice] (0) c7) (4) c54) (1) c55) (7) c57) (3) c70) (9) c71) (6) c72) (10) c73) (11) c75))], r74.2) else none else none else none else none else none else none else none else none else none else none)
 ((aBin .eql .plain v9 (.int .i64 3)).bind fun v76 =>
 (condV v76
 (some (0, [a0, v9, v76, (.agg [.int .i64 0, .int .i64 0, .int .i64 0, .int .i64 0, .int .i64 0, .int .i64 0, .int .i64 0, .str [], .str [], .bool false, .int .u32 0, .nilSlice, .nilSlice]), (.agg (splice [.int .i64 0, .int .i64 0, .int .i64 0, .int .i64 0, .int .i64 0, .int .i64 0, .int .i64 0, .str [], .str [], .bool false, .int .u32 0, .nilSlice, .nilSlice] (0) c7))], r5.2))
 ((aBin .eql .plain v9 (.int .i64 4)).bind fun v77 =>
 some (0, [a0, v9, v77, (.agg [.int .i64 0, .int .i64 0, .int .i64 0, .int .i64 0, .int .i64 0, .int .i64 0, .int .i64 0, .str [], .str [], .bool false, .int .u32 0, .nilSlice, .nilSlice]), (.agg (splice [.int .i64 0, .int .i64 0, .int .i64 0, .int .i64 0, .int .i64 0, .int .i64 0, .int .i64 0, .str [], .str [], .bool false, .int .u32 0, .nilSlice, .nilSlice] (0) c7))], r5.2))).bind fun x78 =>
 bif Nat.beq x78.1 0 then (condV (x78.2.1.getD 2 .undef)
 ((call 79 [(x78.2.1.getD 0 .undef)] x78.2.2).bind fun r79 =>
 (aCells 1 r79.1).bind fun c80 =>
 bif Nat.ble ((11) + 1) (List.length (α := AVal) (AVal.aggCells (x78.2.1.getD 4 .undef))) then some (0, [(.agg (AVal.aggCells (x78.2.1.getD 3 .undef))), (.agg (splice (AVal.aggCells (x78.2.1.getD 4 .undef)) (11) c80))], r79.2) else none)
 ((aBin .eql .plain (x78.2.1.getD 1 .undef) (.int .i64 5)).bind fun v81 =>
 (condV v81
 ((call 80 [(x78.2.1.getD 0 .undef)] x78.2.2).bind fun r82 =>
 (aCells 1 r82.1).bind fun c83 =>
 bif Nat.ble ((12) + 1) (List.length (α := AVal) (AVal.aggCells (x78.2.1.getD 4 .undef))) then some (0, [(.agg (AVal.aggCells (x78.2.1.getD 3 .undef))), (.agg (splice (AVal.aggCells (x78.2.1.getD 4 .undef)) (12) c83))], r82.2) else none)
 (some (0, [(.agg (AVal.aggCells (x78.2.1.getD 3 .undef))), (.agg (AVal.aggCells (x78.2.1.getD 4 .undef)))], x78.2.2))).bind fun x84 =>
 bif Nat.beq x84.1 0 then some (0, [(.agg (AVal.aggCells (x84.2.1.getD 0 .undef))), (.agg (AVal.aggCells (x84.2.1.getD 1 .undef)))], x84.2.2) else
 none)).bind fun x85 =>
 bif Nat.beq x85.1 0 then some (0, [(.agg (AVal.aggCells (x85.2.1.getD 0 .undef))), (.agg (AVal.aggCells (x85.2.1.getD 1 .undef)))], x85.2.2) else
 none else
 none)).bind fun x86 =>
 bif Nat.beq x86.1 0 then some (0, [(.agg (AVal.aggCells (x86.2.1.getD 0 .undef))), (.agg (AVal.aggCells (x86.2.1.getD 1 .undef)))], x86.2.2) else
 none)).bind fun x87 =>
 bif Nat.beq x87.1 0 then (rdL (AVal.aggCells (x87.2.1.getD 1 .undef)) 0 13).bind fun c88 =>
 (fromCells true c88).bind fun v89 =>
 (aCells 13 v89).bind fun c90 =>
 bif Nat.ble ((0) + 13) (List.length (α := AVal) (AVal.aggCells (x87.2.1.getD 0 .undef))) then (((rdL (splice (AVal.aggCells (x87.2.1.getD 0 .undef)) (0) c90) (0) 13).bind fun cs => fromCells true cs).bind fun v => (some []).bind fun vs => some (v :: vs)).bind fun vs => some (0, [oneOr vs], x87.2.2) else none else
 none else none
theorem run60 (call : Go.Fw.Call) (a0 : AVal) (h : Heap) : runFn call (.code A60) [a0] h = (S60 call a0 h).bind ansOf := by kernel_rfl
noncomputable def A61 : AFunc := ⟨1, (.seq (.region [.op 0 (.mov 2 (.const (.bool false)))] [])
 (.seq (.region [.op 0 (.mov 3 (.tmp 0)),
 .op 1 (.nilchk 4 (.tmp 3)),
 .op 2 (.faddr 5 1 (.tmp 4)),
 .op 3 (.load 6 false 1 (.tmp 5)),
 .op 4 (.un 7 .not (.tmp 6)),
 .op 5 (.mov 8 (.tmp 7)),
 .guard 8 true [.op 6 (.mov 9 (.tmp 0)),
 .op 7 (.nilchk 10 (.tmp 9)),
 .op 8 (.faddr 11 0 (.tmp 10)),
 .op 9 (.load 12 false 1 (.tmp 11)),
 .op 10 (.len 13 false (.tmp 12)),
 .op 11 (.bin 14 .eql .plain (.tmp 13) (.const (.int .i64 0)))] [] [14],
 .op 12 (.pick 15 (.tmp 8) (.tmp 14) (.const (.bool false))),
 .op 13 (.mov 2 (.tmp 15))] [])
 .ret)),
 [.tmp 2]⟩
theorem ok61 : funcOk Tryz.prog (drawOk Tryz.prog) Tryz.f61 A61 = true := by kernel_rfl
noncomputable def S61 (call : Go.Fw.Call) (a0 : AVal) (h : Heap) : Option J :=
 (aNilchk a0).bind fun v1 =>
 (aFaddr 1 v1).bind fun v2 =>
 (aLoad h 1 v2).bind fun c3 =>
 (fromCells false c3).bind fun v4 =>
 (aUn .not v4).bind fun v5 =>
 (guardV v5 true
 ((aNilchk a0).bind fun v6 =>
 (aFaddr 0 v6).bind fun v7 =>
 (aLoad h 1 v7).bind fun c8 =>
 (fromCells false c8).bind fun v9 =>
 (aLen false v9).bind fun v10 =>
 (aBin .eql .plain v10 (.int .i64 0)).bind fun v11 =>
 some (0, [v11], h))
 (some (0, [skipV], h))).bind fun g12 =>
 (aPick v5 (g12.2.1.getD 0 .undef) (.bool false)).bind fun v13 =>
 some (0, [v13], g12.2.2)
theorem run61 (call : Go.Fw.Call) (a0 : AVal) (h : Heap) : runFn call (.code A61) [a0] h = (S61 call a0 h).bind ansOf := by kernel_rfl
noncomputable def A62 : AFunc := ⟨1, (.seq (.region [.op 0 (.alloc 2 true mz),
 .op 1 (.mov 3 (.const (.bool false)))] [])
 (.seq (.region [.op 0 (.mov 8 (.tmp 0)),
 .op 1 (.build 9 [.nilSlice, .bool false] [(0, 1, .tmp 8)]),
 .op 2 (.box 10 false (.tmp 9)),
 .op 3 (.mov 4 (.tmp 10))] [])
 (.seq (.region [.op 0 (.alloc 5 true mz)] [])
 (.seq (.region [.op 0 (.mov 11 (.tmp 4)),
 .op 1 (.call 12 81 [.tmp 11]),
 .op 2 (.faddr 13 0 (.tmp 5)),
 .op 3 (.store false 1 (.tmp 13) (.tmp 12))] [])
 (.seq (.seq (.region [.op 0 (.faddr 14 0 (.tmp 5)),
 .op 1 (.load 15 false 1 (.tmp 14)),
 .op 2 (.bin 16 .eql .plain (.tmp 15) (.const (.int .i64 1))),
 .op 3 (.mov 17 (.tmp 16)),
 .guard 17 false [.op 4 (.faddr 18 0 (.tmp 5)),
 .op 5 (.load 19 false 1 (.tmp 18)),
 .op 6 (.bin 20 .eql .plain (.tmp 19) (.const (.int .i64 2)))] [] [20],
 .op 7 (.pick 21 (.tmp 17) (.const (.bool true)) (.tmp 20))] [])
 (.join [(.normal, ⟨[4], [2, 5]⟩)] (.cond (.tmp 21)
 (.seq (.region [.op 0 (.mov 22 (.tmp 4)),
 .op 1 (.call 23 82 [.tmp 22]),
 .op 2 (.faddr 24 4 (.tmp 5)),
 .op 3 (.store false 1 (.tmp 24) (.tmp 23))] [])
 (.seq (.region [.op 0 (.mov 25 (.tmp 4)),
 .op 1 (.call 26 81 [.tmp 25]),
 .op 2 (.faddr 27 1 (.tmp 5)),
 .op 3 (.store false 1 (.tmp 27) (.tmp 26))] [])
 (.region [.op 0 (.mov 28 (.tmp 4)),
 .op 1 (.call 29 83 [.tmp 28]),
 .op 2 (.faddr 30 7 (.tmp 5)),
 .op 3 (.store true 2 (.tmp 30) (.tmp 29))] [])))
 .skip)))
 (.seq (.seq (.region [.op 0 (.faddr 31 0 (.tmp 5)),
 .op 1 (.load 32 false 1 (.tmp 31))] [])
 (.block 0 (.seq (.region [.op 0 (.bin 39 .eql .plain (.tmp 32) (.const (.int .i64 1))),
 .op 1 (.mov 38 (.tmp 39))] [])
 (.join [(.normal, ⟨[4], [2, 5]⟩), (.ret, ⟨[3], [2]⟩)] (.cond (.tmp 38)
 (.seq (.region [.op 0 (.mov 40 (.tmp 4)),
 .op 1 (.call 41 82 [.tmp 40]),
 .op 2 (.faddr 42 5 (.tmp 5)),
 .op 3 (.store false 1 (.tmp 42) (.tmp 41))] [])
 (.seq (.region [.op 0 (.mov 43 (.tmp 4)),
 .op 1 (.call 44 81 [.tmp 43]),
 .op 2 (.faddr 45 2 (.tmp 5)),
 .op 3 (.store false 1 (.tmp 45) (.tmp 44))] [])
 (.region [.op 0 (.mov 46 (.tmp 4)),
 .op 1 (.call 47 82 [.tmp 46]),
 .op 2 (.faddr 48 6 (.tmp 5)),
 .op 3 (.store false 1 (.tmp 48) (.tmp 47))] [])))
 (.seq (.region [.op 0 (.bin 50 .eql .plain (.tmp 32) (.const (.int .i64 2))),
 .op 1 (.mov 49 (.tmp 50))] [])
 (.join [(.normal, ⟨[4], [2, 5]⟩), (.ret, ⟨[3], [2]⟩)] (.cond (.tmp 49)
 (.seq (.region [.op 0 (.mov 51 (.tmp 4)),
 .op 1 (.call 52 81 [.tmp 51]),
 .op 2 (.faddr 53 3 (.tmp 5)),
 .op 3 (.store false 1 (.tmp 53) (.tmp 52))] [])
 (.seq (.region [.op 0 (.mov 54 (.tmp 4)),
 .op 1 (.call 55 84 [.tmp 54]),
 .op 2 (.faddr 56 9 (.tmp 5)),
 .op 3 (.store false 1 (.tmp 56) (.tmp 55))] [])
 (.seq (.region [.op 0 (.mov 57 (.tmp 4)),
 .op 1 (.call 58 82 [.tmp 57]),
 .op 2 (.faddr 59 6 (.tmp 5)),
 .op 3 (.store false 1 (.tmp 59) (.tmp 58))] [])
 (.seq (.region [.op 0 (.mov 60 (.tmp 4)),
 .op 1 (.call 61 82 [.tmp 60]),
 .op 2 (.mov 6 (.tmp 61))] [])
 (.seq (.region [.op 0 (.mov 62 (.tmp 4)),
 .op 1 (.mov 63 (.tmp 4)),
 .op 2 (.nilchk 64 (.tmp 63)),
 .op 3 (.faddr 65 1 (.tmp 64)),
 .op 4 (.load 66 false 1 (.tmp 65)),
 .op 5 (.mov 67 (.tmp 66)),
 .guard 67 false [.op 6 (.mov 68 (.tmp 6)),
 .op 7 (.bin 69 .lss .plain (.tmp 68) (.const (.int .i64 0)))] [] [69],
 .op 8 (.pick 70 (.tmp 67) (.const (.bool true)) (.tmp 69)),
 .op 9 (.mov 71 (.tmp 70)),
 .guard 71 false [.op 10 (.mov 72 (.tmp 6)),
 .op 11 (.bin 73 .gtr .plain (.tmp 72) (.const (.int .i64 4294967295)))] [] [73],
 .op 12 (.pick 74 (.tmp 71) (.const (.bool true)) (.tmp 73)),
 .op 13 (.nilchk 75 (.tmp 62)),
 .op 14 (.faddr 76 1 (.tmp 75)),
 .op 15 (.store false 1 (.tmp 76) (.tmp 74))] [])
 (.seq (.region [.op 0 (.mov 77 (.tmp 6)),
 .op 1 (.conv 78 (.toInt .u32) (.tmp 77)),
 .op 2 (.faddr 79 10 (.tmp 5)),
 .op 3 (.store false 1 (.tmp 79) (.tmp 78))] [])
 (.region [.op 0 (.mov 80 (.tmp 4)),
 .op 1 (.call 81 85 [.tmp 80]),
 .op 2 (.faddr 82 11 (.tmp 5)),
 .op 3 (.store false 1 (.tmp 82) (.tmp 81))] [])))))))
 (.seq (.seq (.region [.op 0 (.bin 84 .eql .plain (.tmp 32) (.const (.int .i64 3))),
 .op 1 (.mov 83 (.tmp 84))] [])
 (.join [(.normal, ⟨[4, 32, 83], [2, 5]⟩)] (.cond (.tmp 83)
 .skip
 (.region [.op 0 (.bin 85 .eql .plain (.tmp 32) (.const (.int .i64 4))),
 .op 1 (.mov 83 (.tmp 85))] []))))
 (.join [(.normal, ⟨[4], [2, 5]⟩), (.ret, ⟨[3], [2]⟩)] (.cond (.tmp 83)
 (.region [.op 0 (.mov 86 (.tmp 4)),
 .op 1 (.call 87 85 [.tmp 86]),
 .op 2 (.faddr 88 11 (.tmp 5)),
 .op 3 (.store false 1 (.tmp 88) (.tmp 87))] [])
 (.seq (.region [.op 0 (.bin 90 .eql .plain (.tmp 32) (.const (.int .i64 5))),
 .op 1 (.mov 89 (.tmp 90))] [])
 (.cond (.tmp 89)
 (.seq (.region [.op 0 (.mov 91 (.tmp 4)),
 .op 1 (.call 92 81 [.tmp 91]),
 .op 2 (.mov 7 (.tmp 92))] [])
 (.block 1 (.loop ⟨[4, 7], [2, 5]⟩ [((.exit 1), ⟨[4], [2, 5]⟩)]
 (.seq (.seq (.region [.op 0 (.mov 93 (.tmp 7)),
 .op 1 (.bin 94 .gtr .plain (.tmp 93) (.const (.int .i64 0))),
 .op 2 (.mov 95 (.tmp 94)),
 .guard 95 true [.op 3 (.mov 96 (.tmp 4)),
 .op 4 (.nilchk 97 (.tmp 96)),
 .op 5 (.faddr 98 1 (.tmp 97)),
 .op 6 (.load 99 false 1 (.tmp 98)),
 .op 7 (.un 100 .not (.tmp 99))] [] [100],
 .op 8 (.pick 101 (.tmp 95) (.tmp 100) (.const (.bool false)))] [])
 (.cond (.tmp 101)
 .skip
 (.exit 1)))
 (.seq (.block 2 (.region [.op 0 (.faddr 104 12 (.tmp 5)),
 .op 1 (.load 105 false 1 (.tmp 104)),
 .op 2 (.mov 106 (.tmp 4)),
 .op 3 (.call 107 83 [.tmp 106]),
 .op 4 (.buildSl 108 [.str [], .str []] 2 1 [(0, .tmp 107)]),
 .op 5 (.append 109 2 32 [.str [], .str []] false (.tmp 105) (.tmp 108)),
 .op 6 (.faddr 110 12 (.tmp 5)),
 .op 7 (.store false 1 (.tmp 110) (.tmp 109))] [(1, 3), (1, 4)]))
 (.region [.op 0 (.mov 102 (.tmp 7)),
 .op 1 (.bin 103 .sub .plain (.tmp 102) (.const (.int .i64 1))),
 .op 2 (.mov 7 (.tmp 103))] []))))))
 (.seq (.region [.op 0 (.faddr 33 0 (.tmp 5)),
 .op 1 (.load 34 false 1 (.tmp 33)),
 .op 2 (.build 35 mz [(0, 1, .tmp 34)]),
 .op 3 (.mov 36 (.tmp 4)),
 .op 4 (.call 37 86 [.tmp 36]),
 .op 5 (.store true 13 (.tmp 2) (.tmp 35)),
 .op 6 (.mov 3 (.tmp 37))] [(1, 4)])
 .ret))))))))))))))
 (.seq (.region [.op 0 (.load 111 true 13 (.tmp 5)),
 .op 1 (.mov 112 (.tmp 4)),
 .op 2 (.call 113 86 [.tmp 112]),
 .op 3 (.store true 13 (.tmp 2) (.tmp 111)),
 .op 4 (.mov 3 (.tmp 113))] [(0, 2)])
 .ret))))))),
 [.cell 2 true 13, .tmp 3]⟩
theorem ok62 : funcOk Tryz.prog (drawOk Tryz.prog) Tryz.f62 A62 = true := by kernel_rfl
noncomputable def L62_0 (call : Go.Fw.Call) (xs : List AVal) (h : Heap) : Option J :=
 (aBin .gtr .plain (xs.getD 1 .undef) (.int .i64 0)).bind fun v63 =>
 (guardV v63 true
 ((aNilchk (xs.getD 0 .undef)).bind fun v64 =>
 (aFaddr 1 v64).bind fun v65 =>
 (aLoad h 1 v65).bind fun c66 =>
 (fromCells false c66).bind fun v67 =>
 (aUn .not v67).bind fun v68 =>
 some (0, [v68], h))
 (some (0, [skipV], h))).bind fun g69 =>
 (aPick v63 (g69.2.1.getD 0 .undef) (.bool false)).bind fun v70 =>
 condV v70
 ((rdL (AVal.aggCells (xs.getD 3 .undef)) 12 1).bind fun c71 =>
 (fromCells false c71).bind fun v72 =>
 (call 83 [(xs.getD 0 .undef)] g69.2.2).bind fun r73 =>
 (aFill (reps [.str [], .str []] 1) [(0, 2, r73.1)]).bind fun c74 =>
 (aAppend 2 32 [.str [], .str []] false v72 (.slice r73.2.next 0 1 1 2 true) (r73.2.alloc c74)).bind fun r75 =>
 (aCells 1 r75.1).bind fun c76 =>
 bif Nat.ble ((12) + 1) (List.length (α := AVal) (AVal.aggCells (xs.getD 3 .undef))) then bif checkPairs [(4, some (.al r73.2.next)), (3, some (.ef [(2, (AVal.aggCells (xs.getD 2 .undef))), (5, (AVal.aggCells (xs.getD 3 .undef)))] g69.2.2 [(2, (AVal.aggCells (xs.getD 2 .undef))), (5, (AVal.aggCells (xs.getD 3 .undef)))] r73.2)), (1, some (.lrd 5 (12) 1))] [(1, 3), (1, 4)] then (aBin .sub .plain (xs.getD 1 .undef) (.int .i64 1)).bind fun v77 =>
 some (0, [(xs.getD 0 .undef), v77, (.agg (AVal.aggCells (xs.getD 2 .undef))), (.agg (splice (AVal.aggCells (xs.getD 3 .undef)) (12) c76))], r75.2) else none else none)
 (some (1, [(xs.getD 0 .undef), (.agg (AVal.aggCells (xs.getD 2 .undef))), (.agg (AVal.aggCells (xs.getD 3 .undef)))], g69.2.2))
noncomputable def S62 (call : Go.Fw.Call) (a0 : AVal) (h : Heap) : Option J :=
 (aFill [.nilSlice, .bool false] [(0, 1, a0)]).bind fun c1 =>
 (AVal.cells? (.agg c1)).bind fun c2 =>
 (call 81 [(.ptr h.next 0)] (h.alloc c2)).bind fun r4 =>
 (aCells 1 r4.1).bind fun c5 =>
 bif Nat.ble ((0) + 1) (List.length (α := AVal) [.int .i64 0, .int .i64 0, .int .i64 0, .int .i64 0, .int .i64 0, .int .i64 0, .int .i64 0, .str [], .str [], .bool false, .int .u32 0, .nilSlice, .nilSlice]) then (rdL (splice [.int .i64 0, .int .i64 0, .int .i64 0, .int .i64 0, .int .i64 0, .int .i64 0, .int .i64 0, .str [], .str [], .bool false, .int .u32 0, .nilSlice, .nilSlice] (0) c5) 0 1).bind fun c6 =>
 (fromCells false c6).bind fun v7 =>
 (aBin .eql .plain v7 (.int .i64 1)).bind fun v8 =>
 (guardV v8 false
 ((rdL (splice [.int .i64 0, .int .i64 0, .int .i64 0, .int .i64 0, .int .i64 0, .int .i64 0, .int .i64 0, .str [], .str [], .bool false, .int .u32 0, .nilSlice, .nilSlice] (0) c5) 0 1).bind fun c9 =>
 (fromCells false c9).bind fun v10 =>
 (aBin .eql .plain v10 (.int .i64 2)).bind fun v11 =>
 some (0, [v11], r4.2))
 (some (0, [skipV], r4.2))).bind fun g12 =>
 (aPick v8 (.bool true) (g12.2.1.getD 0 .undef)).bind fun v13 =>
 (condV v13
 ((call 82 [(.ptr h.next 0)] g12.2.2).bind fun r14 =>
 (aCells 1 r14.1).bind fun c15 =>
 bif Nat.ble ((4) + 1) (List.length (α := AVal) (splice [.int .i64 0, .int .i64 0, .int .i64 0, .int .i64 0, .int .i64 0, .int .i64 0, .int .i64 0, .str [], .str [], .bool false, .int .u32 0, .nilSlice, .nilSlice] (0) c5)) then (call 81 [(.ptr h.next 0)] r14.2).bind fun r16 =>
 (aCells 1 r16.1).bind fun c17 =>
 bif Nat.ble ((1) + 1) (List.length (α := AVal) (splice (splice [.int .i64 0, .int .i64 0, .int .i64 0, .int .i64 0, .int .i64 0, .int .i64 0, .int .i64 0, .str [], .str [], .bool false, .int .u32 0, .nilSlice, .nilSlice] (0) c5) (4) c15)) then (call 83 [(.ptr h.next 0)] r16.2).bind fun r18 =>
 (aCells 2 r18.1).bind fun c19 =>
 bif Nat.ble ((7) + 2) (List.length (α := AVal) (splice (splice (splice [.int .i64 0, .int .i64 0, .int .i64 0, .int .i64 0, .int .i64 0, .int .i64 0, .int .i64 0, .str [], .str [], .bool false, .int .u32 0, .nilSlice, .nilSlice] (0) c5) (4) c15) (1) c17)) then some (0, [(.ptr h.next 0), (.agg [.int .i64 0, .int .i64 0, .int .i64 0, .int .i64 0, .int .i64 0, .int .i64 0, .int .i64 0, .str [], .str [], .bool false, .int .u32 0, .nilSlice, .nilSlice]), (.agg (splice (splice (splice (splice [.int .i64 0, .int .i64 0, .int .i64 0, .int .i64 0, .int .i64 0, .int .i64 0, .int .i64 0, .str [], .str [], .bool false, .int .u32 0, .nilSlice, .nilSlice] (0) c5) (4) c15) (1) c17) (7) c19))], r18.2) else none else none else none)
 (some (0, [(.ptr h.next 0), (.agg [.int .i64 0, .int .i64 0, .int .i64 0, .int .i64 0, .int .i64 0, .int .i64 0, .int .i64 0, .str [], .str [], .bool false, .int .u32 0, .nilSlice, .nilSlice]), (.agg (splice [.int .i64 0, .int .i64 0, .int .i64 0, .int .i64 0, .int .i64 0, .int .i64 0, .int .i64 0, .str [], .str [], .bool false, .int .u32 0, .nilSlice, .nilSlice] (0) c5))], g12.2.2))).bind fun x20 =>
 bif Nat.beq x20.1 0 then (rdL (AVal.aggCells (x20.2.1.getD 2 .undef)) 0 1).bind fun c21 =>
 (fromCells false c21).bind fun v22 =>
 (aBin .eql .plain v22 (.int .i64 1)).bind fun v23 =>
 (condV v23
 ((call 82 [(x20.2.1.getD 0 .undef)] x20.2.2).bind fun r24 =>
 (aCells 1 r24.1).bind fun c25 =>
 bif Nat.ble ((5) + 1) (List.length (α := AVal) (AVal.aggCells (x20.2.1.getD 2 .undef))) then (call 81 [(x20.2.1.getD 0 .undef)] r24.2).bind fun r26 =>
 (aCells 1 r26.1).bind fun c27 =>
 bif Nat.ble ((2) + 1) (List.length (α := AVal) (splice (AVal.aggCells (x20.2.1.getD 2 .undef)) (5) c25)) then (call 82 [(x20.2.1.getD 0 .undef)] r26.2).bind fun r28 =>
 (aCells 1 r28.1).bind fun c29 =>
 bif Nat.ble ((6) + 1) (List.length (α := AVal) (splice (splice (AVal.aggCells (x20.2.1.getD 2 .undef)) (5) c25) (2) c27)) then some (0, [(x20.2.1.getD 0 .undef), (.agg (AVal.aggCells (x20.2.1.getD 1 .undef))), (.agg (splice (splice (splice (AVal.aggCells (x20.2.1.getD 2 .undef)) (5) c25) (2) c27) (6) c29))], r28.2) else none else none else none)
 ((aBin .eql .plain v22 (.int .i64 2)).bind fun v30 =>
 (condV v30
 ((call 81 [(x20.2.1.getD 0 .undef)] x20.2.2).bind fun r31 =>
 (aCells 1 r31.1).bind fun c32 =>
 bif Nat.ble ((3) + 1) (List.length (α := AVal) (AVal.aggCells (x20.2.1.getD 2 .undef))) then (call 84 [(x20.2.1.getD 0 .undef)] r31.2).bind fun r33 =>
 (aCells 1 r33.1).bind fun c34 =>
 bif Nat.ble ((9) + 1) (List.length (α := AVal) (splice (AVal.aggCells (x20.2.1.getD 2 .undef)) (3) c32)) then (call 82 [(x20.2.1.getD 0 .undef)] r33.2).bind fun r35 =>
 (aCells 1 r35.1).bind fun c36 =>
 bif Nat.ble ((6) + 1) (List.length (α := AVal) (splice (splice (AVal.aggCells (x20.2.1.getD 2 .undef)) (3) c32) (9) c34)) then (call 82 [(x20.2.1.getD 0 .undef)] r35.2).bind fun r37 =>
 (aNilchk (x20.2.1.getD 0 .undef)).bind fun v38 =>
 (aFaddr 1 v38).bind fun v39 =>
 (aLoad r37.2 1 v39).bind fun c40 =>
 (fromCells false c40).bind fun v41 =>
 (guardV v41 false
 ((aBin .lss .plain r37.1 (.int .i64 0)).bind fun v42 =>
 some (0, [v42], r37.2))
 (some (0, [skipV], r37.2))).bind fun g43 =>
 (aPick v41 (.bool true) (g43.2.1.getD 0 .undef)).bind fun v44 =>
 (guardV v44 false
 ((aBin .gtr .plain r37.1 (.int .i64 4294967295)).bind fun v45 =>
 some (0, [v45], g43.2.2))
 (some (0, [skipV], g43.2.2))).bind fun g46 =>
 (aPick v44 (.bool true) (g46.2.1.getD 0 .undef)).bind fun v47 =>
 (aNilchk (x20.2.1.getD 0 .undef)).bind fun v48 =>
 (aFaddr 1 v48).bind fun v49 =>
 (aCells 1 v47).bind fun c50 =>
 (aStore g46.2.2 v49 c50).bind fun h51 =>
 (aConv (.toInt .u32) r37.1 h51).bind fun r52 =>
 (aCells 1 r52.1).bind fun c53 =>
 bif Nat.ble ((10) + 1) (List.length (α := AVal) (splice (splice (splice (AVal.aggCells (x20.2.1.getD 2 .undef)) (3) c32) (9) c34) (6) c36)) then (call 85 [(x20.2.1.getD 0 .undef)] r52.2).bind fun r54 =>
 (aCells 1 r54.1).bind fun c55 =>
 bif Nat.ble ((11) + 1) (List.length (α := AVal) (splice (splice (splice (splice (AVal.aggCells (x20.2.1.getD 2 .undef)) (3) c32) (9) c34) (6) c36) (10) c53)) then some (0, [(x20.2.1.getD 0 .undef), (.agg (AVal.aggCells (x20.2.1.getD 1 .undef))), (.agg (splice (splice (splice (splice (splice (AVal.aggCells (x20.2.1.getD 2 .undef)) (3) c32) (9) c34) (6) c36) (10) c53) (11) c55))], r54.2) else none else none else none else none else none)
 ((aBin .eql .plain v22 (.int .i64 3)).bind fun v56 =>
 (condV v56
 (some (0, [(x20.2.1.getD 0 .undef), v22, v56, (.agg (AVal.aggCells (x20.2.1.getD 1 .undef))), (.agg (AVal.aggCells (x20.2.1.getD 2 .undef)))], x20.2.2))
 ((aBin .eql .plain v22 (.int .i64 4)).bind fun v57 =>
 some (0, [(x20.2.1.getD 0 .undef), v22, v57, (.agg (AVal.aggCells (x20.2.1.getD 1 .undef))), (.agg (AVal.aggCells (x20.2.1.getD 2 .undef)))], x20.2.2))).bind fun x58 =>
 bif Nat.beq x58.1 0 then (condV (x58.2.1.getD 2 .undef)
 ((call 85 [(x58.2.1.getD 0 .undef)] x58.2.2).bind fun r59 =>
 (aCells 1 r59.1).bind fun c60 =>
 bif Nat.ble ((11) + 1) (List.length (α := AVal) (AVal.aggCells (x58.2.1.getD 4 .undef))) then some (0, [(x58.2.1.getD 0 .undef), (.agg (AVal.aggCells (x58.2.1.getD 3 .undef))), (.agg (splice (AVal.aggCells (x58.2.1.getD 4 .undef)) (11) c60))], r59.2) else none)
 ((aBin .eql .plain (x58.2.1.getD 1 .undef) (.int .i64 5)).bind fun v61 =>
 condV v61
 ((call 81 [(x58.2.1.getD 0 .undef)] x58.2.2).bind fun r62 =>
 (loop (L62_0 call) [(x58.2.1.getD 0 .undef), r62.1, (.agg (AVal.aggCells (x58.2.1.getD 3 .undef))), (.agg (AVal.aggCells (x58.2.1.getD 4 .undef)))] r62.2).bind fun x78 =>
 bif Nat.beq x78.1 1 then some (0, [(x78.2.1.getD 0 .undef), (.agg (AVal.aggCells (x78.2.1.getD 1 .undef))), (.agg (AVal.aggCells (x78.2.1.getD 2 .undef)))], x78.2.2) else
 none)
 ((rdL (AVal.aggCells (x58.2.1.getD 4 .undef)) 0 1).bind fun c79 =>
 (fromCells false c79).bind fun v80 =>
 (aFill [.int .i64 0, .int .i64 0, .int .i64 0, .int .i64 0, .int .i64 0, .int .i64 0, .int .i64 0, .str [], .str [], .bool false, .int .u32 0, .nilSlice, .nilSlice] [(0, 1, v80)]).bind fun c81 =>
 (call 86 [(x58.2.1.getD 0 .undef)] x58.2.2).bind fun r82 =>
 (aCells 13 (.agg c81)).bind fun c83 =>
 bif Nat.ble ((0) + 13) (List.length (α := AVal) (AVal.aggCells (x58.2.1.getD 3 .undef))) then bif checkPairs [(4, some (.ef [(2, (AVal.aggCells (x58.2.1.getD 3 .undef))), (5, (AVal.aggCells (x58.2.1.getD 4 .undef)))] x58.2.2 [(2, (AVal.aggCells (x58.2.1.getD 3 .undef))), (5, (AVal.aggCells (x58.2.1.getD 4 .undef)))] r82.2)), (1, some (.lrd 5 (0) 1))] [(1, 4)] then some (1, [r82.1, (.agg (splice (AVal.aggCells (x58.2.1.getD 3 .undef)) (0) c83))], r82.2) else none else none))).bind fun x84 =>
 bif Nat.beq x84.1 0 then some (0, [(x84.2.1.getD 0 .undef), (.agg (AVal.aggCells (x84.2.1.getD 1 .undef))), (.agg (AVal.aggCells (x84.2.1.getD 2 .undef)))], x84.2.2) else
 bif Nat.beq x84.1 1 then some (1, [(x84.2.1.getD 0 .undef), (.agg (AVal.aggCells (x84.2.1.getD 1 .undef)))], x84.2.2) else
 none else
 none)).bind fun x85 =>
 bif Nat.beq x85.1 0 then some (0, [(x85.2.1.getD 0 .undef), (.agg (AVal.aggCells (x85.2.1.getD 1 .undef))), (.agg (AVal.aggCells (x85.2.1.getD 2 .undef)))], x85.2.2) else
 bif Nat.beq x85.1 1 then some (1, [(x85.2.1.getD 0 .undef), (.agg (AVal.aggCells (x85.2.1.getD 1 .undef)))], x85.2.2) else
 none)).bind fun x86 =>
 bif Nat.beq x86.1 0 then (rdL (AVal.aggCells (x86.2.1.getD 2 .undef)) 0 13).bind fun c87 =>
 (fromCells true c87).bind fun v88 =>
 (call 86 [(x86.2.1.getD 0 .undef)] x86.2.2).bind fun r89 =>
 (aCells 13 v88).bind fun c90 =>
 bif Nat.ble ((0) + 13) (List.length (α := AVal) (AVal.aggCells (x86.2.1.getD 1 .undef))) then bif checkPairs [(2, some (.ef [(2, (AVal.aggCells (x86.2.1.getD 1 .undef))), (5, (AVal.aggCells (x86.2.1.getD 2 .undef)))] x86.2.2 [(2, (AVal.aggCells (x86.2.1.getD 1 .undef))), (5, (AVal.aggCells (x86.2.1.getD 2 .undef)))] r89.2)), (0, some (.lrd 5 (0) 13))] [(0, 2)] then (((rdL (splice (AVal.aggCells (x86.2.1.getD 1 .undef)) (0) c90) (0) 13).bind fun cs => fromCells true cs).bind fun v => ((some r89.1).bind fun v => (some []).bind fun vs => some (v :: vs)).bind fun vs => some (v :: vs)).bind fun vs => some (0, [oneOr vs], r89.2) else none else none else
 bif Nat.beq x86.1 1 then (((rdL (AVal.aggCells (x86.2.1.getD 1 .undef)) (0) 13).bind fun cs => fromCells true cs).bind fun v => ((some (x86.2.1.getD 0 .undef)).bind fun v => (some []).bind fun vs => some (v :: vs)).bind fun vs => some (v :: vs)).bind fun vs => some (0, [oneOr vs], x86.2.2) else
 none else
 none else none
theorem run62 (call : Go.Fw.Call) (a0 : AVal) (h : Heap) : runFn call (.code A62) [a0] h = (S62 call a0 h).bind ansOf := by kernel_rfl
noncomputable def A63 : AFunc := ⟨1, (.seq (.region [.op 0 (.alloc 2 true [.int .i64 0, .int .i64 0, .int .i64 0])] [])
 (.seq (.region [.op 0 (.mov 3 (.tmp 0)),
 .op 1 (.call 4 16 [.tmp 3, .const (.int .i64 40)]),
 .op 2 (.mov 5 (.tmp 0)),
 .op 3 (.call 6 16 [.tmp 5, .const (.int .i64 6)]),
 .op 4 (.mov 7 (.tmp 0)),
 .op 5 (.call 8 16 [.tmp 7, .const (.int .i64 9)]),
 .op 6 (.build 9 [.int .i64 0, .int .i64 0, .int .i64 0] [(0, 1, .tmp 4), (1, 1, .tmp 6), (2, 1, .tmp 8)]),
 .op 7 (.store true 3 (.tmp 2) (.tmp 9))] [])
 .ret)),
 [.cell 2 true 3]⟩
theorem ok63 : funcOk Tryz.prog (drawOk Tryz.prog) Tryz.f63 A63 = true := by kernel_rfl
noncomputable def S63 (call : Go.Fw.Call) (a0 : AVal) (h : Heap) : Option J :=
 (call 16 [a0, (.int .i64 40)] h).bind fun r1 =>
 (call 16 [a0, (.int .i64 6)] r1.2).bind fun r2 =>
 (call 16 [a0, (.int .i64 9)] r2.2).bind fun r3 =>
 (aFill [.int .i64 0, .int .i64 0, .int .i64 0] [(0, 1, r1.1), (1, 1, r2.1), (2, 1, r3.1)]).bind fun c4 =>
 (aCells 3 (.agg c4)).bind fun c5 =>
 bif Nat.ble ((0) + 3) (List.length (α := AVal) [.int .i64 0, .int .i64 0, .int .i64 0]) then (((rdL (splice [.int .i64 0, .int .i64 0, .int .i64 0] (0) c5) (0) 3).bind fun cs => fromCells true cs).bind fun v => (some []).bind fun vs => some (v :: vs)).bind fun vs => some (0, [oneOr vs], r3.2) else none
theorem run63 (call : Go.Fw.Call) (a0 : AVal) (h : Heap) : runFn call (.code A63) [a0] h = (S63 call a0 h).bind ansOf := by kernel_rfl
noncomputable def A64 : AFunc := ⟨1, (.seq (.region [.op 0 (.mov 2 (.const (.bool false)))] [])
 (.seq (.seq (.region [.op 0 (.mov 3 (.const (.int .i64 0)))] [])
 (.block 0 (.loop ⟨[0, 3], []⟩ [((.exit 0), ⟨[0], []⟩), (.ret, ⟨[2], []⟩)]
 (.seq (.seq (.region [.op 0 (.mov 4 (.tmp 3)),
 .op 1 (.mov 5 (.tmp 0)),
 .op 2 (.len 6 true (.tmp 5)),
 .op 3 (.bin 7 .lss .plain (.tmp 4) (.tmp 6))] [])
 (.cond (.tmp 7)
 .skip
 (.exit 0)))
 (.seq (.block 1 (.seq (.region [.op 0 (.mov 10 (.tmp 0)),
 .op 1 (.mov 11 (.tmp 3)),
 .op 2 (.index 12 .str (.tmp 10) (.tmp 11)),
 .op 3 (.bin 13 .lss .plain (.tmp 12) (.const (.int .u8 97))),
 .op 4 (.mov 14 (.tmp 13)),
 .guard 14 false [.op 5 (.mov 15 (.tmp 0)),
 .op 6 (.mov 16 (.tmp 3)),
 .op 7 (.index 17 .str (.tmp 15) (.tmp 16)),
 .op 8 (.bin 18 .gtr .plain (.tmp 17) (.const (.int .u8 122)))] [] [18],
 .op 9 (.pick 19 (.tmp 14) (.const (.bool true)) (.tmp 18)),
 .op 10 (.mov 20 (.tmp 19)),
 .guard 20 true [.op 11 (.mov 21 (.tmp 0)),
 .op 12 (.mov 22 (.tmp 3)),
 .op 13 (.index 23 .str (.tmp 21) (.tmp 22)),
 .op 14 (.bin 24 .lss .plain (.tmp 23) (.const (.int .u8 48))),
 .op 15 (.mov 25 (.tmp 24)),
 .guard 25 false [.op 16 (.mov 26 (.tmp 0)),
 .op 17 (.mov 27 (.tmp 3)),
 .op 18 (.index 28 .str (.tmp 26) (.tmp 27)),
 .op 19 (.bin 29 .gtr .plain (.tmp 28) (.const (.int .u8 57)))] [] [29],
 .op 20 (.pick 30 (.tmp 25) (.const (.bool true)) (.tmp 29))] [] [30],
 .op 21 (.pick 31 (.tmp 20) (.tmp 30) (.const (.bool false)))] [])
 (.cond (.tmp 31)
 (.seq (.region [.op 0 (.mov 2 (.const (.bool false)))] [])
 .ret)
 .skip)))
 (.region [.op 0 (.mov 8 (.tmp 3)),
 .op 1 (.bin 9 .add .plain (.tmp 8) (.const (.int .i64 1))),
 .op 2 (.mov 3 (.tmp 9))] []))))))
 (.seq (.region [.op 0 (.mov 32 (.tmp 0)),
 .op 1 (.len 33 true (.tmp 32)),
 .op 2 (.bin 34 .geq .plain (.tmp 33) (.const (.int .i64 1))),
 .op 3 (.mov 35 (.tmp 34)),
 .guard 35 true [.op 4 (.mov 36 (.tmp 0)),
 .op 5 (.len 37 true (.tmp 36)),
 .op 6 (.bin 38 .leq .plain (.tmp 37) (.const (.int .i64 16)))] [] [38],
 .op 7 (.pick 39 (.tmp 35) (.tmp 38) (.const (.bool false))),
 .op 8 (.mov 2 (.tmp 39))] [])
 .ret))),
 [.tmp 2]⟩
theorem ok64 : funcOk Tryz.prog (drawOk Tryz.prog) Tryz.f64 A64 = true := by kernel_rfl
noncomputable def L64_0 (call : Go.Fw.Call) (xs : List AVal) (h : Heap) : Option J :=
 (aLen true (xs.getD 0 .undef)).bind fun v1 =>
 (aBin .lss .plain (xs.getD 1 .undef) v1).bind fun v2 =>
 condV v2
 ((aIndexStr (xs.getD 0 .undef) (xs.getD 1 .undef)).bind fun v3 =>
 (aBin .lss .plain v3 (.int .u8 97)).bind fun v4 =>
 (guardV v4 false
 ((aIndexStr (xs.getD 0 .undef) (xs.getD 1 .undef)).bind fun v5 =>
 (aBin .gtr .plain v5 (.int .u8 122)).bind fun v6 =>
 some (0, [v6], h))
 (some (0, [skipV], h))).bind fun g7 =>
 (aPick v4 (.bool true) (g7.2.1.getD 0 .undef)).bind fun v8 =>
 (guardV v8 true
 ((aIndexStr (xs.getD 0 .undef) (xs.getD 1 .undef)).bind fun v9 =>
 (aBin .lss .plain v9 (.int .u8 48)).bind fun v10 =>
 (guardV v10 false
 ((aIndexStr (xs.getD 0 .undef) (xs.getD 1 .undef)).bind fun v11 =>
 (aBin .gtr .plain v11 (.int .u8 57)).bind fun v12 =>
 some (0, [v12], g7.2.2))
 (some (0, [skipV], g7.2.2))).bind fun g13 =>
 (aPick v10 (.bool true) (g13.2.1.getD 0 .undef)).bind fun v14 =>
 some (0, [v14], g13.2.2))
 (some (0, [skipV], g7.2.2))).bind fun g15 =>
 (aPick v8 (g15.2.1.getD 0 .undef) (.bool false)).bind fun v16 =>
 condV v16
 (some (2, [(.bool false)], g15.2.2))
 ((aBin .add .plain (xs.getD 1 .undef) (.int .i64 1)).bind fun v17 =>
 some (0, [(xs.getD 0 .undef), v17], g15.2.2)))
 (some (1, [(xs.getD 0 .undef)], h))
noncomputable def S64 (call : Go.Fw.Call) (a0 : AVal) (h : Heap) : Option J :=
 (loop (L64_0 call) [a0, (.int .i64 0)] h).bind fun x18 =>
 bif Nat.beq x18.1 1 then (aLen true (x18.2.1.getD 0 .undef)).bind fun v19 =>
 (aBin .geq .plain v19 (.int .i64 1)).bind fun v20 =>
 (guardV v20 true
 ((aLen true (x18.2.1.getD 0 .undef)).bind fun v21 =>
 (aBin .leq .plain v21 (.int .i64 16)).bind fun v22 =>
 some (0, [v22], x18.2.2))
 (some (0, [skipV], x18.2.2))).bind fun g23 =>
 (aPick v20 (g23.2.1.getD 0 .undef) (.bool false)).bind fun v24 =>
 some (0, [v24], g23.2.2) else
 bif Nat.beq x18.1 2 then some (0, [(x18.2.1.getD 0 .undef)], x18.2.2) else
 none
theorem run64 (call : Go.Fw.Call) (a0 : AVal) (h : Heap) : runFn call (.code A64) [a0] h = (S64 call a0 h).bind ansOf := by kernel_rfl
noncomputable def A65 : AFunc := ⟨1, (.seq (.region [.op 0 (.box 1 true (.tmp 0)),
 .op 1 (.mov 2 (.const (.bool false)))] [])
 (.seq (.region [.op 0 (.faddr 3 0 (.tmp 1)),
 .op 1 (.load 4 false 1 (.tmp 3)),
 .op 2 (.bin 5 .geq .plain (.tmp 4) (.const (.int .i64 0))),
 .op 3 (.mov 6 (.tmp 5)),
 .guard 6 true [.op 4 (.faddr 7 2 (.tmp 1)),
 .op 5 (.load 8 false 1 (.tmp 7)),
 .op 6 (.bin 9 .geq .plain (.tmp 8) (.const (.int .i64 0)))] [] [9],
 .op 7 (.pick 10 (.tmp 6) (.tmp 9) (.const (.bool false))),
 .op 8 (.mov 11 (.tmp 10)),
 .guard 11 true [.op 9 (.faddr 12 1 (.tmp 1)),
 .op 10 (.load 13 false 1 (.tmp 12)),
 .op 11 (.bin 14 .geq .plain (.tmp 13) (.const (.int .i64 0)))] [] [14],
 .op 12 (.pick 15 (.tmp 11) (.tmp 14) (.const (.bool false))),
 .op 13 (.mov 16 (.tmp 15)),
 .guard 16 true [.op 14 (.faddr 17 1 (.tmp 1)),
 .op 15 (.load 18 false 1 (.tmp 17)),
 .op 16 (.bin 19 .lss .plain (.tmp 18) (.const (.int .i64 6)))] [] [19],
 .op 17 (.pick 20 (.tmp 16) (.tmp 19) (.const (.bool false))),
 .op 18 (.mov 2 (.tmp 20))] [])
 .ret)),
 [.tmp 2]⟩
theorem ok65 : funcOk Tryz.prog (drawOk Tryz.prog) Tryz.f65 A65 = true := by kernel_rfl
noncomputable def S65 (call : Go.Fw.Call) (a0 : AVal) (h : Heap) : Option J :=
 (AVal.cells? a0).bind fun c1 =>
 (rdL c1 0 1).bind fun c2 =>
 (fromCells false c2).bind fun v3 =>
 (aBin .geq .plain v3 (.int .i64 0)).bind fun v4 =>
 (guardV v4 true
 ((rdL c1 2 1).bind fun c5 =>
 (fromCells false c5).bind fun v6 =>
 (aBin .geq .plain v6 (.int .i64 0)).bind fun v7 =>
 some (0, [v7], h))
 (some (0, [skipV], h))).bind fun g8 =>
 (aPick v4 (g8.2.1.getD 0 .undef) (.bool false)).bind fun v9 =>
 (guardV v9 true
 ((rdL c1 1 1).bind fun c10 =>
 (fromCells false c10).bind fun v11 =>
 (aBin .geq .plain v11 (.int .i64 0)).bind fun v12 =>
 some (0, [v12], g8.2.2))
 (some (0, [skipV], g8.2.2))).bind fun g13 =>
 (aPick v9 (g13.2.1.getD 0 .undef) (.bool false)).bind fun v14 =>
 (guardV v14 true
 ((rdL c1 1 1).bind fun c15 =>
 (fromCells false c15).bind fun v16 =>
 (aBin .lss .plain v16 (.int .i64 6)).bind fun v17 =>
 some (0, [v17], g13.2.2))
 (some (0, [skipV], g13.2.2))).bind fun g18 =>
 (aPick v14 (g18.2.1.getD 0 .undef) (.bool false)).bind fun v19 =>
 some (0, [v19], g18.2.2)
theorem run65 (call : Go.Fw.Call) (a0 : AVal) (h : Heap) : runFn call (.code A65) [a0] h = (S65 call a0 h).bind ansOf := by kernel_rfl
noncomputable def A66 : AFunc := ⟨1, (.seq (.region [.op 0 (.mov 2 (.const (.nilSlice)))] [])
 (.seq (.seq (.region [.op 0 (.mov 3 (.tmp 0)),
 .op 1 (.bin 4 .eql .slice (.tmp 3) (.const (.nilSlice)))] [])
 (.cond (.tmp 4)
 (.seq (.region [.op 0 (.mov 2 (.const (.nilSlice)))] [])
 .ret)
 .skip))
 (.seq (.region [.op 0 (.buildSl 5 [.int .u8 0] 1 0 []),
 .op 1 (.mov 6 (.tmp 0)),
 .op 2 (.append 7 1 1 [.int .u8 0] false (.tmp 5) (.tmp 6)),
 .op 3 (.mov 2 (.tmp 7))] [])
 .ret))),
 [.tmp 2]⟩
theorem ok66 : funcOk Tryz.prog (drawOk Tryz.prog) Tryz.f66 A66 = true := by kernel_rfl
noncomputable def S66 (call : Go.Fw.Call) (a0 : AVal) (h : Heap) : Option J :=
 (aBin .eql .slice a0 (.nilSlice)).bind fun v1 =>
 condV v1
 (some (0, [(.nilSlice)], h))
 ((aFill (reps [.int .u8 0] 0) []).bind fun c2 =>
 (aAppend 1 1 [.int .u8 0] false (.slice h.next 0 0 0 1 true) a0 (h.alloc c2)).bind fun r3 =>
 some (0, [r3.1], r3.2))
theorem run66 (call : Go.Fw.Call) (a0 : AVal) (h : Heap) : runFn call (.code A66) [a0] h = (S66 call a0 h).bind ansOf := by kernel_rfl
noncomputable def A67 : AFunc := ⟨2, (.seq (.region [.op 0 (.mov 4 (.const (.nilSlice)))] [])
 (.seq (.region [.op 0 (.mov 5 (.tmp 1)),
 .op 1 (.mov 6 (.tmp 1)),
 .op 2 (.len 7 true (.tmp 6)),
 .op 3 (.minmax 8 false [.tmp 7, .const (.int .i64 255)]),
 .op 4 (.slice 9 .str (.tmp 5) none (some (.tmp 8)) none),
 .op 5 (.mov 1 (.tmp 9))] [])
 (.seq (.region [.op 0 (.mov 10 (.tmp 0)),
 .op 1 (.mov 11 (.tmp 1)),
 .op 2 (.len 12 true (.tmp 11)),
 .op 3 (.call 13 38 [.tmp 10, .tmp 12]),
 .op 4 (.mov 14 (.tmp 1)),
 .op 5 (.append 15 1 1 [.int .u8 0] false (.tmp 13) (.tmp 14)),
 .op 6 (.mov 4 (.tmp 15))] [])
 .ret))),
 [.tmp 4]⟩
theorem ok67 : funcOk Tryz.prog (drawOk Tryz.prog) Tryz.f67 A67 = true := by kernel_rfl
noncomputable def S67 (call : Go.Fw.Call) (a0 a1 : AVal) (h : Heap) : Option J :=
 (aLen true a1).bind fun v1 =>
 (aMinMaxL false [v1, (.int .i64 255)]).bind fun v2 =>
 (aSliceStr a1 none (some v2)).bind fun v3 =>
 (aLen true v3).bind fun v4 =>
 (call 38 [a0, v4] h).bind fun r5 =>
 (aAppend 1 1 [.int .u8 0] false r5.1 v3 r5.2).bind fun r6 =>
 some (0, [r6.1], r6.2)
theorem run67 (call : Go.Fw.Call) (a0 a1 : AVal) (h : Heap) : runFn call (.code A67) [a0, a1] h = (S67 call a0 a1 h).bind ansOf := by kernel_rfl
noncomputable def A68 : AFunc := ⟨2, (.seq (.region [.op 0 (.mov 4 (.const (.bool false)))] [])
 (.seq (.seq (.region [.op 0 (.mov 8 (.tmp 0)),
 .op 1 (.bin 9 .eql (.iface true []) (.tmp 8) (.const (.nilIface)))] [])
 (.cond (.tmp 9)
 (.seq (.region [.op 0 (.mov 4 (.const (.bool false)))] [])
 .ret)
 .skip))
 (.seq (.seq (.region [.op 0 (.mov 10 (.tmp 1)),
 .op 1 (.bin 11 .eql (.iface true []) (.tmp 10) (.const (.nilIface)))] [])
 (.cond (.tmp 11)
 .dead
 .skip))
 (.seq (.region [.op 0 (.mov 13 (.tmp 1)),
 .op 1 (.call 14 87 [.tmp 13]),
 .op 2 (.alloc 5 true [.nilPtr, .nilPtr, .int .u64 0]),
 .op 3 (.store true 3 (.tmp 5) (.tmp 14))] [])
 (.seq (.region [.op 0 (.load 15 true 3 (.tmp 5)),
 .op 1 (.call 16 88 [.tmp 15]),
 .op 2 (.mov 6 (.tmp 16))] [])
 (.seq (.seq (.region [.op 0 (.mov 17 (.tmp 6)),
 .op 1 (.invoke 18 [(17, 112, none), (134, 112, some (0, 1, false)), (135, 112, some (0, 1, false))] (.tmp 17) []),
 .op 2 (.bin 19 .neq .plain (.tmp 18) (.const (.int .u8 22))),
 .op 3 (.mov 20 (.tmp 19)),
 .guard 20 false [.op 4 (.load 21 true 3 (.tmp 5)),
 .op 5 (.call 22 89 [.tmp 21])] [] [22],
 .op 6 (.pick 23 (.tmp 20) (.const (.bool true)) (.tmp 22))] [])
 (.cond (.tmp 23)
 .dead
 .skip))
 (.seq (.region [.op 0 (.mov 25 (.tmp 6)),
 .op 1 (.invoke 26 [(122, 96, none), (135, 125, none)] (.tmp 25) []),
 .op 2 (.mov 7 (.tmp 26))] [])
 (.seq (.seq (.region [.op 0 (.mov 27 (.tmp 7)),
 .op 1 (.invoke 28 [(17, 112, none), (134, 112, some (0, 1, false)), (135, 112, some (0, 1, false))] (.tmp 27) []),
 .op 2 (.bin 29 .neq .plain (.tmp 28) (.const (.int .u8 20))),
 .op 3 (.mov 30 (.tmp 29)),
 .guard 30 true [.op 4 (.mov 31 (.tmp 7)),
 .op 5 (.load 32 false 1 (.const (.ptr 0 0))),
 .op 6 (.invoke 33 [(135, 126, none)] (.tmp 31) [.tmp 32]),
 .op 7 (.un 34 .not (.tmp 33))] [] [34],
 .op 8 (.pick 35 (.tmp 30) (.tmp 34) (.const (.bool false)))] [])
 (.cond (.tmp 35)
 .dead
 .skip))
 (.seq (.region [.op 0 (.mov 37 (.tmp 0)),
 .op 1 (.mov 38 (.tmp 1)),
 .op 2 (.load 39 true 3 (.tmp 5)),
 .op 3 (.mov 40 (.tmp 7)),
 .op 4 (.call 41 90 [.tmp 37, .tmp 38, .tmp 39, .tmp 40]),
 .op 5 (.mov 4 (.tmp 41))] [])
 .ret))))))))),
 [.tmp 4]⟩
theorem ok68 : funcOk Tryz.prog (drawOk Tryz.prog) Tryz.f68 A68 = true := by kernel_rfl
noncomputable def S68 (call : Go.Fw.Call) (a0 a1 : AVal) (h : Heap) : Option J :=
 (aBin .eql (.iface true []) a0 (.nilIface)).bind fun v1 =>
 condV v1
 (some (0, [(.bool false)], h))
 ((aBin .eql (.iface true []) a1 (.nilIface)).bind fun v2 =>
 condV v2
 (none)
 ((call 87 [a1] h).bind fun r3 =>
 (aCells 3 r3.1).bind fun c4 =>
 bif Nat.ble ((0) + 3) (List.length (α := AVal) [.nilPtr, .nilPtr, .int .u64 0]) then (rdL (splice [.nilPtr, .nilPtr, .int .u64 0] (0) c4) 0 3).bind fun c5 =>
 (fromCells true c5).bind fun v6 =>
 (call 88 [v6] r3.2).bind fun r7 =>
 (aMeth [(17, 112, none), (134, 112, some (0, 1, false)), (135, 112, some (0, 1, false))] r7.1).bind fun q8 =>
 (call q8.1 (q8.2 :: []) r7.2).bind fun r9 =>
 (aBin .neq .plain r9.1 (.int .u8 22)).bind fun v10 =>
 (guardV v10 false
 ((rdL (splice [.nilPtr, .nilPtr, .int .u64 0] (0) c4) 0 3).bind fun c11 =>
 (fromCells true c11).bind fun v12 =>
 (call 89 [v12] r9.2).bind fun r13 =>
 some (0, [r13.1], r13.2))
 (some (0, [skipV], r9.2))).bind fun g14 =>
 (aPick v10 (.bool true) (g14.2.1.getD 0 .undef)).bind fun v15 =>
 condV v15
 (none)
 ((aMeth [(122, 96, none), (135, 125, none)] r7.1).bind fun q16 =>
 (call q16.1 (q16.2 :: []) g14.2.2).bind fun r17 =>
 (aMeth [(17, 112, none), (134, 112, some (0, 1, false)), (135, 112, some (0, 1, false))] r17.1).bind fun q18 =>
 (call q18.1 (q18.2 :: []) r17.2).bind fun r19 =>
 (aBin .neq .plain r19.1 (.int .u8 20)).bind fun v20 =>
 (guardV v20 true
 ((aLoad r19.2 1 (.ptr 0 0)).bind fun c21 =>
 (fromCells false c21).bind fun v22 =>
 (aMeth [(135, 126, none)] r17.1).bind fun q23 =>
 (call q23.1 (q23.2 :: [v22]) r19.2).bind fun r24 =>
 (aUn .not r24.1).bind fun v25 =>
 some (0, [v25], r24.2))
 (some (0, [skipV], r19.2))).bind fun g26 =>
 (aPick v20 (g26.2.1.getD 0 .undef) (.bool false)).bind fun v27 =>
 condV v27
 (none)
 ((rdL (splice [.nilPtr, .nilPtr, .int .u64 0] (0) c4) 0 3).bind fun c28 =>
 (fromCells true c28).bind fun v29 =>
 (call 90 [a0, a1, v29, r17.1] g26.2.2).bind fun r30 =>
 some (0, [r30.1], r30.2))) else none))
theorem run68 (call : Go.Fw.Call) (a0 a1 : AVal) (h : Heap) : runFn call (.code A68) [a0, a1] h = (S68 call a0 a1 h).bind ansOf := by kernel_rfl
noncomputable def A69 : AFunc := ⟨1, (.seq (.region [.op 0 (.box 1 true (.tmp 0)),
 .op 1 (.mov 2 (.const (.bool false)))] [])
 (.seq (.region [.op 0 (.faddr 3 0 (.tmp 1)),
 .op 1 (.load 4 false 1 (.tmp 3)),
 .op 2 (.bin 5 .eql .plain (.tmp 4) (.const (.int .i64 1))),
 .op 3 (.mov 6 (.tmp 5)),
 .guard 6 false [.op 4 (.faddr 7 0 (.tmp 1)),
 .op 5 (.load 8 false 1 (.tmp 7)),
 .op 6 (.bin 9 .eql .plain (.tmp 8) (.const (.int .i64 2)))] [] [9],
 .op 7 (.pick 10 (.tmp 6) (.const (.bool true)) (.tmp 9)),
 .op 8 (.mov 2 (.tmp 10))] [])
 .ret)),
 [.tmp 2]⟩
theorem ok69 : funcOk Tryz.prog (drawOk Tryz.prog) Tryz.f69 A69 = true := by kernel_rfl
noncomputable def S69 (call : Go.Fw.Call) (a0 : AVal) (h : Heap) : Option J :=
 (AVal.cells? a0).bind fun c1 =>
 (rdL c1 0 1).bind fun c2 =>
 (fromCells false c2).bind fun v3 =>
 (aBin .eql .plain v3 (.int .i64 1)).bind fun v4 =>
 (guardV v4 false
 ((rdL c1 0 1).bind fun c5 =>
 (fromCells false c5).bind fun v6 =>
 (aBin .eql .plain v6 (.int .i64 2)).bind fun v7 =>
 some (0, [v7], h))
 (some (0, [skipV], h))).bind fun g8 =>
 (aPick v4 (.bool true) (g8.2.1.getD 0 .undef)).bind fun v9 =>
 some (0, [v9], g8.2.2)
theorem run69 (call : Go.Fw.Call) (a0 : AVal) (h : Heap) : runFn call (.code A69) [a0] h = (S69 call a0 h).bind ansOf := by kernel_rfl
noncomputable def A70 : AFunc := ⟨2, (.seq (.region [.op 0 (.mov 4 (.const (.int .i64 0)))] [])
 (.seq (.seq (.region [.op 0 (.mov 6 (.tmp 0)),
 .op 1 (.len 7 false (.tmp 6)),
 .op 2 (.mov 8 (.const (.int .i64 0)))] [])
 (.block 0 (.loop ⟨[0, 1, 7, 8], []⟩ [((.exit 0), ⟨[], []⟩), (.ret, ⟨[4], []⟩)]
 (.seq (.region [.op 0 (.bin 9 .lss .plain (.tmp 8) (.tmp 7))] [])
 (.seq (.cond (.tmp 9)
 .skip
 (.exit 0))
 (.seq (.block 1 (.seq (.region [.op 0 (.mov 10 (.tmp 8)),
 .op 1 (.mov 5 (.tmp 10))] [])
 (.seq (.region [.op 0 (.mov 11 (.tmp 1)),
 .op 1 (.mov 12 (.tmp 0)),
 .op 2 (.mov 13 (.tmp 5)),
 .op 3 (.iaddr 14 none 9 (.tmp 12) (.tmp 13)),
 .op 4 (.load 15 true 9 (.tmp 14)),
 .op 5 (.callv 16 (.tmp 11) [.tmp 15])] [])
 (.cond (.tmp 16)
 (.seq (.region [.op 0 (.mov 17 (.tmp 5)),
 .op 1 (.mov 4 (.tmp 17))] [])
 .ret)
 .skip))))
 (.region [.op 0 (.bin 18 .add .plain (.tmp 8) (.const (.int .i64 1))),
 .op 1 (.mov 8 (.tmp 18))] [])))))))
 (.seq (.region [.op 0 (.mov 4 (.const (.int .i64 (-1))))] [])
 .ret))),
 [.tmp 4]⟩
theorem ok70 : funcOk Tryz.prog (drawOk Tryz.prog) Tryz.f70 A70 = true := by kernel_rfl
noncomputable def L70_0 (call : Go.Fw.Call) (xs : List AVal) (h : Heap) : Option J :=
 (aBin .lss .plain (xs.getD 3 .undef) (xs.getD 2 .undef)).bind fun v2 =>
 condV v2
 ((aIaddr 9 (xs.getD 0 .undef) (xs.getD 3 .undef)).bind fun v3 =>
 (aLoad h 9 v3).bind fun c4 =>
 (fromCells true c4).bind fun v5 =>
 (aFn (xs.getD 1 .undef)).bind fun q6 =>
 (call q6.1 ([v5] ++ q6.2) h).bind fun r7 =>
 condV r7.1
 (some (2, [(xs.getD 3 .undef)], r7.2))
 ((aBin .add .plain (xs.getD 3 .undef) (.int .i64 1)).bind fun v8 =>
 some (0, [(xs.getD 0 .undef), (xs.getD 1 .undef), (xs.getD 2 .undef), v8], r7.2)))
 (some (1, [], h))
noncomputable def S70 (call : Go.Fw.Call) (a0 a1 : AVal) (h : Heap) : Option J :=
 (aLen false a0).bind fun v1 =>
 (loop (L70_0 call) [a0, a1, v1, (.int .i64 0)] h).bind fun x9 =>
 bif Nat.beq x9.1 1 then some (0, [(.int .i64 (-1))], x9.2.2) else
 bif Nat.beq x9.1 2 then some (0, [(x9.2.1.getD 0 .undef)], x9.2.2) else
 none
theorem run70 (call : Go.Fw.Call) (a0 a1 : AVal) (h : Heap) : runFn call (.code A70) [a0, a1] h = (S70 call a0 a1 h).bind ansOf := by kernel_rfl
noncomputable def A71 : AFunc := ⟨1, (.seq (.region [.op 0 (.mov 2 (.const (.bool false)))] [])
 (.seq (.seq (.region [.op 0 (.mov 5 (.tmp 0)),
 .op 1 (.len 6 true (.tmp 5)),
 .op 2 (.bin 7 .eql .plain (.tmp 6) (.const (.int .i64 0))),
 .op 3 (.mov 8 (.tmp 7)),
 .guard 8 false [.op 4 (.mov 9 (.tmp 0)),
 .op 5 (.len 10 true (.tmp 9)),
 .op 6 (.bin 11 .gtr .plain (.tmp 10) (.const (.int .i64 16)))] [] [11],
 .op 7 (.pick 12 (.tmp 8) (.const (.bool true)) (.tmp 11))] [])
 (.cond (.tmp 12)
 (.seq (.region [.op 0 (.mov 2 (.const (.bool false)))] [])
 .ret)
 .skip))
 (.seq (.seq (.region [.op 0 (.mov 13 (.tmp 0)),
 .op 1 (.len 14 true (.tmp 13)),
 .op 2 (.mov 15 (.const (.int .i64 0)))] [])
 (.block 0 (.loop ⟨[0, 14, 15], []⟩ [((.exit 0), ⟨[], []⟩), (.ret, ⟨[2], []⟩)]
 (.seq (.region [.op 0 (.bin 16 .lss .plain (.tmp 15) (.tmp 14))] [])
 (.seq (.cond (.tmp 16)
 .skip
 (.exit 0))
 (.seq (.block 1 (.seq (.region [.op 0 (.mov 17 (.tmp 15)),
 .op 1 (.mov 3 (.tmp 17))] [])
 (.seq (.region [.op 0 (.mov 18 (.tmp 0)),
 .op 1 (.mov 19 (.tmp 3)),
 .op 2 (.index 20 .str (.tmp 18) (.tmp 19)),
 .op 3 (.mov 4 (.tmp 20))] [])
 (.seq (.region [.op 0 (.mov 21 (.tmp 4)),
 .op 1 (.bin 22 .lss .plain (.tmp 21) (.const (.int .u8 97))),
 .op 2 (.mov 23 (.tmp 22)),
 .guard 23 false [.op 3 (.mov 24 (.tmp 4)),
 .op 4 (.bin 25 .gtr .plain (.tmp 24) (.const (.int .u8 122)))] [] [25],
 .op 5 (.pick 26 (.tmp 23) (.const (.bool true)) (.tmp 25)),
 .op 6 (.mov 27 (.tmp 26)),
 .guard 27 true [.op 7 (.mov 28 (.tmp 4)),
 .op 8 (.bin 29 .lss .plain (.tmp 28) (.const (.int .u8 48))),
 .op 9 (.mov 30 (.tmp 29)),
 .guard 30 false [.op 10 (.mov 31 (.tmp 4)),
 .op 11 (.bin 32 .gtr .plain (.tmp 31) (.const (.int .u8 57)))] [] [32],
 .op 12 (.pick 33 (.tmp 30) (.const (.bool true)) (.tmp 32))] [] [33],
 .op 13 (.pick 34 (.tmp 27) (.tmp 33) (.const (.bool false)))] [])
 (.cond (.tmp 34)
 (.seq (.region [.op 0 (.mov 2 (.const (.bool false)))] [])
 .ret)
 .skip)))))
 (.region [.op 0 (.bin 35 .add .plain (.tmp 15) (.const (.int .i64 1))),
 .op 1 (.mov 15 (.tmp 35))] [])))))))
 (.seq (.region [.op 0 (.mov 2 (.const (.bool true)))] [])
 .ret)))),
 [.tmp 2]⟩
theorem ok71 : funcOk Tryz.prog (drawOk Tryz.prog) Tryz.f71 A71 = true := by kernel_rfl
noncomputable def L71_0 (call : Go.Fw.Call) (xs : List AVal) (h : Heap) : Option J :=
 (aBin .lss .plain (xs.getD 2 .undef) (xs.getD 1 .undef)).bind fun v8 =>
 condV v8
 ((aIndexStr (xs.getD 0 .undef) (xs.getD 2 .undef)).bind fun v9 =>
 (aBin .lss .plain v9 (.int .u8 97)).bind fun v10 =>
 (guardV v10 false
 ((aBin .gtr .plain v9 (.int .u8 122)).bind fun v11 =>
 some (0, [v11], h))
 (some (0, [skipV], h))).bind fun g12 =>
 (aPick v10 (.bool true) (g12.2.1.getD 0 .undef)).bind fun v13 =>
 (guardV v13 true
 ((aBin .lss .plain v9 (.int .u8 48)).bind fun v14 =>
 (guardV v14 false
 ((aBin .gtr .plain v9 (.int .u8 57)).bind fun v15 =>
 some (0, [v15], g12.2.2))
 (some (0, [skipV], g12.2.2))).bind fun g16 =>
 (aPick v14 (.bool true) (g16.2.1.getD 0 .undef)).bind fun v17 =>
 some (0, [v17], g16.2.2))
 (some (0, [skipV], g12.2.2))).bind fun g18 =>
 (aPick v13 (g18.2.1.getD 0 .undef) (.bool false)).bind fun v19 =>
 condV v19
 (some (2, [(.bool false)], g18.2.2))
 ((aBin .add .plain (xs.getD 2 .undef) (.int .i64 1)).bind fun v20 =>
 some (0, [(xs.getD 0 .undef), (xs.getD 1 .undef), v20], g18.2.2)))
 (some (1, [], h))
noncomputable def S71 (call : Go.Fw.Call) (a0 : AVal) (h : Heap) : Option J :=
 (aLen true a0).bind fun v1 =>
 (aBin .eql .plain v1 (.int .i64 0)).bind fun v2 =>
 (guardV v2 false
 ((aLen true a0).bind fun v3 =>
 (aBin .gtr .plain v3 (.int .i64 16)).bind fun v4 =>
 some (0, [v4], h))
 (some (0, [skipV], h))).bind fun g5 =>
 (aPick v2 (.bool true) (g5.2.1.getD 0 .undef)).bind fun v6 =>
 condV v6
 (some (0, [(.bool false)], g5.2.2))
 ((aLen true a0).bind fun v7 =>
 (loop (L71_0 call) [a0, v7, (.int .i64 0)] g5.2.2).bind fun x21 =>
 bif Nat.beq x21.1 1 then some (0, [(.bool true)], x21.2.2) else
 bif Nat.beq x21.1 2 then some (0, [(x21.2.1.getD 0 .undef)], x21.2.2) else
 none)
theorem run71 (call : Go.Fw.Call) (a0 : AVal) (h : Heap) : runFn call (.code A71) [a0] h = (S71 call a0 h).bind ansOf := by kernel_rfl
noncomputable def A72 : AFunc := ⟨1, (.seq (.region [.op 0 (.box 1 true (.tmp 0)),
 .op 1 (.mov 2 (.const (.bool false)))] [])
 (.seq (.region [.op 0 (.faddr 3 0 (.tmp 1)),
 .op 1 (.load 4 false 1 (.tmp 3)),
 .op 2 (.bin 5 .geq .plain (.tmp 4) (.const (.int .i64 0))),
 .op 3 (.mov 6 (.tmp 5)),
 .guard 6 true [.op 4 (.faddr 7 2 (.tmp 1)),
 .op 5 (.load 8 false 1 (.tmp 7)),
 .op 6 (.bin 9 .geq .plain (.tmp 8) (.const (.int .i64 0)))] [] [9],
 .op 7 (.pick 10 (.tmp 6) (.tmp 9) (.const (.bool false))),
 .op 8 (.mov 11 (.tmp 10)),
 .guard 11 true [.op 9 (.faddr 12 1 (.tmp 1)),
 .op 10 (.load 13 false 1 (.tmp 12)),
 .op 11 (.bin 14 .geq .plain (.tmp 13) (.const (.int .i64 0)))] [] [14],
 .op 12 (.pick 15 (.tmp 11) (.tmp 14) (.const (.bool false))),
 .op 13 (.mov 16 (.tmp 15)),
 .guard 16 true [.op 14 (.faddr 17 1 (.tmp 1)),
 .op 15 (.load 18 false 1 (.tmp 17)),
 .op 16 (.bin 19 .lss .plain (.tmp 18) (.const (.int .i64 6)))] [] [19],
 .op 17 (.pick 20 (.tmp 16) (.tmp 19) (.const (.bool false))),
 .op 18 (.mov 2 (.tmp 20))] [])
 .ret)),
 [.tmp 2]⟩
theorem ok72 : funcOk Tryz.prog (drawOk Tryz.prog) Tryz.f72 A72 = true := by kernel_rfl
noncomputable def S72 (call : Go.Fw.Call) (a0 : AVal) (h : Heap) : Option J :=
 (AVal.cells? a0).bind fun c1 =>
 (rdL c1 0 1).bind fun c2 =>
 (fromCells false c2).bind fun v3 =>
 (aBin .geq .plain v3 (.int .i64 0)).bind fun v4 =>
 (guardV v4 true
 ((rdL c1 2 1).bind fun c5 =>
 (fromCells false c5).bind fun v6 =>
 (aBin .geq .plain v6 (.int .i64 0)).bind fun v7 =>
 some (0, [v7], h))
 (some (0, [skipV], h))).bind fun g8 =>
 (aPick v4 (g8.2.1.getD 0 .undef) (.bool false)).bind fun v9 =>
 (guardV v9 true
 ((rdL c1 1 1).bind fun c10 =>
 (fromCells false c10).bind fun v11 =>
 (aBin .geq .plain v11 (.int .i64 0)).bind fun v12 =>
 some (0, [v12], g8.2.2))
 (some (0, [skipV], g8.2.2))).bind fun g13 =>
 (aPick v9 (g13.2.1.getD 0 .undef) (.bool false)).bind fun v14 =>
 (guardV v14 true
 ((rdL c1 1 1).bind fun c15 =>
 (fromCells false c15).bind fun v16 =>
 (aBin .lss .plain v16 (.int .i64 6)).bind fun v17 =>
 some (0, [v17], g13.2.2))
 (some (0, [skipV], g13.2.2))).bind fun g18 =>
 (aPick v14 (g18.2.1.getD 0 .undef) (.bool false)).bind fun v19 =>
 some (0, [v19], g18.2.2)
theorem run72 (call : Go.Fw.Call) (a0 : AVal) (h : Heap) : runFn call (.code A72) [a0] h = (S72 call a0 h).bind ansOf := by kernel_rfl
noncomputable def A73 : AFunc := ⟨2, (.seq (.region [.op 0 (.mov 4 (.const (.int .i64 0)))] [])
 (.seq (.seq (.region [.op 0 (.mov 6 (.tmp 0)),
 .op 1 (.len 7 false (.tmp 6)),
 .op 2 (.mov 8 (.const (.int .i64 0)))] [])
 (.block 0 (.loop ⟨[0, 1, 7, 8], []⟩ [((.exit 0), ⟨[], []⟩), (.ret, ⟨[4], []⟩)]
 (.seq (.region [.op 0 (.bin 9 .lss .plain (.tmp 8) (.tmp 7))] [])
 (.seq (.cond (.tmp 9)
 .skip
 (.exit 0))
 (.seq (.block 1 (.seq (.region [.op 0 (.mov 10 (.tmp 8)),
 .op 1 (.mov 5 (.tmp 10))] [])
 (.seq (.region [.op 0 (.mov 11 (.tmp 1)),
 .op 1 (.mov 12 (.tmp 0)),
 .op 2 (.mov 13 (.tmp 5)),
 .op 3 (.iaddr 14 none 2 (.tmp 12) (.tmp 13)),
 .op 4 (.load 15 true 2 (.tmp 14)),
 .op 5 (.callv 16 (.tmp 11) [.tmp 15])] [])
 (.cond (.tmp 16)
 (.seq (.region [.op 0 (.mov 17 (.tmp 5)),
 .op 1 (.mov 4 (.tmp 17))] [])
 .ret)
 .skip))))
 (.region [.op 0 (.bin 18 .add .plain (.tmp 8) (.const (.int .i64 1))),
 .op 1 (.mov 8 (.tmp 18))] [])))))))
 (.seq (.region [.op 0 (.mov 4 (.const (.int .i64 (-1))))] [])
 .ret))),
 [.tmp 4]⟩
theorem ok73 : funcOk Tryz.prog (drawOk Tryz.prog) Tryz.f73 A73 = true := by kernel_rfl
noncomputable def L73_0 (call : Go.Fw.Call) (xs : List AVal) (h : Heap) : Option J :=
 (aBin .lss .plain (xs.getD 3 .undef) (xs.getD 2 .undef)).bind fun v2 =>
 condV v2
 ((aIaddr 2 (xs.getD 0 .undef) (xs.getD 3 .undef)).bind fun v3 =>
 (aLoad h 2 v3).bind fun c4 =>
 (fromCells true c4).bind fun v5 =>
 (aFn (xs.getD 1 .undef)).bind fun q6 =>
 (call q6.1 ([v5] ++ q6.2) h).bind fun r7 =>
 condV r7.1
 (some (2, [(xs.getD 3 .undef)], r7.2))
 ((aBin .add .plain (xs.getD 3 .undef) (.int .i64 1)).bind fun v8 =>
 some (0, [(xs.getD 0 .undef), (xs.getD 1 .undef), (xs.getD 2 .undef), v8], r7.2)))
 (some (1, [], h))
noncomputable def S73 (call : Go.Fw.Call) (a0 a1 : AVal) (h : Heap) : Option J :=
 (aLen false a0).bind fun v1 =>
 (loop (L73_0 call) [a0, a1, v1, (.int .i64 0)] h).bind fun x9 =>
 bif Nat.beq x9.1 1 then some (0, [(.int .i64 (-1))], x9.2.2) else
 bif Nat.beq x9.1 2 then some (0, [(x9.2.1.getD 0 .undef)], x9.2.2) else
 none
theorem run73 (call : Go.Fw.Call) (a0 a1 : AVal) (h : Heap) : runFn call (.code A73) [a0, a1] h = (S73 call a0 a1 h).bind ansOf := by kernel_rfl
noncomputable def A74 : AFunc := ⟨1, (.seq (.region [.op 0 (.mov 2 (.const (.int .i64 0)))] [])
 (.seq (.seq (.region [.op 0 (.mov 5 (.tmp 0)),
 .op 1 (.call 6 91 [.tmp 5, .const (.int .i64 1)]),
 .op 2 (.len 7 false (.tmp 6)),
 .op 3 (.mov 8 (.const (.int .i64 0)))] [])
 (.block 0 (.loop ⟨[6, 7, 8], []⟩ [((.exit 0), ⟨[], []⟩), (.ret, ⟨[2], []⟩)]
 (.seq (.region [.op 0 (.bin 9 .lss .plain (.tmp 8) (.tmp 7))] [])
 (.seq (.cond (.tmp 9)
 .skip
 (.exit 0))
 (.seq (.block 1 (.seq (.region [.op 0 (.iaddr 10 none 1 (.tmp 6) (.tmp 8)),
 .op 1 (.load 11 false 1 (.tmp 10)),
 .op 2 (.mov 4 (.tmp 11))] [])
 (.seq (.region [.op 0 (.mov 12 (.tmp 4)),
 .op 1 (.conv 13 (.toInt .i64) (.tmp 12)),
 .op 2 (.mov 2 (.tmp 13))] [])
 .ret)))
 (.region [.op 0 (.bin 14 .add .plain (.tmp 8) (.const (.int .i64 1))),
 .op 1 (.mov 8 (.tmp 14))] [])))))))
 (.seq (.region [.op 0 (.mov 2 (.const (.int .i64 0)))] [])
 .ret))),
 [.tmp 2]⟩
theorem ok74 : funcOk Tryz.prog (drawOk Tryz.prog) Tryz.f74 A74 = true := by kernel_rfl
noncomputable def L74_0 (call : Go.Fw.Call) (xs : List AVal) (h : Heap) : Option J :=
 (aBin .lss .plain (xs.getD 2 .undef) (xs.getD 1 .undef)).bind fun v3 =>
 condV v3
 ((aIaddr 1 (xs.getD 0 .undef) (xs.getD 2 .undef)).bind fun v4 =>
 (aLoad h 1 v4).bind fun c5 =>
 (fromCells false c5).bind fun v6 =>
 (aConv (.toInt .i64) v6 h).bind fun r7 =>
 some (2, [r7.1], r7.2))
 (some (1, [], h))
noncomputable def S74 (call : Go.Fw.Call) (a0 : AVal) (h : Heap) : Option J :=
 (call 91 [a0, (.int .i64 1)] h).bind fun r1 =>
 (aLen false r1.1).bind fun v2 =>
 (loop (L74_0 call) [r1.1, v2, (.int .i64 0)] r1.2).bind fun x8 =>
 bif Nat.beq x8.1 1 then some (0, [(.int .i64 0)], x8.2.2) else
 bif Nat.beq x8.1 2 then some (0, [(x8.2.1.getD 0 .undef)], x8.2.2) else
 none
theorem run74 (call : Go.Fw.Call) (a0 : AVal) (h : Heap) : runFn call (.code A74) [a0] h = (S74 call a0 h).bind ansOf := by kernel_rfl
noncomputable def A75 : AFunc := ⟨1, (.seq (.region [.op 0 (.mov 2 (.const (.int .i64 0)))] [])
 (.seq (.region [.op 0 (.mov 3 (.const (.int .i64 0)))] [])
 (.seq (.seq (.region [.op 0 (.mov 6 (.tmp 0)),
 .op 1 (.call 7 91 [.tmp 6, .const (.int .i64 8)]),
 .op 2 (.len 8 false (.tmp 7)),
 .op 3 (.mov 9 (.const (.int .i64 0)))] [])
 (.block 0 (.loop ⟨[3, 7, 8, 9], []⟩ [((.exit 0), ⟨[3], []⟩)]
 (.seq (.region [.op 0 (.bin 10 .lss .plain (.tmp 9) (.tmp 8))] [])
 (.seq (.cond (.tmp 10)
 .skip
 (.exit 0))
 (.seq (.block 1 (.seq (.region [.op 0 (.iaddr 11 none 1 (.tmp 7) (.tmp 9)),
 .op 1 (.load 12 false 1 (.tmp 11)),
 .op 2 (.mov 5 (.tmp 12))] [])
 (.region [.op 0 (.mov 13 (.tmp 3)),
 .op 1 (.bin 14 .shl .plain (.tmp 13) (.const (.int .u64 8))),
 .op 2 (.mov 15 (.tmp 5)),
 .op 3 (.conv 16 (.toInt .i64) (.tmp 15)),
 .op 4 (.bin 17 .or .plain (.tmp 14) (.tmp 16)),
 .op 5 (.mov 3 (.tmp 17))] [])))
 (.region [.op 0 (.bin 18 .add .plain (.tmp 9) (.const (.int .i64 1))),
 .op 1 (.mov 9 (.tmp 18))] [])))))))
 (.seq (.region [.op 0 (.mov 19 (.tmp 3)),
 .op 1 (.mov 2 (.tmp 19))] [])
 .ret)))),
 [.tmp 2]⟩
theorem ok75 : funcOk Tryz.prog (drawOk Tryz.prog) Tryz.f75 A75 = true := by kernel_rfl
noncomputable def L75_0 (call : Go.Fw.Call) (xs : List AVal) (h : Heap) : Option J :=
 (aBin .lss .plain (xs.getD 3 .undef) (xs.getD 2 .undef)).bind fun v3 =>
 condV v3
 ((aIaddr 1 (xs.getD 1 .undef) (xs.getD 3 .undef)).bind fun v4 =>
 (aLoad h 1 v4).bind fun c5 =>
 (fromCells false c5).bind fun v6 =>
 (aBin .shl .plain (xs.getD 0 .undef) (.int .u64 8)).bind fun v7 =>
 (aConv (.toInt .i64) v6 h).bind fun r8 =>
 (aBin .or .plain v7 r8.1).bind fun v9 =>
 (aBin .add .plain (xs.getD 3 .undef) (.int .i64 1)).bind fun v10 =>
 some (0, [v9, (xs.getD 1 .undef), (xs.getD 2 .undef), v10], r8.2))
 (some (1, [(xs.getD 0 .undef)], h))
noncomputable def S75 (call : Go.Fw.Call) (a0 : AVal) (h : Heap) : Option J :=
 (call 91 [a0, (.int .i64 8)] h).bind fun r1 =>
 (aLen false r1.1).bind fun v2 =>
 (loop (L75_0 call) [(.int .i64 0), r1.1, v2, (.int .i64 0)] r1.2).bind fun x11 =>
 bif Nat.beq x11.1 1 then some (0, [(x11.2.1.getD 0 .undef)], x11.2.2) else
 none
theorem run75 (call : Go.Fw.Call) (a0 : AVal) (h : Heap) : runFn call (.code A75) [a0] h = (S75 call a0 h).bind ansOf := by kernel_rfl
noncomputable def A76 : AFunc := ⟨1, (.seq (.region [.op 0 (.alloc 2 true [.str [], .str []])] [])
 (.seq (.region [.op 0 (.mov 4 (.tmp 0)),
 .op 1 (.nilchk 5 (.tmp 4)),
 .op 2 (.faddr 6 0 (.tmp 5)),
 .op 3 (.load 7 false 1 (.tmp 6)),
 .op 4 (.call 8 92 [.tmp 7]),
 .op 5 (.mov 3 (.tmp 8))] [])
 (.seq (.region [.op 0 (.mov 9 (.tmp 3)),
 .op 1 (.mov 10 (.tmp 0)),
 .op 2 (.nilchk 11 (.tmp 10)),
 .op 3 (.faddr 12 0 (.tmp 11)),
 .op 4 (.load 13 false 1 (.tmp 12)),
 .op 5 (.call 14 92 [.tmp 13]),
 .op 6 (.build 15 [.str [], .str []] [(0, 1, .tmp 9), (1, 1, .tmp 14)]),
 .op 7 (.store true 2 (.tmp 2) (.tmp 15))] [])
 .ret))),
 [.cell 2 true 2]⟩
theorem ok76 : funcOk Tryz.prog (drawOk Tryz.prog) Tryz.f76 A76 = true := by kernel_rfl
noncomputable def S76 (call : Go.Fw.Call) (a0 : AVal) (h : Heap) : Option J :=
 (aNilchk a0).bind fun v1 =>
 (aFaddr 0 v1).bind fun v2 =>
 (aLoad h 1 v2).bind fun c3 =>
 (fromCells false c3).bind fun v4 =>
 (call 92 [v4] h).bind fun r5 =>
 (aNilchk a0).bind fun v6 =>
 (aFaddr 0 v6).bind fun v7 =>
 (aLoad r5.2 1 v7).bind fun c8 =>
 (fromCells false c8).bind fun v9 =>
 (call 92 [v9] r5.2).bind fun r10 =>
 (aFill [.str [], .str []] [(0, 1, r5.1), (1, 1, r10.1)]).bind fun c11 =>
 (aCells 2 (.agg c11)).bind fun c12 =>
 bif Nat.ble ((0) + 2) (List.length (α := AVal) [.str [], .str []]) then (((rdL (splice [.str [], .str []] (0) c12) (0) 2).bind fun cs => fromCells true cs).bind fun v => (some []).bind fun vs => some (v :: vs)).bind fun vs => some (0, [oneOr vs], r10.2) else none
theorem run76 (call : Go.Fw.Call) (a0 : AVal) (h : Heap) : runFn call (.code A76) [a0] h = (S76 call a0 h).bind ansOf := by kernel_rfl
noncomputable def A77 : AFunc := ⟨1, (.seq (.region [.op 0 (.mov 2 (.const (.bool false)))] [])
 (.seq (.region [.op 0 (.mov 4 (.tmp 0)),
 .op 1 (.nilchk 5 (.tmp 4)),
 .op 2 (.faddr 6 0 (.tmp 5)),
 .op 3 (.load 7 false 1 (.tmp 6)),
 .op 4 (.call 8 74 [.tmp 7]),
 .op 5 (.mov 3 (.tmp 8))] [])
 (.seq (.region [.op 0 (.mov 9 (.tmp 0)),
 .op 1 (.mov 10 (.tmp 0)),
 .op 2 (.nilchk 11 (.tmp 10)),
 .op 3 (.faddr 12 1 (.tmp 11)),
 .op 4 (.load 13 false 1 (.tmp 12)),
 .op 5 (.mov 14 (.tmp 13)),
 .guard 14 false [.op 6 (.mov 15 (.tmp 3)),
 .op 7 (.bin 16 .gtr .plain (.tmp 15) (.const (.int .i64 1)))] [] [16],
 .op 8 (.pick 17 (.tmp 14) (.const (.bool true)) (.tmp 16)),
 .op 9 (.nilchk 18 (.tmp 9)),
 .op 10 (.faddr 19 1 (.tmp 18)),
 .op 11 (.store false 1 (.tmp 19) (.tmp 17))] [])
 (.seq (.region [.op 0 (.mov 20 (.tmp 3)),
 .op 1 (.bin 21 .eql .plain (.tmp 20) (.const (.int .i64 1))),
 .op 2 (.mov 2 (.tmp 21))] [])
 .ret)))),
 [.tmp 2]⟩
theorem ok77 : funcOk Tryz.prog (drawOk Tryz.prog) Tryz.f77 A77 = true := by kernel_rfl
noncomputable def S77 (call : Go.Fw.Call) (a0 : AVal) (h : Heap) : Option J :=
 (aNilchk a0).bind fun v1 =>
 (aFaddr 0 v1).bind fun v2 =>
 (aLoad h 1 v2).bind fun c3 =>
 (fromCells false c3).bind fun v4 =>
 (call 74 [v4] h).bind fun r5 =>
 (aNilchk a0).bind fun v6 =>
 (aFaddr 1 v6).bind fun v7 =>
 (aLoad r5.2 1 v7).bind fun c8 =>
 (fromCells false c8).bind fun v9 =>
 (guardV v9 false
 ((aBin .gtr .plain r5.1 (.int .i64 1)).bind fun v10 =>
 some (0, [v10], r5.2))
 (some (0, [skipV], r5.2))).bind fun g11 =>
 (aPick v9 (.bool true) (g11.2.1.getD 0 .undef)).bind fun v12 =>
 (aNilchk a0).bind fun v13 =>
 (aFaddr 1 v13).bind fun v14 =>
 (aCells 1 v12).bind fun c15 =>
 (aStore g11.2.2 v14 c15).bind fun h16 =>
 (aBin .eql .plain r5.1 (.int .i64 1)).bind fun v17 =>
 some (0, [v17], h16)
theorem run77 (call : Go.Fw.Call) (a0 : AVal) (h : Heap) : runFn call (.code A77) [a0] h = (S77 call a0 h).bind ansOf := by kernel_rfl
noncomputable def A78 : AFunc := ⟨1, (.seq (.region [.op 0 (.mov 2 (.const (.int .u32 0)))] [])
 (.seq (.region [.op 0 (.mov 4 (.tmp 0)),
 .op 1 (.nilchk 5 (.tmp 4)),
 .op 2 (.faddr 6 0 (.tmp 5)),
 .op 3 (.load 7 false 1 (.tmp 6)),
 .op 4 (.call 8 75 [.tmp 7]),
 .op 5 (.mov 3 (.tmp 8))] [])
 (.seq (.region [.op 0 (.mov 9 (.tmp 0)),
 .op 1 (.mov 10 (.tmp 0)),
 .op 2 (.nilchk 11 (.tmp 10)),
 .op 3 (.faddr 12 1 (.tmp 11)),
 .op 4 (.load 13 false 1 (.tmp 12)),
 .op 5 (.mov 14 (.tmp 13)),
 .guard 14 false [.op 6 (.mov 15 (.tmp 3)),
 .op 7 (.bin 16 .lss .plain (.tmp 15) (.const (.int .i64 0)))] [] [16],
 .op 8 (.pick 17 (.tmp 14) (.const (.bool true)) (.tmp 16)),
 .op 9 (.mov 18 (.tmp 17)),
 .guard 18 false [.op 10 (.mov 19 (.tmp 3)),
 .op 11 (.bin 20 .gtr .plain (.tmp 19) (.const (.int .i64 4294967295)))] [] [20],
 .op 12 (.pick 21 (.tmp 18) (.const (.bool true)) (.tmp 20)),
 .op 13 (.nilchk 22 (.tmp 9)),
 .op 14 (.faddr 23 1 (.tmp 22)),
 .op 15 (.store false 1 (.tmp 23) (.tmp 21))] [])
 (.seq (.region [.op 0 (.mov 24 (.tmp 3)),
 .op 1 (.conv 25 (.toInt .u32) (.tmp 24)),
 .op 2 (.mov 2 (.tmp 25))] [])
 .ret)))),
 [.tmp 2]⟩
theorem ok78 : funcOk Tryz.prog (drawOk Tryz.prog) Tryz.f78 A78 = true := by kernel_rfl
noncomputable def S78 (call : Go.Fw.Call) (a0 : AVal) (h : Heap) : Option J :=
 (aNilchk a0).bind fun v1 =>
 (aFaddr 0 v1).bind fun v2 =>
 (aLoad h 1 v2).bind fun c3 =>
 (fromCells false c3).bind fun v4 =>
 (call 75 [v4] h).bind fun r5 =>
 (aNilchk a0).bind fun v6 =>
 (aFaddr 1 v6).bind fun v7 =>
 (aLoad r5.2 1 v7).bind fun c8 =>
 (fromCells false c8).bind fun v9 =>
 (guardV v9 false
 ((aBin .lss .plain r5.1 (.int .i64 0)).bind fun v10 =>
 some (0, [v10], r5.2))
 (some (0, [skipV], r5.2))).bind fun g11 =>
 (aPick v9 (.bool true) (g11.2.1.getD 0 .undef)).bind fun v12 =>
 (guardV v12 false
 ((aBin .gtr .plain r5.1 (.int .i64 4294967295)).bind fun v13 =>
 some (0, [v13], g11.2.2))
 (some (0, [skipV], g11.2.2))).bind fun g14 =>
 (aPick v12 (.bool true) (g14.2.1.getD 0 .undef)).bind fun v15 =>
 (aNilchk a0).bind fun v16 =>
 (aFaddr 1 v16).bind fun v17 =>
 (aCells 1 v15).bind fun c18 =>
 (aStore g14.2.2 v17 c18).bind fun h19 =>
 (aConv (.toInt .u32) r5.1 h19).bind fun r20 =>
 some (0, [r20.1], r20.2)
theorem run78 (call : Go.Fw.Call) (a0 : AVal) (h : Heap) : runFn call (.code A78) [a0] h = (S78 call a0 h).bind ansOf := by kernel_rfl
noncomputable def A79 : AFunc := ⟨1, (.seq (.region [.op 0 (.mov 2 (.const (.nilSlice)))] [])
 (.seq (.region [.op 0 (.mov 3 (.const (.nilSlice)))] [])
 (.seq (.seq (.region [.op 0 (.mov 5 (.tmp 0)),
 .op 1 (.nilchk 6 (.tmp 5)),
 .op 2 (.faddr 7 0 (.tmp 6)),
 .op 3 (.load 8 false 1 (.tmp 7)),
 .op 4 (.call 9 74 [.tmp 8]),
 .op 5 (.mov 10 (.const (.int .i64 0)))] [])
 (.block 0 (.loop ⟨[0, 3, 9, 10], []⟩ [((.exit 0), ⟨[3], []⟩)]
 (.seq (.region [.op 0 (.bin 11 .lss .plain (.tmp 10) (.tmp 9))] [])
 (.seq (.cond (.tmp 11)
 .skip
 (.exit 0))
 (.seq (.block 1 (.seq (.region [.op 0 (.mov 12 (.tmp 0)),
 .op 1 (.call 13 76 [.tmp 12]),
 .op 2 (.build 14 cz [(0, 2, .tmp 13)]),
 .op 3 (.alloc 4 true cz),
 .op 4 (.store true 9 (.tmp 4) (.tmp 14))] [])
 (.seq (.region [.op 0 (.mov 15 (.tmp 0)),
 .op 1 (.nilchk 16 (.tmp 15)),
 .op 2 (.faddr 17 0 (.tmp 16)),
 .op 3 (.load 18 false 1 (.tmp 17)),
 .op 4 (.call 19 74 [.tmp 18]),
 .op 5 (.mov 20 (.tmp 0)),
 .op 6 (.nilchk 21 (.tmp 20)),
 .op 7 (.faddr 22 0 (.tmp 21)),
 .op 8 (.load 23 false 1 (.tmp 22)),
 .op 9 (.call 24 74 [.tmp 23]),
 .op 10 (.faddr 25 2 (.tmp 4)),
 .op 11 (.store false 1 (.tmp 25) (.tmp 19)),
 .op 12 (.faddr 26 3 (.tmp 4)),
 .op 13 (.store false 1 (.tmp 26) (.tmp 24))] [(8, 4)])
 (.seq (.region [.op 0 (.mov 27 (.tmp 0)),
 .op 1 (.nilchk 28 (.tmp 27)),
 .op 2 (.faddr 29 0 (.tmp 28)),
 .op 3 (.load 30 false 1 (.tmp 29)),
 .op 4 (.call 31 75 [.tmp 30]),
 .op 5 (.mov 32 (.tmp 0)),
 .op 6 (.nilchk 33 (.tmp 32)),
 .op 7 (.faddr 34 0 (.tmp 33)),
 .op 8 (.load 35 false 1 (.tmp 34)),
 .op 9 (.call 36 75 [.tmp 35]),
 .op 10 (.faddr 37 4 (.tmp 4)),
 .op 11 (.store false 1 (.tmp 37) (.tmp 31)),
 .op 12 (.faddr 38 5 (.tmp 4)),
 .op 13 (.faddr 39 0 (.tmp 38)),
 .op 14 (.store false 1 (.tmp 39) (.tmp 36))] [(8, 4)])
 (.seq (.region [.op 0 (.mov 40 (.tmp 0)),
 .op 1 (.nilchk 41 (.tmp 40)),
 .op 2 (.faddr 42 0 (.tmp 41)),
 .op 3 (.load 43 false 1 (.tmp 42)),
 .op 4 (.call 44 74 [.tmp 43]),
 .op 5 (.faddr 45 5 (.tmp 4)),
 .op 6 (.faddr 46 1 (.tmp 45)),
 .op 7 (.store false 1 (.tmp 46) (.tmp 44))] [])
 (.seq (.region [.op 0 (.mov 47 (.tmp 0)),
 .op 1 (.nilchk 48 (.tmp 47)),
 .op 2 (.faddr 49 0 (.tmp 48)),
 .op 3 (.load 50 false 1 (.tmp 49)),
 .op 4 (.call 51 75 [.tmp 50]),
 .op 5 (.faddr 52 5 (.tmp 4)),
 .op 6 (.faddr 53 2 (.tmp 52)),
 .op 7 (.store false 1 (.tmp 53) (.tmp 51))] [])
 (.seq (.region [.op 0 (.mov 54 (.tmp 0)),
 .op 1 (.call 55 77 [.tmp 54]),
 .op 2 (.faddr 56 8 (.tmp 4)),
 .op 3 (.store false 1 (.tmp 56) (.tmp 55))] [])
 (.region [.op 0 (.mov 57 (.tmp 3)),
 .op 1 (.load 58 true 9 (.tmp 4)),
 .op 2 (.buildSl 59 cz 9 1 [(0, .tmp 58)]),
 .op 3 (.append 60 9 88 cz false (.tmp 57) (.tmp 59)),
 .op 4 (.mov 3 (.tmp 60))] []))))))))
 (.region [.op 0 (.bin 61 .add .plain (.tmp 10) (.const (.int .i64 1))),
 .op 1 (.mov 10 (.tmp 61))] [])))))))
 (.seq (.region [.op 0 (.mov 62 (.tmp 3)),
 .op 1 (.mov 2 (.tmp 62))] [])
 .ret)))),
 [.tmp 2]⟩
theorem ok79 : funcOk Tryz.prog (drawOk Tryz.prog) Tryz.f79 A79 = true := by kernel_rfl
noncomputable def L79_0 (call : Go.Fw.Call) (xs : List AVal) (h : Heap) : Option J :=
 (aBin .lss .plain (xs.getD 3 .undef) (xs.getD 2 .undef)).bind fun v6 =>
 condV v6
 ((call 76 [(xs.getD 0 .undef)] h).bind fun r7 =>
 (aFill [.str [], .str [], .int .i64 0, .int .i64 0, .int .i64 0, .int .i64 0, .int .i64 0, .int .i64 0, .bool false] [(0, 2, r7.1)]).bind fun c8 =>
 (aCells 9 (.agg c8)).bind fun c9 =>
 bif Nat.ble ((0) + 9) (List.length (α := AVal) [.str [], .str [], .int .i64 0, .int .i64 0, .int .i64 0, .int .i64 0, .int .i64 0, .int .i64 0, .bool false]) then (aNilchk (xs.getD 0 .undef)).bind fun v10 =>
 (aFaddr 0 v10).bind fun v11 =>
 (aLoad r7.2 1 v11).bind fun c12 =>
 (fromCells false c12).bind fun v13 =>
 (call 74 [v13] r7.2).bind fun r14 =>
 (aNilchk (xs.getD 0 .undef)).bind fun v15 =>
 (aFaddr 0 v15).bind fun v16 =>
 (aLoad r14.2 1 v16).bind fun c17 =>
 (fromCells false c17).bind fun v18 =>
 (call 74 [v18] r14.2).bind fun r19 =>
 (aCells 1 r14.1).bind fun c20 =>
 bif Nat.ble ((2) + 1) (List.length (α := AVal) (splice [.str [], .str [], .int .i64 0, .int .i64 0, .int .i64 0, .int .i64 0, .int .i64 0, .int .i64 0, .bool false] (0) c9)) then (aCells 1 r19.1).bind fun c21 =>
 bif Nat.ble ((3) + 1) (List.length (α := AVal) (splice (splice [.str [], .str [], .int .i64 0, .int .i64 0, .int .i64 0, .int .i64 0, .int .i64 0, .int .i64 0, .bool false] (0) c9) (2) c20)) then bif checkPairs [(8, logRd v16 1), (4, some (.ef [(4, (splice [.str [], .str [], .int .i64 0, .int .i64 0, .int .i64 0, .int .i64 0, .int .i64 0, .int .i64 0, .bool false] (0) c9))] r7.2 [(4, (splice [.str [], .str [], .int .i64 0, .int .i64 0, .int .i64 0, .int .i64 0, .int .i64 0, .int .i64 0, .bool false] (0) c9))] r14.2))] [(8, 4)] then (aNilchk (xs.getD 0 .undef)).bind fun v22 =>
 (aFaddr 0 v22).bind fun v23 =>
 (aLoad r19.2 1 v23).bind fun c24 =>
 (fromCells false c24).bind fun v25 =>
 (call 75 [v25] r19.2).bind fun r26 =>
 (aNilchk (xs.getD 0 .undef)).bind fun v27 =>
 (aFaddr 0 v27).bind fun v28 =>
 (aLoad r26.2 1 v28).bind fun c29 =>
 (fromCells false c29).bind fun v30 =>
 (call 75 [v30] r26.2).bind fun r31 =>
 (aCells 1 r26.1).bind fun c32 =>
 bif Nat.ble ((4) + 1) (List.length (α := AVal) (splice (splice (splice [.str [], .str [], .int .i64 0, .int .i64 0, .int .i64 0, .int .i64 0, .int .i64 0, .int .i64 0, .bool false] (0) c9) (2) c20) (3) c21)) then (aCells 1 r31.1).bind fun c33 =>
 bif Nat.ble ((5) + 1) (List.length (α := AVal) (splice (splice (splice (splice [.str [], .str [], .int .i64 0, .int .i64 0, .int .i64 0, .int .i64 0, .int .i64 0, .int .i64 0, .bool false] (0) c9) (2) c20) (3) c21) (4) c32)) then bif checkPairs [(8, logRd v28 1), (4, some (.ef [(4, (splice (splice (splice [.str [], .str [], .int .i64 0, .int .i64 0, .int .i64 0, .int .i64 0, .int .i64 0, .int .i64 0, .bool false] (0) c9) (2) c20) (3) c21))] r19.2 [(4, (splice (splice (splice [.str [], .str [], .int .i64 0, .int .i64 0, .int .i64 0, .int .i64 0, .int .i64 0, .int .i64 0, .bool false] (0) c9) (2) c20) (3) c21))] r26.2))] [(8, 4)] then (aNilchk (xs.getD 0 .undef)).bind fun v34 =>
 (aFaddr 0 v34).bind fun v35 =>
 (aLoad r31.2 1 v35).bind fun c36 =>
 (fromCells false c36).bind fun v37 =>
 (call 74 [v37] r31.2).bind fun r38 =>
 (aCells 1 r38.1).bind fun c39 =>
 bif Nat.ble ((6) + 1) (List.length (α := AVal) (splice (splice (splice (splice (splice [.str [], .str [], .int .i64 0, .int .i64 0, .int .i64 0, .int .i64 0, .int .i64 0, .int .i64 0, .bool false] (0) c9) (2) c20) (3) c21) (4) c32) (5) c33)) then (aNilchk (xs.getD 0 .undef)).bind fun v40 =>
 (aFaddr 0 v40).bind fun v41 =>
 (aLoad r38.2 1 v41).bind fun c42 =>
 (fromCells false c42).bind fun v43 =>
 (call 75 [v43] r38.2).bind fun r44 =>
 (aCells 1 r44.1).bind fun c45 =>
 bif Nat.ble ((7) + 1) (List.length (α := AVal) (splice (splice (splice (splice (splice (splice [.str [], .str [], .int .i64 0, .int .i64 0, .int .i64 0, .int .i64 0, .int .i64 0, .int .i64 0, .bool false] (0) c9) (2) c20) (3) c21) (4) c32) (5) c33) (6) c39)) then (call 77 [(xs.getD 0 .undef)] r44.2).bind fun r46 =>
 (aCells 1 r46.1).bind fun c47 =>
 bif Nat.ble ((8) + 1) (List.length (α := AVal) (splice (splice (splice (splice (splice (splice (splice [.str [], .str [], .int .i64 0, .int .i64 0, .int .i64 0, .int .i64 0, .int .i64 0, .int .i64 0, .bool false] (0) c9) (2) c20) (3) c21) (4) c32) (5) c33) (6) c39) (7) c45)) then (rdL (splice (splice (splice (splice (splice (splice (splice (splice [.str [], .str [], .int .i64 0, .int .i64 0, .int .i64 0, .int .i64 0, .int .i64 0, .int .i64 0, .bool false] (0) c9) (2) c20) (3) c21) (4) c32) (5) c33) (6) c39) (7) c45) (8) c47) 0 9).bind fun c48 =>
 (fromCells true c48).bind fun v49 =>
 (aFill (reps [.str [], .str [], .int .i64 0, .int .i64 0, .int .i64 0, .int .i64 0, .int .i64 0, .int .i64 0, .bool false] 1) [(0, 9, v49)]).bind fun c50 =>
 (aAppend 9 88 [.str [], .str [], .int .i64 0, .int .i64 0, .int .i64 0, .int .i64 0, .int .i64 0, .int .i64 0, .bool false] false (xs.getD 1 .undef) (.slice r46.2.next 0 1 1 9 true) (r46.2.alloc c50)).bind fun r51 =>
 (aBin .add .plain (xs.getD 3 .undef) (.int .i64 1)).bind fun v52 =>
 some (0, [(xs.getD 0 .undef), r51.1, (xs.getD 2 .undef), v52], r51.2) else none else none else none else none else none else none else none else none else none else none)
 (some (1, [(xs.getD 1 .undef)], h))
noncomputable def S79 (call : Go.Fw.Call) (a0 : AVal) (h : Heap) : Option J :=
 (aNilchk a0).bind fun v1 =>
 (aFaddr 0 v1).bind fun v2 =>
 (aLoad h 1 v2).bind fun c3 =>
 (fromCells false c3).bind fun v4 =>
 (call 74 [v4] h).bind fun r5 =>
 (loop (L79_0 call) [a0, (.nilSlice), r5.1, (.int .i64 0)] r5.2).bind fun x53 =>
 bif Nat.beq x53.1 1 then some (0, [(x53.2.1.getD 0 .undef)], x53.2.2) else
 none
theorem run79 (call : Go.Fw.Call) (a0 : AVal) (h : Heap) : runFn call (.code A79) [a0] h = (S79 call a0 h).bind ansOf := by kernel_rfl
noncomputable def A80 : AFunc := ⟨1, (.seq (.region [.op 0 (.mov 2 (.const (.nilSlice)))] [])
 (.seq (.region [.op 0 (.mov 3 (.const (.nilSlice)))] [])
 (.seq (.seq (.region [.op 0 (.mov 4 (.tmp 0)),
 .op 1 (.nilchk 5 (.tmp 4)),
 .op 2 (.faddr 6 0 (.tmp 5)),
 .op 3 (.load 7 false 1 (.tmp 6)),
 .op 4 (.call 8 74 [.tmp 7]),
 .op 5 (.mov 9 (.const (.int .i64 0)))] [])
 (.block 0 (.loop ⟨[0, 3, 8, 9], []⟩ [((.exit 0), ⟨[3], []⟩)]
 (.seq (.region [.op 0 (.bin 10 .lss .plain (.tmp 9) (.tmp 8))] [])
 (.seq (.cond (.tmp 10)
 .skip
 (.exit 0))
 (.seq (.block 1 (.region [.op 0 (.mov 11 (.tmp 3)),
 .op 1 (.mov 12 (.tmp 0)),
 .op 2 (.call 13 76 [.tmp 12]),
 .op 3 (.buildSl 14 [.str [], .str []] 2 1 [(0, .tmp 13)]),
 .op 4 (.append 15 2 32 [.str [], .str []] false (.tmp 11) (.tmp 14)),
 .op 5 (.mov 3 (.tmp 15))] []))
 (.region [.op 0 (.bin 16 .add .plain (.tmp 9) (.const (.int .i64 1))),
 .op 1 (.mov 9 (.tmp 16))] [])))))))
 (.seq (.region [.op 0 (.mov 17 (.tmp 3)),
 .op 1 (.mov 2 (.tmp 17))] [])
 .ret)))),
 [.tmp 2]⟩
theorem ok80 : funcOk Tryz.prog (drawOk Tryz.prog) Tryz.f80 A80 = true := by kernel_rfl
noncomputable def L80_0 (call : Go.Fw.Call) (xs : List AVal) (h : Heap) : Option J :=
 (aBin .lss .plain (xs.getD 3 .undef) (xs.getD 2 .undef)).bind fun v6 =>
 condV v6
 ((call 76 [(xs.getD 0 .undef)] h).bind fun r7 =>
 (aFill (reps [.str [], .str []] 1) [(0, 2, r7.1)]).bind fun c8 =>
 (aAppend 2 32 [.str [], .str []] false (xs.getD 1 .undef) (.slice r7.2.next 0 1 1 2 true) (r7.2.alloc c8)).bind fun r9 =>
 (aBin .add .plain (xs.getD 3 .undef) (.int .i64 1)).bind fun v10 =>
 some (0, [(xs.getD 0 .undef), r9.1, (xs.getD 2 .undef), v10], r9.2))
 (some (1, [(xs.getD 1 .undef)], h))
noncomputable def S80 (call : Go.Fw.Call) (a0 : AVal) (h : Heap) : Option J :=
 (aNilchk a0).bind fun v1 =>
 (aFaddr 0 v1).bind fun v2 =>
 (aLoad h 1 v2).bind fun c3 =>
 (fromCells false c3).bind fun v4 =>
 (call 74 [v4] h).bind fun r5 =>
 (loop (L80_0 call) [a0, (.nilSlice), r5.1, (.int .i64 0)] r5.2).bind fun x11 =>
 bif Nat.beq x11.1 1 then some (0, [(x11.2.1.getD 0 .undef)], x11.2.2) else
 none
theorem run80 (call : Go.Fw.Call) (a0 : AVal) (h : Heap) : runFn call (.code A80) [a0] h = (S80 call a0 h).bind ansOf := by kernel_rfl
noncomputable def A81 : AFunc := ⟨1, (.seq (.region [.op 0 (.mov 2 (.const (.int .i64 0)))] [])
 (.seq (.seq (.region [.op 0 (.mov 5 (.tmp 0)),
 .op 1 (.call 6 93 [.tmp 5, .const (.int .i64 1)]),
 .op 2 (.len 7 false (.tmp 6)),
 .op 3 (.mov 8 (.const (.int .i64 0)))] [])
 (.block 0 (.loop ⟨[6, 7, 8], []⟩ [((.exit 0), ⟨[], []⟩), (.ret, ⟨[2], []⟩)]
 (.seq (.region [.op 0 (.bin 9 .lss .plain (.tmp 8) (.tmp 7))] [])
 (.seq (.cond (.tmp 9)
 .skip
 (.exit 0))
 (.seq (.block 1 (.seq (.region [.op 0 (.iaddr 10 none 1 (.tmp 6) (.tmp 8)),
 .op 1 (.load 11 false 1 (.tmp 10)),
 .op 2 (.mov 4 (.tmp 11))] [])
 (.seq (.region [.op 0 (.mov 12 (.tmp 4)),
 .op 1 (.conv 13 (.toInt .i64) (.tmp 12)),
 .op 2 (.mov 2 (.tmp 13))] [])
 .ret)))
 (.region [.op 0 (.bin 14 .add .plain (.tmp 8) (.const (.int .i64 1))),
 .op 1 (.mov 8 (.tmp 14))] [])))))))
 (.seq (.region [.op 0 (.mov 2 (.const (.int .i64 0)))] [])
 .ret))),
 [.tmp 2]⟩
theorem ok81 : funcOk Tryz.prog (drawOk Tryz.prog) Tryz.f81 A81 = true := by kernel_rfl
noncomputable def L81_0 (call : Go.Fw.Call) (xs : List AVal) (h : Heap) : Option J :=
 (aBin .lss .plain (xs.getD 2 .undef) (xs.getD 1 .undef)).bind fun v3 =>
 condV v3
 ((aIaddr 1 (xs.getD 0 .undef) (xs.getD 2 .undef)).bind fun v4 =>
 (aLoad h 1 v4).bind fun c5 =>
 (fromCells false c5).bind fun v6 =>
 (aConv (.toInt .i64) v6 h).bind fun r7 =>
 some (2, [r7.1], r7.2))
 (some (1, [], h))
noncomputable def S81 (call : Go.Fw.Call) (a0 : AVal) (h : Heap) : Option J :=
 (call 93 [a0, (.int .i64 1)] h).bind fun r1 =>
 (aLen false r1.1).bind fun v2 =>
 (loop (L81_0 call) [r1.1, v2, (.int .i64 0)] r1.2).bind fun x8 =>
 bif Nat.beq x8.1 1 then some (0, [(.int .i64 0)], x8.2.2) else
 bif Nat.beq x8.1 2 then some (0, [(x8.2.1.getD 0 .undef)], x8.2.2) else
 none
theorem run81 (call : Go.Fw.Call) (a0 : AVal) (h : Heap) : runFn call (.code A81) [a0] h = (S81 call a0 h).bind ansOf := by kernel_rfl
noncomputable def A82 : AFunc := ⟨1, (.seq (.region [.op 0 (.mov 2 (.const (.int .i64 0)))] [])
 (.seq (.region [.op 0 (.mov 3 (.const (.int .u64 0)))] [])
 (.seq (.seq (.region [.op 0 (.mov 6 (.tmp 0)),
 .op 1 (.call 7 93 [.tmp 6, .const (.int .i64 8)]),
 .op 2 (.len 8 false (.tmp 7)),
 .op 3 (.mov 9 (.const (.int .i64 0)))] [])
 (.block 0 (.loop ⟨[3, 7, 8, 9], []⟩ [((.exit 0), ⟨[3], []⟩)]
 (.seq (.region [.op 0 (.bin 10 .lss .plain (.tmp 9) (.tmp 8))] [])
 (.seq (.cond (.tmp 10)
 .skip
 (.exit 0))
 (.seq (.block 1 (.seq (.region [.op 0 (.iaddr 11 none 1 (.tmp 7) (.tmp 9)),
 .op 1 (.load 12 false 1 (.tmp 11)),
 .op 2 (.mov 5 (.tmp 12))] [])
 (.region [.op 0 (.mov 13 (.tmp 3)),
 .op 1 (.bin 14 .shl .plain (.tmp 13) (.const (.int .u64 8))),
 .op 2 (.mov 15 (.tmp 5)),
 .op 3 (.conv 16 (.toInt .u64) (.tmp 15)),
 .op 4 (.bin 17 .or .plain (.tmp 14) (.tmp 16)),
 .op 5 (.mov 3 (.tmp 17))] [])))
 (.region [.op 0 (.bin 18 .add .plain (.tmp 9) (.const (.int .i64 1))),
 .op 1 (.mov 9 (.tmp 18))] [])))))))
 (.seq (.region [.op 0 (.mov 19 (.tmp 3)),
 .op 1 (.conv 20 (.toInt .i64) (.tmp 19)),
 .op 2 (.mov 2 (.tmp 20))] [])
 .ret)))),
 [.tmp 2]⟩
theorem ok82 : funcOk Tryz.prog (drawOk Tryz.prog) Tryz.f82 A82 = true := by kernel_rfl
noncomputable def L82_0 (call : Go.Fw.Call) (xs : List AVal) (h : Heap) : Option J :=
 (aBin .lss .plain (xs.getD 3 .undef) (xs.getD 2 .undef)).bind fun v3 =>
 condV v3
 ((aIaddr 1 (xs.getD 1 .undef) (xs.getD 3 .undef)).bind fun v4 =>
 (aLoad h 1 v4).bind fun c5 =>
 (fromCells false c5).bind fun v6 =>
 (aBin .shl .plain (xs.getD 0 .undef) (.int .u64 8)).bind fun v7 =>
 (aConv (.toInt .u64) v6 h).bind fun r8 =>
 (aBin .or .plain v7 r8.1).bind fun v9 =>
 (aBin .add .plain (xs.getD 3 .undef) (.int .i64 1)).bind fun v10 =>
 some (0, [v9, (xs.getD 1 .undef), (xs.getD 2 .undef), v10], r8.2))
 (some (1, [(xs.getD 0 .undef)], h))
noncomputable def S82 (call : Go.Fw.Call) (a0 : AVal) (h : Heap) : Option J :=
 (call 93 [a0, (.int .i64 8)] h).bind fun r1 =>
 (aLen false r1.1).bind fun v2 =>
 (loop (L82_0 call) [(.int .u64 0), r1.1, v2, (.int .i64 0)] r1.2).bind fun x11 =>
 bif Nat.beq x11.1 1 then (aConv (.toInt .i64) (x11.2.1.getD 0 .undef) x11.2.2).bind fun r12 =>
 some (0, [r12.1], r12.2) else
 none
theorem run82 (call : Go.Fw.Call) (a0 : AVal) (h : Heap) : runFn call (.code A82) [a0] h = (S82 call a0 h).bind ansOf := by kernel_rfl
noncomputable def A83 : AFunc := ⟨1, (.seq (.region [.op 0 (.alloc 2 true [.str [], .str []])] [])
 (.seq (.region [.op 0 (.mov 4 (.tmp 0)),
 .op 1 (.call 5 94 [.tmp 4]),
 .op 2 (.mov 3 (.tmp 5))] [])
 (.seq (.region [.op 0 (.mov 6 (.tmp 3)),
 .op 1 (.mov 7 (.tmp 0)),
 .op 2 (.call 8 94 [.tmp 7]),
 .op 3 (.build 9 [.str [], .str []] [(0, 1, .tmp 6), (1, 1, .tmp 8)]),
 .op 4 (.store true 2 (.tmp 2) (.tmp 9))] [])
 .ret))),
 [.cell 2 true 2]⟩
theorem ok83 : funcOk Tryz.prog (drawOk Tryz.prog) Tryz.f83 A83 = true := by kernel_rfl
noncomputable def S83 (call : Go.Fw.Call) (a0 : AVal) (h : Heap) : Option J :=
 (call 94 [a0] h).bind fun r1 =>
 (call 94 [a0] r1.2).bind fun r2 =>
 (aFill [.str [], .str []] [(0, 1, r1.1), (1, 1, r2.1)]).bind fun c3 =>
 (aCells 2 (.agg c3)).bind fun c4 =>
 bif Nat.ble ((0) + 2) (List.length (α := AVal) [.str [], .str []]) then (((rdL (splice [.str [], .str []] (0) c4) (0) 2).bind fun cs => fromCells true cs).bind fun v => (some []).bind fun vs => some (v :: vs)).bind fun vs => some (0, [oneOr vs], r2.2) else none
theorem run83 (call : Go.Fw.Call) (a0 : AVal) (h : Heap) : runFn call (.code A83) [a0] h = (S83 call a0 h).bind ansOf := by kernel_rfl
noncomputable def A84 : AFunc := ⟨1, (.seq (.region [.op 0 (.mov 2 (.const (.bool false)))] [])
 (.seq (.region [.op 0 (.mov 4 (.tmp 0)),
 .op 1 (.call 5 81 [.tmp 4]),
 .op 2 (.mov 3 (.tmp 5))] [])
 (.seq (.region [.op 0 (.mov 6 (.tmp 0)),
 .op 1 (.mov 7 (.tmp 0)),
 .op 2 (.nilchk 8 (.tmp 7)),
 .op 3 (.faddr 9 1 (.tmp 8)),
 .op 4 (.load 10 false 1 (.tmp 9)),
 .op 5 (.mov 11 (.tmp 10)),
 .guard 11 false [.op 6 (.mov 12 (.tmp 3)),
 .op 7 (.bin 13 .gtr .plain (.tmp 12) (.const (.int .i64 1)))] [] [13],
 .op 8 (.pick 14 (.tmp 11) (.const (.bool true)) (.tmp 13)),
 .op 9 (.nilchk 15 (.tmp 6)),
 .op 10 (.faddr 16 1 (.tmp 15)),
 .op 11 (.store false 1 (.tmp 16) (.tmp 14))] [])
 (.seq (.region [.op 0 (.mov 17 (.tmp 3)),
 .op 1 (.bin 18 .eql .plain (.tmp 17) (.const (.int .i64 1))),
 .op 2 (.mov 2 (.tmp 18))] [])
 .ret)))),
 [.tmp 2]⟩
theorem ok84 : funcOk Tryz.prog (drawOk Tryz.prog) Tryz.f84 A84 = true := by kernel_rfl
noncomputable def S84 (call : Go.Fw.Call) (a0 : AVal) (h : Heap) : Option J :=
 (call 81 [a0] h).bind fun r1 =>
 (aNilchk a0).bind fun v2 =>
 (aFaddr 1 v2).bind fun v3 =>
 (aLoad r1.2 1 v3).bind fun c4 =>
 (fromCells false c4).bind fun v5 =>
 (guardV v5 false
 ((aBin .gtr .plain r1.1 (.int .i64 1)).bind fun v6 =>
 some (0, [v6], r1.2))
 (some (0, [skipV], r1.2))).bind fun g7 =>
 (aPick v5 (.bool true) (g7.2.1.getD 0 .undef)).bind fun v8 =>
 (aNilchk a0).bind fun v9 =>
 (aFaddr 1 v9).bind fun v10 =>
 (aCells 1 v8).bind fun c11 =>
 (aStore g7.2.2 v10 c11).bind fun h12 =>
 (aBin .eql .plain r1.1 (.int .i64 1)).bind fun v13 =>
 some (0, [v13], h12)
theorem run84 (call : Go.Fw.Call) (a0 : AVal) (h : Heap) : runFn call (.code A84) [a0] h = (S84 call a0 h).bind ansOf := by kernel_rfl
noncomputable def A85 : AFunc := ⟨1, (.seq (.region [.op 0 (.mov 2 (.const (.nilSlice)))] [])
 (.seq (.region [.op 0 (.mov 3 (.const (.nilSlice)))] [])
 (.seq (.seq (.region [.op 0 (.mov 6 (.tmp 0)),
 .op 1 (.call 7 81 [.tmp 6]),
 .op 2 (.mov 4 (.tmp 7))] [])
 (.block 0 (.loop ⟨[0, 3, 4], []⟩ [((.exit 0), ⟨[3], []⟩)]
 (.seq (.seq (.region [.op 0 (.mov 8 (.tmp 4)),
 .op 1 (.bin 9 .gtr .plain (.tmp 8) (.const (.int .i64 0))),
 .op 2 (.mov 10 (.tmp 9)),
 .guard 10 true [.op 3 (.mov 11 (.tmp 0)),
 .op 4 (.nilchk 12 (.tmp 11)),
 .op 5 (.faddr 13 1 (.tmp 12)),
 .op 6 (.load 14 false 1 (.tmp 13)),
 .op 7 (.un 15 .not (.tmp 14))] [] [15],
 .op 8 (.pick 16 (.tmp 10) (.tmp 15) (.const (.bool false)))] [])
 (.cond (.tmp 16)
 .skip
 (.exit 0)))
 (.seq (.block 1 (.seq (.region [.op 0 (.alloc 5 true cz)] [])
 (.seq (.region [.op 0 (.mov 19 (.tmp 0)),
 .op 1 (.call 20 83 [.tmp 19]),
 .op 2 (.faddr 21 0 (.tmp 5)),
 .op 3 (.store true 2 (.tmp 21) (.tmp 20))] [])
 (.seq (.region [.op 0 (.mov 22 (.tmp 0)),
 .op 1 (.call 23 81 [.tmp 22]),
 .op 2 (.faddr 24 2 (.tmp 5)),
 .op 3 (.store false 1 (.tmp 24) (.tmp 23))] [])
 (.seq (.region [.op 0 (.mov 25 (.tmp 0)),
 .op 1 (.call 26 81 [.tmp 25]),
 .op 2 (.faddr 27 3 (.tmp 5)),
 .op 3 (.store false 1 (.tmp 27) (.tmp 26))] [])
 (.seq (.region [.op 0 (.mov 28 (.tmp 0)),
 .op 1 (.call 29 82 [.tmp 28]),
 .op 2 (.faddr 30 4 (.tmp 5)),
 .op 3 (.store false 1 (.tmp 30) (.tmp 29))] [])
 (.seq (.region [.op 0 (.mov 31 (.tmp 0)),
 .op 1 (.call 32 82 [.tmp 31]),
 .op 2 (.faddr 33 5 (.tmp 5)),
 .op 3 (.faddr 34 0 (.tmp 33)),
 .op 4 (.store false 1 (.tmp 34) (.tmp 32))] [])
 (.seq (.region [.op 0 (.mov 35 (.tmp 0)),
 .op 1 (.call 36 81 [.tmp 35]),
 .op 2 (.faddr 37 5 (.tmp 5)),
 .op 3 (.faddr 38 1 (.tmp 37)),
 .op 4 (.store false 1 (.tmp 38) (.tmp 36))] [])
 (.seq (.region [.op 0 (.mov 39 (.tmp 0)),
 .op 1 (.call 40 82 [.tmp 39]),
 .op 2 (.faddr 41 5 (.tmp 5)),
 .op 3 (.faddr 42 2 (.tmp 41)),
 .op 4 (.store false 1 (.tmp 42) (.tmp 40))] [])
 (.seq (.region [.op 0 (.mov 43 (.tmp 0)),
 .op 1 (.call 44 84 [.tmp 43]),
 .op 2 (.faddr 45 8 (.tmp 5)),
 .op 3 (.store false 1 (.tmp 45) (.tmp 44))] [])
 (.region [.op 0 (.mov 46 (.tmp 3)),
 .op 1 (.load 47 true 9 (.tmp 5)),
 .op 2 (.buildSl 48 cz 9 1 [(0, .tmp 47)]),
 .op 3 (.append 49 9 88 cz false (.tmp 46) (.tmp 48)),
 .op 4 (.mov 3 (.tmp 49))] [])))))))))))
 (.region [.op 0 (.mov 17 (.tmp 4)),
 .op 1 (.bin 18 .sub .plain (.tmp 17) (.const (.int .i64 1))),
 .op 2 (.mov 4 (.tmp 18))] []))))))
 (.seq (.region [.op 0 (.mov 50 (.tmp 3)),
 .op 1 (.mov 2 (.tmp 50))] [])
 .ret)))),
 [.tmp 2]⟩
theorem ok85 : funcOk Tryz.prog (drawOk Tryz.prog) Tryz.f85 A85 = true := by kernel_rfl
noncomputable def L85_0 (call : Go.Fw.Call) (xs : List AVal) (h : Heap) : Option J :=
 (aBin .gtr .plain (xs.getD 2 .undef) (.int .i64 0)).bind fun v2 =>
 (guardV v2 true
 ((aNilchk (xs.getD 0 .undef)).bind fun v3 =>
 (aFaddr 1 v3).bind fun v4 =>
 (aLoad h 1 v4).bind fun c5 =>
 (fromCells false c5).bind fun v6 =>
 (aUn .not v6).bind fun v7 =>
 some (0, [v7], h))
 (some (0, [skipV], h))).bind fun g8 =>
 (aPick v2 (g8.2.1.getD 0 .undef) (.bool false)).bind fun v9 =>
 condV v9
 ((call 83 [(xs.getD 0 .undef)] g8.2.2).bind fun r10 =>
 (aCells 2 r10.1).bind fun c11 =>
 bif Nat.ble ((0) + 2) (List.length (α := AVal) [.str [], .str [], .int .i64 0, .int .i64 0, .int .i64 0, .int .i64 0, .int .i64 0, .int .i64 0, .bool false]) then (call 81 [(xs.getD 0 .undef)] r10.2).bind fun r12 =>
 (aCells 1 r12.1).bind fun c13 =>
 bif Nat.ble ((2) + 1) (List.length (α := AVal) (splice [.str [], .str [], .int .i64 0, .int .i64 0, .int .i64 0, .int .i64 0, .int .i64 0, .int .i64 0, .bool false] (0) c11)) then (call 81 [(xs.getD 0 .undef)] r12.2).bind fun r14 =>
 (aCells 1 r14.1).bind fun c15 =>
 bif Nat.ble ((3) + 1) (List.length (α := AVal) (splice (splice [.str [], .str [], .int .i64 0, .int .i64 0, .int .i64 0, .int .i64 0, .int .i64 0, .int .i64 0, .bool false] (0) c11) (2) c13)) then (call 82 [(xs.getD 0 .undef)] r14.2).bind fun r16 =>
 (aCells 1 r16.1).bind fun c17 =>
 bif Nat.ble ((4) + 1) (List.length (α := AVal) (splice (splice (splice [.str [], .str [], .int .i64 0, .int .i64 0, .int .i64 0, .int .i64 0, .int .i64 0, .int .i64 0, .bool false] (0) c11) (2) c13) (3) c15)) then (call 82 [(xs.getD 0 .undef)] r16.2).bind fun r18 =>
 (aCells 1 r18.1).bind fun c19 =>
 bif Nat.ble ((5) + 1) (List.length (α := AVal) (splice (splice (splice (splice [.str [], .str [], .int .i64 0, .int .i64 0, .int .i64 0, .int .i64 0, .int .i64 0, .int .i64 0, .bool false] (0) c11) (2) c13) (3) c15) (4) c17)) then (call 81 [(xs.getD 0 .undef)] r18.2).bind fun r20 =>
 (aCells 1 r20.1).bind fun c21 =>
 bif Nat.ble ((6) + 1) (List.length (α := AVal) (splice (splice (splice (splice (splice [.str [], .str [], .int .i64 0, .int .i64 0, .int .i64 0, .int .i64 0, .int .i64 0, .int .i64 0, .bool false] (0) c11) (2) c13) (3) c15) (4) c17) (5) c19)) then (call 82 [(xs.getD 0 .undef)] r20.2).bind fun r22 =>
 (aCells 1 r22.1).bind fun c23 =>
 bif Nat.ble ((7) + 1) (List.length (α := AVal) (splice (splice (splice (splice (splice (splice [.str [], .str [], .int .i64 0, .int .i64 0, .int .i64 0, .int .i64 0, .int .i64 0, .int .i64 0, .bool false] (0) c11) (2) c13) (3) c15) (4) c17) (5) c19) (6) c21)) then (call 84 [(xs.getD 0 .undef)] r22.2).bind fun r24 =>
 (aCells 1 r24.1).bind fun c25 =>
 bif Nat.ble ((8) + 1) (List.length (α := AVal) (splice (splice (splice (splice (splice (splice (splice [.str [], .str [], .int .i64 0, .int .i64 0, .int .i64 0, .int .i64 0, .int .i64 0, .int .i64 0, .bool false] (0) c11) (2) c13) (3) c15) (4) c17) (5) c19) (6) c21) (7) c23)) then (rdL (splice (splice (splice (splice (splice (splice (splice (splice [.str [], .str [], .int .i64 0, .int .i64 0, .int .i64 0, .int .i64 0, .int .i64 0, .int .i64 0, .bool false] (0) c11) (2) c13) (3) c15) (4) c17) (5) c19) (6) c21) (7) c23) (8) c25) 0 9).bind fun c26 =>
 (fromCells true c26).bind fun v27 =>
 (aFill (reps [.str [], .str [], .int .i64 0, .int .i64 0, .int .i64 0, .int .i64 0, .int .i64 0, .int .i64 0, .bool false] 1) [(0, 9, v27)]).bind fun c28 =>
 (aAppend 9 88 [.str [], .str [], .int .i64 0, .int .i64 0, .int .i64 0, .int .i64 0, .int .i64 0, .int .i64 0, .bool false] false (xs.getD 1 .undef) (.slice r24.2.next 0 1 1 9 true) (r24.2.alloc c28)).bind fun r29 =>
 (aBin .sub .plain (xs.getD 2 .undef) (.int .i64 1)).bind fun v30 =>
 some (0, [(xs.getD 0 .undef), r29.1, v30], r29.2) else none else none else none else none else none else none else none else none)
 (some (1, [(xs.getD 1 .undef)], g8.2.2))
noncomputable def S85 (call : Go.Fw.Call) (a0 : AVal) (h : Heap) : Option J :=
 (call 81 [a0] h).bind fun r1 =>
 (loop (L85_0 call) [a0, (.nilSlice), r1.1] r1.2).bind fun x31 =>
 bif Nat.beq x31.1 1 then some (0, [(x31.2.1.getD 0 .undef)], x31.2.2) else
 none
theorem run85 (call : Go.Fw.Call) (a0 : AVal) (h : Heap) : runFn call (.code A85) [a0] h = (S85 call a0 h).bind ansOf := by kernel_rfl
noncomputable def A86 : AFunc := ⟨1, (.seq (.region [.op 0 (.mov 2 (.const (.bool false)))] [])
 (.seq (.region [.op 0 (.mov 3 (.tmp 0)),
 .op 1 (.nilchk 4 (.tmp 3)),
 .op 2 (.faddr 5 1 (.tmp 4)),
 .op 3 (.load 6 false 1 (.tmp 5)),
 .op 4 (.un 7 .not (.tmp 6)),
 .op 5 (.mov 8 (.tmp 7)),
 .guard 8 true [.op 6 (.mov 9 (.tmp 0)),
 .op 7 (.nilchk 10 (.tmp 9)),
 .op 8 (.faddr 11 0 (.tmp 10)),
 .op 9 (.load 12 false 1 (.tmp 11)),
 .op 10 (.len 13 false (.tmp 12)),
 .op 11 (.bin 14 .eql .plain (.tmp 13) (.const (.int .i64 0)))] [] [14],
 .op 12 (.pick 15 (.tmp 8) (.tmp 14) (.const (.bool false))),
 .op 13 (.mov 2 (.tmp 15))] [])
 .ret)),
 [.tmp 2]⟩
theorem ok86 : funcOk Tryz.prog (drawOk Tryz.prog) Tryz.f86 A86 = true := by kernel_rfl
noncomputable def S86 (call : Go.Fw.Call) (a0 : AVal) (h : Heap) : Option J :=
 (aNilchk a0).bind fun v1 =>
 (aFaddr 1 v1).bind fun v2 =>
 (aLoad h 1 v2).bind fun c3 =>
 (fromCells false c3).bind fun v4 =>
 (aUn .not v4).bind fun v5 =>
 (guardV v5 true
 ((aNilchk a0).bind fun v6 =>
 (aFaddr 0 v6).bind fun v7 =>
 (aLoad h 1 v7).bind fun c8 =>
 (fromCells false c8).bind fun v9 =>
 (aLen false v9).bind fun v10 =>
 (aBin .eql .plain v10 (.int .i64 0)).bind fun v11 =>
 some (0, [v11], h))
 (some (0, [skipV], h))).bind fun g12 =>
 (aPick v5 (g12.2.1.getD 0 .undef) (.bool false)).bind fun v13 =>
 some (0, [v13], g12.2.2)
theorem run86 (call : Go.Fw.Call) (a0 : AVal) (h : Heap) : runFn call (.code A86) [a0] h = (S86 call a0 h).bind ansOf := by kernel_rfl
-- 87 no body
-- 88 no body
-- 89 no body
noncomputable def A90 : AFunc := ⟨4, (.seq (.region [.op 0 (.box 6 true (.tmp 2)),
 .op 1 (.mov 8 (.const (.bool false)))] [])
 (.block 0 (.loop ⟨[0, 1, 3], [6]⟩ [(.ret, ⟨[8], []⟩)]
 (.block 1 (.seq (.seq (.region [.op 0 (.mov 16 (.tmp 0)),
 .op 1 (.call 17 95 [.tmp 16]),
 .op 2 (.mov 18 (.tmp 3)),
 .op 3 (.invoke 19 [(135, 123, none)] (.tmp 17) [.tmp 18])] [])
 (.cond (.tmp 19)
 (.seq (.region [.op 0 (.load 20 true 3 (.tmp 6)),
 .op 1 (.call 21 96 [.tmp 20]),
 .op 2 (.mov 22 (.tmp 0)),
 .op 3 (.call 23 87 [.tmp 22]),
 .op 4 (.call 24 97 [.tmp 21, .tmp 23])] [])
 (.seq (.region [.op 0 (.mov 8 (.const (.bool true)))] [])
 .ret))
 .skip))
 (.seq (.seq (.region [.op 0 (.mov 26 (.tmp 0)),
 .op 1 (.tassert 27 [(50, false), (98, false), (102, false)] (.tmp 26)),
 .op 2 (.mov 25 (.tmp 27)),
 .op 3 (.extract 28 (.tmp 25) 0),
 .op 4 (.extract 29 (.tmp 25) 1),
 .op 5 (.mov 9 (.tmp 28)),
 .op 6 (.mov 10 (.tmp 29))] [])
 (.seq (.region [.op 0 (.mov 30 (.tmp 10)),
 .op 1 (.mov 31 (.tmp 30)),
 .guard 31 true [.op 2 (.mov 32 (.tmp 9)),
 .op 3 (.mov 33 (.tmp 1)),
 .op 4 (.invoke 34 [] (.tmp 32) [.tmp 33])] [] [34],
 .op 5 (.pick 35 (.tmp 31) (.tmp 34) (.const (.bool false)))] [])
 (.cond (.tmp 35)
 (.seq (.region [.op 0 (.mov 8 (.const (.bool true)))] [])
 .ret)
 .skip)))
 (.seq (.region [.op 0 (.mov 36 (.tmp 0))] [])
 (.block 2 (.seq (.region [.op 0 (.tassert 37 [(50, false), (98, true), (102, false)] (.tmp 36)),
 .op 1 (.extract 38 (.tmp 37) 1),
 .op 2 (.extract 39 (.tmp 37) 0)] [])
 (.cond (.tmp 38)
 (.seq (.region [.op 0 (.mov 11 (.tmp 39))] [])
 (.seq (.region [.op 0 (.mov 40 (.tmp 11)),
 .op 1 (.invoke 41 [(98, 118, none)] (.tmp 40) []),
 .op 2 (.mov 0 (.tmp 41))] [])
 (.seq (.region [.op 0 (.mov 42 (.tmp 0)),
 .op 1 (.bin 43 .eql (.iface true []) (.tmp 42) (.const (.nilIface)))] [])
 (.cond (.tmp 43)
 (.seq (.region [.op 0 (.mov 8 (.const (.bool false)))] [])
 .ret)
 .skip))))
 (.seq (.region [.op 0 (.tassert 44 [(50, false), (98, false), (102, false)] (.tmp 36)),
 .op 1 (.extract 45 (.tmp 44) 1),
 .op 2 (.extract 46 (.tmp 44) 0)] [])
 (.cond (.tmp 45)
 (.seq (.region [.op 0 (.mov 12 (.tmp 46))] [])
 (.seq (.seq (.region [.op 0 (.mov 47 (.tmp 12)),
 .op 1 (.invoke 48 [(98, 118, none)] (.tmp 47) []),
 .op 2 (.len 49 false (.tmp 48)),
 .op 3 (.mov 50 (.const (.int .i64 0)))] [])
 (.block 3 (.loop ⟨[1, 3, 48, 49, 50], [6]⟩ [((.exit 3), ⟨[], []⟩), (.ret, ⟨[8], []⟩)]
 (.seq (.region [.op 0 (.bin 51 .lss .plain (.tmp 50) (.tmp 49))] [])
 (.seq (.cond (.tmp 51)
 .skip
 (.exit 3))
 (.seq (.join [(.ret, ⟨[8], []⟩), (.normal, ⟨[1, 3, 48, 49, 50], [6]⟩)] (.block 4 (.seq (.region [.op 0 (.iaddr 52 none 1 (.tmp 48) (.tmp 50)),
 .op 1 (.load 53 false 1 (.tmp 52)),
 .op 2 (.mov 14 (.tmp 53))] [])
 (.seq (.seq (.region [.op 0 (.mov 54 (.tmp 14)),
 .op 1 (.bin 55 .eql (.iface true []) (.tmp 54) (.const (.nilIface)))] [])
 (.cond (.tmp 55)
 (.exit 4)
 .skip))
 (.seq (.region [.op 0 (.mov 56 (.tmp 14)),
 .op 1 (.mov 57 (.tmp 1)),
 .op 2 (.load 58 true 3 (.tmp 6)),
 .op 3 (.mov 59 (.tmp 3)),
 .op 4 (.call 60 90 [.tmp 56, .tmp 57, .tmp 58, .tmp 59])] [])
 (.cond (.tmp 60)
 (.seq (.region [.op 0 (.mov 8 (.const (.bool true)))] [])
 .ret)
 .skip))))))
 (.region [.op 0 (.bin 61 .add .plain (.tmp 50) (.const (.int .i64 1))),
 .op 1 (.mov 50 (.tmp 61))] [])))))))
 (.seq (.region [.op 0 (.mov 8 (.const (.bool false)))] [])
 .ret)))
 (.seq (.region [.op 0 (.mov 15 (.tmp 36))] [])
 (.seq (.region [.op 0 (.mov 8 (.const (.bool false)))] [])
 .ret)))))))))))))),
 [.tmp 8]⟩
theorem ok90 : funcOk Tryz.prog (drawOk Tryz.prog) Tryz.f90 A90 = true := by kernel_rfl
noncomputable def L90_1 (call : Go.Fw.Call) (xs : List AVal) (h : Heap) : Option J :=
 (aBin .lss .plain (xs.getD 4 .undef) (xs.getD 3 .undef)).bind fun v29 =>
 condV v29
 (((aIaddr 1 (xs.getD 2 .undef) (xs.getD 4 .undef)).bind fun v30 =>
 (aLoad h 1 v30).bind fun c31 =>
 (fromCells false c31).bind fun v32 =>
 (aBin .eql (.iface true []) v32 (.nilIface)).bind fun v33 =>
 condV v33
 (some (1, [(xs.getD 0 .undef), (xs.getD 1 .undef), (xs.getD 2 .undef), (xs.getD 3 .undef), (xs.getD 4 .undef), (.agg (AVal.aggCells (xs.getD 5 .undef)))], h))
 ((rdL (AVal.aggCells (xs.getD 5 .undef)) 0 3).bind fun c34 =>
 (fromCells true c34).bind fun v35 =>
 (call 90 [v32, (xs.getD 0 .undef), v35, (xs.getD 1 .undef)] h).bind fun r36 =>
 condV r36.1
 (some (0, [(.bool true)], r36.2))
 (some (1, [(xs.getD 0 .undef), (xs.getD 1 .undef), (xs.getD 2 .undef), (xs.getD 3 .undef), (xs.getD 4 .undef), (.agg (AVal.aggCells (xs.getD 5 .undef)))], r36.2)))).bind fun x37 =>
 bif Nat.beq x37.1 0 then some (2, [(x37.2.1.getD 0 .undef)], x37.2.2) else
 bif Nat.beq x37.1 1 then (aBin .add .plain (x37.2.1.getD 4 .undef) (.int .i64 1)).bind fun v38 =>
 some (0, [(x37.2.1.getD 0 .undef), (x37.2.1.getD 1 .undef), (x37.2.1.getD 2 .undef), (x37.2.1.getD 3 .undef), v38, (.agg (AVal.aggCells (x37.2.1.getD 5 .undef)))], x37.2.2) else
 none)
 (some (1, [], h))
noncomputable def L90_0 (call : Go.Fw.Call) (xs : List AVal) (h : Heap) : Option J :=
 (call 95 [(xs.getD 0 .undef)] h).bind fun r2 =>
 (aMeth [(135, 123, none)] r2.1).bind fun q3 =>
 (call q3.1 (q3.2 :: [(xs.getD 2 .undef)]) r2.2).bind fun r4 =>
 condV r4.1
 ((rdL (AVal.aggCells (xs.getD 3 .undef)) 0 3).bind fun c5 =>
 (fromCells true c5).bind fun v6 =>
 (call 96 [v6] r4.2).bind fun r7 =>
 (call 87 [(xs.getD 0 .undef)] r7.2).bind fun r8 =>
 (call 97 [r7.1, r8.1] r8.2).bind fun r9 =>
 some (1, [(.bool true)], r9.2))
 ((aAssert [(50, false), (98, false), (102, false)] (xs.getD 0 .undef)).bind fun v10 =>
 (aExtract 0 v10).bind fun v11 =>
 (aExtract 1 v10).bind fun v12 =>
 (guardV v12 true
 ((aMeth [] v11).bind fun q13 =>
 (call q13.1 (q13.2 :: [(xs.getD 1 .undef)]) r4.2).bind fun r14 =>
 some (0, [r14.1], r14.2))
 (some (0, [skipV], r4.2))).bind fun g15 =>
 (aPick v12 (g15.2.1.getD 0 .undef) (.bool false)).bind fun v16 =>
 condV v16
 (some (1, [(.bool true)], g15.2.2))
 ((aAssert [(50, false), (98, true), (102, false)] (xs.getD 0 .undef)).bind fun v17 =>
 (aExtract 1 v17).bind fun v18 =>
 (aExtract 0 v17).bind fun v19 =>
 condV v18
 ((aMeth [(98, 118, none)] v19).bind fun q20 =>
 (call q20.1 (q20.2 :: []) g15.2.2).bind fun r21 =>
 (aBin .eql (.iface true []) r21.1 (.nilIface)).bind fun v22 =>
 condV v22
 (some (1, [(.bool false)], r21.2))
 (some (0, [r21.1, (xs.getD 1 .undef), (xs.getD 2 .undef), (.agg (AVal.aggCells (xs.getD 3 .undef)))], r21.2)))
 ((aAssert [(50, false), (98, false), (102, false)] (xs.getD 0 .undef)).bind fun v23 =>
 (aExtract 1 v23).bind fun v24 =>
 (aExtract 0 v23).bind fun v25 =>
 condV v24
 ((aMeth [(98, 118, none)] v25).bind fun q26 =>
 (call q26.1 (q26.2 :: []) g15.2.2).bind fun r27 =>
 (aLen false r27.1).bind fun v28 =>
 (loop (L90_1 call) [(xs.getD 1 .undef), (xs.getD 2 .undef), r27.1, v28, (.int .i64 0), (.agg (AVal.aggCells (xs.getD 3 .undef)))] r27.2).bind fun x39 =>
 bif Nat.beq x39.1 1 then some (1, [(.bool false)], x39.2.2) else
 bif Nat.beq x39.1 2 then some (1, [(x39.2.1.getD 0 .undef)], x39.2.2) else
 none)
 (some (1, [(.bool false)], g15.2.2)))))
noncomputable def S90 (call : Go.Fw.Call) (a0 a1 a2 a3 : AVal) (h : Heap) : Option J :=
 (AVal.cells? a2).bind fun c1 =>
 (loop (L90_0 call) [a0, a1, a3, (.agg c1)] h).bind fun x40 =>
 bif Nat.beq x40.1 1 then some (0, [(x40.2.1.getD 0 .undef)], x40.2.2) else
 none
theorem run90 (call : Go.Fw.Call) (a0 a1 a2 a3 : AVal) (h : Heap) : runFn call (.code A90) [a0, a1, a2, a3] h = (S90 call a0 a1 a2 a3 h).bind ansOf := by kernel_rfl
noncomputable def A91 : AFunc := ⟨2, (.seq (.region [.op 0 (.mov 4 (.const (.nilSlice)))] [])
 (.seq (.seq (.region [.op 0 (.mov 6 (.tmp 0)),
 .op 1 (.nilchk 7 (.tmp 6)),
 .op 2 (.faddr 8 1 (.tmp 7)),
 .op 3 (.load 9 false 1 (.tmp 8)),
 .op 4 (.mov 10 (.tmp 9)),
 .guard 10 false [.op 5 (.mov 11 (.tmp 1)),
 .op 6 (.mov 12 (.tmp 0)),
 .op 7 (.nilchk 13 (.tmp 12)),
 .op 8 (.faddr 14 0 (.tmp 13)),
 .op 9 (.load 15 false 1 (.tmp 14)),
 .op 10 (.len 16 false (.tmp 15)),
 .op 11 (.bin 17 .gtr .plain (.tmp 11) (.tmp 16))] [] [17],
 .op 12 (.pick 18 (.tmp 10) (.const (.bool true)) (.tmp 17))] [])
 (.cond (.tmp 18)
 (.seq (.region [.op 0 (.mov 19 (.tmp 0)),
 .op 1 (.nilchk 20 (.tmp 19)),
 .op 2 (.faddr 21 1 (.tmp 20)),
 .op 3 (.store false 1 (.tmp 21) (.const (.bool true)))] [])
 (.seq (.region [.op 0 (.mov 4 (.const (.nilSlice)))] [])
 .ret))
 .skip))
 (.seq (.region [.op 0 (.mov 22 (.tmp 0)),
 .op 1 (.nilchk 23 (.tmp 22)),
 .op 2 (.faddr 24 0 (.tmp 23)),
 .op 3 (.load 25 false 1 (.tmp 24)),
 .op 4 (.mov 26 (.tmp 1)),
 .op 5 (.slice 27 (.sl 1) (.tmp 25) none (some (.tmp 26)) none),
 .op 6 (.mov 5 (.tmp 27))] [])
 (.seq (.region [.op 0 (.mov 28 (.tmp 0)),
 .op 1 (.mov 29 (.tmp 0)),
 .op 2 (.nilchk 30 (.tmp 29)),
 .op 3 (.faddr 31 0 (.tmp 30)),
 .op 4 (.load 32 false 1 (.tmp 31)),
 .op 5 (.mov 33 (.tmp 1)),
 .op 6 (.slice 34 (.sl 1) (.tmp 32) (some (.tmp 33)) none none),
 .op 7 (.nilchk 35 (.tmp 28)),
 .op 8 (.faddr 36 0 (.tmp 35)),
 .op 9 (.store false 1 (.tmp 36) (.tmp 34))] [])
 (.seq (.region [.op 0 (.mov 37 (.tmp 5)),
 .op 1 (.mov 4 (.tmp 37))] [])
 .ret))))),
 [.tmp 4]⟩
theorem ok91 : funcOk Tryz.prog (drawOk Tryz.prog) Tryz.f91 A91 = true := by kernel_rfl
noncomputable def S91 (call : Go.Fw.Call) (a0 a1 : AVal) (h : Heap) : Option J :=
 (aNilchk a0).bind fun v1 =>
 (aFaddr 1 v1).bind fun v2 =>
 (aLoad h 1 v2).bind fun c3 =>
 (fromCells false c3).bind fun v4 =>
 (guardV v4 false
 ((aNilchk a0).bind fun v5 =>
 (aFaddr 0 v5).bind fun v6 =>
 (aLoad h 1 v6).bind fun c7 =>
 (fromCells false c7).bind fun v8 =>
 (aLen false v8).bind fun v9 =>
 (aBin .gtr .plain a1 v9).bind fun v10 =>
 some (0, [v10], h))
 (some (0, [skipV], h))).bind fun g11 =>
 (aPick v4 (.bool true) (g11.2.1.getD 0 .undef)).bind fun v12 =>
 condV v12
 ((aNilchk a0).bind fun v13 =>
 (aFaddr 1 v13).bind fun v14 =>
 (aCells 1 (.bool true)).bind fun c15 =>
 (aStore g11.2.2 v14 c15).bind fun h16 =>
 some (0, [(.nilSlice)], h16))
 ((aNilchk a0).bind fun v17 =>
 (aFaddr 0 v17).bind fun v18 =>
 (aLoad g11.2.2 1 v18).bind fun c19 =>
 (fromCells false c19).bind fun v20 =>
 (aSliceSl 1 v20 none (some a1) none).bind fun v21 =>
 (aNilchk a0).bind fun v22 =>
 (aFaddr 0 v22).bind fun v23 =>
 (aLoad g11.2.2 1 v23).bind fun c24 =>
 (fromCells false c24).bind fun v25 =>
 (aSliceSl 1 v25 (some a1) none none).bind fun v26 =>
 (aNilchk a0).bind fun v27 =>
 (aFaddr 0 v27).bind fun v28 =>
 (aCells 1 v26).bind fun c29 =>
 (aStore g11.2.2 v28 c29).bind fun h30 =>
 some (0, [v21], h30))
theorem run91 (call : Go.Fw.Call) (a0 a1 : AVal) (h : Heap) : runFn call (.code A91) [a0, a1] h = (S91 call a0 a1 h).bind ansOf := by kernel_rfl
noncomputable def A92 : AFunc := ⟨1, (.seq (.region [.op 0 (.mov 2 (.const (.str [])))] [])
 (.seq (.region [.op 0 (.mov 3 (.tmp 0)),
 .op 1 (.mov 4 (.tmp 0)),
 .op 2 (.call 5 74 [.tmp 4]),
 .op 3 (.call 6 91 [.tmp 3, .tmp 5]),
 .op 4 (.conv 7 .bytesStr (.tmp 6)),
 .op 5 (.mov 2 (.tmp 7))] [])
 .ret)),
 [.tmp 2]⟩
theorem ok92 : funcOk Tryz.prog (drawOk Tryz.prog) Tryz.f92 A92 = true := by kernel_rfl
noncomputable def S92 (call : Go.Fw.Call) (a0 : AVal) (h : Heap) : Option J :=
 (call 74 [a0] h).bind fun r1 =>
 (call 91 [a0, r1.1] r1.2).bind fun r2 =>
 (aConv .bytesStr r2.1 r2.2).bind fun r3 =>
 some (0, [r3.1], r3.2)
theorem run92 (call : Go.Fw.Call) (a0 : AVal) (h : Heap) : runFn call (.code A92) [a0] h = (S92 call a0 h).bind ansOf := by kernel_rfl
noncomputable def A93 : AFunc := ⟨2, (.seq (.region [.op 0 (.mov 4 (.const (.nilSlice)))] [])
 (.seq (.seq (.region [.op 0 (.mov 6 (.tmp 0)),
 .op 1 (.nilchk 7 (.tmp 6)),
 .op 2 (.faddr 8 1 (.tmp 7)),
 .op 3 (.load 9 false 1 (.tmp 8)),
 .op 4 (.mov 10 (.tmp 9)),
 .guard 10 false [.op 5 (.mov 11 (.tmp 0)),
 .op 6 (.nilchk 12 (.tmp 11)),
 .op 7 (.faddr 13 0 (.tmp 12)),
 .op 8 (.load 14 false 1 (.tmp 13)),
 .op 9 (.len 15 false (.tmp 14)),
 .op 10 (.mov 16 (.tmp 1)),
 .op 11 (.bin 17 .lss .plain (.tmp 15) (.tmp 16))] [] [17],
 .op 12 (.pick 18 (.tmp 10) (.const (.bool true)) (.tmp 17))] [])
 (.cond (.tmp 18)
 (.seq (.region [.op 0 (.mov 19 (.tmp 0)),
 .op 1 (.nilchk 20 (.tmp 19)),
 .op 2 (.faddr 21 1 (.tmp 20)),
 .op 3 (.store false 1 (.tmp 21) (.const (.bool true)))] [])
 (.seq (.region [.op 0 (.mov 4 (.const (.nilSlice)))] [])
 .ret))
 .skip))
 (.seq (.region [.op 0 (.mov 22 (.tmp 0)),
 .op 1 (.nilchk 23 (.tmp 22)),
 .op 2 (.faddr 24 0 (.tmp 23)),
 .op 3 (.load 25 false 1 (.tmp 24)),
 .op 4 (.mov 26 (.tmp 1)),
 .op 5 (.slice 27 (.sl 1) (.tmp 25) none (some (.tmp 26)) none),
 .op 6 (.mov 5 (.tmp 27))] [])
 (.seq (.region [.op 0 (.mov 28 (.tmp 0)),
 .op 1 (.mov 29 (.tmp 0)),
 .op 2 (.nilchk 30 (.tmp 29)),
 .op 3 (.faddr 31 0 (.tmp 30)),
 .op 4 (.load 32 false 1 (.tmp 31)),
 .op 5 (.mov 33 (.tmp 1)),
 .op 6 (.slice 34 (.sl 1) (.tmp 32) (some (.tmp 33)) none none),
 .op 7 (.nilchk 35 (.tmp 28)),
 .op 8 (.faddr 36 0 (.tmp 35)),
 .op 9 (.store false 1 (.tmp 36) (.tmp 34))] [])
 (.seq (.region [.op 0 (.mov 37 (.tmp 5)),
 .op 1 (.mov 4 (.tmp 37))] [])
 .ret))))),
 [.tmp 4]⟩
theorem ok93 : funcOk Tryz.prog (drawOk Tryz.prog) Tryz.f93 A93 = true := by kernel_rfl
noncomputable def S93 (call : Go.Fw.Call) (a0 a1 : AVal) (h : Heap) : Option J :=
 (aNilchk a0).bind fun v1 =>
 (aFaddr 1 v1).bind fun v2 =>
 (aLoad h 1 v2).bind fun c3 =>
 (fromCells false c3).bind fun v4 =>
 (guardV v4 false
 ((aNilchk a0).bind fun v5 =>
 (aFaddr 0 v5).bind fun v6 =>
 (aLoad h 1 v6).bind fun c7 =>
 (fromCells false c7).bind fun v8 =>
 (aLen false v8).bind fun v9 =>
 (aBin .lss .plain v9 a1).bind fun v10 =>
 some (0, [v10], h))
 (some (0, [skipV], h))).bind fun g11 =>
 (aPick v4 (.bool true) (g11.2.1.getD 0 .undef)).bind fun v12 =>
 condV v12
 ((aNilchk a0).bind fun v13 =>
 (aFaddr 1 v13).bind fun v14 =>
 (aCells 1 (.bool true)).bind fun c15 =>
 (aStore g11.2.2 v14 c15).bind fun h16 =>
 some (0, [(.nilSlice)], h16))
 ((aNilchk a0).bind fun v17 =>
 (aFaddr 0 v17).bind fun v18 =>
 (aLoad g11.2.2 1 v18).bind fun c19 =>
 (fromCells false c19).bind fun v20 =>
 (aSliceSl 1 v20 none (some a1) none).bind fun v21 =>
 (aNilchk a0).bind fun v22 =>
 (aFaddr 0 v22).bind fun v23 =>
 (aLoad g11.2.2 1 v23).bind fun c24 =>
 (fromCells false c24).bind fun v25 =>
 (aSliceSl 1 v25 (some a1) none none).bind fun v26 =>
 (aNilchk a0).bind fun v27 =>
 (aFaddr 0 v27).bind fun v28 =>
 (aCells 1 v26).bind fun c29 =>
 (aStore g11.2.2 v28 c29).bind fun h30 =>
 some (0, [v21], h30))
theorem run93 (call : Go.Fw.Call) (a0 a1 : AVal) (h : Heap) : runFn call (.code A93) [a0, a1] h = (S93 call a0 a1 h).bind ansOf := by kernel_rfl
noncomputable def A94 : AFunc := ⟨1, (.seq (.region [.op 0 (.mov 2 (.const (.str [])))] [])
 (.seq (.region [.op 0 (.mov 3 (.tmp 0)),
 .op 1 (.mov 4 (.tmp 0)),
 .op 2 (.call 5 81 [.tmp 4]),
 .op 3 (.call 6 93 [.tmp 3, .tmp 5]),
 .op 4 (.conv 7 .bytesStr (.tmp 6)),
 .op 5 (.mov 2 (.tmp 7))] [])
 .ret)),
 [.tmp 2]⟩
theorem ok94 : funcOk Tryz.prog (drawOk Tryz.prog) Tryz.f94 A94 = true := by kernel_rfl
noncomputable def S94 (call : Go.Fw.Call) (a0 : AVal) (h : Heap) : Option J :=
 (call 81 [a0] h).bind fun r1 =>
 (call 93 [a0, r1.1] r1.2).bind fun r2 =>
 (aConv .bytesStr r2.1 r2.2).bind fun r3 =>
 some (0, [r3.1], r3.2)
theorem run94 (call : Go.Fw.Call) (a0 : AVal) (h : Heap) : runFn call (.code A94) [a0] h = (S94 call a0 h).bind ansOf := by kernel_rfl
-- 95 no body
-- 96 no body
-- 97 no body
-- 112 no body
noncomputable def A118 : AFunc := ⟨1, (.seq (.region [.op 0 (.mov 2 (.const (.nilIface)))] [])
 (.seq (.region [.op 0 (.mov 3 (.tmp 0)),
 .op 1 (.nilchk 4 (.tmp 3)),
 .op 2 (.faddr 5 1 (.tmp 4)),
 .op 3 (.load 6 false 1 (.tmp 5)),
 .op 4 (.mov 2 (.tmp 6))] [])
 .ret)),
 [.tmp 2]⟩
theorem ok118 : funcOk Tryz.prog (drawOk Tryz.prog) Tryz.f118 A118 = true := by kernel_rfl
noncomputable def S118 (call : Go.Fw.Call) (a0 : AVal) (h : Heap) : Option J :=
 (aNilchk a0).bind fun v1 =>
 (aFaddr 1 v1).bind fun v2 =>
 (aLoad h 1 v2).bind fun c3 =>
 (fromCells false c3).bind fun v4 =>
 some (0, [v4], h)
theorem run118 (call : Go.Fw.Call) (a0 : AVal) (h : Heap) : runFn call (.code A118) [a0] h = (S118 call a0 h).bind ansOf := by kernel_rfl
-- 123 no body
-- 125 no body
-- 126 no body
noncomputable def tbl (f : Nat) : Option AFn :=
 match f with
 | 3 => some (.code A3)
 | 4 => some (.code A4)
 | 5 => some (.code A5)
 | 6 => some (.code A6)
 | 7 => some (.code A7)
 | 8 => some (.code A8)
 | 9 => some (.code A9)
 | 10 => some (.code A10)
 | 11 => some (.code A11)
 | 12 => some (.code A12)
 | 13 => some (.code A13)
 | 14 => some (.code A14)
 | 15 => some (.code A15)
 | 16 => some (.code A16)
 | 17 => some (.code A17)
 | 18 => some (.code A18)
 | 19 => some (.code A19)
 | 20 => some (.code A20)
 | 21 => some (.code A21)
 | 22 => some (.code A22)
 | 23 => some (.code A23)
 | 24 => some (.code A24)
 | 25 => some (.code A25)
 | 26 => some (.code A26)
 | 27 => some (.code A27)
 | 28 => some (.code A28)
 | 29 => some (.code A29)
 | 30 => some (.code A30)
 | 31 => some (.code A31)
 | 32 => some (.code A32)
 | 33 => some (.code A33)
 | 34 => some (.code A34)
 | 35 => some (.code A35)
 | 36 => some (.code A36)
 | 37 => some (.code A37)
 | 38 => some (.code A38)
 | 39 => some (.code A39)
 | 40 => some (.code A40)
 | 41 => some (.code A41)
 | 42 => some (.code A42)
 | 43 => some (.code A43)
 | 44 => some (.code A44)
 | 45 => some (.code A45)
 | 46 => some (.code A46)
 | 47 => some (.code A47)
 | 48 => some (.code A48)
 | 49 => some (.code A49)
 | 50 => some (.code A50)
 | 51 => some (.code A51)
 | 52 => some (.code A52)
 | 53 => some (.code A53)
 | 54 => some (.code A54)
 | 55 => some (.code A55)
 | 56 => some (.code A56)
 | 57 => some (.code A57)
 | 58 => some (.code A58)
 | 59 => some (.code A59)
 | 60 => some (.code A60)
 | 61 => some (.code A61)
 | 62 => some (.code A62)
 | 63 => some (.code A63)
 | 64 => some (.code A64)
 | 65 => some (.code A65)
 | 66 => some (.code A66)
 | 67 => some (.code A67)
 | 68 => some (.code A68)
 | 69 => some (.code A69)
 | 70 => some (.code A70)
 | 71 => some (.code A71)
 | 72 => some (.code A72)
 | 73 => some (.code A73)
 | 74 => some (.code A74)
 | 75 => some (.code A75)
 | 76 => some (.code A76)
 | 77 => some (.code A77)
 | 78 => some (.code A78)
 | 79 => some (.code A79)
 | 80 => some (.code A80)
 | 81 => some (.code A81)
 | 82 => some (.code A82)
 | 83 => some (.code A83)
 | 84 => some (.code A84)
 | 85 => some (.code A85)
 | 86 => some (.code A86)
 | 87 => some (.prim (pValueOf 1 [(50, 2), (98, 22), (102, 22), (103, 22)]))
 | 88 => some (.prim (pValueType 135 1))
 | 89 => some (.prim (pIsNil 1 [(102, 50, 2), (103, 98, 22)]))
 | 90 => some (.code A90)
 | 91 => some (.code A91)
 | 92 => some (.code A92)
 | 93 => some (.code A93)
 | 94 => some (.code A94)
 | 95 => some (.prim (pTypeOf 135 1))
 | 96 => some (.prim (pValueElem 1 [(102, 50, 2), (103, 98, 22)]))
 | 97 => some (.prim (pSet 1 [50, 98]))
 | 112 => some (.prim (pClosed tab112))
 | 118 => some (.code A118)
 | 123 => some (.prim (pClosed tab123))
 | 124 => some (.prim (pClosed tab124))
 | 125 => some (.prim (pClosed tab125))
 | 126 => some (.prim (pClosed tab126))
 | _ => none
theorem c3 (h : Heap) : E tbl 3 [] h = (S3 (E tbl)  h).bind ansOf := (E_eq tbl 3 [] h).trans (run3 (E tbl)  h)
theorem c4 (a0 a1 a2 a3 a4 a5 a6 : AVal) (h : Heap) : E tbl 4 [a0, a1, a2, a3, a4, a5, a6] h = (S4 (E tbl) a0 a1 a2 a3 a4 a5 a6 h).bind ansOf := (E_eq tbl 4 [a0, a1, a2, a3, a4, a5, a6] h).trans (run4 (E tbl) a0 a1 a2 a3 a4 a5 a6 h)
theorem c5 (a0 : AVal) (h : Heap) : E tbl 5 [a0] h = (S5 (E tbl) a0 h).bind ansOf := (E_eq tbl 5 [a0] h).trans (run5 (E tbl) a0 h)
theorem c6 (a0 : AVal) (h : Heap) : E tbl 6 [a0] h = (S6 (E tbl) a0 h).bind ansOf := (E_eq tbl 6 [a0] h).trans (run6 (E tbl) a0 h)
theorem c7 (a0 : AVal) (h : Heap) : E tbl 7 [a0] h = (S7 (E tbl) a0 h).bind ansOf := (E_eq tbl 7 [a0] h).trans (run7 (E tbl) a0 h)
theorem c8 (a0 a1 a2 : AVal) (h : Heap) : E tbl 8 [a0, a1, a2] h = (S8 (E tbl) a0 a1 a2 h).bind ansOf := (E_eq tbl 8 [a0, a1, a2] h).trans (run8 (E tbl) a0 a1 a2 h)
theorem c9 (a0 : AVal) (h : Heap) : E tbl 9 [a0] h = (S9 (E tbl) a0 h).bind ansOf := (E_eq tbl 9 [a0] h).trans (run9 (E tbl) a0 h)
theorem c10 (a0 : AVal) (h : Heap) : E tbl 10 [a0] h = (S10 (E tbl) a0 h).bind ansOf := (E_eq tbl 10 [a0] h).trans (run10 (E tbl) a0 h)
theorem c11 (a0 a1 : AVal) (h : Heap) : E tbl 11 [a0, a1] h = (S11 (E tbl) a0 a1 h).bind ansOf := (E_eq tbl 11 [a0, a1] h).trans (run11 (E tbl) a0 a1 h)
theorem c12 (h : Heap) : E tbl 12 [] h = (S12 (E tbl)  h).bind ansOf := (E_eq tbl 12 [] h).trans (run12 (E tbl)  h)
theorem c13 (a0 a1 a2 : AVal) (h : Heap) : E tbl 13 [a0, a1, a2] h = (S13 (E tbl) a0 a1 a2 h).bind ansOf := (E_eq tbl 13 [a0, a1, a2] h).trans (run13 (E tbl) a0 a1 a2 h)
theorem c14 (a0 a1 : AVal) (h : Heap) : E tbl 14 [a0, a1] h = (S14 (E tbl) a0 a1 h).bind ansOf := (E_eq tbl 14 [a0, a1] h).trans (run14 (E tbl) a0 a1 h)
theorem c15 (a0 a1 : AVal) (h : Heap) : E tbl 15 [a0, a1] h = (S15 (E tbl) a0 a1 h).bind ansOf := (E_eq tbl 15 [a0, a1] h).trans (run15 (E tbl) a0 a1 h)
theorem c16 (a0 a1 : AVal) (h : Heap) : E tbl 16 [a0, a1] h = (S16 (E tbl) a0 a1 h).bind ansOf := (E_eq tbl 16 [a0, a1] h).trans (run16 (E tbl) a0 a1 h)
theorem c17 (a0 : AVal) (h : Heap) : E tbl 17 [a0] h = (S17 (E tbl) a0 h).bind ansOf := (E_eq tbl 17 [a0] h).trans (run17 (E tbl) a0 h)
theorem c18 (a0 a1 : AVal) (h : Heap) : E tbl 18 [a0, a1] h = (S18 (E tbl) a0 a1 h).bind ansOf := (E_eq tbl 18 [a0, a1] h).trans (run18 (E tbl) a0 a1 h)
theorem c19 (a0 : AVal) (h : Heap) : E tbl 19 [a0] h = (S19 (E tbl) a0 h).bind ansOf := (E_eq tbl 19 [a0] h).trans (run19 (E tbl) a0 h)
theorem c20 (a0 : AVal) (h : Heap) : E tbl 20 [a0] h = (S20 (E tbl) a0 h).bind ansOf := (E_eq tbl 20 [a0] h).trans (run20 (E tbl) a0 h)
theorem c21 (a0 a1 a2 a3 : AVal) (h : Heap) : E tbl 21 [a0, a1, a2, a3] h = (S21 (E tbl) a0 a1 a2 a3 h).bind ansOf := (E_eq tbl 21 [a0, a1, a2, a3] h).trans (run21 (E tbl) a0 a1 a2 a3 h)
theorem c22 (a0 : AVal) (h : Heap) : E tbl 22 [a0] h = (S22 (E tbl) a0 h).bind ansOf := (E_eq tbl 22 [a0] h).trans (run22 (E tbl) a0 h)
theorem c23 (a0 a1 : AVal) (h : Heap) : E tbl 23 [a0, a1] h = (S23 (E tbl) a0 a1 h).bind ansOf := (E_eq tbl 23 [a0, a1] h).trans (run23 (E tbl) a0 a1 h)
theorem c24 (a0 a1 : AVal) (h : Heap) : E tbl 24 [a0, a1] h = (S24 (E tbl) a0 a1 h).bind ansOf := (E_eq tbl 24 [a0, a1] h).trans (run24 (E tbl) a0 a1 h)
theorem c25 (a0 : AVal) (h : Heap) : E tbl 25 [a0] h = (S25 (E tbl) a0 h).bind ansOf := (E_eq tbl 25 [a0] h).trans (run25 (E tbl) a0 h)
theorem c26 (a0 a1 : AVal) (h : Heap) : E tbl 26 [a0, a1] h = (S26 (E tbl) a0 a1 h).bind ansOf := (E_eq tbl 26 [a0, a1] h).trans (run26 (E tbl) a0 a1 h)
theorem c27 (a0 : AVal) (h : Heap) : E tbl 27 [a0] h = (S27 (E tbl) a0 h).bind ansOf := (E_eq tbl 27 [a0] h).trans (run27 (E tbl) a0 h)
theorem c28 (a0 : AVal) (h : Heap) : E tbl 28 [a0] h = (S28 (E tbl) a0 h).bind ansOf := (E_eq tbl 28 [a0] h).trans (run28 (E tbl) a0 h)
theorem c29 (a0 a1 : AVal) (h : Heap) : E tbl 29 [a0, a1] h = (S29 (E tbl) a0 a1 h).bind ansOf := (E_eq tbl 29 [a0, a1] h).trans (run29 (E tbl) a0 a1 h)
theorem c30 (a0 a1 : AVal) (h : Heap) : E tbl 30 [a0, a1] h = (S30 (E tbl) a0 a1 h).bind ansOf := (E_eq tbl 30 [a0, a1] h).trans (run30 (E tbl) a0 a1 h)
theorem c31 (a0 a1 : AVal) (h : Heap) : E tbl 31 [a0, a1] h = (S31 (E tbl) a0 a1 h).bind ansOf := (E_eq tbl 31 [a0, a1] h).trans (run31 (E tbl) a0 a1 h)
theorem c32 (a0 a1 : AVal) (h : Heap) : E tbl 32 [a0, a1] h = (S32 (E tbl) a0 a1 h).bind ansOf := (E_eq tbl 32 [a0, a1] h).trans (run32 (E tbl) a0 a1 h)
theorem c33 (a0 : AVal) (h : Heap) : E tbl 33 [a0] h = (S33 (E tbl) a0 h).bind ansOf := (E_eq tbl 33 [a0] h).trans (run33 (E tbl) a0 h)
theorem c34 (a0 : AVal) (h : Heap) : E tbl 34 [a0] h = (S34 (E tbl) a0 h).bind ansOf := (E_eq tbl 34 [a0] h).trans (run34 (E tbl) a0 h)
theorem c35 (a0 : AVal) (h : Heap) : E tbl 35 [a0] h = (S35 (E tbl) a0 h).bind ansOf := (E_eq tbl 35 [a0] h).trans (run35 (E tbl) a0 h)
theorem c36 (a0 : AVal) (h : Heap) : E tbl 36 [a0] h = (S36 (E tbl) a0 h).bind ansOf := (E_eq tbl 36 [a0] h).trans (run36 (E tbl) a0 h)
theorem c37 (a0 a1 : AVal) (h : Heap) : E tbl 37 [a0, a1] h = (S37 (E tbl) a0 a1 h).bind ansOf := (E_eq tbl 37 [a0, a1] h).trans (run37 (E tbl) a0 a1 h)
theorem c38 (a0 a1 : AVal) (h : Heap) : E tbl 38 [a0, a1] h = (S38 (E tbl) a0 a1 h).bind ansOf := (E_eq tbl 38 [a0, a1] h).trans (run38 (E tbl) a0 a1 h)
theorem c39 (a0 a1 : AVal) (h : Heap) : E tbl 39 [a0, a1] h = (S39 (E tbl) a0 a1 h).bind ansOf := (E_eq tbl 39 [a0, a1] h).trans (run39 (E tbl) a0 a1 h)
theorem c40 (a0 a1 : AVal) (h : Heap) : E tbl 40 [a0, a1] h = (S40 (E tbl) a0 a1 h).bind ansOf := (E_eq tbl 40 [a0, a1] h).trans (run40 (E tbl) a0 a1 h)
theorem c41 (a0 : AVal) (h : Heap) : E tbl 41 [a0] h = (S41 (E tbl) a0 h).bind ansOf := (E_eq tbl 41 [a0] h).trans (run41 (E tbl) a0 h)
theorem c42 (a0 a1 : AVal) (h : Heap) : E tbl 42 [a0, a1] h = (S42 (E tbl) a0 a1 h).bind ansOf := (E_eq tbl 42 [a0, a1] h).trans (run42 (E tbl) a0 a1 h)
theorem c43 (a0 a1 : AVal) (h : Heap) : E tbl 43 [a0, a1] h = (S43 (E tbl) a0 a1 h).bind ansOf := (E_eq tbl 43 [a0, a1] h).trans (run43 (E tbl) a0 a1 h)
theorem c44 (a0 : AVal) (h : Heap) : E tbl 44 [a0] h = (S44 (E tbl) a0 h).bind ansOf := (E_eq tbl 44 [a0] h).trans (run44 (E tbl) a0 h)
theorem c45 (a0 : AVal) (h : Heap) : E tbl 45 [a0] h = (S45 (E tbl) a0 h).bind ansOf := (E_eq tbl 45 [a0] h).trans (run45 (E tbl) a0 h)
theorem c46 (a0 a1 : AVal) (h : Heap) : E tbl 46 [a0, a1] h = (S46 (E tbl) a0 a1 h).bind ansOf := (E_eq tbl 46 [a0, a1] h).trans (run46 (E tbl) a0 a1 h)
theorem c47 (a0 : AVal) (h : Heap) : E tbl 47 [a0] h = (S47 (E tbl) a0 h).bind ansOf := (E_eq tbl 47 [a0] h).trans (run47 (E tbl) a0 h)
theorem c48 (a0 a1 : AVal) (h : Heap) : E tbl 48 [a0, a1] h = (S48 (E tbl) a0 a1 h).bind ansOf := (E_eq tbl 48 [a0, a1] h).trans (run48 (E tbl) a0 a1 h)
theorem c49 (a0 : AVal) (h : Heap) : E tbl 49 [a0] h = (S49 (E tbl) a0 h).bind ansOf := (E_eq tbl 49 [a0] h).trans (run49 (E tbl) a0 h)
theorem c50 (a0 : AVal) (h : Heap) : E tbl 50 [a0] h = (S50 (E tbl) a0 h).bind ansOf := (E_eq tbl 50 [a0] h).trans (run50 (E tbl) a0 h)
theorem c51 (a0 : AVal) (h : Heap) : E tbl 51 [a0] h = (S51 (E tbl) a0 h).bind ansOf := (E_eq tbl 51 [a0] h).trans (run51 (E tbl) a0 h)
theorem c52 (a0 a1 : AVal) (h : Heap) : E tbl 52 [a0, a1] h = (S52 (E tbl) a0 a1 h).bind ansOf := (E_eq tbl 52 [a0, a1] h).trans (run52 (E tbl) a0 a1 h)
theorem c53 (a0 : AVal) (h : Heap) : E tbl 53 [a0] h = (S53 (E tbl) a0 h).bind ansOf := (E_eq tbl 53 [a0] h).trans (run53 (E tbl) a0 h)
theorem c54 (a0 : AVal) (h : Heap) : E tbl 54 [a0] h = (S54 (E tbl) a0 h).bind ansOf := (E_eq tbl 54 [a0] h).trans (run54 (E tbl) a0 h)
theorem c55 (a0 a1 : AVal) (h : Heap) : E tbl 55 [a0, a1] h = (S55 (E tbl) a0 a1 h).bind ansOf := (E_eq tbl 55 [a0, a1] h).trans (run55 (E tbl) a0 a1 h)
theorem c56 (a0 : AVal) (h : Heap) : E tbl 56 [a0] h = (S56 (E tbl) a0 h).bind ansOf := (E_eq tbl 56 [a0] h).trans (run56 (E tbl) a0 h)
theorem c57 (a0 : AVal) (h : Heap) : E tbl 57 [a0] h = (S57 (E tbl) a0 h).bind ansOf := (E_eq tbl 57 [a0] h).trans (run57 (E tbl) a0 h)
theorem c58 (a0 a1 : AVal) (h : Heap) : E tbl 58 [a0, a1] h = (S58 (E tbl) a0 a1 h).bind ansOf := (E_eq tbl 58 [a0, a1] h).trans (run58 (E tbl) a0 a1 h)
theorem c59 (a0 : AVal) (h : Heap) : E tbl 59 [a0] h = (S59 (E tbl) a0 h).bind ansOf := (E_eq tbl 59 [a0] h).trans (run59 (E tbl) a0 h)
theorem c60 (a0 : AVal) (h : Heap) : E tbl 60 [a0] h = (S60 (E tbl) a0 h).bind ansOf := (E_eq tbl 60 [a0] h).trans (run60 (E tbl) a0 h)
theorem c61 (a0 : AVal) (h : Heap) : E tbl 61 [a0] h = (S61 (E tbl) a0 h).bind ansOf := (E_eq tbl 61 [a0] h).trans (run61 (E tbl) a0 h)
theorem c62 (a0 : AVal) (h : Heap) : E tbl 62 [a0] h = (S62 (E tbl) a0 h).bind ansOf := (E_eq tbl 62 [a0] h).trans (run62 (E tbl) a0 h)
theorem c63 (a0 : AVal) (h : Heap) : E tbl 63 [a0] h = (S63 (E tbl) a0 h).bind ansOf := (E_eq tbl 63 [a0] h).trans (run63 (E tbl) a0 h)
theorem c64 (a0 : AVal) (h : Heap) : E tbl 64 [a0] h = (S64 (E tbl) a0 h).bind ansOf := (E_eq tbl 64 [a0] h).trans (run64 (E tbl) a0 h)
theorem c65 (a0 : AVal) (h : Heap) : E tbl 65 [a0] h = (S65 (E tbl) a0 h).bind ansOf := (E_eq tbl 65 [a0] h).trans (run65 (E tbl) a0 h)
theorem c66 (a0 : AVal) (h : Heap) : E tbl 66 [a0] h = (S66 (E tbl) a0 h).bind ansOf := (E_eq tbl 66 [a0] h).trans (run66 (E tbl) a0 h)
theorem c67 (a0 a1 : AVal) (h : Heap) : E tbl 67 [a0, a1] h = (S67 (E tbl) a0 a1 h).bind ansOf := (E_eq tbl 67 [a0, a1] h).trans (run67 (E tbl) a0 a1 h)
theorem c68 (a0 a1 : AVal) (h : Heap) : E tbl 68 [a0, a1] h = (S68 (E tbl) a0 a1 h).bind ansOf := (E_eq tbl 68 [a0, a1] h).trans (run68 (E tbl) a0 a1 h)
theorem c69 (a0 : AVal) (h : Heap) : E tbl 69 [a0] h = (S69 (E tbl) a0 h).bind ansOf := (E_eq tbl 69 [a0] h).trans (run69 (E tbl) a0 h)
theorem c70 (a0 a1 : AVal) (h : Heap) : E tbl 70 [a0, a1] h = (S70 (E tbl) a0 a1 h).bind ansOf := (E_eq tbl 70 [a0, a1] h).trans (run70 (E tbl) a0 a1 h)
theorem c71 (a0 : AVal) (h : Heap) : E tbl 71 [a0] h = (S71 (E tbl) a0 h).bind ansOf := (E_eq tbl 71 [a0] h).trans (run71 (E tbl) a0 h)
theorem c72 (a0 : AVal) (h : Heap) : E tbl 72 [a0] h = (S72 (E tbl) a0 h).bind ansOf := (E_eq tbl 72 [a0] h).trans (run72 (E tbl) a0 h)
theorem c73 (a0 a1 : AVal) (h : Heap) : E tbl 73 [a0, a1] h = (S73 (E tbl) a0 a1 h).bind ansOf := (E_eq tbl 73 [a0, a1] h).trans (run73 (E tbl) a0 a1 h)
theorem c74 (a0 : AVal) (h : Heap) : E tbl 74 [a0] h = (S74 (E tbl) a0 h).bind ansOf := (E_eq tbl 74 [a0] h).trans (run74 (E tbl) a0 h)
theorem c75 (a0 : AVal) (h : Heap) : E tbl 75 [a0] h = (S75 (E tbl) a0 h).bind ansOf := (E_eq tbl 75 [a0] h).trans (run75 (E tbl) a0 h)
theorem c76 (a0 : AVal) (h : Heap) : E tbl 76 [a0] h = (S76 (E tbl) a0 h).bind ansOf := (E_eq tbl 76 [a0] h).trans (run76 (E tbl) a0 h)
theorem c77 (a0 : AVal) (h : Heap) : E tbl 77 [a0] h = (S77 (E tbl) a0 h).bind ansOf := (E_eq tbl 77 [a0] h).trans (run77 (E tbl) a0 h)
theorem c78 (a0 : AVal) (h : Heap) : E tbl 78 [a0] h = (S78 (E tbl) a0 h).bind ansOf := (E_eq tbl 78 [a0] h).trans (run78 (E tbl) a0 h)
theorem c79 (a0 : AVal) (h : Heap) : E tbl 79 [a0] h = (S79 (E tbl) a0 h).bind ansOf := (E_eq tbl 79 [a0] h).trans (run79 (E tbl) a0 h)
theorem c80 (a0 : AVal) (h : Heap) : E tbl 80 [a0] h = (S80 (E tbl) a0 h).bind ansOf := (E_eq tbl 80 [a0] h).trans (run80 (E tbl) a0 h)
theorem c81 (a0 : AVal) (h : Heap) : E tbl 81 [a0] h = (S81 (E tbl) a0 h).bind ansOf := (E_eq tbl 81 [a0] h).trans (run81 (E tbl) a0 h)
theorem c82 (a0 : AVal) (h : Heap) : E tbl 82 [a0] h = (S82 (E tbl) a0 h).bind ansOf := (E_eq tbl 82 [a0] h).trans (run82 (E tbl) a0 h)
theorem c83 (a0 : AVal) (h : Heap) : E tbl 83 [a0] h = (S83 (E tbl) a0 h).bind ansOf := (E_eq tbl 83 [a0] h).trans (run83 (E tbl) a0 h)
theorem c84 (a0 : AVal) (h : Heap) : E tbl 84 [a0] h = (S84 (E tbl) a0 h).bind ansOf := (E_eq tbl 84 [a0] h).trans (run84 (E tbl) a0 h)
theorem c85 (a0 : AVal) (h : Heap) : E tbl 85 [a0] h = (S85 (E tbl) a0 h).bind ansOf := (E_eq tbl 85 [a0] h).trans (run85 (E tbl) a0 h)
theorem c86 (a0 : AVal) (h : Heap) : E tbl 86 [a0] h = (S86 (E tbl) a0 h).bind ansOf := (E_eq tbl 86 [a0] h).trans (run86 (E tbl) a0 h)
theorem c90 (a0 a1 a2 a3 : AVal) (h : Heap) : E tbl 90 [a0, a1, a2, a3] h = (S90 (E tbl) a0 a1 a2 a3 h).bind ansOf := (E_eq tbl 90 [a0, a1, a2, a3] h).trans (run90 (E tbl) a0 a1 a2 a3 h)
theorem c91 (a0 a1 : AVal) (h : Heap) : E tbl 91 [a0, a1] h = (S91 (E tbl) a0 a1 h).bind ansOf := (E_eq tbl 91 [a0, a1] h).trans (run91 (E tbl) a0 a1 h)
theorem c92 (a0 : AVal) (h : Heap) : E tbl 92 [a0] h = (S92 (E tbl) a0 h).bind ansOf := (E_eq tbl 92 [a0] h).trans (run92 (E tbl) a0 h)
theorem c93 (a0 a1 : AVal) (h : Heap) : E tbl 93 [a0, a1] h = (S93 (E tbl) a0 a1 h).bind ansOf := (E_eq tbl 93 [a0, a1] h).trans (run93 (E tbl) a0 a1 h)
theorem c94 (a0 : AVal) (h : Heap) : E tbl 94 [a0] h = (S94 (E tbl) a0 h).bind ansOf := (E_eq tbl 94 [a0] h).trans (run94 (E tbl) a0 h)
theorem c118 (a0 : AVal) (h : Heap) : E tbl 118 [a0] h = (S118 (E tbl) a0 h).bind ansOf := (E_eq tbl 118 [a0] h).trans (run118 (E tbl) a0 h)
theorem c87 (l : List AVal) (h : Heap) : E tbl 87 l h = pValueOf 1 [(50, 2), (98, 22), (102, 22), (103, 22)] l h := E_eq tbl 87 l h
theorem c88 (l : List AVal) (h : Heap) : E tbl 88 l h = pValueType 135 1 l h := E_eq tbl 88 l h
theorem c89 (l : List AVal) (h : Heap) : E tbl 89 l h = pIsNil 1 [(102, 50, 2), (103, 98, 22)] l h := E_eq tbl 89 l h
theorem c95 (l : List AVal) (h : Heap) : E tbl 95 l h = pTypeOf 135 1 l h := E_eq tbl 95 l h
theorem c96 (l : List AVal) (h : Heap) : E tbl 96 l h = pValueElem 1 [(102, 50, 2), (103, 98, 22)] l h := E_eq tbl 96 l h
theorem c97 (l : List AVal) (h : Heap) : E tbl 97 l h = pSet 1 [50, 98] l h := E_eq tbl 97 l h
theorem c112 (l : List AVal) (h : Heap) : E tbl 112 l h = pClosed tab112 l h := E_eq tbl 112 l h
theorem c123 (l : List AVal) (h : Heap) : E tbl 123 l h = pClosed tab123 l h := E_eq tbl 123 l h
theorem c124 (l : List AVal) (h : Heap) : E tbl 124 l h = pClosed tab124 l h := E_eq tbl 124 l h
theorem c125 (l : List AVal) (h : Heap) : E tbl 125 l h = pClosed tab125 l h := E_eq tbl 125 l h
theorem c126 (l : List AVal) (h : Heap) : E tbl 126 l h = pClosed tab126 l h := E_eq tbl 126 l h
theorem tbl_ok : ∀ f a, tbl f = some a → FnOk Tryz.prog (drawOk Tryz.prog) f a := by
  intro f a h
  unfold tbl at h
  split at h
  · cases h; exact ⟨_, Tryz.func3, by decide +kernel, ok3⟩
  · cases h; exact ⟨_, Tryz.func4, by decide +kernel, ok4⟩
  · cases h; exact ⟨_, Tryz.func5, by decide +kernel, ok5⟩
  · cases h; exact ⟨_, Tryz.func6, by decide +kernel, ok6⟩
  · cases h; exact ⟨_, Tryz.func7, by decide +kernel, ok7⟩
  · cases h; exact ⟨_, Tryz.func8, by decide +kernel, ok8⟩
  · cases h; exact ⟨_, Tryz.func9, by decide +kernel, ok9⟩
  · cases h; exact ⟨_, Tryz.func10, by decide +kernel, ok10⟩
  · cases h; exact ⟨_, Tryz.func11, by decide +kernel, ok11⟩
  · cases h; exact ⟨_, Tryz.func12, by decide +kernel, ok12⟩
  · cases h; exact ⟨_, Tryz.func13, by decide +kernel, ok13⟩
  · cases h; exact ⟨_, Tryz.func14, by decide +kernel, ok14⟩
  · cases h; exact ⟨_, Tryz.func15, by decide +kernel, ok15⟩
  · cases h; exact ⟨_, Tryz.func16, by decide +kernel, ok16⟩
  · cases h; exact ⟨_, Tryz.func17, by decide +kernel, ok17⟩
  · cases h; exact ⟨_, Tryz.func18, by decide +kernel, ok18⟩
  · cases h; exact ⟨_, Tryz.func19, by decide +kernel, ok19⟩
  · cases h; exact ⟨_, Tryz.func20, by decide +kernel, ok20⟩
  · cases h; exact ⟨_, Tryz.func21, by decide +kernel, ok21⟩
  · cases h; exact ⟨_, Tryz.func22, by decide +kernel, ok22⟩
  · cases h; exact ⟨_, Tryz.func23, by decide +kernel, ok23⟩
  · cases h; exact ⟨_, Tryz.func24, by decide +kernel, ok24⟩
  · cases h; exact ⟨_, Tryz.func25, by decide +kernel, ok25⟩
  · cases h; exact ⟨_, Tryz.func26, by decide +kernel, ok26⟩
  · cases h; exact ⟨_, Tryz.func27, by decide +kernel, ok27⟩
  · cases h; exact ⟨_, Tryz.func28, by decide +kernel, ok28⟩
  · cases h; exact ⟨_, Tryz.func29, by decide +kernel, ok29⟩
  · cases h; exact ⟨_, Tryz.func30, by decide +kernel, ok30⟩
  · cases h; exact ⟨_, Tryz.func31, by decide +kernel, ok31⟩
  · cases h; exact ⟨_, Tryz.func32, by decide +kernel, ok32⟩
  · cases h; exact ⟨_, Tryz.func33, by decide +kernel, ok33⟩
  · cases h; exact ⟨_, Tryz.func34, by decide +kernel, ok34⟩
  · cases h; exact ⟨_, Tryz.func35, by decide +kernel, ok35⟩
  · cases h; exact ⟨_, Tryz.func36, by decide +kernel, ok36⟩
  · cases h; exact ⟨_, Tryz.func37, by decide +kernel, ok37⟩
  · cases h; exact ⟨_, Tryz.func38, by decide +kernel, ok38⟩
  · cases h; exact ⟨_, Tryz.func39, by decide +kernel, ok39⟩
  · cases h; exact ⟨_, Tryz.func40, by decide +kernel, ok40⟩
  · cases h; exact ⟨_, Tryz.func41, by decide +kernel, ok41⟩
  · cases h; exact ⟨_, Tryz.func42, by decide +kernel, ok42⟩
  · cases h; exact ⟨_, Tryz.func43, by decide +kernel, ok43⟩
  · cases h; exact ⟨_, Tryz.func44, by decide +kernel, ok44⟩
  · cases h; exact ⟨_, Tryz.func45, by decide +kernel, ok45⟩
  · cases h; exact ⟨_, Tryz.func46, by decide +kernel, ok46⟩
  · cases h; exact ⟨_, Tryz.func47, by decide +kernel, ok47⟩
  · cases h; exact ⟨_, Tryz.func48, by decide +kernel, ok48⟩
  · cases h; exact ⟨_, Tryz.func49, by decide +kernel, ok49⟩
  · cases h; exact ⟨_, Tryz.func50, by decide +kernel, ok50⟩
  · cases h; exact ⟨_, Tryz.func51, by decide +kernel, ok51⟩
  · cases h; exact ⟨_, Tryz.func52, by decide +kernel, ok52⟩
  · cases h; exact ⟨_, Tryz.func53, by decide +kernel, ok53⟩
  · cases h; exact ⟨_, Tryz.func54, by decide +kernel, ok54⟩
  · cases h; exact ⟨_, Tryz.func55, by decide +kernel, ok55⟩
  · cases h; exact ⟨_, Tryz.func56, by decide +kernel, ok56⟩
  · cases h; exact ⟨_, Tryz.func57, by decide +kernel, ok57⟩
  · cases h; exact ⟨_, Tryz.func58, by decide +kernel, ok58⟩
  · cases h; exact ⟨_, Tryz.func59, by decide +kernel, ok59⟩
  · cases h; exact ⟨_, Tryz.func60, by decide +kernel, ok60⟩
  · cases h; exact ⟨_, Tryz.func61, by decide +kernel, ok61⟩
  · cases h; exact ⟨_, Tryz.func62, by decide +kernel, ok62⟩
  · cases h; exact ⟨_, Tryz.func63, by decide +kernel, ok63⟩
  · cases h; exact ⟨_, Tryz.func64, by decide +kernel, ok64⟩
  · cases h; exact ⟨_, Tryz.func65, by decide +kernel, ok65⟩
  · cases h; exact ⟨_, Tryz.func66, by decide +kernel, ok66⟩
  · cases h; exact ⟨_, Tryz.func67, by decide +kernel, ok67⟩
  · cases h; exact ⟨_, Tryz.func68, by decide +kernel, ok68⟩
  · cases h; exact ⟨_, Tryz.func69, by decide +kernel, ok69⟩
  · cases h; exact ⟨_, Tryz.func70, by decide +kernel, ok70⟩
  · cases h; exact ⟨_, Tryz.func71, by decide +kernel, ok71⟩
  · cases h; exact ⟨_, Tryz.func72, by decide +kernel, ok72⟩
  · cases h; exact ⟨_, Tryz.func73, by decide +kernel, ok73⟩
  · cases h; exact ⟨_, Tryz.func74, by decide +kernel, ok74⟩
  · cases h; exact ⟨_, Tryz.func75, by decide +kernel, ok75⟩
  · cases h; exact ⟨_, Tryz.func76, by decide +kernel, ok76⟩
  · cases h; exact ⟨_, Tryz.func77, by decide +kernel, ok77⟩
  · cases h; exact ⟨_, Tryz.func78, by decide +kernel, ok78⟩
  · cases h; exact ⟨_, Tryz.func79, by decide +kernel, ok79⟩
  · cases h; exact ⟨_, Tryz.func80, by decide +kernel, ok80⟩
  · cases h; exact ⟨_, Tryz.func81, by decide +kernel, ok81⟩
  · cases h; exact ⟨_, Tryz.func82, by decide +kernel, ok82⟩
  · cases h; exact ⟨_, Tryz.func83, by decide +kernel, ok83⟩
  · cases h; exact ⟨_, Tryz.func84, by decide +kernel, ok84⟩
  · cases h; exact ⟨_, Tryz.func85, by decide +kernel, ok85⟩
  · cases h; exact ⟨_, Tryz.func86, by decide +kernel, ok86⟩
  · cases h; exact prim87
  · cases h; exact prim88
  · cases h; exact prim89
  · cases h; exact ⟨_, Tryz.func90, by decide +kernel, ok90⟩
  · cases h; exact ⟨_, Tryz.func91, by decide +kernel, ok91⟩
  · cases h; exact ⟨_, Tryz.func92, by decide +kernel, ok92⟩
  · cases h; exact ⟨_, Tryz.func93, by decide +kernel, ok93⟩
  · cases h; exact ⟨_, Tryz.func94, by decide +kernel, ok94⟩
  · cases h; exact prim95
  · cases h; exact prim96
  · cases h; exact prim97
  · cases h; exact prim112
  · cases h; exact ⟨_, Tryz.func118, by decide +kernel, ok118⟩
  · cases h; exact prim123
  · cases h; exact prim124
  · cases h; exact prim125
  · cases h; exact prim126
  · cases h
theorem prog_ok : CallOk Tryz.prog (E tbl) := E_ok tbl_ok
end Go.Proofs.YtjibfbphiemljaaGreatDoor.Code
