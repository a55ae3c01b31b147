import Derived.Test.YtfdhljghamkgjaaProg
import Derived.Test.YtfdhljghamkgjaaFwZb
import Derived.KernelRfl
namespace Go.Proofs.Ytfdhljghamkgjaa.Code
set_option linter.unusedSimpArgs false
set_option linter.unusedVariables false
open Go.Fw
/-- frankpledge/frankpledgelaw8.NetKeeps -/
noncomputable def A3 : AFunc := ⟨1, (.seq (.region [.op 0 (.mov 2 (.const (.bool false)))] [])
 (.seq (.region [.op 0 (.call 11 6 [.const (.int .i64 3)]),
 .op 1 (.mov 3 (.tmp 11))] [])
 (.seq (.seq (.region [.op 0 (.mov 12 (.tmp 3)),
 .op 1 (.bin 13 .eql .ptr (.tmp 12) (.const (.nilPtr)))] [])
 (.cond (.tmp 13)
 (.seq (.region [.op 0 (.mov 2 (.const (.bool false)))] [])
 .ret)
 .skip))
 (.seq (.region [.op 0 (.mov 4 (.const (.int .i64 0)))] [])
 (.seq (.seq (.region [.op 0 (.mov 5 (.const (.int .i64 0)))] [])
 (.block 0 (.loop ⟨[0, 3, 4, 5], []⟩ [((.exit 0), ⟨[0, 3, 4], []⟩), (.ret, ⟨[2], []⟩)]
 (.seq (.seq (.region [.op 0 (.mov 14 (.tmp 5)),
 .op 1 (.mov 15 (.tmp 0)),
 .op 2 (.len 16 false (.tmp 15)),
 .op 3 (.bin 17 .lss .plain (.tmp 14) (.tmp 16)),
 .op 4 (.mov 18 (.tmp 17)),
 .guard 18 true [.op 5 (.mov 19 (.tmp 5)),
 .op 6 (.bin 20 .lss .plain (.tmp 19) (.const (.int .i64 40)))] [] [20],
 .op 7 (.pick 21 (.tmp 18) (.tmp 20) (.const (.bool false)))] [])
 (.cond (.tmp 21)
 .skip
 (.exit 0)))
 (.seq (.block 1 (.seq (.seq (.region [.op 0 (.mov 24 (.tmp 3)),
 .op 1 (.mov 25 (.tmp 5)),
 .op 2 (.bin 26 .rem .plain (.tmp 25) (.const (.int .i64 3))),
 .op 3 (.mov 27 (.tmp 5)),
 .op 4 (.bin 28 .add .plain (.tmp 27) (.const (.int .i64 1))),
 .op 5 (.bin 29 .rem .plain (.tmp 28) (.const (.int .i64 3))),
 .op 6 (.mov 30 (.tmp 0)),
 .op 7 (.mov 31 (.tmp 5)),
 .op 8 (.iaddr 32 none 1 (.tmp 30) (.tmp 31)),
 .op 9 (.load 33 false 1 (.tmp 32)),
 .op 10 (.build 34 [.int .i64 0, .int .i64 0, .nilSlice] [(0, 1, .tmp 26), (1, 1, .tmp 29), (2, 1, .tmp 33)]),
 .op 11 (.call 35 7 [.tmp 24, .tmp 34]),
 .op 12 (.bin 36 .neq .plain (.tmp 35) (.const (.int .i64 0)))] [])
 (.cond (.tmp 36)
 (.seq (.region [.op 0 (.mov 2 (.const (.bool false)))] [])
 .ret)
 .skip))
 (.region [.op 0 (.mov 37 (.tmp 4)),
 .op 1 (.bin 38 .add .plain (.tmp 37) (.const (.int .i64 1))),
 .op 2 (.mov 4 (.tmp 38))] [])))
 (.region [.op 0 (.mov 22 (.tmp 5)),
 .op 1 (.bin 23 .add .plain (.tmp 22) (.const (.int .i64 1))),
 .op 2 (.mov 5 (.tmp 23))] []))))))
 (.seq (.seq (.region [.op 0 (.mov 6 (.const (.int .i64 0)))] [])
 (.block 2 (.loop ⟨[0, 3, 4, 6], []⟩ [((.exit 2), ⟨[3], []⟩), (.ret, ⟨[2], []⟩)]
 (.seq (.seq (.region [.op 0 (.mov 39 (.tmp 6)),
 .op 1 (.mov 40 (.tmp 4)),
 .op 2 (.bin 41 .lss .plain (.tmp 39) (.tmp 40))] [])
 (.cond (.tmp 41)
 .skip
 (.exit 2)))
 (.seq (.block 3 (.seq (.region [.op 0 (.mov 45 (.tmp 3)),
 .op 1 (.call 46 8 [.tmp 45, .const (.int .i64 0)]),
 .op 2 (.mov 44 (.tmp 46)),
 .op 3 (.extract 47 (.tmp 44) 0),
 .op 4 (.extract 48 (.tmp 44) 1),
 .op 5 (.alloc 7 true [.int .i64 0, .int .i64 0, .nilSlice]),
 .op 6 (.store true 3 (.tmp 7) (.tmp 47)),
 .op 7 (.mov 8 (.tmp 48))] [])
 (.seq (.region [.op 0 (.mov 49 (.tmp 8)),
 .op 1 (.bin 50 .neq .plain (.tmp 49) (.const (.int .i64 0))),
 .op 2 (.mov 51 (.tmp 50)),
 .guard 51 false [.op 3 (.faddr 52 0 (.tmp 7)),
 .op 4 (.load 53 false 1 (.tmp 52)),
 .op 5 (.mov 54 (.tmp 6)),
 .op 6 (.bin 55 .rem .plain (.tmp 54) (.const (.int .i64 3))),
 .op 7 (.bin 56 .neq .plain (.tmp 53) (.tmp 55))] [] [56],
 .op 8 (.pick 57 (.tmp 51) (.const (.bool true)) (.tmp 56)),
 .op 9 (.mov 58 (.tmp 57)),
 .guard 58 false [.op 10 (.faddr 59 1 (.tmp 7)),
 .op 11 (.load 60 false 1 (.tmp 59)),
 .op 12 (.mov 61 (.tmp 6)),
 .op 13 (.bin 62 .add .plain (.tmp 61) (.const (.int .i64 1))),
 .op 14 (.bin 63 .rem .plain (.tmp 62) (.const (.int .i64 3))),
 .op 15 (.bin 64 .neq .plain (.tmp 60) (.tmp 63))] [] [64],
 .op 16 (.pick 65 (.tmp 58) (.const (.bool true)) (.tmp 64)),
 .op 17 (.mov 66 (.tmp 65)),
 .guard 66 false [.op 18 (.faddr 67 2 (.tmp 7)),
 .op 19 (.load 68 false 1 (.tmp 67)),
 .op 20 (.conv 69 .bytesStr (.tmp 68)),
 .op 21 (.mov 70 (.tmp 0)),
 .op 22 (.mov 71 (.tmp 6)),
 .op 23 (.iaddr 72 none 1 (.tmp 70) (.tmp 71)),
 .op 24 (.load 73 false 1 (.tmp 72)),
 .op 25 (.conv 74 .bytesStr (.tmp 73)),
 .op 26 (.bin 75 .neq .plain (.tmp 69) (.tmp 74))] [] [75],
 .op 27 (.pick 76 (.tmp 66) (.const (.bool true)) (.tmp 75))] [])
 (.cond (.tmp 76)
 (.seq (.region [.op 0 (.mov 2 (.const (.bool false)))] [])
 .ret)
 .skip))))
 (.region [.op 0 (.mov 42 (.tmp 6)),
 .op 1 (.bin 43 .add .plain (.tmp 42) (.const (.int .i64 1))),
 .op 2 (.mov 6 (.tmp 43))] []))))))
 (.seq (.region [.op 0 (.mov 78 (.tmp 3)),
 .op 1 (.call 79 8 [.tmp 78, .const (.int .i64 0)]),
 .op 2 (.mov 77 (.tmp 79)),
 .op 3 (.extract 80 (.tmp 77) 0),
 .op 4 (.extract 81 (.tmp 77) 1),
 .op 5 (.alloc 9 true [.int .i64 0, .int .i64 0, .nilSlice]),
 .op 6 (.store true 3 (.tmp 9) (.tmp 80)),
 .op 7 (.mov 10 (.tmp 81))] [])
 (.seq (.region [.op 0 (.mov 82 (.tmp 10)),
 .op 1 (.bin 83 .eql .plain (.tmp 82) (.const (.int .i64 23))),
 .op 2 (.mov 84 (.tmp 83)),
 .guard 84 true [.op 3 (.mov 85 (.tmp 3)),
 .op 4 (.call 86 9 [.tmp 85]),
 .op 5 (.bin 87 .eql .plain (.tmp 86) (.const (.int .i64 0)))] [] [87],
 .op 6 (.pick 88 (.tmp 84) (.tmp 87) (.const (.bool false))),
 .op 7 (.mov 89 (.tmp 88)),
 .guard 89 true [.op 8 (.call 90 10 [])] [] [90],
 .op 9 (.pick 91 (.tmp 89) (.tmp 90) (.const (.bool false))),
 .op 10 (.mov 2 (.tmp 91))] [])
 .ret)))))))),
 [.tmp 2]⟩
theorem ok3 : funcOk Try.prog (drawOk Try.prog) Try.f3 A3 = true := by kernel_rfl
/-- xs: t0, t3, t4, t5 -/
noncomputable def L3_0 (call : Go.Fw.Call) (xs : List AVal) (h : Heap) : Option J :=
 (aLen false (xs.getD 0 .undef)).bind fun v3 =>
 (aBin .lss .plain (xs.getD 3 .undef) v3).bind fun v4 =>
 (guardV v4 true
 ((aBin .lss .plain (xs.getD 3 .undef) (.int .i64 40)).bind fun v5 =>
 some (0, [v5], h))
 (some (0, [skipV], h))).bind fun g6 =>
 (aPick v4 (g6.2.1.getD 0 .undef) (.bool false)).bind fun v7 =>
 condV v7
 ((aBin .rem .plain (xs.getD 3 .undef) (.int .i64 3)).bind fun v8 =>
 (aBin .add .plain (xs.getD 3 .undef) (.int .i64 1)).bind fun v9 =>
 (aBin .rem .plain v9 (.int .i64 3)).bind fun v10 =>
 (aIaddr 1 (xs.getD 0 .undef) (xs.getD 3 .undef)).bind fun v11 =>
 (aLoad g6.2.2 1 v11).bind fun c12 =>
 (fromCells false c12).bind fun v13 =>
 (aFill [.int .i64 0, .int .i64 0, .nilSlice] [(0, 1, v8), (1, 1, v10), (2, 1, v13)]).bind fun c14 =>
 (call 7 [(xs.getD 1 .undef), (.agg c14)] g6.2.2).bind fun r15 =>
 (aBin .neq .plain r15.1 (.int .i64 0)).bind fun v16 =>
 condV v16
 (some (2, [(.bool false)], r15.2))
 ((aBin .add .plain (xs.getD 2 .undef) (.int .i64 1)).bind fun v17 =>
 (aBin .add .plain (xs.getD 3 .undef) (.int .i64 1)).bind fun v18 =>
 some (0, [(xs.getD 0 .undef), (xs.getD 1 .undef), v17, v18], r15.2)))
 (some (1, [(xs.getD 0 .undef), (xs.getD 1 .undef), (xs.getD 2 .undef)], g6.2.2))
/-- xs: t0, t3, t4, t6 -/
noncomputable def L3_1 (call : Go.Fw.Call) (xs : List AVal) (h : Heap) : Option J :=
 (aBin .lss .plain (xs.getD 3 .undef) (xs.getD 2 .undef)).bind fun v20 =>
 condV v20
 ((call 8 [(xs.getD 1 .undef), (.int .i64 0)] h).bind fun r21 =>
 (aExtract 0 r21.1).bind fun v22 =>
 (aExtract 1 r21.1).bind fun v23 =>
 (aCells 3 v22).bind fun c24 =>
 bif Nat.ble ((0) + 3) (List.length (α := AVal) [.int .i64 0, .int .i64 0, .nilSlice]) then (aBin .neq .plain v23 (.int .i64 0)).bind fun v25 =>
 (guardV v25 false
 ((rdL (splice [.int .i64 0, .int .i64 0, .nilSlice] (0) c24) 0 1).bind fun c26 =>
 (fromCells false c26).bind fun v27 =>
 (aBin .rem .plain (xs.getD 3 .undef) (.int .i64 3)).bind fun v28 =>
 (aBin .neq .plain v27 v28).bind fun v29 =>
 some (0, [v29], r21.2))
 (some (0, [skipV], r21.2))).bind fun g30 =>
 (aPick v25 (.bool true) (g30.2.1.getD 0 .undef)).bind fun v31 =>
 (guardV v31 false
 ((rdL (splice [.int .i64 0, .int .i64 0, .nilSlice] (0) c24) 1 1).bind fun c32 =>
 (fromCells false c32).bind fun v33 =>
 (aBin .add .plain (xs.getD 3 .undef) (.int .i64 1)).bind fun v34 =>
 (aBin .rem .plain v34 (.int .i64 3)).bind fun v35 =>
 (aBin .neq .plain v33 v35).bind fun v36 =>
 some (0, [v36], g30.2.2))
 (some (0, [skipV], g30.2.2))).bind fun g37 =>
 (aPick v31 (.bool true) (g37.2.1.getD 0 .undef)).bind fun v38 =>
 (guardV v38 false
 ((rdL (splice [.int .i64 0, .int .i64 0, .nilSlice] (0) c24) 2 1).bind fun c39 =>
 (fromCells false c39).bind fun v40 =>
 (aConv .bytesStr v40 g37.2.2).bind fun r41 =>
 (aIaddr 1 (xs.getD 0 .undef) (xs.getD 3 .undef)).bind fun v42 =>
 (aLoad r41.2 1 v42).bind fun c43 =>
 (fromCells false c43).bind fun v44 =>
 (aConv .bytesStr v44 r41.2).bind fun r45 =>
 (aBin .neq .plain r41.1 r45.1).bind fun v46 =>
 some (0, [v46], r45.2))
 (some (0, [skipV], g37.2.2))).bind fun g47 =>
 (aPick v38 (.bool true) (g47.2.1.getD 0 .undef)).bind fun v48 =>
 condV v48
 (some (2, [(.bool false)], g47.2.2))
 ((aBin .add .plain (xs.getD 3 .undef) (.int .i64 1)).bind fun v49 =>
 some (0, [(xs.getD 0 .undef), (xs.getD 1 .undef), (xs.getD 2 .undef), v49], g47.2.2)) else none)
 (some (1, [(xs.getD 1 .undef)], h))
noncomputable def S3 (call : Go.Fw.Call) (a0 : AVal) (h : Heap) : Option J :=
 (call 6 [(.int .i64 3)] h).bind fun r1 =>
 (aBin .eql .ptr r1.1 (.nilPtr)).bind fun v2 =>
 condV v2
 (some (0, [(.bool false)], r1.2))
 ((loop (L3_0 call) [a0, r1.1, (.int .i64 0), (.int .i64 0)] r1.2).bind fun x19 =>
 bif Nat.beq x19.1 1 then (loop (L3_1 call) [(x19.2.1.getD 0 .undef), (x19.2.1.getD 1 .undef), (x19.2.1.getD 2 .undef), (.int .i64 0)] x19.2.2).bind fun x50 =>
 bif Nat.beq x50.1 1 then (call 8 [(x50.2.1.getD 0 .undef), (.int .i64 0)] x50.2.2).bind fun r51 =>
 (aExtract 0 r51.1).bind fun v52 =>
 (aExtract 1 r51.1).bind fun v53 =>
 (aCells 3 v52).bind fun c54 =>
 bif Nat.ble ((0) + 3) (List.length (α := AVal) [.int .i64 0, .int .i64 0, .nilSlice]) then (aBin .eql .plain v53 (.int .i64 23)).bind fun v55 =>
 (guardV v55 true
 ((call 9 [(x50.2.1.getD 0 .undef)] r51.2).bind fun r56 =>
 (aBin .eql .plain r56.1 (.int .i64 0)).bind fun v57 =>
 some (0, [v57], r56.2))
 (some (0, [skipV], r51.2))).bind fun g58 =>
 (aPick v55 (g58.2.1.getD 0 .undef) (.bool false)).bind fun v59 =>
 (guardV v59 true
 ((call 10 [] g58.2.2).bind fun r60 =>
 some (0, [r60.1], r60.2))
 (some (0, [skipV], g58.2.2))).bind fun g61 =>
 (aPick v59 (g61.2.1.getD 0 .undef) (.bool false)).bind fun v62 =>
 some (0, [v62], g61.2.2) else none else
 bif Nat.beq x50.1 2 then some (0, [(x50.2.1.getD 0 .undef)], x50.2.2) else
 none else
 bif Nat.beq x19.1 2 then some (0, [(x19.2.1.getD 0 .undef)], x19.2.2) else
 none)
theorem run3 (call : Go.Fw.Call) (a0 : AVal) (h : Heap) : runFn call (.code A3) [a0] h = (S3 call a0 h).bind ansOf := by kernel_rfl

/-- frankpledge/frankpledgelaw8.NetParts -/
noncomputable def A4 : AFunc := ⟨3, (.seq (.region [.op 0 (.mov 6 (.const (.bool false)))] [])
 (.seq (.region [.op 0 (.call 20 6 [.const (.int .i64 4)]),
 .op 1 (.mov 7 (.tmp 20))] [])
 (.seq (.seq (.region [.op 0 (.mov 21 (.tmp 7)),
 .op 1 (.bin 22 .eql .ptr (.tmp 21) (.const (.nilPtr)))] [])
 (.cond (.tmp 22)
 (.seq (.region [.op 0 (.mov 6 (.const (.bool false)))] [])
 .ret)
 .skip))
 (.seq (.region [.op 0 (.mov 23 (.tmp 0)),
 .op 1 (.call 24 11 [.tmp 23, .const (.int .i64 0), .const (.int .i64 3)]),
 .op 2 (.mov 8 (.tmp 24))] [])
 (.seq (.region [.op 0 (.mov 25 (.tmp 8)),
 .op 1 (.bin 26 .add .plain (.tmp 25) (.const (.int .i64 1))),
 .op 2 (.mov 27 (.tmp 1)),
 .op 3 (.call 28 11 [.tmp 27, .const (.int .i64 0), .const (.int .i64 2)]),
 .op 4 (.bin 29 .add .plain (.tmp 26) (.tmp 28)),
 .op 5 (.bin 30 .rem .plain (.tmp 29) (.const (.int .i64 4))),
 .op 6 (.mov 9 (.tmp 30))] [])
 (.seq (.seq (.region [.op 0 (.mov 31 (.tmp 7)),
 .op 1 (.mov 32 (.tmp 8)),
 .op 2 (.mov 33 (.tmp 9)),
 .op 3 (.call 34 12 [.tmp 31, .tmp 32, .tmp 33]),
 .op 4 (.bin 35 .neq .plain (.tmp 34) (.const (.int .i64 0))),
 .op 5 (.mov 36 (.tmp 35)),
 .guard 36 false [.op 6 (.mov 37 (.tmp 7)),
 .op 7 (.mov 38 (.tmp 8)),
 .op 8 (.mov 39 (.tmp 9)),
 .op 9 (.mov 40 (.tmp 2)),
 .op 10 (.build 41 [.int .i64 0, .int .i64 0, .nilSlice] [(0, 1, .tmp 38), (1, 1, .tmp 39), (2, 1, .tmp 40)]),
 .op 11 (.call 42 7 [.tmp 37, .tmp 41]),
 .op 12 (.bin 43 .neq .plain (.tmp 42) (.const (.int .i64 0)))] [] [43],
 .op 13 (.pick 44 (.tmp 36) (.const (.bool true)) (.tmp 43)),
 .op 14 (.mov 45 (.tmp 44)),
 .guard 45 false [.op 15 (.mov 46 (.tmp 7)),
 .op 16 (.mov 47 (.tmp 9)),
 .op 17 (.mov 48 (.tmp 8)),
 .op 18 (.mov 49 (.tmp 2)),
 .op 19 (.build 50 [.int .i64 0, .int .i64 0, .nilSlice] [(0, 1, .tmp 47), (1, 1, .tmp 48), (2, 1, .tmp 49)]),
 .op 20 (.call 51 7 [.tmp 46, .tmp 50]),
 .op 21 (.bin 52 .neq .plain (.tmp 51) (.const (.int .i64 0)))] [] [52],
 .op 22 (.pick 53 (.tmp 45) (.const (.bool true)) (.tmp 52)),
 .op 23 (.mov 54 (.tmp 53)),
 .guard 54 false [.op 24 (.mov 55 (.tmp 7)),
 .op 25 (.mov 56 (.tmp 8)),
 .op 26 (.mov 57 (.tmp 8)),
 .op 27 (.mov 58 (.tmp 2)),
 .op 28 (.build 59 [.int .i64 0, .int .i64 0, .nilSlice] [(0, 1, .tmp 56), (1, 1, .tmp 57), (2, 1, .tmp 58)]),
 .op 29 (.call 60 7 [.tmp 55, .tmp 59]),
 .op 30 (.bin 61 .neq .plain (.tmp 60) (.const (.int .i64 0)))] [] [61],
 .op 31 (.pick 62 (.tmp 54) (.const (.bool true)) (.tmp 61))] [])
 (.cond (.tmp 62)
 (.seq (.region [.op 0 (.mov 6 (.const (.bool false)))] [])
 .ret)
 .skip))
 (.seq (.region [.op 0 (.mov 64 (.tmp 7)),
 .op 1 (.call 65 8 [.tmp 64, .const (.int .i64 0)]),
 .op 2 (.mov 63 (.tmp 65)),
 .op 3 (.extract 66 (.tmp 63) 0),
 .op 4 (.extract 67 (.tmp 63) 1),
 .op 5 (.alloc 10 true [.int .i64 0, .int .i64 0, .nilSlice]),
 .op 6 (.store true 3 (.tmp 10) (.tmp 66)),
 .op 7 (.mov 11 (.tmp 67))] [])
 (.seq (.region [.op 0 (.mov 69 (.tmp 7)),
 .op 1 (.call 70 8 [.tmp 69, .const (.int .i64 1)]),
 .op 2 (.mov 68 (.tmp 70)),
 .op 3 (.extract 71 (.tmp 68) 0),
 .op 4 (.extract 72 (.tmp 68) 1),
 .op 5 (.alloc 12 true [.int .i64 0, .int .i64 0, .nilSlice]),
 .op 6 (.store true 3 (.tmp 12) (.tmp 71)),
 .op 7 (.mov 13 (.tmp 72))] [])
 (.seq (.region [.op 0 (.mov 74 (.tmp 7)),
 .op 1 (.call 75 8 [.tmp 74, .const (.int .i64 2)]),
 .op 2 (.mov 73 (.tmp 75)),
 .op 3 (.extract 76 (.tmp 73) 0),
 .op 4 (.extract 77 (.tmp 73) 1),
 .op 5 (.alloc 14 true [.int .i64 0, .int .i64 0, .nilSlice]),
 .op 6 (.store true 3 (.tmp 14) (.tmp 76)),
 .op 7 (.mov 15 (.tmp 77))] [])
 (.seq (.seq (.region [.op 0 (.mov 78 (.tmp 11)),
 .op 1 (.bin 79 .neq .plain (.tmp 78) (.const (.int .i64 26))),
 .op 2 (.mov 80 (.tmp 79)),
 .guard 80 false [.op 3 (.mov 81 (.tmp 13)),
 .op 4 (.bin 82 .neq .plain (.tmp 81) (.const (.int .i64 26)))] [] [82],
 .op 5 (.pick 83 (.tmp 80) (.const (.bool true)) (.tmp 82)),
 .op 6 (.mov 84 (.tmp 83)),
 .guard 84 false [.op 7 (.mov 85 (.tmp 15)),
 .op 8 (.bin 86 .neq .plain (.tmp 85) (.const (.int .i64 0)))] [] [86],
 .op 9 (.pick 87 (.tmp 84) (.const (.bool true)) (.tmp 86)),
 .op 10 (.mov 88 (.tmp 87)),
 .guard 88 false [.op 11 (.mov 89 (.tmp 7)),
 .op 12 (.mov 90 (.tmp 9)),
 .op 13 (.mov 91 (.tmp 8)),
 .op 14 (.call 92 13 [.tmp 89, .tmp 90, .tmp 91]),
 .op 15 (.un 93 .not (.tmp 92))] [] [93],
 .op 16 (.pick 94 (.tmp 88) (.const (.bool true)) (.tmp 93)),
 .op 17 (.mov 95 (.tmp 94)),
 .guard 95 false [.op 18 (.mov 96 (.tmp 7)),
 .op 19 (.mov 97 (.tmp 9)),
 .op 20 (.mov 98 (.tmp 8)),
 .op 21 (.call 99 14 [.tmp 96, .tmp 97, .tmp 98]),
 .op 22 (.bin 100 .neq .plain (.tmp 99) (.const (.int .i64 0)))] [] [100],
 .op 23 (.pick 101 (.tmp 95) (.const (.bool true)) (.tmp 100)),
 .op 24 (.mov 102 (.tmp 101)),
 .guard 102 false [.op 25 (.mov 103 (.tmp 7)),
 .op 26 (.mov 104 (.tmp 8)),
 .op 27 (.mov 105 (.tmp 9)),
 .op 28 (.call 106 13 [.tmp 103, .tmp 104, .tmp 105])] [] [106],
 .op 29 (.pick 107 (.tmp 102) (.const (.bool true)) (.tmp 106))] [])
 (.cond (.tmp 107)
 (.seq (.region [.op 0 (.mov 6 (.const (.bool false)))] [])
 .ret)
 .skip))
 (.seq (.region [.op 0 (.mov 109 (.tmp 7)),
 .op 1 (.call 110 8 [.tmp 109, .const (.int .i64 0)]),
 .op 2 (.mov 108 (.tmp 110)),
 .op 3 (.extract 111 (.tmp 108) 0),
 .op 4 (.extract 112 (.tmp 108) 1),
 .op 5 (.alloc 16 true [.int .i64 0, .int .i64 0, .nilSlice]),
 .op 6 (.store true 3 (.tmp 16) (.tmp 111)),
 .op 7 (.mov 17 (.tmp 112))] [])
 (.seq (.region [.op 0 (.mov 114 (.tmp 7)),
 .op 1 (.call 115 8 [.tmp 114, .const (.int .i64 0)]),
 .op 2 (.mov 113 (.tmp 115)),
 .op 3 (.extract 116 (.tmp 113) 0),
 .op 4 (.extract 117 (.tmp 113) 1),
 .op 5 (.alloc 18 true [.int .i64 0, .int .i64 0, .nilSlice]),
 .op 6 (.store true 3 (.tmp 18) (.tmp 116)),
 .op 7 (.mov 19 (.tmp 117))] [])
 (.seq (.region [.op 0 (.mov 118 (.tmp 17)),
 .op 1 (.bin 119 .eql .plain (.tmp 118) (.const (.int .i64 0))),
 .op 2 (.mov 120 (.tmp 119)),
 .guard 120 true [.op 3 (.mov 121 (.tmp 19)),
 .op 4 (.bin 122 .eql .plain (.tmp 121) (.const (.int .i64 0)))] [] [122],
 .op 5 (.pick 123 (.tmp 120) (.tmp 122) (.const (.bool false))),
 .op 6 (.mov 124 (.tmp 123)),
 .guard 124 true [.op 7 (.faddr 125 0 (.tmp 16)),
 .op 8 (.load 126 false 1 (.tmp 125)),
 .op 9 (.mov 127 (.tmp 8)),
 .op 10 (.bin 128 .eql .plain (.tmp 126) (.tmp 127))] [] [128],
 .op 11 (.pick 129 (.tmp 124) (.tmp 128) (.const (.bool false))),
 .op 12 (.mov 130 (.tmp 129)),
 .guard 130 true [.op 13 (.faddr 131 0 (.tmp 18)),
 .op 14 (.load 132 false 1 (.tmp 131)),
 .op 15 (.mov 133 (.tmp 9)),
 .op 16 (.bin 134 .eql .plain (.tmp 132) (.tmp 133))] [] [134],
 .op 17 (.pick 135 (.tmp 130) (.tmp 134) (.const (.bool false))),
 .op 18 (.mov 136 (.tmp 135)),
 .guard 136 true [.op 19 (.faddr 137 2 (.tmp 16)),
 .op 20 (.load 138 false 1 (.tmp 137)),
 .op 21 (.conv 139 .bytesStr (.tmp 138)),
 .op 22 (.mov 140 (.tmp 2)),
 .op 23 (.conv 141 .bytesStr (.tmp 140)),
 .op 24 (.bin 142 .eql .plain (.tmp 139) (.tmp 141))] [] [142],
 .op 25 (.pick 143 (.tmp 136) (.tmp 142) (.const (.bool false))),
 .op 26 (.mov 144 (.tmp 143)),
 .guard 144 true [.op 27 (.mov 145 (.tmp 7)),
 .op 28 (.call 146 9 [.tmp 145]),
 .op 29 (.bin 147 .eql .plain (.tmp 146) (.const (.int .i64 0)))] [] [147],
 .op 30 (.pick 148 (.tmp 144) (.tmp 147) (.const (.bool false))),
 .op 31 (.mov 149 (.tmp 148)),
 .guard 149 true [.op 32 (.call 150 10 [])] [] [150],
 .op 33 (.pick 151 (.tmp 149) (.tmp 150) (.const (.bool false))),
 .op 34 (.mov 6 (.tmp 151))] [])
 .ret))))))))))))),
 [.tmp 6]⟩
theorem ok4 : funcOk Try.prog (drawOk Try.prog) Try.f4 A4 = true := by kernel_rfl
noncomputable def S4 (call : Go.Fw.Call) (a0 a1 a2 : AVal) (h : Heap) : Option J :=
 (call 6 [(.int .i64 4)] h).bind fun r1 =>
 (aBin .eql .ptr r1.1 (.nilPtr)).bind fun v2 =>
 condV v2
 (some (0, [(.bool false)], r1.2))
 ((call 11 [a0, (.int .i64 0), (.int .i64 3)] r1.2).bind fun r3 =>
 (aBin .add .plain r3.1 (.int .i64 1)).bind fun v4 =>
 (call 11 [a1, (.int .i64 0), (.int .i64 2)] r3.2).bind fun r5 =>
 (aBin .add .plain v4 r5.1).bind fun v6 =>
 (aBin .rem .plain v6 (.int .i64 4)).bind fun v7 =>
 (call 12 [r1.1, r3.1, v7] r5.2).bind fun r8 =>
 (aBin .neq .plain r8.1 (.int .i64 0)).bind fun v9 =>
 (guardV v9 false
 ((aFill [.int .i64 0, .int .i64 0, .nilSlice] [(0, 1, r3.1), (1, 1, v7), (2, 1, a2)]).bind fun c10 =>
 (call 7 [r1.1, (.agg c10)] r8.2).bind fun r11 =>
 (aBin .neq .plain r11.1 (.int .i64 0)).bind fun v12 =>
 some (0, [v12], r11.2))
 (some (0, [skipV], r8.2))).bind fun g13 =>
 (aPick v9 (.bool true) (g13.2.1.getD 0 .undef)).bind fun v14 =>
 (guardV v14 false
 ((aFill [.int .i64 0, .int .i64 0, .nilSlice] [(0, 1, v7), (1, 1, r3.1), (2, 1, a2)]).bind fun c15 =>
 (call 7 [r1.1, (.agg c15)] g13.2.2).bind fun r16 =>
 (aBin .neq .plain r16.1 (.int .i64 0)).bind fun v17 =>
 some (0, [v17], r16.2))
 (some (0, [skipV], g13.2.2))).bind fun g18 =>
 (aPick v14 (.bool true) (g18.2.1.getD 0 .undef)).bind fun v19 =>
 (guardV v19 false
 ((aFill [.int .i64 0, .int .i64 0, .nilSlice] [(0, 1, r3.1), (1, 1, r3.1), (2, 1, a2)]).bind fun c20 =>
 (call 7 [r1.1, (.agg c20)] g18.2.2).bind fun r21 =>
 (aBin .neq .plain r21.1 (.int .i64 0)).bind fun v22 =>
 some (0, [v22], r21.2))
 (some (0, [skipV], g18.2.2))).bind fun g23 =>
 (aPick v19 (.bool true) (g23.2.1.getD 0 .undef)).bind fun v24 =>
 condV v24
 (some (0, [(.bool false)], g23.2.2))
 ((call 8 [r1.1, (.int .i64 0)] g23.2.2).bind fun r25 =>
 (aExtract 0 r25.1).bind fun v26 =>
 (aExtract 1 r25.1).bind fun v27 =>
 (aCells 3 v26).bind fun c28 =>
 bif Nat.ble ((0) + 3) (List.length (α := AVal) [.int .i64 0, .int .i64 0, .nilSlice]) then (call 8 [r1.1, (.int .i64 1)] r25.2).bind fun r29 =>
 (aExtract 0 r29.1).bind fun v30 =>
 (aExtract 1 r29.1).bind fun v31 =>
 (aCells 3 v30).bind fun c32 =>
 bif Nat.ble ((0) + 3) (List.length (α := AVal) [.int .i64 0, .int .i64 0, .nilSlice]) then (call 8 [r1.1, (.int .i64 2)] r29.2).bind fun r33 =>
 (aExtract 0 r33.1).bind fun v34 =>
 (aExtract 1 r33.1).bind fun v35 =>
 (aCells 3 v34).bind fun c36 =>
 bif Nat.ble ((0) + 3) (List.length (α := AVal) [.int .i64 0, .int .i64 0, .nilSlice]) then (aBin .neq .plain v27 (.int .i64 26)).bind fun v37 =>
 (guardV v37 false
 ((aBin .neq .plain v31 (.int .i64 26)).bind fun v38 =>
 some (0, [v38], r33.2))
 (some (0, [skipV], r33.2))).bind fun g39 =>
 (aPick v37 (.bool true) (g39.2.1.getD 0 .undef)).bind fun v40 =>
 (guardV v40 false
 ((aBin .neq .plain v35 (.int .i64 0)).bind fun v41 =>
 some (0, [v41], g39.2.2))
 (some (0, [skipV], g39.2.2))).bind fun g42 =>
 (aPick v40 (.bool true) (g42.2.1.getD 0 .undef)).bind fun v43 =>
 (guardV v43 false
 ((call 13 [r1.1, v7, r3.1] g42.2.2).bind fun r44 =>
 (aUn .not r44.1).bind fun v45 =>
 some (0, [v45], r44.2))
 (some (0, [skipV], g42.2.2))).bind fun g46 =>
 (aPick v43 (.bool true) (g46.2.1.getD 0 .undef)).bind fun v47 =>
 (guardV v47 false
 ((call 14 [r1.1, v7, r3.1] g46.2.2).bind fun r48 =>
 (aBin .neq .plain r48.1 (.int .i64 0)).bind fun v49 =>
 some (0, [v49], r48.2))
 (some (0, [skipV], g46.2.2))).bind fun g50 =>
 (aPick v47 (.bool true) (g50.2.1.getD 0 .undef)).bind fun v51 =>
 (guardV v51 false
 ((call 13 [r1.1, r3.1, v7] g50.2.2).bind fun r52 =>
 some (0, [r52.1], r52.2))
 (some (0, [skipV], g50.2.2))).bind fun g53 =>
 (aPick v51 (.bool true) (g53.2.1.getD 0 .undef)).bind fun v54 =>
 condV v54
 (some (0, [(.bool false)], g53.2.2))
 ((call 8 [r1.1, (.int .i64 0)] g53.2.2).bind fun r55 =>
 (aExtract 0 r55.1).bind fun v56 =>
 (aExtract 1 r55.1).bind fun v57 =>
 (aCells 3 v56).bind fun c58 =>
 bif Nat.ble ((0) + 3) (List.length (α := AVal) [.int .i64 0, .int .i64 0, .nilSlice]) then (call 8 [r1.1, (.int .i64 0)] r55.2).bind fun r59 =>
 (aExtract 0 r59.1).bind fun v60 =>
 (aExtract 1 r59.1).bind fun v61 =>
 (aCells 3 v60).bind fun c62 =>
 bif Nat.ble ((0) + 3) (List.length (α := AVal) [.int .i64 0, .int .i64 0, .nilSlice]) then (aBin .eql .plain v57 (.int .i64 0)).bind fun v63 =>
 (guardV v63 true
 ((aBin .eql .plain v61 (.int .i64 0)).bind fun v64 =>
 some (0, [v64], r59.2))
 (some (0, [skipV], r59.2))).bind fun g65 =>
 (aPick v63 (g65.2.1.getD 0 .undef) (.bool false)).bind fun v66 =>
 (guardV v66 true
 ((rdL (splice [.int .i64 0, .int .i64 0, .nilSlice] (0) c58) 0 1).bind fun c67 =>
 (fromCells false c67).bind fun v68 =>
 (aBin .eql .plain v68 r3.1).bind fun v69 =>
 some (0, [v69], g65.2.2))
 (some (0, [skipV], g65.2.2))).bind fun g70 =>
 (aPick v66 (g70.2.1.getD 0 .undef) (.bool false)).bind fun v71 =>
 (guardV v71 true
 ((rdL (splice [.int .i64 0, .int .i64 0, .nilSlice] (0) c62) 0 1).bind fun c72 =>
 (fromCells false c72).bind fun v73 =>
 (aBin .eql .plain v73 v7).bind fun v74 =>
 some (0, [v74], g70.2.2))
 (some (0, [skipV], g70.2.2))).bind fun g75 =>
 (aPick v71 (g75.2.1.getD 0 .undef) (.bool false)).bind fun v76 =>
 (guardV v76 true
 ((rdL (splice [.int .i64 0, .int .i64 0, .nilSlice] (0) c58) 2 1).bind fun c77 =>
 (fromCells false c77).bind fun v78 =>
 (aConv .bytesStr v78 g75.2.2).bind fun r79 =>
 (aConv .bytesStr a2 r79.2).bind fun r80 =>
 (aBin .eql .plain r79.1 r80.1).bind fun v81 =>
 some (0, [v81], r80.2))
 (some (0, [skipV], g75.2.2))).bind fun g82 =>
 (aPick v76 (g82.2.1.getD 0 .undef) (.bool false)).bind fun v83 =>
 (guardV v83 true
 ((call 9 [r1.1] g82.2.2).bind fun r84 =>
 (aBin .eql .plain r84.1 (.int .i64 0)).bind fun v85 =>
 some (0, [v85], r84.2))
 (some (0, [skipV], g82.2.2))).bind fun g86 =>
 (aPick v83 (g86.2.1.getD 0 .undef) (.bool false)).bind fun v87 =>
 (guardV v87 true
 ((call 10 [] g86.2.2).bind fun r88 =>
 some (0, [r88.1], r88.2))
 (some (0, [skipV], g86.2.2))).bind fun g89 =>
 (aPick v87 (g89.2.1.getD 0 .undef) (.bool false)).bind fun v90 =>
 some (0, [v90], g89.2.2) else none else none) else none else none else none))
theorem run4 (call : Go.Fw.Call) (a0 a1 a2 : AVal) (h : Heap) : runFn call (.code A4) [a0, a1, a2] h = (S4 call a0 a1 a2 h).bind ansOf := by kernel_rfl

/-- frankpledge/frankpledgelaw8.NetNumbers -/
noncomputable def A5 : AFunc := ⟨0, (.seq (.region [.op 0 (.mov 0 (.const (.bool false)))] [])
 (.seq (.seq (.region [.op 0 (.mov 1 (.const (.int .i64 0)))] [])
 (.block 0 (.loop ⟨[1], []⟩ [((.exit 0), ⟨[], []⟩), (.ret, ⟨[0], []⟩)]
 (.seq (.seq (.region [.op 0 (.mov 6 (.tmp 1)),
 .op 1 (.bin 7 .lss .plain (.tmp 6) (.const (.int .i64 30)))] [])
 (.cond (.tmp 7)
 .skip
 (.exit 0)))
 (.seq (.block 1 (.seq (.region [.op 0 (.mov 2 (.const (.nilSlice)))] [])
 (.seq (.seq (.region [.op 0 (.mov 3 (.const (.int .i64 0)))] [])
 (.block 2 (.loop ⟨[1, 2, 3], []⟩ [((.exit 2), ⟨[1, 2], []⟩)]
 (.seq (.seq (.region [.op 0 (.mov 10 (.tmp 3)),
 .op 1 (.bin 11 .lss .plain (.tmp 10) (.const (.int .i64 70)))] [])
 (.cond (.tmp 11)
 .skip
 (.exit 2)))
 (.seq (.block 3 (.region [.op 0 (.mov 14 (.tmp 2)),
 .op 1 (.mov 15 (.tmp 3)),
 .op 2 (.mov 16 (.tmp 3)),
 .op 3 (.bin 17 .mul .plain (.tmp 15) (.tmp 16)),
 .op 4 (.mov 18 (.tmp 1)),
 .op 5 (.bin 19 .add .plain (.tmp 17) (.tmp 18)),
 .op 6 (.bin 20 .rem .plain (.tmp 19) (.const (.int .i64 7))),
 .op 7 (.mov 21 (.tmp 3)),
 .op 8 (.mov 22 (.tmp 1)),
 .op 9 (.bin 23 .add .plain (.tmp 21) (.tmp 22)),
 .op 10 (.bin 24 .rem .plain (.tmp 23) (.const (.int .i64 5))),
 .op 11 (.mov 25 (.tmp 3)),
 .op 12 (.bin 26 .mul .plain (.tmp 25) (.const (.int .i64 3))),
 .op 13 (.bin 27 .rem .plain (.tmp 26) (.const (.int .i64 5))),
 .op 14 (.mov 28 (.tmp 3)),
 .op 15 (.mov 29 (.tmp 1)),
 .op 16 (.bin 30 .mul .plain (.tmp 28) (.tmp 29)),
 .op 17 (.bin 31 .rem .plain (.tmp 30) (.const (.int .i64 6))),
 .op 18 (.bin 32 .sub .plain (.tmp 31) (.const (.int .i64 1))),
 .op 19 (.mov 33 (.tmp 3)),
 .op 20 (.conv 34 (.toInt .u8) (.tmp 33)),
 .op 21 (.buildSl 35 [.int .u8 0] 1 1 [(0, .tmp 34)]),
 .op 22 (.build 36 [.int .i64 0, .int .i64 0, .int .i64 0, .int .i64 0, .nilSlice] [(0, 1, .tmp 20), (1, 1, .tmp 24), (2, 1, .tmp 27), (3, 1, .tmp 32), (4, 1, .tmp 35)]),
 .op 23 (.buildSl 37 [.int .i64 0, .int .i64 0, .int .i64 0, .int .i64 0, .nilSlice] 5 1 [(0, .tmp 36)]),
 .op 24 (.append 38 5 56 [.int .i64 0, .int .i64 0, .int .i64 0, .int .i64 0, .nilSlice] false (.tmp 14) (.tmp 37)),
 .op 25 (.mov 2 (.tmp 38))] []))
 (.region [.op 0 (.mov 12 (.tmp 3)),
 .op 1 (.bin 13 .add .plain (.tmp 12) (.const (.int .i64 1))),
 .op 2 (.mov 3 (.tmp 13))] []))))))
 (.seq (.region [.op 0 (.mov 39 (.tmp 1)),
 .op 1 (.bin 40 .rem .plain (.tmp 39) (.const (.int .i64 8))),
 .op 2 (.mov 41 (.tmp 2)),
 .op 3 (.call 42 15 [.tmp 40, .tmp 41]),
 .op 4 (.un 43 .not (.tmp 42))] [])
 (.cond (.tmp 43)
 (.seq (.region [.op 0 (.mov 0 (.const (.bool false)))] [])
 .ret)
 .skip)))))
 (.region [.op 0 (.mov 8 (.tmp 1)),
 .op 1 (.bin 9 .add .plain (.tmp 8) (.const (.int .i64 1))),
 .op 2 (.mov 1 (.tmp 9))] []))))))
 (.seq (.region [.op 0 (.mov 4 (.const (.nilSlice)))] [])
 (.seq (.seq (.region [.op 0 (.mov 5 (.const (.int .i64 0)))] [])
 (.block 4 (.loop ⟨[4, 5], []⟩ [((.exit 4), ⟨[4], []⟩)]
 (.seq (.seq (.region [.op 0 (.mov 44 (.tmp 5)),
 .op 1 (.bin 45 .lss .plain (.tmp 44) (.const (.int .i64 67)))] [])
 (.cond (.tmp 45)
 .skip
 (.exit 4)))
 (.seq (.block 5 (.region [.op 0 (.mov 48 (.tmp 4)),
 .op 1 (.mov 49 (.tmp 5)),
 .op 2 (.conv 50 (.toInt .u8) (.tmp 49)),
 .op 3 (.buildSl 51 [.int .u8 0] 1 1 [(0, .tmp 50)]),
 .op 4 (.build 52 [.int .i64 0, .int .i64 0, .int .i64 0, .int .i64 0, .nilSlice] [(1, 1, .const (.int .i64 0)), (2, 1, .const (.int .i64 1)), (4, 1, .tmp 51)]),
 .op 5 (.buildSl 53 [.int .i64 0, .int .i64 0, .int .i64 0, .int .i64 0, .nilSlice] 5 1 [(0, .tmp 52)]),
 .op 6 (.append 54 5 56 [.int .i64 0, .int .i64 0, .int .i64 0, .int .i64 0, .nilSlice] false (.tmp 48) (.tmp 53)),
 .op 7 (.mov 4 (.tmp 54))] []))
 (.region [.op 0 (.mov 46 (.tmp 5)),
 .op 1 (.bin 47 .add .plain (.tmp 46) (.const (.int .i64 1))),
 .op 2 (.mov 5 (.tmp 47))] []))))))
 (.seq (.region [.op 0 (.mov 55 (.tmp 4)),
 .op 1 (.build 56 [.int .i64 0, .int .i64 0, .int .i64 0, .int .i64 0, .nilSlice] [(0, 1, .const (.int .i64 4)), (3, 1, .const (.int .i64 3))]),
 .op 2 (.build 57 [.int .i64 0, .int .i64 0, .int .i64 0, .int .i64 0, .nilSlice] [(0, 1, .const (.int .i64 3)), (3, 1, .const (.int .i64 3))]),
 .op 3 (.build 58 [.int .i64 0, .int .i64 0, .int .i64 0, .int .i64 0, .nilSlice] [(0, 1, .const (.int .i64 4)), (3, 1, .const (.int .i64 5))]),
 .op 4 (.build 59 [.int .i64 0, .int .i64 0, .int .i64 0, .int .i64 0, .nilSlice] [(0, 1, .const (.int .i64 2)), (3, 1, .const (.int .i64 60))]),
 .op 5 (.build 60 [.int .i64 0, .int .i64 0, .int .i64 0, .int .i64 0, .nilSlice] [(0, 1, .const (.int .i64 2)), (3, 1, .const (.int .i64 4611686018427387904))]),
 .op 6 (.build 61 [.int .i64 0, .int .i64 0, .int .i64 0, .int .i64 0, .nilSlice] [(0, 1, .const (.int .i64 4)), (3, 1, .const (.int .i64 (-9223372036854775808)))]),
 .op 7 (.buildSl 62 [.int .i64 0, .int .i64 0, .int .i64 0, .int .i64 0, .nilSlice] 5 6 [(0, .tmp 56), (1, .tmp 57), (2, .tmp 58), (3, .tmp 59), (4, .tmp 60), (5, .tmp 61)]),
 .op 8 (.append 63 5 56 [.int .i64 0, .int .i64 0, .int .i64 0, .int .i64 0, .nilSlice] false (.tmp 55) (.tmp 62)),
 .op 9 (.mov 4 (.tmp 63))] [])
 (.seq (.region [.op 0 (.mov 64 (.tmp 4)),
 .op 1 (.call 65 15 [.const (.int .i64 2), .tmp 64]),
 .op 2 (.mov 66 (.tmp 65)),
 .guard 66 true [.op 3 (.call 67 10 [])] [] [67],
 .op 4 (.pick 68 (.tmp 66) (.tmp 67) (.const (.bool false))),
 .op 5 (.mov 0 (.tmp 68))] [])
 .ret)))))),
 [.tmp 0]⟩
theorem ok5 : funcOk Try.prog (drawOk Try.prog) Try.f5 A5 = true := by kernel_rfl
/-- xs: t1, t2, t3 -/
noncomputable def L5_1 (call : Go.Fw.Call) (xs : List AVal) (h : Heap) : Option J :=
 (aBin .lss .plain (xs.getD 2 .undef) (.int .i64 70)).bind fun v2 =>
 condV v2
 ((aBin .mul .plain (xs.getD 2 .undef) (xs.getD 2 .undef)).bind fun v3 =>
 (aBin .add .plain v3 (xs.getD 0 .undef)).bind fun v4 =>
 (aBin .rem .plain v4 (.int .i64 7)).bind fun v5 =>
 (aBin .add .plain (xs.getD 2 .undef) (xs.getD 0 .undef)).bind fun v6 =>
 (aBin .rem .plain v6 (.int .i64 5)).bind fun v7 =>
 (aBin .mul .plain (xs.getD 2 .undef) (.int .i64 3)).bind fun v8 =>
 (aBin .rem .plain v8 (.int .i64 5)).bind fun v9 =>
 (aBin .mul .plain (xs.getD 2 .undef) (xs.getD 0 .undef)).bind fun v10 =>
 (aBin .rem .plain v10 (.int .i64 6)).bind fun v11 =>
 (aBin .sub .plain v11 (.int .i64 1)).bind fun v12 =>
 (aConv (.toInt .u8) (xs.getD 2 .undef) h).bind fun r13 =>
 (aFill (reps [.int .u8 0] 1) [(0, 1, r13.1)]).bind fun c14 =>
 (aFill [.int .i64 0, .int .i64 0, .int .i64 0, .int .i64 0, .nilSlice] [(0, 1, v5), (1, 1, v7), (2, 1, v9), (3, 1, v12), (4, 1, (.slice r13.2.next 0 1 1 1 true))]).bind fun c15 =>
 (aFill (reps [.int .i64 0, .int .i64 0, .int .i64 0, .int .i64 0, .nilSlice] 1) [(0, 5, (.agg c15))]).bind fun c16 =>
 (aAppend 5 56 [.int .i64 0, .int .i64 0, .int .i64 0, .int .i64 0, .nilSlice] false (xs.getD 1 .undef) (.slice (r13.2.alloc c14).next 0 1 1 5 true) ((r13.2.alloc c14).alloc c16)).bind fun r17 =>
 (aBin .add .plain (xs.getD 2 .undef) (.int .i64 1)).bind fun v18 =>
 some (0, [(xs.getD 0 .undef), r17.1, v18], r17.2))
 (some (1, [(xs.getD 0 .undef), (xs.getD 1 .undef)], h))
/-- xs: t1 -/
noncomputable def L5_0 (call : Go.Fw.Call) (xs : List AVal) (h : Heap) : Option J :=
 (aBin .lss .plain (xs.getD 0 .undef) (.int .i64 30)).bind fun v1 =>
 condV v1
 ((loop (L5_1 call) [(xs.getD 0 .undef), (.nilSlice), (.int .i64 0)] h).bind fun x19 =>
 bif Nat.beq x19.1 1 then (aBin .rem .plain (x19.2.1.getD 0 .undef) (.int .i64 8)).bind fun v20 =>
 (call 15 [v20, (x19.2.1.getD 1 .undef)] x19.2.2).bind fun r21 =>
 (aUn .not r21.1).bind fun v22 =>
 condV v22
 (some (2, [(.bool false)], r21.2))
 ((aBin .add .plain (x19.2.1.getD 0 .undef) (.int .i64 1)).bind fun v23 =>
 some (0, [v23], r21.2)) else
 none)
 (some (1, [], h))
/-- xs: t4, t5 -/
noncomputable def L5_2 (call : Go.Fw.Call) (xs : List AVal) (h : Heap) : Option J :=
 (aBin .lss .plain (xs.getD 1 .undef) (.int .i64 67)).bind fun v25 =>
 condV v25
 ((aConv (.toInt .u8) (xs.getD 1 .undef) h).bind fun r26 =>
 (aFill (reps [.int .u8 0] 1) [(0, 1, r26.1)]).bind fun c27 =>
 (aFill [.int .i64 0, .int .i64 0, .int .i64 0, .int .i64 0, .nilSlice] [(1, 1, (.int .i64 0)), (2, 1, (.int .i64 1)), (4, 1, (.slice r26.2.next 0 1 1 1 true))]).bind fun c28 =>
 (aFill (reps [.int .i64 0, .int .i64 0, .int .i64 0, .int .i64 0, .nilSlice] 1) [(0, 5, (.agg c28))]).bind fun c29 =>
 (aAppend 5 56 [.int .i64 0, .int .i64 0, .int .i64 0, .int .i64 0, .nilSlice] false (xs.getD 0 .undef) (.slice (r26.2.alloc c27).next 0 1 1 5 true) ((r26.2.alloc c27).alloc c29)).bind fun r30 =>
 (aBin .add .plain (xs.getD 1 .undef) (.int .i64 1)).bind fun v31 =>
 some (0, [r30.1, v31], r30.2))
 (some (1, [(xs.getD 0 .undef)], h))
noncomputable def S5 (call : Go.Fw.Call) (h : Heap) : Option J :=
 (loop (L5_0 call) [(.int .i64 0)] h).bind fun x24 =>
 bif Nat.beq x24.1 1 then (loop (L5_2 call) [(.nilSlice), (.int .i64 0)] x24.2.2).bind fun x32 =>
 bif Nat.beq x32.1 1 then (aFill [.int .i64 0, .int .i64 0, .int .i64 0, .int .i64 0, .nilSlice] [(0, 1, (.int .i64 4)), (3, 1, (.int .i64 3))]).bind fun c33 =>
 (aFill [.int .i64 0, .int .i64 0, .int .i64 0, .int .i64 0, .nilSlice] [(0, 1, (.int .i64 3)), (3, 1, (.int .i64 3))]).bind fun c34 =>
 (aFill [.int .i64 0, .int .i64 0, .int .i64 0, .int .i64 0, .nilSlice] [(0, 1, (.int .i64 4)), (3, 1, (.int .i64 5))]).bind fun c35 =>
 (aFill [.int .i64 0, .int .i64 0, .int .i64 0, .int .i64 0, .nilSlice] [(0, 1, (.int .i64 2)), (3, 1, (.int .i64 60))]).bind fun c36 =>
 (aFill [.int .i64 0, .int .i64 0, .int .i64 0, .int .i64 0, .nilSlice] [(0, 1, (.int .i64 2)), (3, 1, (.int .i64 4611686018427387904))]).bind fun c37 =>
 (aFill [.int .i64 0, .int .i64 0, .int .i64 0, .int .i64 0, .nilSlice] [(0, 1, (.int .i64 4)), (3, 1, (.int .i64 (-9223372036854775808)))]).bind fun c38 =>
 (aFill (reps [.int .i64 0, .int .i64 0, .int .i64 0, .int .i64 0, .nilSlice] 6) [(0, 5, (.agg c33)), (5, 5, (.agg c34)), (10, 5, (.agg c35)), (15, 5, (.agg c36)), (20, 5, (.agg c37)), (25, 5, (.agg c38))]).bind fun c39 =>
 (aAppend 5 56 [.int .i64 0, .int .i64 0, .int .i64 0, .int .i64 0, .nilSlice] false (x32.2.1.getD 0 .undef) (.slice x32.2.2.next 0 6 6 5 true) (x32.2.2.alloc c39)).bind fun r40 =>
 (call 15 [(.int .i64 2), r40.1] r40.2).bind fun r41 =>
 (guardV r41.1 true
 ((call 10 [] r41.2).bind fun r42 =>
 some (0, [r42.1], r42.2))
 (some (0, [skipV], r41.2))).bind fun g43 =>
 (aPick r41.1 (g43.2.1.getD 0 .undef) (.bool false)).bind fun v44 =>
 some (0, [v44], g43.2.2) else
 none else
 bif Nat.beq x24.1 2 then some (0, [(x24.2.1.getD 0 .undef)], x24.2.2) else
 none
theorem run5 (call : Go.Fw.Call) (h : Heap) : runFn call (.code A5) [] h = (S5 call  h).bind ansOf := by kernel_rfl

/-- frankpledge/net.New -/
noncomputable def A6 : AFunc := ⟨1, (.seq (.region [.op 0 (.mov 2 (.const (.nilPtr)))] [])
 (.seq (.seq (.region [.op 0 (.mov 3 (.tmp 0)),
 .op 1 (.bin 4 .lss .plain (.tmp 3) (.const (.int .i64 1))),
 .op 2 (.mov 5 (.tmp 4)),
 .guard 5 false [.op 3 (.mov 6 (.tmp 0)),
 .op 4 (.bin 7 .gtr .plain (.tmp 6) (.const (.int .i64 6)))] [] [7],
 .op 5 (.pick 8 (.tmp 5) (.const (.bool true)) (.tmp 7))] [])
 (.cond (.tmp 8)
 (.seq (.region [.op 0 (.mov 2 (.const (.nilPtr)))] [])
 .ret)
 .skip))
 (.seq (.region [.op 0 (.mov 9 (.tmp 0)),
 .op 1 (.build 10 [.int .i64 0, .nilSlice, .bool false, .bool false, .bool false, .bool false, .bool false, .bool false, .bool false, .bool false, .bool false, .bool false, .bool false, .bool false, .bool false, .bool false, .bool false, .bool false, .bool false, .bool false, .bool false, .bool false, .bool false, .bool false, .bool false, .bool false, .bool false, .bool false, .bool false, .bool false, .bool false, .bool false, .bool false, .bool false, .bool false, .bool false, .bool false, .bool false] [(0, 1, .tmp 9)]),
 .op 2 (.box 11 false (.tmp 10)),
 .op 3 (.mov 2 (.tmp 11))] [])
 .ret))),
 [.tmp 2]⟩
theorem ok6 : funcOk Try.prog (drawOk Try.prog) Try.f6 A6 = true := by kernel_rfl
noncomputable def S6 (call : Go.Fw.Call) (a0 : AVal) (h : Heap) : Option J :=
 (aBin .lss .plain a0 (.int .i64 1)).bind fun v1 =>
 (guardV v1 false
 ((aBin .gtr .plain a0 (.int .i64 6)).bind fun v2 =>
 some (0, [v2], h))
 (some (0, [skipV], h))).bind fun g3 =>
 (aPick v1 (.bool true) (g3.2.1.getD 0 .undef)).bind fun v4 =>
 condV v4
 (some (0, [(.nilPtr)], g3.2.2))
 ((aFill [.int .i64 0, .nilSlice, .bool false, .bool false, .bool false, .bool false, .bool false, .bool false, .bool false, .bool false, .bool false, .bool false, .bool false, .bool false, .bool false, .bool false, .bool false, .bool false, .bool false, .bool false, .bool false, .bool false, .bool false, .bool false, .bool false, .bool false, .bool false, .bool false, .bool false, .bool false, .bool false, .bool false, .bool false, .bool false, .bool false, .bool false, .bool false, .bool false] [(0, 1, a0)]).bind fun c5 =>
 (AVal.cells? (.agg c5)).bind fun c6 =>
 some (0, [(.ptr g3.2.2.next 0)], (g3.2.2.alloc c6)))
theorem run6 (call : Go.Fw.Call) (a0 : AVal) (h : Heap) : runFn call (.code A6) [a0] h = (S6 call a0 h).bind ansOf := by kernel_rfl

/-- (*frankpledge/net.Net).Send -/
noncomputable def A7 : AFunc := ⟨2, (.seq (.region [.op 0 (.box 3 true (.tmp 1)),
 .op 1 (.mov 4 (.const (.int .i64 0)))] [])
 (.seq (.block 0 (.seq (.region [.op 0 (.mov 6 (.tmp 0)),
 .op 1 (.faddr 7 0 (.tmp 3)),
 .op 2 (.load 8 false 1 (.tmp 7)),
 .op 3 (.call 9 16 [.tmp 6, .tmp 8]),
 .op 4 (.un 10 .not (.tmp 9)),
 .op 5 (.mov 11 (.tmp 10)),
 .guard 11 false [.op 6 (.mov 12 (.tmp 0)),
 .op 7 (.faddr 13 1 (.tmp 3)),
 .op 8 (.load 14 false 1 (.tmp 13)),
 .op 9 (.call 15 16 [.tmp 12, .tmp 14]),
 .op 10 (.un 16 .not (.tmp 15))] [] [16],
 .op 11 (.pick 17 (.tmp 11) (.const (.bool true)) (.tmp 16)),
 .op 12 (.mov 5 (.tmp 17))] [])
 (.cond (.tmp 5)
 (.seq (.region [.op 0 (.mov 4 (.const (.int .i64 23)))] [])
 .ret)
 (.seq (.region [.op 0 (.mov 19 (.tmp 0)),
 .op 1 (.nilchk 20 (.tmp 19)),
 .op 2 (.faddr 21 1 (.tmp 20)),
 .op 3 (.load 22 false 1 (.tmp 21)),
 .op 4 (.len 23 false (.tmp 22)),
 .op 5 (.bin 24 .geq .plain (.tmp 23) (.const (.int .i64 64))),
 .op 6 (.mov 18 (.tmp 24))] [])
 (.cond (.tmp 18)
 (.seq (.region [.op 0 (.mov 4 (.const (.int .i64 24)))] [])
 .ret)
 .skip)))))
 (.seq (.region [.op 0 (.mov 25 (.tmp 0)),
 .op 1 (.mov 26 (.tmp 0)),
 .op 2 (.nilchk 27 (.tmp 26)),
 .op 3 (.faddr 28 1 (.tmp 27)),
 .op 4 (.load 29 false 1 (.tmp 28)),
 .op 5 (.load 30 true 3 (.tmp 3)),
 .op 6 (.call 31 17 [.tmp 30]),
 .op 7 (.buildSl 32 [.int .i64 0, .int .i64 0, .nilSlice] 3 1 [(0, .tmp 31)]),
 .op 8 (.append 33 3 40 [.int .i64 0, .int .i64 0, .nilSlice] false (.tmp 29) (.tmp 32)),
 .op 9 (.nilchk 34 (.tmp 25)),
 .op 10 (.faddr 35 1 (.tmp 34)),
 .op 11 (.store false 1 (.tmp 35) (.tmp 33))] [(4, 6), (4, 7)])
 (.seq (.region [.op 0 (.mov 4 (.const (.int .i64 0)))] [])
 .ret)))),
 [.tmp 4]⟩
theorem ok7 : funcOk Try.prog (drawOk Try.prog) Try.f7 A7 = true := by kernel_rfl
noncomputable def S7 (call : Go.Fw.Call) (a0 a1 : AVal) (h : Heap) : Option J :=
 (AVal.cells? a1).bind fun c1 =>
 (rdL c1 0 1).bind fun c2 =>
 (fromCells false c2).bind fun v3 =>
 (call 16 [a0, v3] h).bind fun r4 =>
 (aUn .not r4.1).bind fun v5 =>
 (guardV v5 false
 ((rdL c1 1 1).bind fun c6 =>
 (fromCells false c6).bind fun v7 =>
 (call 16 [a0, v7] r4.2).bind fun r8 =>
 (aUn .not r8.1).bind fun v9 =>
 some (0, [v9], r8.2))
 (some (0, [skipV], r4.2))).bind fun g10 =>
 (aPick v5 (.bool true) (g10.2.1.getD 0 .undef)).bind fun v11 =>
 condV v11
 (some (0, [(.int .i64 23)], g10.2.2))
 ((aNilchk a0).bind fun v12 =>
 (aFaddr 1 v12).bind fun v13 =>
 (aLoad g10.2.2 1 v13).bind fun c14 =>
 (fromCells false c14).bind fun v15 =>
 (aLen false v15).bind fun v16 =>
 (aBin .geq .plain v16 (.int .i64 64)).bind fun v17 =>
 condV v17
 (some (0, [(.int .i64 24)], g10.2.2))
 ((aNilchk a0).bind fun v18 =>
 (aFaddr 1 v18).bind fun v19 =>
 (aLoad g10.2.2 1 v19).bind fun c20 =>
 (fromCells false c20).bind fun v21 =>
 (rdL c1 0 3).bind fun c22 =>
 (fromCells true c22).bind fun v23 =>
 (call 17 [v23] g10.2.2).bind fun r24 =>
 (aFill (reps [.int .i64 0, .int .i64 0, .nilSlice] 1) [(0, 3, r24.1)]).bind fun c25 =>
 (aAppend 3 40 [.int .i64 0, .int .i64 0, .nilSlice] false v21 (.slice r24.2.next 0 1 1 3 true) (r24.2.alloc c25)).bind fun r26 =>
 (aNilchk a0).bind fun v27 =>
 (aFaddr 1 v27).bind fun v28 =>
 (aCells 1 r26.1).bind fun c29 =>
 (aStore r26.2 v28 c29).bind fun h30 =>
 bif checkPairs [(7, some (.al r24.2.next)), (6, some (.ef [(3, c1)] g10.2.2 [(3, c1)] r24.2)), (4, logRd v19 1)] [(4, 6), (4, 7)] then some (0, [(.int .i64 0)], h30) else none))
theorem run7 (call : Go.Fw.Call) (a0 a1 : AVal) (h : Heap) : runFn call (.code A7) [a0, a1] h = (S7 call a0 a1 h).bind ansOf := by kernel_rfl

/-- (*frankpledge/net.Net).Deliver -/
noncomputable def A8 : AFunc := ⟨2, (.seq (.region [.op 0 (.alloc 4 true [.int .i64 0, .int .i64 0, .nilSlice]),
 .op 1 (.mov 5 (.const (.int .i64 0)))] [])
 (.seq (.block 0 (.seq (.region [.op 0 (.mov 8 (.tmp 0)),
 .op 1 (.mov 9 (.tmp 1)),
 .op 2 (.call 10 18 [.tmp 8, .tmp 9]),
 .op 3 (.un 11 .not (.tmp 10)),
 .op 4 (.mov 7 (.tmp 11))] [])
 (.cond (.tmp 7)
 (.seq (.region [.op 0 (.build 12 [.int .i64 0, .int .i64 0, .nilSlice] []),
 .op 1 (.store true 3 (.tmp 4) (.tmp 12)),
 .op 2 (.mov 5 (.const (.int .i64 23)))] [])
 .ret)
 (.seq (.region [.op 0 (.mov 14 (.tmp 0)),
 .op 1 (.mov 15 (.tmp 0)),
 .op 2 (.nilchk 16 (.tmp 15)),
 .op 3 (.faddr 17 1 (.tmp 16)),
 .op 4 (.load 18 false 1 (.tmp 17)),
 .op 5 (.mov 19 (.tmp 1)),
 .op 6 (.iaddr 20 none 3 (.tmp 18) (.tmp 19)),
 .op 7 (.faddr 21 0 (.tmp 20)),
 .op 8 (.load 22 false 1 (.tmp 21)),
 .op 9 (.mov 23 (.tmp 0)),
 .op 10 (.nilchk 24 (.tmp 23)),
 .op 11 (.faddr 25 1 (.tmp 24)),
 .op 12 (.load 26 false 1 (.tmp 25)),
 .op 13 (.mov 27 (.tmp 1)),
 .op 14 (.iaddr 28 none 3 (.tmp 26) (.tmp 27)),
 .op 15 (.faddr 29 1 (.tmp 28)),
 .op 16 (.load 30 false 1 (.tmp 29)),
 .op 17 (.call 31 13 [.tmp 14, .tmp 22, .tmp 30]),
 .op 18 (.mov 13 (.tmp 31))] [])
 (.cond (.tmp 13)
 (.seq (.region [.op 0 (.build 32 [.int .i64 0, .int .i64 0, .nilSlice] []),
 .op 1 (.store true 3 (.tmp 4) (.tmp 32)),
 .op 2 (.mov 5 (.const (.int .i64 26)))] [])
 .ret)
 .skip)))))
 (.seq (.region [.op 0 (.mov 33 (.tmp 0)),
 .op 1 (.nilchk 34 (.tmp 33)),
 .op 2 (.faddr 35 1 (.tmp 34)),
 .op 3 (.load 36 false 1 (.tmp 35)),
 .op 4 (.mov 37 (.tmp 1)),
 .op 5 (.iaddr 38 none 3 (.tmp 36) (.tmp 37)),
 .op 6 (.load 39 true 3 (.tmp 38)),
 .op 7 (.alloc 6 true [.int .i64 0, .int .i64 0, .nilSlice]),
 .op 8 (.store true 3 (.tmp 6) (.tmp 39))] [])
 (.seq (.region [.op 0 (.mov 40 (.tmp 0)),
 .op 1 (.mov 41 (.tmp 0)),
 .op 2 (.nilchk 42 (.tmp 41)),
 .op 3 (.faddr 43 1 (.tmp 42)),
 .op 4 (.load 44 false 1 (.tmp 43)),
 .op 5 (.mov 45 (.tmp 1)),
 .op 6 (.mov 46 (.tmp 1)),
 .op 7 (.bin 47 .add .plain (.tmp 46) (.const (.int .i64 1))),
 .op 8 (.call 48 19 [.tmp 44, .tmp 45, .tmp 47]),
 .op 9 (.nilchk 49 (.tmp 40)),
 .op 10 (.faddr 50 1 (.tmp 49)),
 .op 11 (.store false 1 (.tmp 50) (.tmp 48))] [])
 (.seq (.region [.op 0 (.load 51 true 3 (.tmp 6)),
 .op 1 (.store true 3 (.tmp 4) (.tmp 51)),
 .op 2 (.mov 5 (.const (.int .i64 0)))] [])
 .ret))))),
 [.cell 4 true 3, .tmp 5]⟩
theorem ok8 : funcOk Try.prog (drawOk Try.prog) Try.f8 A8 = true := by kernel_rfl
noncomputable def S8 (call : Go.Fw.Call) (a0 a1 : AVal) (h : Heap) : Option J :=
 (call 18 [a0, a1] h).bind fun r1 =>
 (aUn .not r1.1).bind fun v2 =>
 condV v2
 ((aFill [.int .i64 0, .int .i64 0, .nilSlice] []).bind fun c3 =>
 (aCells 3 (.agg c3)).bind fun c4 =>
 bif Nat.ble ((0) + 3) (List.length (α := AVal) [.int .i64 0, .int .i64 0, .nilSlice]) then (((rdL (splice [.int .i64 0, .int .i64 0, .nilSlice] (0) c4) (0) 3).bind fun cs => fromCells true cs).bind fun v => ((some (.int .i64 23)).bind fun v => (some []).bind fun vs => some (v :: vs)).bind fun vs => some (v :: vs)).bind fun vs => some (0, [oneOr vs], r1.2) else none)
 ((aNilchk a0).bind fun v5 =>
 (aFaddr 1 v5).bind fun v6 =>
 (aLoad r1.2 1 v6).bind fun c7 =>
 (fromCells false c7).bind fun v8 =>
 (aIaddr 3 v8 a1).bind fun v9 =>
 (aFaddr 0 v9).bind fun v10 =>
 (aLoad r1.2 1 v10).bind fun c11 =>
 (fromCells false c11).bind fun v12 =>
 (aNilchk a0).bind fun v13 =>
 (aFaddr 1 v13).bind fun v14 =>
 (aLoad r1.2 1 v14).bind fun c15 =>
 (fromCells false c15).bind fun v16 =>
 (aIaddr 3 v16 a1).bind fun v17 =>
 (aFaddr 1 v17).bind fun v18 =>
 (aLoad r1.2 1 v18).bind fun c19 =>
 (fromCells false c19).bind fun v20 =>
 (call 13 [a0, v12, v20] r1.2).bind fun r21 =>
 condV r21.1
 ((aFill [.int .i64 0, .int .i64 0, .nilSlice] []).bind fun c22 =>
 (aCells 3 (.agg c22)).bind fun c23 =>
 bif Nat.ble ((0) + 3) (List.length (α := AVal) [.int .i64 0, .int .i64 0, .nilSlice]) then (((rdL (splice [.int .i64 0, .int .i64 0, .nilSlice] (0) c23) (0) 3).bind fun cs => fromCells true cs).bind fun v => ((some (.int .i64 26)).bind fun v => (some []).bind fun vs => some (v :: vs)).bind fun vs => some (v :: vs)).bind fun vs => some (0, [oneOr vs], r21.2) else none)
 ((aNilchk a0).bind fun v24 =>
 (aFaddr 1 v24).bind fun v25 =>
 (aLoad r21.2 1 v25).bind fun c26 =>
 (fromCells false c26).bind fun v27 =>
 (aIaddr 3 v27 a1).bind fun v28 =>
 (aLoad r21.2 3 v28).bind fun c29 =>
 (fromCells true c29).bind fun v30 =>
 (aCells 3 v30).bind fun c31 =>
 bif Nat.ble ((0) + 3) (List.length (α := AVal) [.int .i64 0, .int .i64 0, .nilSlice]) then (aNilchk a0).bind fun v32 =>
 (aFaddr 1 v32).bind fun v33 =>
 (aLoad r21.2 1 v33).bind fun c34 =>
 (fromCells false c34).bind fun v35 =>
 (aBin .add .plain a1 (.int .i64 1)).bind fun v36 =>
 (call 19 [v35, a1, v36] r21.2).bind fun r37 =>
 (aNilchk a0).bind fun v38 =>
 (aFaddr 1 v38).bind fun v39 =>
 (aCells 1 r37.1).bind fun c40 =>
 (aStore r37.2 v39 c40).bind fun h41 =>
 (rdL (splice [.int .i64 0, .int .i64 0, .nilSlice] (0) c31) 0 3).bind fun c42 =>
 (fromCells true c42).bind fun v43 =>
 (aCells 3 v43).bind fun c44 =>
 bif Nat.ble ((0) + 3) (List.length (α := AVal) [.int .i64 0, .int .i64 0, .nilSlice]) then (((rdL (splice [.int .i64 0, .int .i64 0, .nilSlice] (0) c44) (0) 3).bind fun cs => fromCells true cs).bind fun v => ((some (.int .i64 0)).bind fun v => (some []).bind fun vs => some (v :: vs)).bind fun vs => some (v :: vs)).bind fun vs => some (0, [oneOr vs], h41) else none else none))
theorem run8 (call : Go.Fw.Call) (a0 a1 : AVal) (h : Heap) : runFn call (.code A8) [a0, a1] h = (S8 call a0 a1 h).bind ansOf := by kernel_rfl

/-- (*frankpledge/net.Net).Len -/
noncomputable def A9 : AFunc := ⟨1, (.seq (.region [.op 0 (.mov 2 (.const (.int .i64 0)))] [])
 (.seq (.region [.op 0 (.mov 3 (.tmp 0)),
 .op 1 (.nilchk 4 (.tmp 3)),
 .op 2 (.faddr 5 1 (.tmp 4)),
 .op 3 (.load 6 false 1 (.tmp 5)),
 .op 4 (.len 7 false (.tmp 6)),
 .op 5 (.mov 2 (.tmp 7))] [])
 .ret)),
 [.tmp 2]⟩
theorem ok9 : funcOk Try.prog (drawOk Try.prog) Try.f9 A9 = true := by kernel_rfl
noncomputable def S9 (call : Go.Fw.Call) (a0 : AVal) (h : Heap) : Option J :=
 (aNilchk a0).bind fun v1 =>
 (aFaddr 1 v1).bind fun v2 =>
 (aLoad h 1 v2).bind fun c3 =>
 (fromCells false c3).bind fun v4 =>
 (aLen false v4).bind fun v5 =>
 some (0, [v5], h)
theorem run9 (call : Go.Fw.Call) (a0 : AVal) (h : Heap) : runFn call (.code A9) [a0] h = (S9 call a0 h).bind ansOf := by kernel_rfl

/-- frankpledge/frankpledgelaw8.known -/
noncomputable def A10 : AFunc := ⟨0, (.seq (.region [.op 0 (.mov 0 (.const (.bool false)))] [])
 (.seq (.region [.op 0 (.call 10 6 [.const (.int .i64 2)]),
 .op 1 (.mov 1 (.tmp 10))] [])
 (.seq (.seq (.region [.op 0 (.mov 11 (.tmp 1)),
 .op 1 (.bin 12 .eql .ptr (.tmp 11) (.const (.nilPtr))),
 .op 2 (.mov 13 (.tmp 12)),
 .guard 13 false [.op 3 (.call 14 6 [.const (.int .i64 0)]),
 .op 4 (.bin 15 .neq .ptr (.tmp 14) (.const (.nilPtr)))] [] [15],
 .op 5 (.pick 16 (.tmp 13) (.const (.bool true)) (.tmp 15))] [])
 (.cond (.tmp 16)
 (.seq (.region [.op 0 (.mov 0 (.const (.bool false)))] [])
 .ret)
 .skip))
 (.seq (.region [.op 0 (.mov 17 (.tmp 1)),
 .op 1 (.buildSl 18 [.int .u8 0] 1 1 [(0, .const (.int .u8 120))]),
 .op 2 (.conv 19 .slBytes (.tmp 18)),
 .op 3 (.build 20 [.int .i64 0, .int .i64 0, .nilSlice] [(1, 1, .const (.int .i64 1)), (2, 1, .tmp 19)]),
 .op 4 (.call 21 7 [.tmp 17, .tmp 20]),
 .op 5 (.mov 2 (.tmp 21))] [])
 (.seq (.region [.op 0 (.mov 22 (.tmp 1)),
 .op 1 (.call 23 20 [.tmp 22, .const (.int .i64 0)]),
 .op 2 (.mov 3 (.tmp 23))] [])
 (.seq (.region [.op 0 (.mov 24 (.tmp 1)),
 .op 1 (.call 25 12 [.tmp 24, .const (.int .i64 0), .const (.int .i64 1)]),
 .op 2 (.mov 4 (.tmp 25))] [])
 (.seq (.region [.op 0 (.mov 27 (.tmp 1)),
 .op 1 (.call 28 8 [.tmp 27, .const (.int .i64 0)]),
 .op 2 (.mov 26 (.tmp 28)),
 .op 3 (.extract 29 (.tmp 26) 0),
 .op 4 (.extract 30 (.tmp 26) 1),
 .op 5 (.alloc 5 true [.int .i64 0, .int .i64 0, .nilSlice]),
 .op 6 (.store true 3 (.tmp 5) (.tmp 29)),
 .op 7 (.mov 6 (.tmp 30))] [])
 (.seq (.region [.op 0 (.mov 31 (.tmp 1)),
 .op 1 (.call 32 14 [.tmp 31, .const (.int .i64 1), .const (.int .i64 0)]),
 .op 2 (.mov 7 (.tmp 32))] [])
 (.seq (.region [.op 0 (.mov 34 (.tmp 1)),
 .op 1 (.call 35 8 [.tmp 34, .const (.int .i64 1)]),
 .op 2 (.mov 33 (.tmp 35)),
 .op 3 (.extract 36 (.tmp 33) 0),
 .op 4 (.extract 37 (.tmp 33) 1),
 .op 5 (.alloc 8 true [.int .i64 0, .int .i64 0, .nilSlice]),
 .op 6 (.store true 3 (.tmp 8) (.tmp 36)),
 .op 7 (.mov 9 (.tmp 37))] [])
 (.seq (.region [.op 0 (.mov 38 (.tmp 2)),
 .op 1 (.bin 39 .eql .plain (.tmp 38) (.const (.int .i64 0))),
 .op 2 (.mov 40 (.tmp 39)),
 .guard 40 true [.op 3 (.mov 41 (.tmp 3)),
 .op 4 (.bin 42 .eql .plain (.tmp 41) (.const (.int .i64 0)))] [] [42],
 .op 5 (.pick 43 (.tmp 40) (.tmp 42) (.const (.bool false))),
 .op 6 (.mov 44 (.tmp 43)),
 .guard 44 true [.op 7 (.mov 45 (.tmp 4)),
 .op 8 (.bin 46 .eql .plain (.tmp 45) (.const (.int .i64 0)))] [] [46],
 .op 9 (.pick 47 (.tmp 44) (.tmp 46) (.const (.bool false))),
 .op 10 (.mov 48 (.tmp 47)),
 .guard 48 true [.op 11 (.mov 49 (.tmp 6)),
 .op 12 (.bin 50 .eql .plain (.tmp 49) (.const (.int .i64 26)))] [] [50],
 .op 13 (.pick 51 (.tmp 48) (.tmp 50) (.const (.bool false))),
 .op 14 (.mov 52 (.tmp 51)),
 .guard 52 true [.op 15 (.mov 53 (.tmp 7)),
 .op 16 (.bin 54 .eql .plain (.tmp 53) (.const (.int .i64 0)))] [] [54],
 .op 17 (.pick 55 (.tmp 52) (.tmp 54) (.const (.bool false))),
 .op 18 (.mov 56 (.tmp 55)),
 .guard 56 true [.op 19 (.mov 57 (.tmp 9)),
 .op 20 (.bin 58 .eql .plain (.tmp 57) (.const (.int .i64 0)))] [] [58],
 .op 21 (.pick 59 (.tmp 56) (.tmp 58) (.const (.bool false))),
 .op 22 (.mov 60 (.tmp 59)),
 .guard 60 true [.op 23 (.faddr 61 2 (.tmp 8)),
 .op 24 (.load 62 false 1 (.tmp 61)),
 .op 25 (.conv 63 .bytesStr (.tmp 62)),
 .op 26 (.bin 64 .eql .plain (.tmp 63) (.const (.str [120])))] [] [64],
 .op 27 (.pick 65 (.tmp 60) (.tmp 64) (.const (.bool false))),
 .op 28 (.mov 66 (.tmp 65)),
 .guard 66 true [.op 29 (.mov 67 (.tmp 1)),
 .op 30 (.call 68 9 [.tmp 67]),
 .op 31 (.bin 69 .eql .plain (.tmp 68) (.const (.int .i64 1)))] [] [69],
 .op 32 (.pick 70 (.tmp 66) (.tmp 69) (.const (.bool false))),
 .op 33 (.mov 71 (.tmp 70)),
 .guard 71 true [.op 34 (.mov 72 (.tmp 1)),
 .op 35 (.call 73 12 [.tmp 72, .const (.int .i64 0), .const (.int .i64 0)]),
 .op 36 (.bin 74 .eql .plain (.tmp 73) (.const (.int .i64 23)))] [] [74],
 .op 37 (.pick 75 (.tmp 71) (.tmp 74) (.const (.bool false))),
 .op 38 (.mov 76 (.tmp 75)),
 .guard 76 true [.op 39 (.mov 77 (.tmp 1)),
 .op 40 (.call 78 21 [.tmp 77, .const (.int .i64 9)]),
 .op 41 (.bin 79 .eql .plain (.tmp 78) (.const (.int .i64 23)))] [] [79],
 .op 42 (.pick 80 (.tmp 76) (.tmp 79) (.const (.bool false))),
 .op 43 (.mov 81 (.tmp 80)),
 .guard 81 true [.op 44 (.mov 82 (.tmp 1)),
 .op 45 (.call 83 13 [.tmp 82, .const (.int .i64 0), .const (.int .i64 1)]),
 .op 46 (.un 84 .not (.tmp 83))] [] [84],
 .op 47 (.pick 85 (.tmp 81) (.tmp 84) (.const (.bool false))),
 .op 48 (.mov 0 (.tmp 85))] [])
 .ret)))))))))),
 [.tmp 0]⟩
theorem ok10 : funcOk Try.prog (drawOk Try.prog) Try.f10 A10 = true := by kernel_rfl
noncomputable def S10 (call : Go.Fw.Call) (h : Heap) : Option J :=
 (call 6 [(.int .i64 2)] h).bind fun r1 =>
 (aBin .eql .ptr r1.1 (.nilPtr)).bind fun v2 =>
 (guardV v2 false
 ((call 6 [(.int .i64 0)] r1.2).bind fun r3 =>
 (aBin .neq .ptr r3.1 (.nilPtr)).bind fun v4 =>
 some (0, [v4], r3.2))
 (some (0, [skipV], r1.2))).bind fun g5 =>
 (aPick v2 (.bool true) (g5.2.1.getD 0 .undef)).bind fun v6 =>
 condV v6
 (some (0, [(.bool false)], g5.2.2))
 ((aFill (reps [.int .u8 0] 1) [(0, 1, (.int .u8 120))]).bind fun c7 =>
 (aConv .slBytes (.slice g5.2.2.next 0 1 1 1 true) (g5.2.2.alloc c7)).bind fun r8 =>
 (aFill [.int .i64 0, .int .i64 0, .nilSlice] [(1, 1, (.int .i64 1)), (2, 1, r8.1)]).bind fun c9 =>
 (call 7 [r1.1, (.agg c9)] r8.2).bind fun r10 =>
 (call 20 [r1.1, (.int .i64 0)] r10.2).bind fun r11 =>
 (call 12 [r1.1, (.int .i64 0), (.int .i64 1)] r11.2).bind fun r12 =>
 (call 8 [r1.1, (.int .i64 0)] r12.2).bind fun r13 =>
 (aExtract 0 r13.1).bind fun v14 =>
 (aExtract 1 r13.1).bind fun v15 =>
 (aCells 3 v14).bind fun c16 =>
 bif Nat.ble ((0) + 3) (List.length (α := AVal) [.int .i64 0, .int .i64 0, .nilSlice]) then (call 14 [r1.1, (.int .i64 1), (.int .i64 0)] r13.2).bind fun r17 =>
 (call 8 [r1.1, (.int .i64 1)] r17.2).bind fun r18 =>
 (aExtract 0 r18.1).bind fun v19 =>
 (aExtract 1 r18.1).bind fun v20 =>
 (aCells 3 v19).bind fun c21 =>
 bif Nat.ble ((0) + 3) (List.length (α := AVal) [.int .i64 0, .int .i64 0, .nilSlice]) then (aBin .eql .plain r10.1 (.int .i64 0)).bind fun v22 =>
 (guardV v22 true
 ((aBin .eql .plain r11.1 (.int .i64 0)).bind fun v23 =>
 some (0, [v23], r18.2))
 (some (0, [skipV], r18.2))).bind fun g24 =>
 (aPick v22 (g24.2.1.getD 0 .undef) (.bool false)).bind fun v25 =>
 (guardV v25 true
 ((aBin .eql .plain r12.1 (.int .i64 0)).bind fun v26 =>
 some (0, [v26], g24.2.2))
 (some (0, [skipV], g24.2.2))).bind fun g27 =>
 (aPick v25 (g27.2.1.getD 0 .undef) (.bool false)).bind fun v28 =>
 (guardV v28 true
 ((aBin .eql .plain v15 (.int .i64 26)).bind fun v29 =>
 some (0, [v29], g27.2.2))
 (some (0, [skipV], g27.2.2))).bind fun g30 =>
 (aPick v28 (g30.2.1.getD 0 .undef) (.bool false)).bind fun v31 =>
 (guardV v31 true
 ((aBin .eql .plain r17.1 (.int .i64 0)).bind fun v32 =>
 some (0, [v32], g30.2.2))
 (some (0, [skipV], g30.2.2))).bind fun g33 =>
 (aPick v31 (g33.2.1.getD 0 .undef) (.bool false)).bind fun v34 =>
 (guardV v34 true
 ((aBin .eql .plain v20 (.int .i64 0)).bind fun v35 =>
 some (0, [v35], g33.2.2))
 (some (0, [skipV], g33.2.2))).bind fun g36 =>
 (aPick v34 (g36.2.1.getD 0 .undef) (.bool false)).bind fun v37 =>
 (guardV v37 true
 ((rdL (splice [.int .i64 0, .int .i64 0, .nilSlice] (0) c21) 2 1).bind fun c38 =>
 (fromCells false c38).bind fun v39 =>
 (aConv .bytesStr v39 g36.2.2).bind fun r40 =>
 (aBin .eql .plain r40.1 (.str [120])).bind fun v41 =>
 some (0, [v41], r40.2))
 (some (0, [skipV], g36.2.2))).bind fun g42 =>
 (aPick v37 (g42.2.1.getD 0 .undef) (.bool false)).bind fun v43 =>
 (guardV v43 true
 ((call 9 [r1.1] g42.2.2).bind fun r44 =>
 (aBin .eql .plain r44.1 (.int .i64 1)).bind fun v45 =>
 some (0, [v45], r44.2))
 (some (0, [skipV], g42.2.2))).bind fun g46 =>
 (aPick v43 (g46.2.1.getD 0 .undef) (.bool false)).bind fun v47 =>
 (guardV v47 true
 ((call 12 [r1.1, (.int .i64 0), (.int .i64 0)] g46.2.2).bind fun r48 =>
 (aBin .eql .plain r48.1 (.int .i64 23)).bind fun v49 =>
 some (0, [v49], r48.2))
 (some (0, [skipV], g46.2.2))).bind fun g50 =>
 (aPick v47 (g50.2.1.getD 0 .undef) (.bool false)).bind fun v51 =>
 (guardV v51 true
 ((call 21 [r1.1, (.int .i64 9)] g50.2.2).bind fun r52 =>
 (aBin .eql .plain r52.1 (.int .i64 23)).bind fun v53 =>
 some (0, [v53], r52.2))
 (some (0, [skipV], g50.2.2))).bind fun g54 =>
 (aPick v51 (g54.2.1.getD 0 .undef) (.bool false)).bind fun v55 =>
 (guardV v55 true
 ((call 13 [r1.1, (.int .i64 0), (.int .i64 1)] g54.2.2).bind fun r56 =>
 (aUn .not r56.1).bind fun v57 =>
 some (0, [v57], r56.2))
 (some (0, [skipV], g54.2.2))).bind fun g58 =>
 (aPick v55 (g58.2.1.getD 0 .undef) (.bool false)).bind fun v59 =>
 some (0, [v59], g58.2.2) else none else none)
theorem run10 (call : Go.Fw.Call) (h : Heap) : runFn call (.code A10) [] h = (S10 call  h).bind ansOf := by kernel_rfl

/-- frankpledge/frankpledgebook.Within -/
noncomputable def A11 : AFunc := ⟨3, (.seq (.region [.op 0 (.mov 6 (.const (.int .i64 0)))] [])
 (.seq (.seq (.region [.op 0 (.mov 7 (.tmp 0)),
 .op 1 (.mov 8 (.tmp 1)),
 .op 2 (.bin 9 .geq .plain (.tmp 7) (.tmp 8)),
 .op 3 (.mov 10 (.tmp 9)),
 .guard 10 true [.op 4 (.mov 11 (.tmp 0)),
 .op 5 (.mov 12 (.tmp 2)),
 .op 6 (.bin 13 .leq .plain (.tmp 11) (.tmp 12))] [] [13],
 .op 7 (.pick 14 (.tmp 10) (.tmp 13) (.const (.bool false)))] [])
 (.cond (.tmp 14)
 (.seq (.region [.op 0 (.mov 15 (.tmp 0)),
 .op 1 (.mov 6 (.tmp 15))] [])
 .ret)
 .skip))
 (.seq (.region [.op 0 (.mov 16 (.tmp 0)),
 .op 1 (.mov 17 (.tmp 2)),
 .op 2 (.mov 18 (.tmp 1)),
 .op 3 (.bin 19 .sub .plain (.tmp 17) (.tmp 18)),
 .op 4 (.bin 20 .add .plain (.tmp 19) (.const (.int .i64 1))),
 .op 5 (.bin 21 .rem .plain (.tmp 16) (.tmp 20)),
 .op 6 (.mov 0 (.tmp 21))] [])
 (.seq (.seq (.region [.op 0 (.mov 22 (.tmp 0)),
 .op 1 (.bin 23 .lss .plain (.tmp 22) (.const (.int .i64 0)))] [])
 (.join [(.normal, ⟨[0, 1], []⟩)] (.cond (.tmp 23)
 (.region [.op 0 (.mov 24 (.tmp 0)),
 .op 1 (.mov 25 (.tmp 2)),
 .op 2 (.bin 26 .add .plain (.tmp 24) (.tmp 25)),
 .op 3 (.mov 27 (.tmp 1)),
 .op 4 (.bin 28 .sub .plain (.tmp 26) (.tmp 27)),
 .op 5 (.bin 29 .add .plain (.tmp 28) (.const (.int .i64 1))),
 .op 6 (.mov 0 (.tmp 29))] [])
 .skip)))
 (.seq (.region [.op 0 (.mov 30 (.tmp 1)),
 .op 1 (.mov 31 (.tmp 0)),
 .op 2 (.bin 32 .add .plain (.tmp 30) (.tmp 31)),
 .op 3 (.mov 6 (.tmp 32))] [])
 .ret))))),
 [.tmp 6]⟩
theorem ok11 : funcOk Try.prog (drawOk Try.prog) Try.f11 A11 = true := by kernel_rfl
noncomputable def S11 (call : Go.Fw.Call) (a0 a1 a2 : AVal) (h : Heap) : Option J :=
 (aBin .geq .plain a0 a1).bind fun v1 =>
 (guardV v1 true
 ((aBin .leq .plain a0 a2).bind fun v2 =>
 some (0, [v2], h))
 (some (0, [skipV], h))).bind fun g3 =>
 (aPick v1 (g3.2.1.getD 0 .undef) (.bool false)).bind fun v4 =>
 condV v4
 (some (0, [a0], g3.2.2))
 ((aBin .sub .plain a2 a1).bind fun v5 =>
 (aBin .add .plain v5 (.int .i64 1)).bind fun v6 =>
 (aBin .rem .plain a0 v6).bind fun v7 =>
 (aBin .lss .plain v7 (.int .i64 0)).bind fun v8 =>
 (condV v8
 ((aBin .add .plain v7 a2).bind fun v9 =>
 (aBin .sub .plain v9 a1).bind fun v10 =>
 (aBin .add .plain v10 (.int .i64 1)).bind fun v11 =>
 some (0, [v11, a1], g3.2.2))
 (some (0, [v7, a1], g3.2.2))).bind fun x12 =>
 bif Nat.beq x12.1 0 then (aBin .add .plain (x12.2.1.getD 1 .undef) (x12.2.1.getD 0 .undef)).bind fun v13 =>
 some (0, [v13], x12.2.2) else
 none)
theorem run11 (call : Go.Fw.Call) (a0 a1 a2 : AVal) (h : Heap) : runFn call (.code A11) [a0, a1, a2] h = (S11 call a0 a1 a2 h).bind ansOf := by kernel_rfl

/-- (*frankpledge/net.Net).Cut -/
noncomputable def A12 : AFunc := ⟨3, (.seq (.region [.op 0 (.mov 6 (.const (.int .i64 0)))] [])
 (.seq (.region [.op 0 (.mov 7 (.tmp 0)),
 .op 1 (.mov 8 (.tmp 1)),
 .op 2 (.mov 9 (.tmp 2)),
 .op 3 (.call 10 22 [.tmp 7, .tmp 8, .tmp 9, .const (.bool true)]),
 .op 4 (.mov 6 (.tmp 10))] [])
 .ret)),
 [.tmp 6]⟩
theorem ok12 : funcOk Try.prog (drawOk Try.prog) Try.f12 A12 = true := by kernel_rfl
noncomputable def S12 (call : Go.Fw.Call) (a0 a1 a2 : AVal) (h : Heap) : Option J :=
 (call 22 [a0, a1, a2, (.bool true)] h).bind fun r1 =>
 some (0, [r1.1], r1.2)
theorem run12 (call : Go.Fw.Call) (a0 a1 a2 : AVal) (h : Heap) : runFn call (.code A12) [a0, a1, a2] h = (S12 call a0 a1 a2 h).bind ansOf := by kernel_rfl

/-- (*frankpledge/net.Net).Parted -/
noncomputable def A13 : AFunc := ⟨3, (.seq (.region [.op 0 (.mov 6 (.const (.bool false)))] [])
 (.seq (.region [.op 0 (.mov 7 (.tmp 0)),
 .op 1 (.mov 8 (.tmp 1)),
 .op 2 (.call 9 16 [.tmp 7, .tmp 8]),
 .op 3 (.mov 10 (.tmp 9)),
 .guard 10 true [.op 4 (.mov 11 (.tmp 0)),
 .op 5 (.mov 12 (.tmp 2)),
 .op 6 (.call 13 16 [.tmp 11, .tmp 12])] [] [13],
 .op 7 (.pick 14 (.tmp 10) (.tmp 13) (.const (.bool false))),
 .op 8 (.mov 15 (.tmp 14)),
 .guard 15 true [.op 9 (.mov 16 (.tmp 0)),
 .op 10 (.mov 17 (.tmp 1)),
 .op 11 (.mov 18 (.tmp 2)),
 .op 12 (.nilchk 19 (.tmp 16)),
 .op 13 (.faddr 20 2 (.tmp 19)),
 .op 14 (.iaddr 21 (some 6) 6 (.tmp 20) (.tmp 17)),
 .op 15 (.iaddr 22 (some 6) 1 (.tmp 21) (.tmp 18)),
 .op 16 (.load 23 false 1 (.tmp 22))] [] [23],
 .op 17 (.pick 24 (.tmp 15) (.tmp 23) (.const (.bool false))),
 .op 18 (.mov 6 (.tmp 24))] [])
 .ret)),
 [.tmp 6]⟩
theorem ok13 : funcOk Try.prog (drawOk Try.prog) Try.f13 A13 = true := by kernel_rfl
noncomputable def S13 (call : Go.Fw.Call) (a0 a1 a2 : AVal) (h : Heap) : Option J :=
 (call 16 [a0, a1] h).bind fun r1 =>
 (guardV r1.1 true
 ((call 16 [a0, a2] r1.2).bind fun r2 =>
 some (0, [r2.1], r2.2))
 (some (0, [skipV], r1.2))).bind fun g3 =>
 (aPick r1.1 (g3.2.1.getD 0 .undef) (.bool false)).bind fun v4 =>
 (guardV v4 true
 ((aNilchk a0).bind fun v5 =>
 (aFaddr 2 v5).bind fun v6 =>
 (aIaddrA 6 6 v6 a1).bind fun v7 =>
 (aIaddrA 6 1 v7 a2).bind fun v8 =>
 (aLoad g3.2.2 1 v8).bind fun c9 =>
 (fromCells false c9).bind fun v10 =>
 some (0, [v10], g3.2.2))
 (some (0, [skipV], g3.2.2))).bind fun g11 =>
 (aPick v4 (g11.2.1.getD 0 .undef) (.bool false)).bind fun v12 =>
 some (0, [v12], g11.2.2)
theorem run13 (call : Go.Fw.Call) (a0 a1 a2 : AVal) (h : Heap) : runFn call (.code A13) [a0, a1, a2] h = (S13 call a0 a1 a2 h).bind ansOf := by kernel_rfl

/-- (*frankpledge/net.Net).Heal -/
noncomputable def A14 : AFunc := ⟨3, (.seq (.region [.op 0 (.mov 6 (.const (.int .i64 0)))] [])
 (.seq (.region [.op 0 (.mov 7 (.tmp 0)),
 .op 1 (.mov 8 (.tmp 1)),
 .op 2 (.mov 9 (.tmp 2)),
 .op 3 (.call 10 22 [.tmp 7, .tmp 8, .tmp 9, .const (.bool false)]),
 .op 4 (.mov 6 (.tmp 10))] [])
 .ret)),
 [.tmp 6]⟩
theorem ok14 : funcOk Try.prog (drawOk Try.prog) Try.f14 A14 = true := by kernel_rfl
noncomputable def S14 (call : Go.Fw.Call) (a0 a1 a2 : AVal) (h : Heap) : Option J :=
 (call 22 [a0, a1, a2, (.bool false)] h).bind fun r1 =>
 some (0, [r1.1], r1.2)
theorem run14 (call : Go.Fw.Call) (a0 a1 a2 : AVal) (h : Heap) : runFn call (.code A14) [a0, a1, a2] h = (S14 call a0 a1 a2 h).bind ansOf := by kernel_rfl

/-- frankpledge/frankpledgelaw8.play -/
noncomputable def A15 : AFunc := ⟨2, (.seq (.region [.op 0 (.mov 4 (.const (.bool false)))] [])
 (.seq (.region [.op 0 (.mov 13 (.tmp 0)),
 .op 1 (.call 14 6 [.tmp 13]),
 .op 2 (.mov 5 (.tmp 14))] [])
 (.seq (.seq (.region [.op 0 (.mov 15 (.tmp 0)),
 .op 1 (.bin 16 .lss .plain (.tmp 15) (.const (.int .i64 1))),
 .op 2 (.mov 17 (.tmp 16)),
 .guard 17 false [.op 3 (.mov 18 (.tmp 0)),
 .op 4 (.bin 19 .gtr .plain (.tmp 18) (.const (.int .i64 6)))] [] [19],
 .op 5 (.pick 20 (.tmp 17) (.const (.bool true)) (.tmp 19))] [])
 (.cond (.tmp 20)
 (.seq (.region [.op 0 (.mov 21 (.tmp 5)),
 .op 1 (.bin 22 .eql .ptr (.tmp 21) (.const (.nilPtr))),
 .op 2 (.mov 4 (.tmp 22))] [])
 .ret)
 .skip))
 (.seq (.region [.op 0 (.mov 23 (.tmp 0)),
 .op 1 (.build 24 [.int .i64 0, .nilSlice, .bool false, .bool false, .bool false, .bool false, .bool false, .bool false, .bool false, .bool false, .bool false, .bool false, .bool false, .bool false, .bool false, .bool false, .bool false, .bool false, .bool false, .bool false, .bool false, .bool false, .bool false, .bool false, .bool false, .bool false, .bool false, .bool false, .bool false, .bool false, .bool false, .bool false, .bool false, .bool false, .bool false, .bool false, .bool false, .bool false] [(0, 1, .tmp 23)]),
 .op 2 (.box 25 false (.tmp 24)),
 .op 3 (.mov 6 (.tmp 25))] [])
 (.seq (.seq (.region [.op 0 (.mov 7 (.const (.int .i64 0)))] [])
 (.block 0 (.loop ⟨[1, 5, 6, 7], []⟩ [((.exit 0), ⟨[], []⟩), (.ret, ⟨[4], []⟩)]
 (.seq (.seq (.region [.op 0 (.mov 26 (.tmp 7)),
 .op 1 (.mov 27 (.tmp 1)),
 .op 2 (.len 28 false (.tmp 27)),
 .op 3 (.bin 29 .lss .plain (.tmp 26) (.tmp 28)),
 .op 4 (.mov 30 (.tmp 29)),
 .guard 30 true [.op 5 (.mov 31 (.tmp 7)),
 .op 6 (.bin 32 .lss .plain (.tmp 31) (.const (.int .i64 120)))] [] [32],
 .op 7 (.pick 33 (.tmp 30) (.tmp 32) (.const (.bool false)))] [])
 (.cond (.tmp 33)
 .skip
 (.exit 0)))
 (.seq (.block 1 (.seq (.region [.op 0 (.mov 36 (.tmp 1)),
 .op 1 (.mov 37 (.tmp 7)),
 .op 2 (.iaddr 38 none 5 (.tmp 36) (.tmp 37)),
 .op 3 (.load 39 true 5 (.tmp 38)),
 .op 4 (.alloc 8 true [.int .i64 0, .int .i64 0, .int .i64 0, .int .i64 0, .nilSlice]),
 .op 5 (.store true 5 (.tmp 8) (.tmp 39))] [])
 (.seq (.seq (.region [.op 0 (.mov 40 (.tmp 5)),
 .op 1 (.bin 41 .eql .ptr (.tmp 40) (.const (.nilPtr)))] [])
 (.cond (.tmp 41)
 (.seq (.region [.op 0 (.mov 4 (.const (.bool false)))] [])
 .ret)
 .skip))
 (.seq (.region [.op 0 (.mov 9 (.const (.int .i64 0))),
 .op 1 (.mov 10 (.const (.int .i64 0)))] [])
 (.seq (.seq (.region [.op 0 (.faddr 42 0 (.tmp 8)),
 .op 1 (.load 43 false 1 (.tmp 42))] [])
 (.block 2 (.seq (.region [.op 0 (.bin 64 .eql .plain (.tmp 43) (.const (.int .i64 2))),
 .op 1 (.mov 63 (.tmp 64))] [])
 (.join [(.ret, ⟨[4], []⟩), (.normal, ⟨[1, 5, 6, 7, 9, 10], []⟩)] (.cond (.tmp 63)
 (.seq (.region [.op 0 (.alloc 11 true [.int .i64 0, .int .i64 0, .nilSlice])] [])
 (.seq (.region [.op 0 (.alloc 12 true [.int .i64 0, .int .i64 0, .str []])] [])
 (.seq (.region [.op 0 (.mov 66 (.tmp 5)),
 .op 1 (.faddr 67 3 (.tmp 8)),
 .op 2 (.load 68 false 1 (.tmp 67)),
 .op 3 (.call 69 8 [.tmp 66, .tmp 68]),
 .op 4 (.mov 65 (.tmp 69)),
 .op 5 (.extract 70 (.tmp 65) 0),
 .op 6 (.extract 71 (.tmp 65) 1),
 .op 7 (.store true 3 (.tmp 11) (.tmp 70)),
 .op 8 (.mov 9 (.tmp 71))] [])
 (.seq (.region [.op 0 (.mov 73 (.tmp 6)),
 .op 1 (.faddr 74 3 (.tmp 8)),
 .op 2 (.load 75 false 1 (.tmp 74)),
 .op 3 (.call 76 23 [.tmp 73, .tmp 75]),
 .op 4 (.mov 72 (.tmp 76)),
 .op 5 (.extract 77 (.tmp 72) 0),
 .op 6 (.extract 78 (.tmp 72) 1),
 .op 7 (.store true 3 (.tmp 12) (.tmp 77)),
 .op 8 (.mov 10 (.tmp 78))] [])
 (.seq (.region [.op 0 (.faddr 79 0 (.tmp 11)),
 .op 1 (.load 80 false 1 (.tmp 79)),
 .op 2 (.faddr 81 0 (.tmp 12)),
 .op 3 (.load 82 false 1 (.tmp 81)),
 .op 4 (.bin 83 .neq .plain (.tmp 80) (.tmp 82)),
 .op 5 (.mov 84 (.tmp 83)),
 .guard 84 false [.op 6 (.faddr 85 1 (.tmp 11)),
 .op 7 (.load 86 false 1 (.tmp 85)),
 .op 8 (.faddr 87 1 (.tmp 12)),
 .op 9 (.load 88 false 1 (.tmp 87)),
 .op 10 (.bin 89 .neq .plain (.tmp 86) (.tmp 88))] [] [89],
 .op 11 (.pick 90 (.tmp 84) (.const (.bool true)) (.tmp 89)),
 .op 12 (.mov 91 (.tmp 90)),
 .guard 91 false [.op 13 (.faddr 92 2 (.tmp 11)),
 .op 14 (.load 93 false 1 (.tmp 92)),
 .op 15 (.conv 94 .bytesStr (.tmp 93)),
 .op 16 (.faddr 95 2 (.tmp 12)),
 .op 17 (.load 96 false 1 (.tmp 95)),
 .op 18 (.bin 97 .neq .plain (.tmp 94) (.tmp 96))] [] [97],
 .op 19 (.pick 98 (.tmp 91) (.const (.bool true)) (.tmp 97))] [])
 (.cond (.tmp 98)
 (.seq (.region [.op 0 (.mov 4 (.const (.bool false)))] [])
 .ret)
 .skip))))))
 (.seq (.region [.op 0 (.bin 100 .eql .plain (.tmp 43) (.const (.int .i64 3))),
 .op 1 (.mov 99 (.tmp 100))] [])
 (.join [(.normal, ⟨[1, 5, 6, 7, 9, 10], []⟩)] (.cond (.tmp 99)
 (.region [.op 0 (.mov 101 (.tmp 5)),
 .op 1 (.faddr 102 3 (.tmp 8)),
 .op 2 (.load 103 false 1 (.tmp 102)),
 .op 3 (.call 104 21 [.tmp 101, .tmp 103]),
 .op 4 (.mov 105 (.tmp 6)),
 .op 5 (.faddr 106 3 (.tmp 8)),
 .op 6 (.load 107 false 1 (.tmp 106)),
 .op 7 (.call 108 24 [.tmp 105, .tmp 107]),
 .op 8 (.mov 9 (.tmp 104)),
 .op 9 (.mov 10 (.tmp 108))] [(6, 3)])
 (.seq (.region [.op 0 (.bin 110 .eql .plain (.tmp 43) (.const (.int .i64 4))),
 .op 1 (.mov 109 (.tmp 110))] [])
 (.join [(.normal, ⟨[1, 5, 6, 7, 9, 10], []⟩)] (.cond (.tmp 109)
 (.region [.op 0 (.mov 111 (.tmp 5)),
 .op 1 (.faddr 112 3 (.tmp 8)),
 .op 2 (.load 113 false 1 (.tmp 112)),
 .op 3 (.call 114 20 [.tmp 111, .tmp 113]),
 .op 4 (.mov 115 (.tmp 6)),
 .op 5 (.faddr 116 3 (.tmp 8)),
 .op 6 (.load 117 false 1 (.tmp 116)),
 .op 7 (.call 118 25 [.tmp 115, .tmp 117]),
 .op 8 (.mov 9 (.tmp 114)),
 .op 9 (.mov 10 (.tmp 118))] [(6, 3)])
 (.seq (.region [.op 0 (.bin 120 .eql .plain (.tmp 43) (.const (.int .i64 5))),
 .op 1 (.mov 119 (.tmp 120))] [])
 (.join [(.normal, ⟨[1, 5, 6, 7, 9, 10], []⟩)] (.cond (.tmp 119)
 (.region [.op 0 (.mov 121 (.tmp 5)),
 .op 1 (.faddr 122 1 (.tmp 8)),
 .op 2 (.load 123 false 1 (.tmp 122)),
 .op 3 (.faddr 124 2 (.tmp 8)),
 .op 4 (.load 125 false 1 (.tmp 124)),
 .op 5 (.call 126 12 [.tmp 121, .tmp 123, .tmp 125]),
 .op 6 (.mov 127 (.tmp 6)),
 .op 7 (.faddr 128 1 (.tmp 8)),
 .op 8 (.load 129 false 1 (.tmp 128)),
 .op 9 (.faddr 130 2 (.tmp 8)),
 .op 10 (.load 131 false 1 (.tmp 130)),
 .op 11 (.call 132 26 [.tmp 127, .tmp 129, .tmp 131, .const (.bool true)]),
 .op 12 (.mov 9 (.tmp 126)),
 .op 13 (.mov 10 (.tmp 132))] [(8, 5), (10, 5)])
 (.seq (.region [.op 0 (.bin 134 .eql .plain (.tmp 43) (.const (.int .i64 6))),
 .op 1 (.mov 133 (.tmp 134))] [])
 (.join [(.normal, ⟨[1, 5, 6, 7, 9, 10], []⟩)] (.cond (.tmp 133)
 (.region [.op 0 (.mov 135 (.tmp 5)),
 .op 1 (.faddr 136 1 (.tmp 8)),
 .op 2 (.load 137 false 1 (.tmp 136)),
 .op 3 (.faddr 138 2 (.tmp 8)),
 .op 4 (.load 139 false 1 (.tmp 138)),
 .op 5 (.call 140 14 [.tmp 135, .tmp 137, .tmp 139]),
 .op 6 (.mov 141 (.tmp 6)),
 .op 7 (.faddr 142 1 (.tmp 8)),
 .op 8 (.load 143 false 1 (.tmp 142)),
 .op 9 (.faddr 144 2 (.tmp 8)),
 .op 10 (.load 145 false 1 (.tmp 144)),
 .op 11 (.call 146 26 [.tmp 141, .tmp 143, .tmp 145, .const (.bool false)]),
 .op 12 (.mov 9 (.tmp 140)),
 .op 13 (.mov 10 (.tmp 146))] [(8, 5), (10, 5)])
 (.region [.op 0 (.mov 44 (.tmp 5)),
 .op 1 (.faddr 45 1 (.tmp 8)),
 .op 2 (.load 46 false 1 (.tmp 45)),
 .op 3 (.faddr 47 2 (.tmp 8)),
 .op 4 (.load 48 false 1 (.tmp 47)),
 .op 5 (.faddr 49 4 (.tmp 8)),
 .op 6 (.load 50 false 1 (.tmp 49)),
 .op 7 (.build 51 [.int .i64 0, .int .i64 0, .nilSlice] [(0, 1, .tmp 46), (1, 1, .tmp 48), (2, 1, .tmp 50)]),
 .op 8 (.call 52 7 [.tmp 44, .tmp 51]),
 .op 9 (.mov 53 (.tmp 6)),
 .op 10 (.faddr 54 1 (.tmp 8)),
 .op 11 (.load 55 false 1 (.tmp 54)),
 .op 12 (.faddr 56 2 (.tmp 8)),
 .op 13 (.load 57 false 1 (.tmp 56)),
 .op 14 (.faddr 58 4 (.tmp 8)),
 .op 15 (.load 59 false 1 (.tmp 58)),
 .op 16 (.conv 60 .bytesStr (.tmp 59)),
 .op 17 (.build 61 [.int .i64 0, .int .i64 0, .str []] [(0, 1, .tmp 55), (1, 1, .tmp 57), (2, 1, .tmp 60)]),
 .op 18 (.call 62 27 [.tmp 53, .tmp 61]),
 .op 19 (.mov 9 (.tmp 52)),
 .op 20 (.mov 10 (.tmp 62))] [(11, 8), (13, 8), (15, 8), (16, 8)]))))))))))))))))))
 (.seq (.region [.op 0 (.mov 147 (.tmp 9)),
 .op 1 (.mov 148 (.tmp 10)),
 .op 2 (.bin 149 .neq .plain (.tmp 147) (.tmp 148)),
 .op 3 (.mov 150 (.tmp 149)),
 .guard 150 false [.op 4 (.mov 151 (.tmp 5)),
 .op 5 (.mov 152 (.tmp 6)),
 .op 6 (.call 153 28 [.tmp 151, .tmp 152]),
 .op 7 (.un 154 .not (.tmp 153))] [] [154],
 .op 8 (.pick 155 (.tmp 150) (.const (.bool true)) (.tmp 154))] [])
 (.cond (.tmp 155)
 (.seq (.region [.op 0 (.mov 4 (.const (.bool false)))] [])
 .ret)
 .skip)))))))
 (.region [.op 0 (.mov 34 (.tmp 7)),
 .op 1 (.bin 35 .add .plain (.tmp 34) (.const (.int .i64 1))),
 .op 2 (.mov 7 (.tmp 35))] []))))))
 (.seq (.region [.op 0 (.mov 4 (.const (.bool true)))] [])
 .ret)))))),
 [.tmp 4]⟩
theorem ok15 : funcOk Try.prog (drawOk Try.prog) Try.f15 A15 = true := by kernel_rfl
/-- xs: t1, t5, t6, t7 -/
noncomputable def L15_0 (call : Go.Fw.Call) (xs : List AVal) (h : Heap) : Option J :=
 (aLen false (xs.getD 0 .undef)).bind fun v10 =>
 (aBin .lss .plain (xs.getD 3 .undef) v10).bind fun v11 =>
 (guardV v11 true
 ((aBin .lss .plain (xs.getD 3 .undef) (.int .i64 120)).bind fun v12 =>
 some (0, [v12], h))
 (some (0, [skipV], h))).bind fun g13 =>
 (aPick v11 (g13.2.1.getD 0 .undef) (.bool false)).bind fun v14 =>
 condV v14
 ((aIaddr 5 (xs.getD 0 .undef) (xs.getD 3 .undef)).bind fun v15 =>
 (aLoad g13.2.2 5 v15).bind fun c16 =>
 (fromCells true c16).bind fun v17 =>
 (aCells 5 v17).bind fun c18 =>
 bif Nat.ble ((0) + 5) (List.length (α := AVal) [.int .i64 0, .int .i64 0, .int .i64 0, .int .i64 0, .nilSlice]) then (aBin .eql .ptr (xs.getD 1 .undef) (.nilPtr)).bind fun v19 =>
 condV v19
 (some (2, [(.bool false)], g13.2.2))
 ((rdL (splice [.int .i64 0, .int .i64 0, .int .i64 0, .int .i64 0, .nilSlice] (0) c18) 0 1).bind fun c20 =>
 (fromCells false c20).bind fun v21 =>
 (aBin .eql .plain v21 (.int .i64 2)).bind fun v22 =>
 (condV v22
 ((rdL (splice [.int .i64 0, .int .i64 0, .int .i64 0, .int .i64 0, .nilSlice] (0) c18) 3 1).bind fun c23 =>
 (fromCells false c23).bind fun v24 =>
 (call 8 [(xs.getD 1 .undef), v24] g13.2.2).bind fun r25 =>
 (aExtract 0 r25.1).bind fun v26 =>
 (aExtract 1 r25.1).bind fun v27 =>
 (aCells 3 v26).bind fun c28 =>
 bif Nat.ble ((0) + 3) (List.length (α := AVal) [.int .i64 0, .int .i64 0, .nilSlice]) then (rdL (splice [.int .i64 0, .int .i64 0, .int .i64 0, .int .i64 0, .nilSlice] (0) c18) 3 1).bind fun c29 =>
 (fromCells false c29).bind fun v30 =>
 (call 23 [(xs.getD 2 .undef), v30] r25.2).bind fun r31 =>
 (aExtract 0 r31.1).bind fun v32 =>
 (aExtract 1 r31.1).bind fun v33 =>
 (aCells 3 v32).bind fun c34 =>
 bif Nat.ble ((0) + 3) (List.length (α := AVal) [.int .i64 0, .int .i64 0, .str []]) then (rdL (splice [.int .i64 0, .int .i64 0, .nilSlice] (0) c28) 0 1).bind fun c35 =>
 (fromCells false c35).bind fun v36 =>
 (rdL (splice [.int .i64 0, .int .i64 0, .str []] (0) c34) 0 1).bind fun c37 =>
 (fromCells false c37).bind fun v38 =>
 (aBin .neq .plain v36 v38).bind fun v39 =>
 (guardV v39 false
 ((rdL (splice [.int .i64 0, .int .i64 0, .nilSlice] (0) c28) 1 1).bind fun c40 =>
 (fromCells false c40).bind fun v41 =>
 (rdL (splice [.int .i64 0, .int .i64 0, .str []] (0) c34) 1 1).bind fun c42 =>
 (fromCells false c42).bind fun v43 =>
 (aBin .neq .plain v41 v43).bind fun v44 =>
 some (0, [v44], r31.2))
 (some (0, [skipV], r31.2))).bind fun g45 =>
 (aPick v39 (.bool true) (g45.2.1.getD 0 .undef)).bind fun v46 =>
 (guardV v46 false
 ((rdL (splice [.int .i64 0, .int .i64 0, .nilSlice] (0) c28) 2 1).bind fun c47 =>
 (fromCells false c47).bind fun v48 =>
 (aConv .bytesStr v48 g45.2.2).bind fun r49 =>
 (rdL (splice [.int .i64 0, .int .i64 0, .str []] (0) c34) 2 1).bind fun c50 =>
 (fromCells false c50).bind fun v51 =>
 (aBin .neq .plain r49.1 v51).bind fun v52 =>
 some (0, [v52], r49.2))
 (some (0, [skipV], g45.2.2))).bind fun g53 =>
 (aPick v46 (.bool true) (g53.2.1.getD 0 .undef)).bind fun v54 =>
 condV v54
 (some (0, [(.bool false)], g53.2.2))
 (some (1, [(xs.getD 0 .undef), (xs.getD 1 .undef), (xs.getD 2 .undef), (xs.getD 3 .undef), v27, v33], g53.2.2)) else none else none)
 ((aBin .eql .plain v21 (.int .i64 3)).bind fun v55 =>
 (condV v55
 ((rdL (splice [.int .i64 0, .int .i64 0, .int .i64 0, .int .i64 0, .nilSlice] (0) c18) 3 1).bind fun c56 =>
 (fromCells false c56).bind fun v57 =>
 (call 21 [(xs.getD 1 .undef), v57] g13.2.2).bind fun r58 =>
 (rdL (splice [.int .i64 0, .int .i64 0, .int .i64 0, .int .i64 0, .nilSlice] (0) c18) 3 1).bind fun c59 =>
 (fromCells false c59).bind fun v60 =>
 (call 24 [(xs.getD 2 .undef), v60] r58.2).bind fun r61 =>
 bif checkPairs [(6, some (.lrd 8 (3) 1)), (3, some (.ef [(8, (splice [.int .i64 0, .int .i64 0, .int .i64 0, .int .i64 0, .nilSlice] (0) c18))] g13.2.2 [(8, (splice [.int .i64 0, .int .i64 0, .int .i64 0, .int .i64 0, .nilSlice] (0) c18))] r58.2))] [(6, 3)] then some (0, [(xs.getD 0 .undef), (xs.getD 1 .undef), (xs.getD 2 .undef), (xs.getD 3 .undef), r58.1, r61.1], r61.2) else none)
 ((aBin .eql .plain v21 (.int .i64 4)).bind fun v62 =>
 (condV v62
 ((rdL (splice [.int .i64 0, .int .i64 0, .int .i64 0, .int .i64 0, .nilSlice] (0) c18) 3 1).bind fun c63 =>
 (fromCells false c63).bind fun v64 =>
 (call 20 [(xs.getD 1 .undef), v64] g13.2.2).bind fun r65 =>
 (rdL (splice [.int .i64 0, .int .i64 0, .int .i64 0, .int .i64 0, .nilSlice] (0) c18) 3 1).bind fun c66 =>
 (fromCells false c66).bind fun v67 =>
 (call 25 [(xs.getD 2 .undef), v67] r65.2).bind fun r68 =>
 bif checkPairs [(6, some (.lrd 8 (3) 1)), (3, some (.ef [(8, (splice [.int .i64 0, .int .i64 0, .int .i64 0, .int .i64 0, .nilSlice] (0) c18))] g13.2.2 [(8, (splice [.int .i64 0, .int .i64 0, .int .i64 0, .int .i64 0, .nilSlice] (0) c18))] r65.2))] [(6, 3)] then some (0, [(xs.getD 0 .undef), (xs.getD 1 .undef), (xs.getD 2 .undef), (xs.getD 3 .undef), r65.1, r68.1], r68.2) else none)
 ((aBin .eql .plain v21 (.int .i64 5)).bind fun v69 =>
 (condV v69
 ((rdL (splice [.int .i64 0, .int .i64 0, .int .i64 0, .int .i64 0, .nilSlice] (0) c18) 1 1).bind fun c70 =>
 (fromCells false c70).bind fun v71 =>
 (rdL (splice [.int .i64 0, .int .i64 0, .int .i64 0, .int .i64 0, .nilSlice] (0) c18) 2 1).bind fun c72 =>
 (fromCells false c72).bind fun v73 =>
 (call 12 [(xs.getD 1 .undef), v71, v73] g13.2.2).bind fun r74 =>
 (rdL (splice [.int .i64 0, .int .i64 0, .int .i64 0, .int .i64 0, .nilSlice] (0) c18) 1 1).bind fun c75 =>
 (fromCells false c75).bind fun v76 =>
 (rdL (splice [.int .i64 0, .int .i64 0, .int .i64 0, .int .i64 0, .nilSlice] (0) c18) 2 1).bind fun c77 =>
 (fromCells false c77).bind fun v78 =>
 (call 26 [(xs.getD 2 .undef), v76, v78, (.bool true)] r74.2).bind fun r79 =>
 bif checkPairs [(10, some (.lrd 8 (2) 1)), (8, some (.lrd 8 (1) 1)), (5, some (.ef [(8, (splice [.int .i64 0, .int .i64 0, .int .i64 0, .int .i64 0, .nilSlice] (0) c18))] g13.2.2 [(8, (splice [.int .i64 0, .int .i64 0, .int .i64 0, .int .i64 0, .nilSlice] (0) c18))] r74.2))] [(8, 5), (10, 5)] then some (0, [(xs.getD 0 .undef), (xs.getD 1 .undef), (xs.getD 2 .undef), (xs.getD 3 .undef), r74.1, r79.1], r79.2) else none)
 ((aBin .eql .plain v21 (.int .i64 6)).bind fun v80 =>
 (condV v80
 ((rdL (splice [.int .i64 0, .int .i64 0, .int .i64 0, .int .i64 0, .nilSlice] (0) c18) 1 1).bind fun c81 =>
 (fromCells false c81).bind fun v82 =>
 (rdL (splice [.int .i64 0, .int .i64 0, .int .i64 0, .int .i64 0, .nilSlice] (0) c18) 2 1).bind fun c83 =>
 (fromCells false c83).bind fun v84 =>
 (call 14 [(xs.getD 1 .undef), v82, v84] g13.2.2).bind fun r85 =>
 (rdL (splice [.int .i64 0, .int .i64 0, .int .i64 0, .int .i64 0, .nilSlice] (0) c18) 1 1).bind fun c86 =>
 (fromCells false c86).bind fun v87 =>
 (rdL (splice [.int .i64 0, .int .i64 0, .int .i64 0, .int .i64 0, .nilSlice] (0) c18) 2 1).bind fun c88 =>
 (fromCells false c88).bind fun v89 =>
 (call 26 [(xs.getD 2 .undef), v87, v89, (.bool false)] r85.2).bind fun r90 =>
 bif checkPairs [(10, some (.lrd 8 (2) 1)), (8, some (.lrd 8 (1) 1)), (5, some (.ef [(8, (splice [.int .i64 0, .int .i64 0, .int .i64 0, .int .i64 0, .nilSlice] (0) c18))] g13.2.2 [(8, (splice [.int .i64 0, .int .i64 0, .int .i64 0, .int .i64 0, .nilSlice] (0) c18))] r85.2))] [(8, 5), (10, 5)] then some (0, [(xs.getD 0 .undef), (xs.getD 1 .undef), (xs.getD 2 .undef), (xs.getD 3 .undef), r85.1, r90.1], r90.2) else none)
 ((rdL (splice [.int .i64 0, .int .i64 0, .int .i64 0, .int .i64 0, .nilSlice] (0) c18) 1 1).bind fun c91 =>
 (fromCells false c91).bind fun v92 =>
 (rdL (splice [.int .i64 0, .int .i64 0, .int .i64 0, .int .i64 0, .nilSlice] (0) c18) 2 1).bind fun c93 =>
 (fromCells false c93).bind fun v94 =>
 (rdL (splice [.int .i64 0, .int .i64 0, .int .i64 0, .int .i64 0, .nilSlice] (0) c18) 4 1).bind fun c95 =>
 (fromCells false c95).bind fun v96 =>
 (aFill [.int .i64 0, .int .i64 0, .nilSlice] [(0, 1, v92), (1, 1, v94), (2, 1, v96)]).bind fun c97 =>
 (call 7 [(xs.getD 1 .undef), (.agg c97)] g13.2.2).bind fun r98 =>
 (rdL (splice [.int .i64 0, .int .i64 0, .int .i64 0, .int .i64 0, .nilSlice] (0) c18) 1 1).bind fun c99 =>
 (fromCells false c99).bind fun v100 =>
 (rdL (splice [.int .i64 0, .int .i64 0, .int .i64 0, .int .i64 0, .nilSlice] (0) c18) 2 1).bind fun c101 =>
 (fromCells false c101).bind fun v102 =>
 (rdL (splice [.int .i64 0, .int .i64 0, .int .i64 0, .int .i64 0, .nilSlice] (0) c18) 4 1).bind fun c103 =>
 (fromCells false c103).bind fun v104 =>
 (aConv .bytesStr v104 r98.2).bind fun r105 =>
 (aFill [.int .i64 0, .int .i64 0, .str []] [(0, 1, v100), (1, 1, v102), (2, 1, r105.1)]).bind fun c106 =>
 (call 27 [(xs.getD 2 .undef), (.agg c106)] r105.2).bind fun r107 =>
 bif checkPairs [(16, logBs v104), (15, some (.lrd 8 (4) 1)), (13, some (.lrd 8 (2) 1)), (11, some (.lrd 8 (1) 1)), (8, some (.ef [(8, (splice [.int .i64 0, .int .i64 0, .int .i64 0, .int .i64 0, .nilSlice] (0) c18))] g13.2.2 [(8, (splice [.int .i64 0, .int .i64 0, .int .i64 0, .int .i64 0, .nilSlice] (0) c18))] r98.2))] [(11, 8), (13, 8), (15, 8), (16, 8)] then some (0, [(xs.getD 0 .undef), (xs.getD 1 .undef), (xs.getD 2 .undef), (xs.getD 3 .undef), r98.1, r107.1], r107.2) else none)).bind fun x108 =>
 bif Nat.beq x108.1 0 then some (0, [(x108.2.1.getD 0 .undef), (x108.2.1.getD 1 .undef), (x108.2.1.getD 2 .undef), (x108.2.1.getD 3 .undef), (x108.2.1.getD 4 .undef), (x108.2.1.getD 5 .undef)], x108.2.2) else
 none)).bind fun x109 =>
 bif Nat.beq x109.1 0 then some (0, [(x109.2.1.getD 0 .undef), (x109.2.1.getD 1 .undef), (x109.2.1.getD 2 .undef), (x109.2.1.getD 3 .undef), (x109.2.1.getD 4 .undef), (x109.2.1.getD 5 .undef)], x109.2.2) else
 none)).bind fun x110 =>
 bif Nat.beq x110.1 0 then some (0, [(x110.2.1.getD 0 .undef), (x110.2.1.getD 1 .undef), (x110.2.1.getD 2 .undef), (x110.2.1.getD 3 .undef), (x110.2.1.getD 4 .undef), (x110.2.1.getD 5 .undef)], x110.2.2) else
 none)).bind fun x111 =>
 bif Nat.beq x111.1 0 then some (1, [(x111.2.1.getD 0 .undef), (x111.2.1.getD 1 .undef), (x111.2.1.getD 2 .undef), (x111.2.1.getD 3 .undef), (x111.2.1.getD 4 .undef), (x111.2.1.getD 5 .undef)], x111.2.2) else
 none)).bind fun x112 =>
 bif Nat.beq x112.1 0 then some (2, [(x112.2.1.getD 0 .undef)], x112.2.2) else
 bif Nat.beq x112.1 1 then (aBin .neq .plain (x112.2.1.getD 4 .undef) (x112.2.1.getD 5 .undef)).bind fun v113 =>
 (guardV v113 false
 ((call 28 [(x112.2.1.getD 1 .undef), (x112.2.1.getD 2 .undef)] x112.2.2).bind fun r114 =>
 (aUn .not r114.1).bind fun v115 =>
 some (0, [v115], r114.2))
 (some (0, [skipV], x112.2.2))).bind fun g116 =>
 (aPick v113 (.bool true) (g116.2.1.getD 0 .undef)).bind fun v117 =>
 condV v117
 (some (2, [(.bool false)], g116.2.2))
 ((aBin .add .plain (x112.2.1.getD 3 .undef) (.int .i64 1)).bind fun v118 =>
 some (0, [(x112.2.1.getD 0 .undef), (x112.2.1.getD 1 .undef), (x112.2.1.getD 2 .undef), v118], g116.2.2)) else
 none) else none)
 (some (1, [], g13.2.2))
noncomputable def S15 (call : Go.Fw.Call) (a0 a1 : AVal) (h : Heap) : Option J :=
 (call 6 [a0] h).bind fun r1 =>
 (aBin .lss .plain a0 (.int .i64 1)).bind fun v2 =>
 (guardV v2 false
 ((aBin .gtr .plain a0 (.int .i64 6)).bind fun v3 =>
 some (0, [v3], r1.2))
 (some (0, [skipV], r1.2))).bind fun g4 =>
 (aPick v2 (.bool true) (g4.2.1.getD 0 .undef)).bind fun v5 =>
 condV v5
 ((aBin .eql .ptr r1.1 (.nilPtr)).bind fun v6 =>
 some (0, [v6], g4.2.2))
 ((aFill [.int .i64 0, .nilSlice, .bool false, .bool false, .bool false, .bool false, .bool false, .bool false, .bool false, .bool false, .bool false, .bool false, .bool false, .bool false, .bool false, .bool false, .bool false, .bool false, .bool false, .bool false, .bool false, .bool false, .bool false, .bool false, .bool false, .bool false, .bool false, .bool false, .bool false, .bool false, .bool false, .bool false, .bool false, .bool false, .bool false, .bool false, .bool false, .bool false] [(0, 1, a0)]).bind fun c7 =>
 (AVal.cells? (.agg c7)).bind fun c8 =>
 (loop (L15_0 call) [a1, r1.1, (.ptr g4.2.2.next 0), (.int .i64 0)] (g4.2.2.alloc c8)).bind fun x119 =>
 bif Nat.beq x119.1 1 then some (0, [(.bool true)], x119.2.2) else
 bif Nat.beq x119.1 2 then some (0, [(x119.2.1.getD 0 .undef)], x119.2.2) else
 none)
theorem run15 (call : Go.Fw.Call) (a0 a1 : AVal) (h : Heap) : runFn call (.code A15) [a0, a1] h = (S15 call a0 a1 h).bind ansOf := by kernel_rfl

/-- (*frankpledge/net.Net).node -/
noncomputable def A16 : AFunc := ⟨2, (.seq (.region [.op 0 (.mov 4 (.const (.bool false)))] [])
 (.seq (.region [.op 0 (.mov 5 (.tmp 1)),
 .op 1 (.bin 6 .geq .plain (.tmp 5) (.const (.int .i64 0))),
 .op 2 (.mov 7 (.tmp 6)),
 .guard 7 true [.op 3 (.mov 8 (.tmp 1)),
 .op 4 (.mov 9 (.tmp 0)),
 .op 5 (.nilchk 10 (.tmp 9)),
 .op 6 (.faddr 11 0 (.tmp 10)),
 .op 7 (.load 12 false 1 (.tmp 11)),
 .op 8 (.bin 13 .lss .plain (.tmp 8) (.tmp 12))] [] [13],
 .op 9 (.pick 14 (.tmp 7) (.tmp 13) (.const (.bool false))),
 .op 10 (.mov 4 (.tmp 14))] [])
 .ret)),
 [.tmp 4]⟩
theorem ok16 : funcOk Try.prog (drawOk Try.prog) Try.f16 A16 = true := by kernel_rfl
noncomputable def S16 (call : Go.Fw.Call) (a0 a1 : AVal) (h : Heap) : Option J :=
 (aBin .geq .plain a1 (.int .i64 0)).bind fun v1 =>
 (guardV v1 true
 ((aNilchk a0).bind fun v2 =>
 (aFaddr 0 v2).bind fun v3 =>
 (aLoad h 1 v3).bind fun c4 =>
 (fromCells false c4).bind fun v5 =>
 (aBin .lss .plain a1 v5).bind fun v6 =>
 some (0, [v6], h))
 (some (0, [skipV], h))).bind fun g7 =>
 (aPick v1 (g7.2.1.getD 0 .undef) (.bool false)).bind fun v8 =>
 some (0, [v8], g7.2.2)
theorem run16 (call : Go.Fw.Call) (a0 a1 : AVal) (h : Heap) : runFn call (.code A16) [a0, a1] h = (S16 call a0 a1 h).bind ansOf := by kernel_rfl

/-- frankpledge/net.own -/
noncomputable def A17 : AFunc := ⟨1, (.seq (.region [.op 0 (.box 1 true (.tmp 0)),
 .op 1 (.alloc 2 true [.int .i64 0, .int .i64 0, .nilSlice])] [])
 (.seq (.region [.op 0 (.faddr 3 2 (.tmp 1)),
 .op 1 (.load 4 false 1 (.tmp 3)),
 .op 2 (.call 5 29 [.tmp 4]),
 .op 3 (.faddr 6 2 (.tmp 1)),
 .op 4 (.store false 1 (.tmp 6) (.tmp 5))] [])
 (.seq (.region [.op 0 (.load 7 true 3 (.tmp 1)),
 .op 1 (.store true 3 (.tmp 2) (.tmp 7))] [])
 .ret))),
 [.cell 2 true 3]⟩
theorem ok17 : funcOk Try.prog (drawOk Try.prog) Try.f17 A17 = true := by kernel_rfl
noncomputable def S17 (call : Go.Fw.Call) (a0 : AVal) (h : Heap) : Option J :=
 (AVal.cells? a0).bind fun c1 =>
 (rdL c1 2 1).bind fun c2 =>
 (fromCells false c2).bind fun v3 =>
 (call 29 [v3] h).bind fun r4 =>
 (aCells 1 r4.1).bind fun c5 =>
 bif Nat.ble ((2) + 1) (List.length (α := AVal) c1) then (rdL (splice c1 (2) c5) 0 3).bind fun c6 =>
 (fromCells true c6).bind fun v7 =>
 (aCells 3 v7).bind fun c8 =>
 bif Nat.ble ((0) + 3) (List.length (α := AVal) [.int .i64 0, .int .i64 0, .nilSlice]) then (((rdL (splice [.int .i64 0, .int .i64 0, .nilSlice] (0) c8) (0) 3).bind fun cs => fromCells true cs).bind fun v => (some []).bind fun vs => some (v :: vs)).bind fun vs => some (0, [oneOr vs], r4.2) else none else none
theorem run17 (call : Go.Fw.Call) (a0 : AVal) (h : Heap) : runFn call (.code A17) [a0] h = (S17 call a0 h).bind ansOf := by kernel_rfl

/-- (*frankpledge/net.Net).there -/
noncomputable def A18 : AFunc := ⟨2, (.seq (.region [.op 0 (.mov 4 (.const (.bool false)))] [])
 (.seq (.region [.op 0 (.mov 5 (.tmp 1)),
 .op 1 (.bin 6 .geq .plain (.tmp 5) (.const (.int .i64 0))),
 .op 2 (.mov 7 (.tmp 6)),
 .guard 7 true [.op 3 (.mov 8 (.tmp 1)),
 .op 4 (.mov 9 (.tmp 0)),
 .op 5 (.nilchk 10 (.tmp 9)),
 .op 6 (.faddr 11 1 (.tmp 10)),
 .op 7 (.load 12 false 1 (.tmp 11)),
 .op 8 (.len 13 false (.tmp 12)),
 .op 9 (.bin 14 .lss .plain (.tmp 8) (.tmp 13))] [] [14],
 .op 10 (.pick 15 (.tmp 7) (.tmp 14) (.const (.bool false))),
 .op 11 (.mov 4 (.tmp 15))] [])
 .ret)),
 [.tmp 4]⟩
theorem ok18 : funcOk Try.prog (drawOk Try.prog) Try.f18 A18 = true := by kernel_rfl
noncomputable def S18 (call : Go.Fw.Call) (a0 a1 : AVal) (h : Heap) : Option J :=
 (aBin .geq .plain a1 (.int .i64 0)).bind fun v1 =>
 (guardV v1 true
 ((aNilchk a0).bind fun v2 =>
 (aFaddr 1 v2).bind fun v3 =>
 (aLoad h 1 v3).bind fun c4 =>
 (fromCells false c4).bind fun v5 =>
 (aLen false v5).bind fun v6 =>
 (aBin .lss .plain a1 v6).bind fun v7 =>
 some (0, [v7], h))
 (some (0, [skipV], h))).bind fun g8 =>
 (aPick v1 (g8.2.1.getD 0 .undef) (.bool false)).bind fun v9 =>
 some (0, [v9], g8.2.2)
theorem run18 (call : Go.Fw.Call) (a0 a1 : AVal) (h : Heap) : runFn call (.code A18) [a0, a1] h = (S18 call a0 a1 h).bind ansOf := by kernel_rfl

/-- slices.Delete[[]frankpledge/net.Letter,frankpledge/net.Letter] -/
noncomputable def A19 : AFunc := ⟨3, (.seq (.region [.op 0 (.mov 6 (.const (.nilSlice)))] [])
 (.seq (.region [.op 0 (.mov 8 (.tmp 0)),
 .op 1 (.mov 9 (.tmp 1)),
 .op 2 (.mov 10 (.tmp 2)),
 .op 3 (.mov 11 (.tmp 0)),
 .op 4 (.len 12 false (.tmp 11)),
 .op 5 (.slice 13 (.sl 3) (.tmp 8) (some (.tmp 9)) (some (.tmp 10)) (some (.tmp 12)))] [])
 (.seq (.seq (.region [.op 0 (.mov 14 (.tmp 1)),
 .op 1 (.mov 15 (.tmp 2)),
 .op 2 (.bin 16 .eql .plain (.tmp 14) (.tmp 15))] [])
 (.cond (.tmp 16)
 (.seq (.region [.op 0 (.mov 17 (.tmp 0)),
 .op 1 (.mov 6 (.tmp 17))] [])
 .ret)
 .skip))
 (.seq (.region [.op 0 (.mov 18 (.tmp 0)),
 .op 1 (.len 19 false (.tmp 18)),
 .op 2 (.mov 7 (.tmp 19))] [])
 (.seq (.region [.op 0 (.mov 20 (.tmp 0)),
 .op 1 (.mov 21 (.tmp 1)),
 .op 2 (.slice 22 (.sl 3) (.tmp 20) none (some (.tmp 21)) none),
 .op 3 (.mov 23 (.tmp 0)),
 .op 4 (.mov 24 (.tmp 2)),
 .op 5 (.slice 25 (.sl 3) (.tmp 23) (some (.tmp 24)) none none),
 .op 6 (.append 26 3 40 [.int .i64 0, .int .i64 0, .nilSlice] false (.tmp 22) (.tmp 25)),
 .op 7 (.mov 0 (.tmp 26))] [])
 (.seq (.region [.op 0 (.mov 27 (.tmp 0)),
 .op 1 (.mov 28 (.tmp 0)),
 .op 2 (.len 29 false (.tmp 28)),
 .op 3 (.mov 30 (.tmp 7)),
 .op 4 (.slice 31 (.sl 3) (.tmp 27) (some (.tmp 29)) (some (.tmp 30)) none),
 .op 5 (.clear 0 [.int .i64 0, .int .i64 0, .nilSlice] (.tmp 31))] [])
 (.seq (.region [.op 0 (.mov 32 (.tmp 0)),
 .op 1 (.mov 6 (.tmp 32))] [])
 .ret))))))),
 [.tmp 6]⟩
theorem ok19 : funcOk Try.prog (drawOk Try.prog) Try.f19 A19 = true := by kernel_rfl
noncomputable def S19 (call : Go.Fw.Call) (a0 a1 a2 : AVal) (h : Heap) : Option J :=
 (aLen false a0).bind fun v1 =>
 (aSliceSl 3 a0 (some a1) (some a2) (some v1)).bind fun v2 =>
 (aBin .eql .plain a1 a2).bind fun v3 =>
 condV v3
 (some (0, [a0], h))
 ((aLen false a0).bind fun v4 =>
 (aSliceSl 3 a0 none (some a1) none).bind fun v5 =>
 (aSliceSl 3 a0 (some a2) none none).bind fun v6 =>
 (aAppend 3 40 [.int .i64 0, .int .i64 0, .nilSlice] false v5 v6 h).bind fun r7 =>
 (aLen false r7.1).bind fun v8 =>
 (aSliceSl 3 r7.1 (some v8) (some v4) none).bind fun v9 =>
 (aClear [.int .i64 0, .int .i64 0, .nilSlice] v9 r7.2).bind fun r10 =>
 some (0, [r7.1], r10.2))
theorem run19 (call : Go.Fw.Call) (a0 a1 a2 : AVal) (h : Heap) : runFn call (.code A19) [a0, a1, a2] h = (S19 call a0 a1 a2 h).bind ansOf := by kernel_rfl

/-- (*frankpledge/net.Net).Twice -/
noncomputable def A20 : AFunc := ⟨2, (.seq (.region [.op 0 (.mov 4 (.const (.int .i64 0)))] [])
 (.seq (.seq (.region [.op 0 (.mov 5 (.tmp 0)),
 .op 1 (.mov 6 (.tmp 1)),
 .op 2 (.call 7 18 [.tmp 5, .tmp 6]),
 .op 3 (.un 8 .not (.tmp 7))] [])
 (.cond (.tmp 8)
 (.seq (.region [.op 0 (.mov 4 (.const (.int .i64 23)))] [])
 .ret)
 .skip))
 (.seq (.region [.op 0 (.mov 9 (.tmp 0)),
 .op 1 (.mov 10 (.tmp 0)),
 .op 2 (.nilchk 11 (.tmp 10)),
 .op 3 (.faddr 12 1 (.tmp 11)),
 .op 4 (.load 13 false 1 (.tmp 12)),
 .op 5 (.mov 14 (.tmp 1)),
 .op 6 (.iaddr 15 none 3 (.tmp 13) (.tmp 14)),
 .op 7 (.load 16 true 3 (.tmp 15)),
 .op 8 (.call 17 7 [.tmp 9, .tmp 16]),
 .op 9 (.mov 4 (.tmp 17))] [])
 .ret))),
 [.tmp 4]⟩
theorem ok20 : funcOk Try.prog (drawOk Try.prog) Try.f20 A20 = true := by kernel_rfl
noncomputable def S20 (call : Go.Fw.Call) (a0 a1 : AVal) (h : Heap) : Option J :=
 (call 18 [a0, a1] h).bind fun r1 =>
 (aUn .not r1.1).bind fun v2 =>
 condV v2
 (some (0, [(.int .i64 23)], r1.2))
 ((aNilchk a0).bind fun v3 =>
 (aFaddr 1 v3).bind fun v4 =>
 (aLoad r1.2 1 v4).bind fun c5 =>
 (fromCells false c5).bind fun v6 =>
 (aIaddr 3 v6 a1).bind fun v7 =>
 (aLoad r1.2 3 v7).bind fun c8 =>
 (fromCells true c8).bind fun v9 =>
 (call 7 [a0, v9] r1.2).bind fun r10 =>
 some (0, [r10.1], r10.2))
theorem run20 (call : Go.Fw.Call) (a0 a1 : AVal) (h : Heap) : runFn call (.code A20) [a0, a1] h = (S20 call a0 a1 h).bind ansOf := by kernel_rfl

/-- (*frankpledge/net.Net).Drop -/
noncomputable def A21 : AFunc := ⟨2, (.seq (.region [.op 0 (.mov 4 (.const (.int .i64 0)))] [])
 (.seq (.seq (.region [.op 0 (.mov 5 (.tmp 0)),
 .op 1 (.mov 6 (.tmp 1)),
 .op 2 (.call 7 18 [.tmp 5, .tmp 6]),
 .op 3 (.un 8 .not (.tmp 7))] [])
 (.cond (.tmp 8)
 (.seq (.region [.op 0 (.mov 4 (.const (.int .i64 23)))] [])
 .ret)
 .skip))
 (.seq (.region [.op 0 (.mov 9 (.tmp 0)),
 .op 1 (.mov 10 (.tmp 0)),
 .op 2 (.nilchk 11 (.tmp 10)),
 .op 3 (.faddr 12 1 (.tmp 11)),
 .op 4 (.load 13 false 1 (.tmp 12)),
 .op 5 (.mov 14 (.tmp 1)),
 .op 6 (.mov 15 (.tmp 1)),
 .op 7 (.bin 16 .add .plain (.tmp 15) (.const (.int .i64 1))),
 .op 8 (.call 17 19 [.tmp 13, .tmp 14, .tmp 16]),
 .op 9 (.nilchk 18 (.tmp 9)),
 .op 10 (.faddr 19 1 (.tmp 18)),
 .op 11 (.store false 1 (.tmp 19) (.tmp 17))] [])
 (.seq (.region [.op 0 (.mov 4 (.const (.int .i64 0)))] [])
 .ret)))),
 [.tmp 4]⟩
theorem ok21 : funcOk Try.prog (drawOk Try.prog) Try.f21 A21 = true := by kernel_rfl
noncomputable def S21 (call : Go.Fw.Call) (a0 a1 : AVal) (h : Heap) : Option J :=
 (call 18 [a0, a1] h).bind fun r1 =>
 (aUn .not r1.1).bind fun v2 =>
 condV v2
 (some (0, [(.int .i64 23)], r1.2))
 ((aNilchk a0).bind fun v3 =>
 (aFaddr 1 v3).bind fun v4 =>
 (aLoad r1.2 1 v4).bind fun c5 =>
 (fromCells false c5).bind fun v6 =>
 (aBin .add .plain a1 (.int .i64 1)).bind fun v7 =>
 (call 19 [v6, a1, v7] r1.2).bind fun r8 =>
 (aNilchk a0).bind fun v9 =>
 (aFaddr 1 v9).bind fun v10 =>
 (aCells 1 r8.1).bind fun c11 =>
 (aStore r8.2 v10 c11).bind fun h12 =>
 some (0, [(.int .i64 0)], h12))
theorem run21 (call : Go.Fw.Call) (a0 a1 : AVal) (h : Heap) : runFn call (.code A21) [a0, a1] h = (S21 call a0 a1 h).bind ansOf := by kernel_rfl

/-- (*frankpledge/net.Net).set -/
noncomputable def A22 : AFunc := ⟨4, (.seq (.region [.op 0 (.mov 8 (.const (.int .i64 0)))] [])
 (.seq (.seq (.region [.op 0 (.mov 9 (.tmp 0)),
 .op 1 (.mov 10 (.tmp 1)),
 .op 2 (.call 11 16 [.tmp 9, .tmp 10]),
 .op 3 (.un 12 .not (.tmp 11)),
 .op 4 (.mov 13 (.tmp 12)),
 .guard 13 false [.op 5 (.mov 14 (.tmp 0)),
 .op 6 (.mov 15 (.tmp 2)),
 .op 7 (.call 16 16 [.tmp 14, .tmp 15]),
 .op 8 (.un 17 .not (.tmp 16))] [] [17],
 .op 9 (.pick 18 (.tmp 13) (.const (.bool true)) (.tmp 17)),
 .op 10 (.mov 19 (.tmp 18)),
 .guard 19 false [.op 11 (.mov 20 (.tmp 1)),
 .op 12 (.mov 21 (.tmp 2)),
 .op 13 (.bin 22 .eql .plain (.tmp 20) (.tmp 21))] [] [22],
 .op 14 (.pick 23 (.tmp 19) (.const (.bool true)) (.tmp 22))] [])
 (.cond (.tmp 23)
 (.seq (.region [.op 0 (.mov 8 (.const (.int .i64 23)))] [])
 .ret)
 .skip))
 (.seq (.region [.op 0 (.mov 24 (.tmp 0)),
 .op 1 (.mov 25 (.tmp 1)),
 .op 2 (.mov 26 (.tmp 2)),
 .op 3 (.mov 27 (.tmp 0)),
 .op 4 (.mov 28 (.tmp 2)),
 .op 5 (.mov 29 (.tmp 1)),
 .op 6 (.mov 30 (.tmp 3)),
 .op 7 (.mov 31 (.tmp 3)),
 .op 8 (.nilchk 32 (.tmp 24)),
 .op 9 (.faddr 33 2 (.tmp 32)),
 .op 10 (.iaddr 34 (some 6) 6 (.tmp 33) (.tmp 25)),
 .op 11 (.iaddr 35 (some 6) 1 (.tmp 34) (.tmp 26)),
 .op 12 (.store false 1 (.tmp 35) (.tmp 30)),
 .op 13 (.nilchk 36 (.tmp 27)),
 .op 14 (.faddr 37 2 (.tmp 36)),
 .op 15 (.iaddr 38 (some 6) 6 (.tmp 37) (.tmp 28)),
 .op 16 (.iaddr 39 (some 6) 1 (.tmp 38) (.tmp 29)),
 .op 17 (.store false 1 (.tmp 39) (.tmp 31))] [])
 (.seq (.region [.op 0 (.mov 8 (.const (.int .i64 0)))] [])
 .ret)))),
 [.tmp 8]⟩
theorem ok22 : funcOk Try.prog (drawOk Try.prog) Try.f22 A22 = true := by kernel_rfl
noncomputable def S22 (call : Go.Fw.Call) (a0 a1 a2 a3 : AVal) (h : Heap) : Option J :=
 (call 16 [a0, a1] h).bind fun r1 =>
 (aUn .not r1.1).bind fun v2 =>
 (guardV v2 false
 ((call 16 [a0, a2] r1.2).bind fun r3 =>
 (aUn .not r3.1).bind fun v4 =>
 some (0, [v4], r3.2))
 (some (0, [skipV], r1.2))).bind fun g5 =>
 (aPick v2 (.bool true) (g5.2.1.getD 0 .undef)).bind fun v6 =>
 (guardV v6 false
 ((aBin .eql .plain a1 a2).bind fun v7 =>
 some (0, [v7], g5.2.2))
 (some (0, [skipV], g5.2.2))).bind fun g8 =>
 (aPick v6 (.bool true) (g8.2.1.getD 0 .undef)).bind fun v9 =>
 condV v9
 (some (0, [(.int .i64 23)], g8.2.2))
 ((aNilchk a0).bind fun v10 =>
 (aFaddr 2 v10).bind fun v11 =>
 (aIaddrA 6 6 v11 a1).bind fun v12 =>
 (aIaddrA 6 1 v12 a2).bind fun v13 =>
 (aCells 1 a3).bind fun c14 =>
 (aStore g8.2.2 v13 c14).bind fun h15 =>
 (aNilchk a0).bind fun v16 =>
 (aFaddr 2 v16).bind fun v17 =>
 (aIaddrA 6 6 v17 a2).bind fun v18 =>
 (aIaddrA 6 1 v18 a1).bind fun v19 =>
 (aCells 1 a3).bind fun c20 =>
 (aStore h15 v19 c20).bind fun h21 =>
 some (0, [(.int .i64 0)], h21))
theorem run22 (call : Go.Fw.Call) (a0 a1 a2 a3 : AVal) (h : Heap) : runFn call (.code A22) [a0, a1, a2, a3] h = (S22 call a0 a1 a2 a3 h).bind ansOf := by kernel_rfl

/-- (*frankpledge/frankpledgeref8.Net).Deliver -/
noncomputable def A23 : AFunc := ⟨2, (.seq (.region [.op 0 (.alloc 4 true [.int .i64 0, .int .i64 0, .str []]),
 .op 1 (.mov 5 (.const (.int .i64 0)))] [])
 (.seq (.seq (.region [.op 0 (.mov 6 (.tmp 1)),
 .op 1 (.bin 7 .lss .plain (.tmp 6) (.const (.int .i64 0))),
 .op 2 (.mov 8 (.tmp 7)),
 .guard 8 false [.op 3 (.mov 9 (.tmp 1)),
 .op 4 (.mov 10 (.tmp 0)),
 .op 5 (.nilchk 11 (.tmp 10)),
 .op 6 (.faddr 12 1 (.tmp 11)),
 .op 7 (.load 13 false 1 (.tmp 12)),
 .op 8 (.len 14 false (.tmp 13)),
 .op 9 (.bin 15 .geq .plain (.tmp 9) (.tmp 14))] [] [15],
 .op 10 (.pick 16 (.tmp 8) (.const (.bool true)) (.tmp 15))] [])
 (.cond (.tmp 16)
 (.seq (.region [.op 0 (.build 17 [.int .i64 0, .int .i64 0, .str []] []),
 .op 1 (.store true 3 (.tmp 4) (.tmp 17)),
 .op 2 (.mov 5 (.const (.int .i64 23)))] [])
 .ret)
 .skip))
 (.seq (.seq (.region [.op 0 (.mov 18 (.tmp 0)),
 .op 1 (.mov 19 (.tmp 0)),
 .op 2 (.nilchk 20 (.tmp 19)),
 .op 3 (.faddr 21 1 (.tmp 20)),
 .op 4 (.load 22 false 1 (.tmp 21)),
 .op 5 (.mov 23 (.tmp 1)),
 .op 6 (.iaddr 24 none 3 (.tmp 22) (.tmp 23)),
 .op 7 (.faddr 25 0 (.tmp 24)),
 .op 8 (.load 26 false 1 (.tmp 25)),
 .op 9 (.mov 27 (.tmp 0)),
 .op 10 (.nilchk 28 (.tmp 27)),
 .op 11 (.faddr 29 1 (.tmp 28)),
 .op 12 (.load 30 false 1 (.tmp 29)),
 .op 13 (.mov 31 (.tmp 1)),
 .op 14 (.iaddr 32 none 3 (.tmp 30) (.tmp 31)),
 .op 15 (.faddr 33 1 (.tmp 32)),
 .op 16 (.load 34 false 1 (.tmp 33)),
 .op 17 (.call 35 30 [.tmp 18, .tmp 26, .tmp 34])] [])
 (.cond (.tmp 35)
 (.seq (.region [.op 0 (.build 36 [.int .i64 0, .int .i64 0, .str []] []),
 .op 1 (.store true 3 (.tmp 4) (.tmp 36)),
 .op 2 (.mov 5 (.const (.int .i64 26)))] [])
 .ret)
 .skip))
 (.seq (.region [.op 0 (.mov 37 (.tmp 0)),
 .op 1 (.mov 38 (.tmp 1)),
 .op 2 (.call 39 31 [.tmp 37, .tmp 38]),
 .op 3 (.store true 3 (.tmp 4) (.tmp 39)),
 .op 4 (.mov 5 (.const (.int .i64 0)))] [])
 .ret)))),
 [.cell 4 true 3, .tmp 5]⟩
theorem ok23 : funcOk Try.prog (drawOk Try.prog) Try.f23 A23 = true := by kernel_rfl
noncomputable def S23 (call : Go.Fw.Call) (a0 a1 : AVal) (h : Heap) : Option J :=
 (aBin .lss .plain a1 (.int .i64 0)).bind fun v1 =>
 (guardV v1 false
 ((aNilchk a0).bind fun v2 =>
 (aFaddr 1 v2).bind fun v3 =>
 (aLoad h 1 v3).bind fun c4 =>
 (fromCells false c4).bind fun v5 =>
 (aLen false v5).bind fun v6 =>
 (aBin .geq .plain a1 v6).bind fun v7 =>
 some (0, [v7], h))
 (some (0, [skipV], h))).bind fun g8 =>
 (aPick v1 (.bool true) (g8.2.1.getD 0 .undef)).bind fun v9 =>
 condV v9
 ((aFill [.int .i64 0, .int .i64 0, .str []] []).bind fun c10 =>
 (aCells 3 (.agg c10)).bind fun c11 =>
 bif Nat.ble ((0) + 3) (List.length (α := AVal) [.int .i64 0, .int .i64 0, .str []]) then (((rdL (splice [.int .i64 0, .int .i64 0, .str []] (0) c11) (0) 3).bind fun cs => fromCells true cs).bind fun v => ((some (.int .i64 23)).bind fun v => (some []).bind fun vs => some (v :: vs)).bind fun vs => some (v :: vs)).bind fun vs => some (0, [oneOr vs], g8.2.2) else none)
 ((aNilchk a0).bind fun v12 =>
 (aFaddr 1 v12).bind fun v13 =>
 (aLoad g8.2.2 1 v13).bind fun c14 =>
 (fromCells false c14).bind fun v15 =>
 (aIaddr 3 v15 a1).bind fun v16 =>
 (aFaddr 0 v16).bind fun v17 =>
 (aLoad g8.2.2 1 v17).bind fun c18 =>
 (fromCells false c18).bind fun v19 =>
 (aNilchk a0).bind fun v20 =>
 (aFaddr 1 v20).bind fun v21 =>
 (aLoad g8.2.2 1 v21).bind fun c22 =>
 (fromCells false c22).bind fun v23 =>
 (aIaddr 3 v23 a1).bind fun v24 =>
 (aFaddr 1 v24).bind fun v25 =>
 (aLoad g8.2.2 1 v25).bind fun c26 =>
 (fromCells false c26).bind fun v27 =>
 (call 30 [a0, v19, v27] g8.2.2).bind fun r28 =>
 condV r28.1
 ((aFill [.int .i64 0, .int .i64 0, .str []] []).bind fun c29 =>
 (aCells 3 (.agg c29)).bind fun c30 =>
 bif Nat.ble ((0) + 3) (List.length (α := AVal) [.int .i64 0, .int .i64 0, .str []]) then (((rdL (splice [.int .i64 0, .int .i64 0, .str []] (0) c30) (0) 3).bind fun cs => fromCells true cs).bind fun v => ((some (.int .i64 26)).bind fun v => (some []).bind fun vs => some (v :: vs)).bind fun vs => some (v :: vs)).bind fun vs => some (0, [oneOr vs], r28.2) else none)
 ((call 31 [a0, a1] r28.2).bind fun r31 =>
 (aCells 3 r31.1).bind fun c32 =>
 bif Nat.ble ((0) + 3) (List.length (α := AVal) [.int .i64 0, .int .i64 0, .str []]) then (((rdL (splice [.int .i64 0, .int .i64 0, .str []] (0) c32) (0) 3).bind fun cs => fromCells true cs).bind fun v => ((some (.int .i64 0)).bind fun v => (some []).bind fun vs => some (v :: vs)).bind fun vs => some (v :: vs)).bind fun vs => some (0, [oneOr vs], r31.2) else none))
theorem run23 (call : Go.Fw.Call) (a0 a1 : AVal) (h : Heap) : runFn call (.code A23) [a0, a1] h = (S23 call a0 a1 h).bind ansOf := by kernel_rfl

/-- (*frankpledge/frankpledgeref8.Net).Drop -/
noncomputable def A24 : AFunc := ⟨2, (.seq (.region [.op 0 (.mov 4 (.const (.int .i64 0)))] [])
 (.seq (.seq (.region [.op 0 (.mov 5 (.tmp 1)),
 .op 1 (.bin 6 .lss .plain (.tmp 5) (.const (.int .i64 0))),
 .op 2 (.mov 7 (.tmp 6)),
 .guard 7 false [.op 3 (.mov 8 (.tmp 1)),
 .op 4 (.mov 9 (.tmp 0)),
 .op 5 (.nilchk 10 (.tmp 9)),
 .op 6 (.faddr 11 1 (.tmp 10)),
 .op 7 (.load 12 false 1 (.tmp 11)),
 .op 8 (.len 13 false (.tmp 12)),
 .op 9 (.bin 14 .geq .plain (.tmp 8) (.tmp 13))] [] [14],
 .op 10 (.pick 15 (.tmp 7) (.const (.bool true)) (.tmp 14))] [])
 (.cond (.tmp 15)
 (.seq (.region [.op 0 (.mov 4 (.const (.int .i64 23)))] [])
 .ret)
 .skip))
 (.seq (.region [.op 0 (.mov 16 (.tmp 0)),
 .op 1 (.mov 17 (.tmp 1)),
 .op 2 (.call 18 31 [.tmp 16, .tmp 17])] [])
 (.seq (.region [.op 0 (.mov 4 (.const (.int .i64 0)))] [])
 .ret)))),
 [.tmp 4]⟩
theorem ok24 : funcOk Try.prog (drawOk Try.prog) Try.f24 A24 = true := by kernel_rfl
noncomputable def S24 (call : Go.Fw.Call) (a0 a1 : AVal) (h : Heap) : Option J :=
 (aBin .lss .plain a1 (.int .i64 0)).bind fun v1 =>
 (guardV v1 false
 ((aNilchk a0).bind fun v2 =>
 (aFaddr 1 v2).bind fun v3 =>
 (aLoad h 1 v3).bind fun c4 =>
 (fromCells false c4).bind fun v5 =>
 (aLen false v5).bind fun v6 =>
 (aBin .geq .plain a1 v6).bind fun v7 =>
 some (0, [v7], h))
 (some (0, [skipV], h))).bind fun g8 =>
 (aPick v1 (.bool true) (g8.2.1.getD 0 .undef)).bind fun v9 =>
 condV v9
 (some (0, [(.int .i64 23)], g8.2.2))
 ((call 31 [a0, a1] g8.2.2).bind fun r10 =>
 some (0, [(.int .i64 0)], r10.2))
theorem run24 (call : Go.Fw.Call) (a0 a1 : AVal) (h : Heap) : runFn call (.code A24) [a0, a1] h = (S24 call a0 a1 h).bind ansOf := by kernel_rfl

/-- (*frankpledge/frankpledgeref8.Net).Twice -/
noncomputable def A25 : AFunc := ⟨2, (.seq (.region [.op 0 (.mov 4 (.const (.int .i64 0)))] [])
 (.seq (.seq (.region [.op 0 (.mov 5 (.tmp 1)),
 .op 1 (.bin 6 .lss .plain (.tmp 5) (.const (.int .i64 0))),
 .op 2 (.mov 7 (.tmp 6)),
 .guard 7 false [.op 3 (.mov 8 (.tmp 1)),
 .op 4 (.mov 9 (.tmp 0)),
 .op 5 (.nilchk 10 (.tmp 9)),
 .op 6 (.faddr 11 1 (.tmp 10)),
 .op 7 (.load 12 false 1 (.tmp 11)),
 .op 8 (.len 13 false (.tmp 12)),
 .op 9 (.bin 14 .geq .plain (.tmp 8) (.tmp 13))] [] [14],
 .op 10 (.pick 15 (.tmp 7) (.const (.bool true)) (.tmp 14))] [])
 (.cond (.tmp 15)
 (.seq (.region [.op 0 (.mov 4 (.const (.int .i64 23)))] [])
 .ret)
 .skip))
 (.seq (.region [.op 0 (.mov 16 (.tmp 0)),
 .op 1 (.mov 17 (.tmp 0)),
 .op 2 (.nilchk 18 (.tmp 17)),
 .op 3 (.faddr 19 1 (.tmp 18)),
 .op 4 (.load 20 false 1 (.tmp 19)),
 .op 5 (.mov 21 (.tmp 1)),
 .op 6 (.iaddr 22 none 3 (.tmp 20) (.tmp 21)),
 .op 7 (.load 23 true 3 (.tmp 22)),
 .op 8 (.call 24 27 [.tmp 16, .tmp 23]),
 .op 9 (.mov 4 (.tmp 24))] [])
 .ret))),
 [.tmp 4]⟩
theorem ok25 : funcOk Try.prog (drawOk Try.prog) Try.f25 A25 = true := by kernel_rfl
noncomputable def S25 (call : Go.Fw.Call) (a0 a1 : AVal) (h : Heap) : Option J :=
 (aBin .lss .plain a1 (.int .i64 0)).bind fun v1 =>
 (guardV v1 false
 ((aNilchk a0).bind fun v2 =>
 (aFaddr 1 v2).bind fun v3 =>
 (aLoad h 1 v3).bind fun c4 =>
 (fromCells false c4).bind fun v5 =>
 (aLen false v5).bind fun v6 =>
 (aBin .geq .plain a1 v6).bind fun v7 =>
 some (0, [v7], h))
 (some (0, [skipV], h))).bind fun g8 =>
 (aPick v1 (.bool true) (g8.2.1.getD 0 .undef)).bind fun v9 =>
 condV v9
 (some (0, [(.int .i64 23)], g8.2.2))
 ((aNilchk a0).bind fun v10 =>
 (aFaddr 1 v10).bind fun v11 =>
 (aLoad g8.2.2 1 v11).bind fun c12 =>
 (fromCells false c12).bind fun v13 =>
 (aIaddr 3 v13 a1).bind fun v14 =>
 (aLoad g8.2.2 3 v14).bind fun c15 =>
 (fromCells true c15).bind fun v16 =>
 (call 27 [a0, v16] g8.2.2).bind fun r17 =>
 some (0, [r17.1], r17.2))
theorem run25 (call : Go.Fw.Call) (a0 a1 : AVal) (h : Heap) : runFn call (.code A25) [a0, a1] h = (S25 call a0 a1 h).bind ansOf := by kernel_rfl

/-- (*frankpledge/frankpledgeref8.Net).Set -/
noncomputable def A26 : AFunc := ⟨4, (.seq (.region [.op 0 (.mov 8 (.const (.int .i64 0)))] [])
 (.seq (.seq (.region [.op 0 (.mov 9 (.tmp 0)),
 .op 1 (.mov 10 (.tmp 1)),
 .op 2 (.call 11 32 [.tmp 9, .tmp 10]),
 .op 3 (.un 12 .not (.tmp 11)),
 .op 4 (.mov 13 (.tmp 12)),
 .guard 13 false [.op 5 (.mov 14 (.tmp 0)),
 .op 6 (.mov 15 (.tmp 2)),
 .op 7 (.call 16 32 [.tmp 14, .tmp 15]),
 .op 8 (.un 17 .not (.tmp 16))] [] [17],
 .op 9 (.pick 18 (.tmp 13) (.const (.bool true)) (.tmp 17)),
 .op 10 (.mov 19 (.tmp 18)),
 .guard 19 false [.op 11 (.mov 20 (.tmp 1)),
 .op 12 (.mov 21 (.tmp 2)),
 .op 13 (.bin 22 .eql .plain (.tmp 20) (.tmp 21))] [] [22],
 .op 14 (.pick 23 (.tmp 19) (.const (.bool true)) (.tmp 22))] [])
 (.cond (.tmp 23)
 (.seq (.region [.op 0 (.mov 8 (.const (.int .i64 23)))] [])
 .ret)
 .skip))
 (.seq (.region [.op 0 (.mov 24 (.tmp 0)),
 .op 1 (.mov 25 (.tmp 1)),
 .op 2 (.mov 26 (.tmp 2)),
 .op 3 (.mov 27 (.tmp 0)),
 .op 4 (.mov 28 (.tmp 2)),
 .op 5 (.mov 29 (.tmp 1)),
 .op 6 (.mov 30 (.tmp 3)),
 .op 7 (.mov 31 (.tmp 3)),
 .op 8 (.nilchk 32 (.tmp 24)),
 .op 9 (.faddr 33 2 (.tmp 32)),
 .op 10 (.iaddr 34 (some 6) 6 (.tmp 33) (.tmp 25)),
 .op 11 (.iaddr 35 (some 6) 1 (.tmp 34) (.tmp 26)),
 .op 12 (.store false 1 (.tmp 35) (.tmp 30)),
 .op 13 (.nilchk 36 (.tmp 27)),
 .op 14 (.faddr 37 2 (.tmp 36)),
 .op 15 (.iaddr 38 (some 6) 6 (.tmp 37) (.tmp 28)),
 .op 16 (.iaddr 39 (some 6) 1 (.tmp 38) (.tmp 29)),
 .op 17 (.store false 1 (.tmp 39) (.tmp 31))] [])
 (.seq (.region [.op 0 (.mov 8 (.const (.int .i64 0)))] [])
 .ret)))),
 [.tmp 8]⟩
theorem ok26 : funcOk Try.prog (drawOk Try.prog) Try.f26 A26 = true := by kernel_rfl
noncomputable def S26 (call : Go.Fw.Call) (a0 a1 a2 a3 : AVal) (h : Heap) : Option J :=
 (call 32 [a0, a1] h).bind fun r1 =>
 (aUn .not r1.1).bind fun v2 =>
 (guardV v2 false
 ((call 32 [a0, a2] r1.2).bind fun r3 =>
 (aUn .not r3.1).bind fun v4 =>
 some (0, [v4], r3.2))
 (some (0, [skipV], r1.2))).bind fun g5 =>
 (aPick v2 (.bool true) (g5.2.1.getD 0 .undef)).bind fun v6 =>
 (guardV v6 false
 ((aBin .eql .plain a1 a2).bind fun v7 =>
 some (0, [v7], g5.2.2))
 (some (0, [skipV], g5.2.2))).bind fun g8 =>
 (aPick v6 (.bool true) (g8.2.1.getD 0 .undef)).bind fun v9 =>
 condV v9
 (some (0, [(.int .i64 23)], g8.2.2))
 ((aNilchk a0).bind fun v10 =>
 (aFaddr 2 v10).bind fun v11 =>
 (aIaddrA 6 6 v11 a1).bind fun v12 =>
 (aIaddrA 6 1 v12 a2).bind fun v13 =>
 (aCells 1 a3).bind fun c14 =>
 (aStore g8.2.2 v13 c14).bind fun h15 =>
 (aNilchk a0).bind fun v16 =>
 (aFaddr 2 v16).bind fun v17 =>
 (aIaddrA 6 6 v17 a2).bind fun v18 =>
 (aIaddrA 6 1 v18 a1).bind fun v19 =>
 (aCells 1 a3).bind fun c20 =>
 (aStore h15 v19 c20).bind fun h21 =>
 some (0, [(.int .i64 0)], h21))
theorem run26 (call : Go.Fw.Call) (a0 a1 a2 a3 : AVal) (h : Heap) : runFn call (.code A26) [a0, a1, a2, a3] h = (S26 call a0 a1 a2 a3 h).bind ansOf := by kernel_rfl

/-- (*frankpledge/frankpledgeref8.Net).Send -/
noncomputable def A27 : AFunc := ⟨2, (.seq (.region [.op 0 (.box 3 true (.tmp 1)),
 .op 1 (.mov 4 (.const (.int .i64 0)))] [])
 (.seq (.seq (.region [.op 0 (.mov 5 (.tmp 0)),
 .op 1 (.faddr 6 0 (.tmp 3)),
 .op 2 (.load 7 false 1 (.tmp 6)),
 .op 3 (.call 8 32 [.tmp 5, .tmp 7]),
 .op 4 (.un 9 .not (.tmp 8)),
 .op 5 (.mov 10 (.tmp 9)),
 .guard 10 false [.op 6 (.mov 11 (.tmp 0)),
 .op 7 (.faddr 12 1 (.tmp 3)),
 .op 8 (.load 13 false 1 (.tmp 12)),
 .op 9 (.call 14 32 [.tmp 11, .tmp 13]),
 .op 10 (.un 15 .not (.tmp 14))] [] [15],
 .op 11 (.pick 16 (.tmp 10) (.const (.bool true)) (.tmp 15))] [])
 (.cond (.tmp 16)
 (.seq (.region [.op 0 (.mov 4 (.const (.int .i64 23)))] [])
 .ret)
 .skip))
 (.seq (.seq (.region [.op 0 (.mov 17 (.tmp 0)),
 .op 1 (.nilchk 18 (.tmp 17)),
 .op 2 (.faddr 19 1 (.tmp 18)),
 .op 3 (.load 20 false 1 (.tmp 19)),
 .op 4 (.len 21 false (.tmp 20)),
 .op 5 (.bin 22 .geq .plain (.tmp 21) (.const (.int .i64 64)))] [])
 (.cond (.tmp 22)
 (.seq (.region [.op 0 (.mov 4 (.const (.int .i64 24)))] [])
 .ret)
 .skip))
 (.seq (.regionF 2 [.op 0 (.mov 23 (.tmp 0)),
 .op 1 (.fl 24 0 (some (3, 0)) [.int .i64 0, .int .i64 0, .str []] []),
 .op 2 (.mov 25 (.tmp 0)),
 .op 3 (.nilchk 26 (.tmp 25)),
 .op 4 (.faddr 27 1 (.tmp 26)),
 .op 5 (.load 28 false 1 (.tmp 27)),
 .op 6 (.append 29 3 32 [.int .i64 0, .int .i64 0, .str []] false (.tmp 24) (.tmp 28)),
 .op 7 (.load 30 true 3 (.tmp 3)),
 .op 8 (.fl 31 1 (some (3, 1)) [.int .i64 0, .int .i64 0, .str []] [(0, .tmp 30)]),
 .op 9 (.append 32 3 32 [.int .i64 0, .int .i64 0, .str []] false (.tmp 29) (.tmp 31)),
 .op 10 (.nilchk 33 (.tmp 23)),
 .op 11 (.faddr 34 1 (.tmp 33)),
 .op 12 (.store false 1 (.tmp 34) (.tmp 32))] [(7, 6)])
 (.seq (.region [.op 0 (.mov 4 (.const (.int .i64 0)))] [])
 .ret))))),
 [.tmp 4]⟩
theorem ok27 : funcOk Try.prog (drawOk Try.prog) Try.f27 A27 = true := by kernel_rfl
noncomputable def S27 (call : Go.Fw.Call) (a0 a1 : AVal) (h : Heap) : Option J :=
 (AVal.cells? a1).bind fun c1 =>
 (rdL c1 0 1).bind fun c2 =>
 (fromCells false c2).bind fun v3 =>
 (call 32 [a0, v3] h).bind fun r4 =>
 (aUn .not r4.1).bind fun v5 =>
 (guardV v5 false
 ((rdL c1 1 1).bind fun c6 =>
 (fromCells false c6).bind fun v7 =>
 (call 32 [a0, v7] r4.2).bind fun r8 =>
 (aUn .not r8.1).bind fun v9 =>
 some (0, [v9], r8.2))
 (some (0, [skipV], r4.2))).bind fun g10 =>
 (aPick v5 (.bool true) (g10.2.1.getD 0 .undef)).bind fun v11 =>
 condV v11
 (some (0, [(.int .i64 23)], g10.2.2))
 ((aNilchk a0).bind fun v12 =>
 (aFaddr 1 v12).bind fun v13 =>
 (aLoad g10.2.2 1 v13).bind fun c14 =>
 (fromCells false c14).bind fun v15 =>
 (aLen false v15).bind fun v16 =>
 (aBin .geq .plain v16 (.int .i64 64)).bind fun v17 =>
 condV v17
 (some (0, [(.int .i64 24)], g10.2.2))
 ((aFill (reps [.int .i64 0, .int .i64 0, .str []] 0) []).bind fun c18 =>
 (aNilchk a0).bind fun v19 =>
 (aFaddr 1 v19).bind fun v20 =>
 (aLoad ((g10.2.2.res 2).setBlk (g10.2.2.next + 0) (some ⟨c18, true⟩)) 1 v20).bind fun c21 =>
 (fromCells false c21).bind fun v22 =>
 (aAppend 3 32 [.int .i64 0, .int .i64 0, .str []] false (.slice (g10.2.2.next + 0) 0 0 0 3 true) v22 ((g10.2.2.res 2).setBlk (g10.2.2.next + 0) (some ⟨c18, true⟩))).bind fun r23 =>
 (rdL c1 0 3).bind fun c24 =>
 (fromCells true c24).bind fun v25 =>
 (aFill (reps [.int .i64 0, .int .i64 0, .str []] 1) [(0, 3, v25)]).bind fun c26 =>
 (aAppend 3 32 [.int .i64 0, .int .i64 0, .str []] false r23.1 (.slice (g10.2.2.next + 1) 0 1 1 3 true) (r23.2.setBlk (g10.2.2.next + 1) (some ⟨c26, true⟩))).bind fun r27 =>
 (aNilchk a0).bind fun v28 =>
 (aFaddr 1 v28).bind fun v29 =>
 (aCells 1 r27.1).bind fun c30 =>
 (aStore r27.2 v29 c30).bind fun h31 =>
 bif checkPairs [(7, some (.lrd 3 (0) 3)), (6, some (.ef [(3, c1)] ((g10.2.2.res 2).setBlk (g10.2.2.next + 0) (some ⟨c18, true⟩)) [(3, c1)] r23.2))] [(7, 6)] then some (0, [(.int .i64 0)], h31) else none))
theorem run27 (call : Go.Fw.Call) (a0 a1 : AVal) (h : Heap) : runFn call (.code A27) [a0, a1] h = (S27 call a0 a1 h).bind ansOf := by kernel_rfl

/-- frankpledge/frankpledgelaw8.same -/
noncomputable def A28 : AFunc := ⟨2, (.seq (.region [.op 0 (.mov 4 (.const (.bool false)))] [])
 (.seq (.region [.op 0 (.mov 9 (.tmp 0)),
 .op 1 (.call 10 33 [.tmp 9]),
 .op 2 (.mov 5 (.tmp 10))] [])
 (.seq (.seq (.region [.op 0 (.mov 11 (.tmp 0)),
 .op 1 (.call 12 9 [.tmp 11]),
 .op 2 (.mov 13 (.tmp 1)),
 .op 3 (.nilchk 14 (.tmp 13)),
 .op 4 (.faddr 15 1 (.tmp 14)),
 .op 5 (.load 16 false 1 (.tmp 15)),
 .op 6 (.len 17 false (.tmp 16)),
 .op 7 (.bin 18 .neq .plain (.tmp 12) (.tmp 17)),
 .op 8 (.mov 19 (.tmp 18)),
 .guard 19 false [.op 9 (.mov 20 (.tmp 5)),
 .op 10 (.len 21 false (.tmp 20)),
 .op 11 (.mov 22 (.tmp 1)),
 .op 12 (.nilchk 23 (.tmp 22)),
 .op 13 (.faddr 24 1 (.tmp 23)),
 .op 14 (.load 25 false 1 (.tmp 24)),
 .op 15 (.len 26 false (.tmp 25)),
 .op 16 (.bin 27 .neq .plain (.tmp 21) (.tmp 26))] [] [27],
 .op 17 (.pick 28 (.tmp 19) (.const (.bool true)) (.tmp 27))] [(5, 1)])
 (.cond (.tmp 28)
 (.seq (.region [.op 0 (.mov 4 (.const (.bool false)))] [])
 .ret)
 .skip))
 (.seq (.seq (.region [.op 0 (.mov 29 (.tmp 5)),
 .op 1 (.len 30 false (.tmp 29)),
 .op 2 (.mov 31 (.const (.int .i64 0)))] [])
 (.block 0 (.loop ⟨[0, 1, 5, 30, 31], []⟩ [((.exit 0), ⟨[0, 1], []⟩), (.ret, ⟨[4], []⟩)]
 (.seq (.region [.op 0 (.bin 32 .lss .plain (.tmp 31) (.tmp 30))] [])
 (.seq (.cond (.tmp 32)
 .skip
 (.exit 0))
 (.seq (.block 1 (.seq (.region [.op 0 (.mov 33 (.tmp 31)),
 .op 1 (.mov 6 (.tmp 33))] [])
 (.seq (.region [.op 0 (.mov 34 (.tmp 5)),
 .op 1 (.mov 35 (.tmp 6)),
 .op 2 (.iaddr 36 none 3 (.tmp 34) (.tmp 35)),
 .op 3 (.faddr 37 0 (.tmp 36)),
 .op 4 (.load 38 false 1 (.tmp 37)),
 .op 5 (.mov 39 (.tmp 1)),
 .op 6 (.nilchk 40 (.tmp 39)),
 .op 7 (.faddr 41 1 (.tmp 40)),
 .op 8 (.load 42 false 1 (.tmp 41)),
 .op 9 (.mov 43 (.tmp 6)),
 .op 10 (.iaddr 44 none 3 (.tmp 42) (.tmp 43)),
 .op 11 (.faddr 45 0 (.tmp 44)),
 .op 12 (.load 46 false 1 (.tmp 45)),
 .op 13 (.bin 47 .neq .plain (.tmp 38) (.tmp 46)),
 .op 14 (.mov 48 (.tmp 47)),
 .guard 48 false [.op 15 (.mov 49 (.tmp 5)),
 .op 16 (.mov 50 (.tmp 6)),
 .op 17 (.iaddr 51 none 3 (.tmp 49) (.tmp 50)),
 .op 18 (.faddr 52 1 (.tmp 51)),
 .op 19 (.load 53 false 1 (.tmp 52)),
 .op 20 (.mov 54 (.tmp 1)),
 .op 21 (.nilchk 55 (.tmp 54)),
 .op 22 (.faddr 56 1 (.tmp 55)),
 .op 23 (.load 57 false 1 (.tmp 56)),
 .op 24 (.mov 58 (.tmp 6)),
 .op 25 (.iaddr 59 none 3 (.tmp 57) (.tmp 58)),
 .op 26 (.faddr 60 1 (.tmp 59)),
 .op 27 (.load 61 false 1 (.tmp 60)),
 .op 28 (.bin 62 .neq .plain (.tmp 53) (.tmp 61))] [] [62],
 .op 29 (.pick 63 (.tmp 48) (.const (.bool true)) (.tmp 62)),
 .op 30 (.mov 64 (.tmp 63)),
 .guard 64 false [.op 31 (.mov 65 (.tmp 5)),
 .op 32 (.mov 66 (.tmp 6)),
 .op 33 (.iaddr 67 none 3 (.tmp 65) (.tmp 66)),
 .op 34 (.faddr 68 2 (.tmp 67)),
 .op 35 (.load 69 false 1 (.tmp 68)),
 .op 36 (.conv 70 .bytesStr (.tmp 69)),
 .op 37 (.mov 71 (.tmp 1)),
 .op 38 (.nilchk 72 (.tmp 71)),
 .op 39 (.faddr 73 1 (.tmp 72)),
 .op 40 (.load 74 false 1 (.tmp 73)),
 .op 41 (.mov 75 (.tmp 6)),
 .op 42 (.iaddr 76 none 3 (.tmp 74) (.tmp 75)),
 .op 43 (.faddr 77 2 (.tmp 76)),
 .op 44 (.load 78 false 1 (.tmp 77)),
 .op 45 (.bin 79 .neq .plain (.tmp 70) (.tmp 78))] [] [79],
 .op 46 (.pick 80 (.tmp 64) (.const (.bool true)) (.tmp 79))] [])
 (.cond (.tmp 80)
 (.seq (.region [.op 0 (.mov 4 (.const (.bool false)))] [])
 .ret)
 .skip))))
 (.region [.op 0 (.bin 81 .add .plain (.tmp 31) (.const (.int .i64 1))),
 .op 1 (.mov 31 (.tmp 81))] [])))))))
 (.seq (.seq (.region [.op 0 (.mov 7 (.const (.int .i64 (-1))))] [])
 (.block 2 (.loop ⟨[0, 1, 7], []⟩ [((.exit 2), ⟨[], []⟩), (.ret, ⟨[4], []⟩)]
 (.seq (.seq (.region [.op 0 (.mov 82 (.tmp 7)),
 .op 1 (.mov 83 (.tmp 1)),
 .op 2 (.nilchk 84 (.tmp 83)),
 .op 3 (.faddr 85 0 (.tmp 84)),
 .op 4 (.load 86 false 1 (.tmp 85)),
 .op 5 (.bin 87 .leq .plain (.tmp 82) (.tmp 86))] [])
 (.cond (.tmp 87)
 .skip
 (.exit 2)))
 (.seq (.block 3 (.seq (.region [.op 0 (.mov 8 (.const (.int .i64 (-1))))] [])
 (.block 4 (.loop ⟨[0, 1, 7, 8], []⟩ [((.exit 4), ⟨[0, 1, 7], []⟩), (.ret, ⟨[4], []⟩)]
 (.seq (.seq (.region [.op 0 (.mov 90 (.tmp 8)),
 .op 1 (.mov 91 (.tmp 1)),
 .op 2 (.nilchk 92 (.tmp 91)),
 .op 3 (.faddr 93 0 (.tmp 92)),
 .op 4 (.load 94 false 1 (.tmp 93)),
 .op 5 (.bin 95 .leq .plain (.tmp 90) (.tmp 94))] [])
 (.cond (.tmp 95)
 .skip
 (.exit 4)))
 (.seq (.block 5 (.seq (.region [.op 0 (.mov 98 (.tmp 0)),
 .op 1 (.mov 99 (.tmp 7)),
 .op 2 (.mov 100 (.tmp 8)),
 .op 3 (.call 101 13 [.tmp 98, .tmp 99, .tmp 100]),
 .op 4 (.mov 102 (.tmp 1)),
 .op 5 (.mov 103 (.tmp 7)),
 .op 6 (.mov 104 (.tmp 8)),
 .op 7 (.call 105 30 [.tmp 102, .tmp 103, .tmp 104]),
 .op 8 (.bin 106 .neq .bool (.tmp 101) (.tmp 105))] [])
 (.cond (.tmp 106)
 (.seq (.region [.op 0 (.mov 4 (.const (.bool false)))] [])
 .ret)
 .skip)))
 (.region [.op 0 (.mov 96 (.tmp 8)),
 .op 1 (.bin 97 .add .plain (.tmp 96) (.const (.int .i64 1))),
 .op 2 (.mov 8 (.tmp 97))] [])))))))
 (.region [.op 0 (.mov 88 (.tmp 7)),
 .op 1 (.bin 89 .add .plain (.tmp 88) (.const (.int .i64 1))),
 .op 2 (.mov 7 (.tmp 89))] []))))))
 (.seq (.region [.op 0 (.mov 4 (.const (.bool true)))] [])
 .ret)))))),
 [.tmp 4]⟩
theorem ok28 : funcOk Try.prog (drawOk Try.prog) Try.f28 A28 = true := by kernel_rfl
/-- xs: t0, t1, t5, t30, t31 -/
noncomputable def L28_0 (call : Go.Fw.Call) (xs : List AVal) (h : Heap) : Option J :=
 (aBin .lss .plain (xs.getD 4 .undef) (xs.getD 3 .undef)).bind fun v19 =>
 condV v19
 ((aIaddr 3 (xs.getD 2 .undef) (xs.getD 4 .undef)).bind fun v20 =>
 (aFaddr 0 v20).bind fun v21 =>
 (aLoad h 1 v21).bind fun c22 =>
 (fromCells false c22).bind fun v23 =>
 (aNilchk (xs.getD 1 .undef)).bind fun v24 =>
 (aFaddr 1 v24).bind fun v25 =>
 (aLoad h 1 v25).bind fun c26 =>
 (fromCells false c26).bind fun v27 =>
 (aIaddr 3 v27 (xs.getD 4 .undef)).bind fun v28 =>
 (aFaddr 0 v28).bind fun v29 =>
 (aLoad h 1 v29).bind fun c30 =>
 (fromCells false c30).bind fun v31 =>
 (aBin .neq .plain v23 v31).bind fun v32 =>
 (guardV v32 false
 ((aIaddr 3 (xs.getD 2 .undef) (xs.getD 4 .undef)).bind fun v33 =>
 (aFaddr 1 v33).bind fun v34 =>
 (aLoad h 1 v34).bind fun c35 =>
 (fromCells false c35).bind fun v36 =>
 (aNilchk (xs.getD 1 .undef)).bind fun v37 =>
 (aFaddr 1 v37).bind fun v38 =>
 (aLoad h 1 v38).bind fun c39 =>
 (fromCells false c39).bind fun v40 =>
 (aIaddr 3 v40 (xs.getD 4 .undef)).bind fun v41 =>
 (aFaddr 1 v41).bind fun v42 =>
 (aLoad h 1 v42).bind fun c43 =>
 (fromCells false c43).bind fun v44 =>
 (aBin .neq .plain v36 v44).bind fun v45 =>
 some (0, [v45], h))
 (some (0, [skipV], h))).bind fun g46 =>
 (aPick v32 (.bool true) (g46.2.1.getD 0 .undef)).bind fun v47 =>
 (guardV v47 false
 ((aIaddr 3 (xs.getD 2 .undef) (xs.getD 4 .undef)).bind fun v48 =>
 (aFaddr 2 v48).bind fun v49 =>
 (aLoad g46.2.2 1 v49).bind fun c50 =>
 (fromCells false c50).bind fun v51 =>
 (aConv .bytesStr v51 g46.2.2).bind fun r52 =>
 (aNilchk (xs.getD 1 .undef)).bind fun v53 =>
 (aFaddr 1 v53).bind fun v54 =>
 (aLoad r52.2 1 v54).bind fun c55 =>
 (fromCells false c55).bind fun v56 =>
 (aIaddr 3 v56 (xs.getD 4 .undef)).bind fun v57 =>
 (aFaddr 2 v57).bind fun v58 =>
 (aLoad r52.2 1 v58).bind fun c59 =>
 (fromCells false c59).bind fun v60 =>
 (aBin .neq .plain r52.1 v60).bind fun v61 =>
 some (0, [v61], r52.2))
 (some (0, [skipV], g46.2.2))).bind fun g62 =>
 (aPick v47 (.bool true) (g62.2.1.getD 0 .undef)).bind fun v63 =>
 condV v63
 (some (2, [(.bool false)], g62.2.2))
 ((aBin .add .plain (xs.getD 4 .undef) (.int .i64 1)).bind fun v64 =>
 some (0, [(xs.getD 0 .undef), (xs.getD 1 .undef), (xs.getD 2 .undef), (xs.getD 3 .undef), v64], g62.2.2)))
 (some (1, [(xs.getD 0 .undef), (xs.getD 1 .undef)], h))
/-- xs: t0, t1, t7, t8 -/
noncomputable def L28_2 (call : Go.Fw.Call) (xs : List AVal) (h : Heap) : Option J :=
 (aNilchk (xs.getD 1 .undef)).bind fun v71 =>
 (aFaddr 0 v71).bind fun v72 =>
 (aLoad h 1 v72).bind fun c73 =>
 (fromCells false c73).bind fun v74 =>
 (aBin .leq .plain (xs.getD 3 .undef) v74).bind fun v75 =>
 condV v75
 ((call 13 [(xs.getD 0 .undef), (xs.getD 2 .undef), (xs.getD 3 .undef)] h).bind fun r76 =>
 (call 30 [(xs.getD 1 .undef), (xs.getD 2 .undef), (xs.getD 3 .undef)] r76.2).bind fun r77 =>
 (aBin .neq .bool r76.1 r77.1).bind fun v78 =>
 condV v78
 (some (2, [(.bool false)], r77.2))
 ((aBin .add .plain (xs.getD 3 .undef) (.int .i64 1)).bind fun v79 =>
 some (0, [(xs.getD 0 .undef), (xs.getD 1 .undef), (xs.getD 2 .undef), v79], r77.2)))
 (some (1, [(xs.getD 0 .undef), (xs.getD 1 .undef), (xs.getD 2 .undef)], h))
/-- xs: t0, t1, t7 -/
noncomputable def L28_1 (call : Go.Fw.Call) (xs : List AVal) (h : Heap) : Option J :=
 (aNilchk (xs.getD 1 .undef)).bind fun v66 =>
 (aFaddr 0 v66).bind fun v67 =>
 (aLoad h 1 v67).bind fun c68 =>
 (fromCells false c68).bind fun v69 =>
 (aBin .leq .plain (xs.getD 2 .undef) v69).bind fun v70 =>
 condV v70
 ((loop (L28_2 call) [(xs.getD 0 .undef), (xs.getD 1 .undef), (xs.getD 2 .undef), (.int .i64 (-1))] h).bind fun x80 =>
 bif Nat.beq x80.1 1 then (aBin .add .plain (x80.2.1.getD 2 .undef) (.int .i64 1)).bind fun v81 =>
 some (0, [(x80.2.1.getD 0 .undef), (x80.2.1.getD 1 .undef), v81], x80.2.2) else
 bif Nat.beq x80.1 2 then some (2, [(x80.2.1.getD 0 .undef)], x80.2.2) else
 none)
 (some (1, [], h))
noncomputable def S28 (call : Go.Fw.Call) (a0 a1 : AVal) (h : Heap) : Option J :=
 (call 33 [a0] h).bind fun r1 =>
 (call 9 [a0] r1.2).bind fun r2 =>
 (aNilchk a1).bind fun v3 =>
 (aFaddr 1 v3).bind fun v4 =>
 (aLoad r2.2 1 v4).bind fun c5 =>
 (fromCells false c5).bind fun v6 =>
 (aLen false v6).bind fun v7 =>
 (aBin .neq .plain r2.1 v7).bind fun v8 =>
 (guardV v8 false
 ((aLen false r1.1).bind fun v9 =>
 (aNilchk a1).bind fun v10 =>
 (aFaddr 1 v10).bind fun v11 =>
 (aLoad r2.2 1 v11).bind fun c12 =>
 (fromCells false c12).bind fun v13 =>
 (aLen false v13).bind fun v14 =>
 (aBin .neq .plain v9 v14).bind fun v15 =>
 some (0, [v15], r2.2))
 (some (0, [skipV], r2.2))).bind fun g16 =>
 (aPick v8 (.bool true) (g16.2.1.getD 0 .undef)).bind fun v17 =>
 bif checkPairs [(5, logRd v4 1), (1, some (.ef [] r1.2 [] r2.2))] [(5, 1)] then condV v17
 (some (0, [(.bool false)], g16.2.2))
 ((aLen false r1.1).bind fun v18 =>
 (loop (L28_0 call) [a0, a1, r1.1, v18, (.int .i64 0)] g16.2.2).bind fun x65 =>
 bif Nat.beq x65.1 1 then (loop (L28_1 call) [(x65.2.1.getD 0 .undef), (x65.2.1.getD 1 .undef), (.int .i64 (-1))] x65.2.2).bind fun x82 =>
 bif Nat.beq x82.1 1 then some (0, [(.bool true)], x82.2.2) else
 bif Nat.beq x82.1 2 then some (0, [(x82.2.1.getD 0 .undef)], x82.2.2) else
 none else
 bif Nat.beq x65.1 2 then some (0, [(x65.2.1.getD 0 .undef)], x65.2.2) else
 none) else none
theorem run28 (call : Go.Fw.Call) (a0 a1 : AVal) (h : Heap) : runFn call (.code A28) [a0, a1] h = (S28 call a0 a1 h).bind ansOf := by kernel_rfl

/-- slices.Clone[[]byte,byte] -/
noncomputable def A29 : AFunc := ⟨1, (.seq (.region [.op 0 (.mov 2 (.const (.nilSlice)))] [])
 (.seq (.seq (.region [.op 0 (.mov 3 (.tmp 0)),
 .op 1 (.bin 4 .eql .slice (.tmp 3) (.const (.nilSlice)))] [])
 (.cond (.tmp 4)
 (.seq (.region [.op 0 (.mov 2 (.const (.nilSlice)))] [])
 .ret)
 .skip))
 (.seq (.region [.op 0 (.buildSl 5 [.int .u8 0] 1 0 []),
 .op 1 (.mov 6 (.tmp 0)),
 .op 2 (.append 7 1 1 [.int .u8 0] false (.tmp 5) (.tmp 6)),
 .op 3 (.mov 2 (.tmp 7))] [])
 .ret))),
 [.tmp 2]⟩
theorem ok29 : funcOk Try.prog (drawOk Try.prog) Try.f29 A29 = true := by kernel_rfl
noncomputable def S29 (call : Go.Fw.Call) (a0 : AVal) (h : Heap) : Option J :=
 (aBin .eql .slice a0 (.nilSlice)).bind fun v1 =>
 condV v1
 (some (0, [(.nilSlice)], h))
 ((aFill (reps [.int .u8 0] 0) []).bind fun c2 =>
 (aAppend 1 1 [.int .u8 0] false (.slice h.next 0 0 0 1 true) a0 (h.alloc c2)).bind fun r3 =>
 some (0, [r3.1], r3.2))
theorem run29 (call : Go.Fw.Call) (a0 : AVal) (h : Heap) : runFn call (.code A29) [a0] h = (S29 call a0 h).bind ansOf := by kernel_rfl

/-- (*frankpledge/frankpledgeref8.Net).Parted -/
noncomputable def A30 : AFunc := ⟨3, (.seq (.region [.op 0 (.mov 6 (.const (.bool false)))] [])
 (.seq (.region [.op 0 (.mov 7 (.tmp 0)),
 .op 1 (.mov 8 (.tmp 1)),
 .op 2 (.call 9 32 [.tmp 7, .tmp 8]),
 .op 3 (.mov 10 (.tmp 9)),
 .guard 10 true [.op 4 (.mov 11 (.tmp 0)),
 .op 5 (.mov 12 (.tmp 2)),
 .op 6 (.call 13 32 [.tmp 11, .tmp 12])] [] [13],
 .op 7 (.pick 14 (.tmp 10) (.tmp 13) (.const (.bool false))),
 .op 8 (.mov 15 (.tmp 14)),
 .guard 15 true [.op 9 (.mov 16 (.tmp 0)),
 .op 10 (.mov 17 (.tmp 1)),
 .op 11 (.mov 18 (.tmp 2)),
 .op 12 (.nilchk 19 (.tmp 16)),
 .op 13 (.faddr 20 2 (.tmp 19)),
 .op 14 (.iaddr 21 (some 6) 6 (.tmp 20) (.tmp 17)),
 .op 15 (.iaddr 22 (some 6) 1 (.tmp 21) (.tmp 18)),
 .op 16 (.load 23 false 1 (.tmp 22))] [] [23],
 .op 17 (.pick 24 (.tmp 15) (.tmp 23) (.const (.bool false))),
 .op 18 (.mov 6 (.tmp 24))] [])
 .ret)),
 [.tmp 6]⟩
theorem ok30 : funcOk Try.prog (drawOk Try.prog) Try.f30 A30 = true := by kernel_rfl
noncomputable def S30 (call : Go.Fw.Call) (a0 a1 a2 : AVal) (h : Heap) : Option J :=
 (call 32 [a0, a1] h).bind fun r1 =>
 (guardV r1.1 true
 ((call 32 [a0, a2] r1.2).bind fun r2 =>
 some (0, [r2.1], r2.2))
 (some (0, [skipV], r1.2))).bind fun g3 =>
 (aPick r1.1 (g3.2.1.getD 0 .undef) (.bool false)).bind fun v4 =>
 (guardV v4 true
 ((aNilchk a0).bind fun v5 =>
 (aFaddr 2 v5).bind fun v6 =>
 (aIaddrA 6 6 v6 a1).bind fun v7 =>
 (aIaddrA 6 1 v7 a2).bind fun v8 =>
 (aLoad g3.2.2 1 v8).bind fun c9 =>
 (fromCells false c9).bind fun v10 =>
 some (0, [v10], g3.2.2))
 (some (0, [skipV], g3.2.2))).bind fun g11 =>
 (aPick v4 (g11.2.1.getD 0 .undef) (.bool false)).bind fun v12 =>
 some (0, [v12], g11.2.2)
theorem run30 (call : Go.Fw.Call) (a0 a1 a2 : AVal) (h : Heap) : runFn call (.code A30) [a0, a1, a2] h = (S30 call a0 a1 a2 h).bind ansOf := by kernel_rfl

/-- (*frankpledge/frankpledgeref8.Net).out -/
noncomputable def A31 : AFunc := ⟨2, (.seq (.region [.op 0 (.alloc 4 true [.int .i64 0, .int .i64 0, .str []])] [])
 (.seq (.region [.op 0 (.mov 6 (.tmp 0)),
 .op 1 (.nilchk 7 (.tmp 6)),
 .op 2 (.faddr 8 1 (.tmp 7)),
 .op 3 (.load 9 false 1 (.tmp 8)),
 .op 4 (.mov 10 (.tmp 1)),
 .op 5 (.iaddr 11 none 3 (.tmp 9) (.tmp 10)),
 .op 6 (.load 12 true 3 (.tmp 11)),
 .op 7 (.alloc 5 true [.int .i64 0, .int .i64 0, .str []]),
 .op 8 (.store true 3 (.tmp 5) (.tmp 12))] [])
 (.seq (.region [.op 0 (.mov 13 (.tmp 0)),
 .op 1 (.buildSl 14 [.int .i64 0, .int .i64 0, .str []] 3 0 []),
 .op 2 (.mov 15 (.tmp 0)),
 .op 3 (.nilchk 16 (.tmp 15)),
 .op 4 (.faddr 17 1 (.tmp 16)),
 .op 5 (.load 18 false 1 (.tmp 17)),
 .op 6 (.mov 19 (.tmp 1)),
 .op 7 (.slice 20 (.sl 3) (.tmp 18) none (some (.tmp 19)) none),
 .op 8 (.append 21 3 32 [.int .i64 0, .int .i64 0, .str []] false (.tmp 14) (.tmp 20)),
 .op 9 (.mov 22 (.tmp 0)),
 .op 10 (.nilchk 23 (.tmp 22)),
 .op 11 (.faddr 24 1 (.tmp 23)),
 .op 12 (.load 25 false 1 (.tmp 24)),
 .op 13 (.mov 26 (.tmp 1)),
 .op 14 (.bin 27 .add .plain (.tmp 26) (.const (.int .i64 1))),
 .op 15 (.slice 28 (.sl 3) (.tmp 25) (some (.tmp 27)) none none),
 .op 16 (.append 29 3 32 [.int .i64 0, .int .i64 0, .str []] false (.tmp 21) (.tmp 28)),
 .op 17 (.nilchk 30 (.tmp 13)),
 .op 18 (.faddr 31 1 (.tmp 30)),
 .op 19 (.store false 1 (.tmp 31) (.tmp 29))] [(5, 1), (12, 1), (12, 8)])
 (.seq (.region [.op 0 (.load 32 true 3 (.tmp 5)),
 .op 1 (.store true 3 (.tmp 4) (.tmp 32))] [])
 .ret)))),
 [.cell 4 true 3]⟩
theorem ok31 : funcOk Try.prog (drawOk Try.prog) Try.f31 A31 = true := by kernel_rfl
noncomputable def S31 (call : Go.Fw.Call) (a0 a1 : AVal) (h : Heap) : Option J :=
 (aNilchk a0).bind fun v1 =>
 (aFaddr 1 v1).bind fun v2 =>
 (aLoad h 1 v2).bind fun c3 =>
 (fromCells false c3).bind fun v4 =>
 (aIaddr 3 v4 a1).bind fun v5 =>
 (aLoad h 3 v5).bind fun c6 =>
 (fromCells true c6).bind fun v7 =>
 (aCells 3 v7).bind fun c8 =>
 bif Nat.ble ((0) + 3) (List.length (α := AVal) [.int .i64 0, .int .i64 0, .str []]) then (aFill (reps [.int .i64 0, .int .i64 0, .str []] 0) []).bind fun c9 =>
 (aNilchk a0).bind fun v10 =>
 (aFaddr 1 v10).bind fun v11 =>
 (aLoad (h.alloc c9) 1 v11).bind fun c12 =>
 (fromCells false c12).bind fun v13 =>
 (aSliceSl 3 v13 none (some a1) none).bind fun v14 =>
 (aAppend 3 32 [.int .i64 0, .int .i64 0, .str []] false (.slice h.next 0 0 0 3 true) v14 (h.alloc c9)).bind fun r15 =>
 (aNilchk a0).bind fun v16 =>
 (aFaddr 1 v16).bind fun v17 =>
 (aLoad r15.2 1 v17).bind fun c18 =>
 (fromCells false c18).bind fun v19 =>
 (aBin .add .plain a1 (.int .i64 1)).bind fun v20 =>
 (aSliceSl 3 v19 (some v20) none none).bind fun v21 =>
 (aAppend 3 32 [.int .i64 0, .int .i64 0, .str []] false r15.1 v21 r15.2).bind fun r22 =>
 (aNilchk a0).bind fun v23 =>
 (aFaddr 1 v23).bind fun v24 =>
 (aCells 1 r22.1).bind fun c25 =>
 (aStore r22.2 v24 c25).bind fun h26 =>
 bif checkPairs [(12, logRd v17 1), (8, some (.ef [(5, (splice [.int .i64 0, .int .i64 0, .str []] (0) c8)), (4, [.int .i64 0, .int .i64 0, .str []])] (h.alloc c9) [(5, (splice [.int .i64 0, .int .i64 0, .str []] (0) c8)), (4, [.int .i64 0, .int .i64 0, .str []])] r15.2)), (5, logRd v11 1), (1, some (.al h.next))] [(5, 1), (12, 1), (12, 8)] then (rdL (splice [.int .i64 0, .int .i64 0, .str []] (0) c8) 0 3).bind fun c27 =>
 (fromCells true c27).bind fun v28 =>
 (aCells 3 v28).bind fun c29 =>
 bif Nat.ble ((0) + 3) (List.length (α := AVal) [.int .i64 0, .int .i64 0, .str []]) then (((rdL (splice [.int .i64 0, .int .i64 0, .str []] (0) c29) (0) 3).bind fun cs => fromCells true cs).bind fun v => (some []).bind fun vs => some (v :: vs)).bind fun vs => some (0, [oneOr vs], h26) else none else none else none
theorem run31 (call : Go.Fw.Call) (a0 a1 : AVal) (h : Heap) : runFn call (.code A31) [a0, a1] h = (S31 call a0 a1 h).bind ansOf := by kernel_rfl

/-- (*frankpledge/frankpledgeref8.Net).in -/
noncomputable def A32 : AFunc := ⟨2, (.seq (.region [.op 0 (.mov 4 (.const (.bool false)))] [])
 (.seq (.region [.op 0 (.mov 5 (.tmp 1)),
 .op 1 (.bin 6 .geq .plain (.tmp 5) (.const (.int .i64 0))),
 .op 2 (.mov 7 (.tmp 6)),
 .guard 7 true [.op 3 (.mov 8 (.tmp 1)),
 .op 4 (.mov 9 (.tmp 0)),
 .op 5 (.nilchk 10 (.tmp 9)),
 .op 6 (.faddr 11 0 (.tmp 10)),
 .op 7 (.load 12 false 1 (.tmp 11)),
 .op 8 (.bin 13 .lss .plain (.tmp 8) (.tmp 12))] [] [13],
 .op 9 (.pick 14 (.tmp 7) (.tmp 13) (.const (.bool false))),
 .op 10 (.mov 4 (.tmp 14))] [])
 .ret)),
 [.tmp 4]⟩
theorem ok32 : funcOk Try.prog (drawOk Try.prog) Try.f32 A32 = true := by kernel_rfl
noncomputable def S32 (call : Go.Fw.Call) (a0 a1 : AVal) (h : Heap) : Option J :=
 (aBin .geq .plain a1 (.int .i64 0)).bind fun v1 =>
 (guardV v1 true
 ((aNilchk a0).bind fun v2 =>
 (aFaddr 0 v2).bind fun v3 =>
 (aLoad h 1 v3).bind fun c4 =>
 (fromCells false c4).bind fun v5 =>
 (aBin .lss .plain a1 v5).bind fun v6 =>
 some (0, [v6], h))
 (some (0, [skipV], h))).bind fun g7 =>
 (aPick v1 (g7.2.1.getD 0 .undef) (.bool false)).bind fun v8 =>
 some (0, [v8], g7.2.2)
theorem run32 (call : Go.Fw.Call) (a0 a1 : AVal) (h : Heap) : runFn call (.code A32) [a0, a1] h = (S32 call a0 a1 h).bind ansOf := by kernel_rfl

/-- (*frankpledge/net.Net).All -/
noncomputable def A33 : AFunc := ⟨1, (.seq (.region [.op 0 (.mov 2 (.const (.nilSlice)))] [])
 (.seq (.region [.op 0 (.mov 3 (.const (.nilSlice)))] [])
 (.seq (.seq (.region [.op 0 (.mov 6 (.tmp 0)),
 .op 1 (.nilchk 7 (.tmp 6)),
 .op 2 (.faddr 8 1 (.tmp 7)),
 .op 3 (.load 9 false 1 (.tmp 8)),
 .op 4 (.len 10 false (.tmp 9)),
 .op 5 (.mov 11 (.const (.int .i64 0)))] [])
 (.block 0 (.loop ⟨[3, 9, 10, 11], []⟩ [((.exit 0), ⟨[3], []⟩)]
 (.seq (.region [.op 0 (.bin 12 .lss .plain (.tmp 11) (.tmp 10))] [])
 (.seq (.cond (.tmp 12)
 .skip
 (.exit 0))
 (.seq (.block 1 (.seq (.region [.op 0 (.iaddr 13 none 3 (.tmp 9) (.tmp 11)),
 .op 1 (.load 14 true 3 (.tmp 13)),
 .op 2 (.alloc 5 true [.int .i64 0, .int .i64 0, .nilSlice]),
 .op 3 (.store true 3 (.tmp 5) (.tmp 14))] [])
 (.region [.op 0 (.mov 15 (.tmp 3)),
 .op 1 (.load 16 true 3 (.tmp 5)),
 .op 2 (.call 17 17 [.tmp 16]),
 .op 3 (.buildSl 18 [.int .i64 0, .int .i64 0, .nilSlice] 3 1 [(0, .tmp 17)]),
 .op 4 (.append 19 3 40 [.int .i64 0, .int .i64 0, .nilSlice] false (.tmp 15) (.tmp 18)),
 .op 5 (.mov 3 (.tmp 19))] [])))
 (.region [.op 0 (.bin 20 .add .plain (.tmp 11) (.const (.int .i64 1))),
 .op 1 (.mov 11 (.tmp 20))] [])))))))
 (.seq (.region [.op 0 (.mov 21 (.tmp 3)),
 .op 1 (.mov 2 (.tmp 21))] [])
 .ret)))),
 [.tmp 2]⟩
theorem ok33 : funcOk Try.prog (drawOk Try.prog) Try.f33 A33 = true := by kernel_rfl
/-- xs: t3, t9, t10, t11 -/
noncomputable def L33_0 (call : Go.Fw.Call) (xs : List AVal) (h : Heap) : Option J :=
 (aBin .lss .plain (xs.getD 3 .undef) (xs.getD 2 .undef)).bind fun v6 =>
 condV v6
 ((aIaddr 3 (xs.getD 1 .undef) (xs.getD 3 .undef)).bind fun v7 =>
 (aLoad h 3 v7).bind fun c8 =>
 (fromCells true c8).bind fun v9 =>
 (aCells 3 v9).bind fun c10 =>
 bif Nat.ble ((0) + 3) (List.length (α := AVal) [.int .i64 0, .int .i64 0, .nilSlice]) then (rdL (splice [.int .i64 0, .int .i64 0, .nilSlice] (0) c10) 0 3).bind fun c11 =>
 (fromCells true c11).bind fun v12 =>
 (call 17 [v12] h).bind fun r13 =>
 (aFill (reps [.int .i64 0, .int .i64 0, .nilSlice] 1) [(0, 3, r13.1)]).bind fun c14 =>
 (aAppend 3 40 [.int .i64 0, .int .i64 0, .nilSlice] false (xs.getD 0 .undef) (.slice r13.2.next 0 1 1 3 true) (r13.2.alloc c14)).bind fun r15 =>
 (aBin .add .plain (xs.getD 3 .undef) (.int .i64 1)).bind fun v16 =>
 some (0, [r15.1, (xs.getD 1 .undef), (xs.getD 2 .undef), v16], r15.2) else none)
 (some (1, [(xs.getD 0 .undef)], h))
noncomputable def S33 (call : Go.Fw.Call) (a0 : AVal) (h : Heap) : Option J :=
 (aNilchk a0).bind fun v1 =>
 (aFaddr 1 v1).bind fun v2 =>
 (aLoad h 1 v2).bind fun c3 =>
 (fromCells false c3).bind fun v4 =>
 (aLen false v4).bind fun v5 =>
 (loop (L33_0 call) [(.nilSlice), v4, v5, (.int .i64 0)] h).bind fun x17 =>
 bif Nat.beq x17.1 1 then some (0, [(x17.2.1.getD 0 .undef)], x17.2.2) else
 none
theorem run33 (call : Go.Fw.Call) (a0 : AVal) (h : Heap) : runFn call (.code A33) [a0] h = (S33 call a0 h).bind ansOf := by kernel_rfl

noncomputable def tbl (f : Nat) : Option AFn :=
 match f with
 | 3 => some (.code A3)
 | 4 => some (.code A4)
 | 5 => some (.code A5)
 | 6 => some (.code A6)
 | 7 => some (.code A7)
 | 8 => some (.code A8)
 | 9 => some (.code A9)
 | 10 => some (.code A10)
 | 11 => some (.code A11)
 | 12 => some (.code A12)
 | 13 => some (.code A13)
 | 14 => some (.code A14)
 | 15 => some (.code A15)
 | 16 => some (.code A16)
 | 17 => some (.code A17)
 | 18 => some (.code A18)
 | 19 => some (.code A19)
 | 20 => some (.code A20)
 | 21 => some (.code A21)
 | 22 => some (.code A22)
 | 23 => some (.code A23)
 | 24 => some (.code A24)
 | 25 => some (.code A25)
 | 26 => some (.code A26)
 | 27 => some (.code A27)
 | 28 => some (.code A28)
 | 29 => some (.code A29)
 | 30 => some (.code A30)
 | 31 => some (.code A31)
 | 32 => some (.code A32)
 | 33 => some (.code A33)
 | _ => none
theorem c3 (a0 : AVal) (h : Heap) : E tbl 3 [a0] h = (S3 (E tbl) a0 h).bind ansOf := (E_eq tbl 3 [a0] h).trans (run3 (E tbl) a0 h)
theorem c4 (a0 a1 a2 : AVal) (h : Heap) : E tbl 4 [a0, a1, a2] h = (S4 (E tbl) a0 a1 a2 h).bind ansOf := (E_eq tbl 4 [a0, a1, a2] h).trans (run4 (E tbl) a0 a1 a2 h)
theorem c5 (h : Heap) : E tbl 5 [] h = (S5 (E tbl)  h).bind ansOf := (E_eq tbl 5 [] h).trans (run5 (E tbl)  h)
theorem c6 (a0 : AVal) (h : Heap) : E tbl 6 [a0] h = (S6 (E tbl) a0 h).bind ansOf := (E_eq tbl 6 [a0] h).trans (run6 (E tbl) a0 h)
theorem c7 (a0 a1 : AVal) (h : Heap) : E tbl 7 [a0, a1] h = (S7 (E tbl) a0 a1 h).bind ansOf := (E_eq tbl 7 [a0, a1] h).trans (run7 (E tbl) a0 a1 h)
theorem c8 (a0 a1 : AVal) (h : Heap) : E tbl 8 [a0, a1] h = (S8 (E tbl) a0 a1 h).bind ansOf := (E_eq tbl 8 [a0, a1] h).trans (run8 (E tbl) a0 a1 h)
theorem c9 (a0 : AVal) (h : Heap) : E tbl 9 [a0] h = (S9 (E tbl) a0 h).bind ansOf := (E_eq tbl 9 [a0] h).trans (run9 (E tbl) a0 h)
theorem c10 (h : Heap) : E tbl 10 [] h = (S10 (E tbl)  h).bind ansOf := (E_eq tbl 10 [] h).trans (run10 (E tbl)  h)
theorem c11 (a0 a1 a2 : AVal) (h : Heap) : E tbl 11 [a0, a1, a2] h = (S11 (E tbl) a0 a1 a2 h).bind ansOf := (E_eq tbl 11 [a0, a1, a2] h).trans (run11 (E tbl) a0 a1 a2 h)
theorem c12 (a0 a1 a2 : AVal) (h : Heap) : E tbl 12 [a0, a1, a2] h = (S12 (E tbl) a0 a1 a2 h).bind ansOf := (E_eq tbl 12 [a0, a1, a2] h).trans (run12 (E tbl) a0 a1 a2 h)
theorem c13 (a0 a1 a2 : AVal) (h : Heap) : E tbl 13 [a0, a1, a2] h = (S13 (E tbl) a0 a1 a2 h).bind ansOf := (E_eq tbl 13 [a0, a1, a2] h).trans (run13 (E tbl) a0 a1 a2 h)
theorem c14 (a0 a1 a2 : AVal) (h : Heap) : E tbl 14 [a0, a1, a2] h = (S14 (E tbl) a0 a1 a2 h).bind ansOf := (E_eq tbl 14 [a0, a1, a2] h).trans (run14 (E tbl) a0 a1 a2 h)
theorem c15 (a0 a1 : AVal) (h : Heap) : E tbl 15 [a0, a1] h = (S15 (E tbl) a0 a1 h).bind ansOf := (E_eq tbl 15 [a0, a1] h).trans (run15 (E tbl) a0 a1 h)
theorem c16 (a0 a1 : AVal) (h : Heap) : E tbl 16 [a0, a1] h = (S16 (E tbl) a0 a1 h).bind ansOf := (E_eq tbl 16 [a0, a1] h).trans (run16 (E tbl) a0 a1 h)
theorem c17 (a0 : AVal) (h : Heap) : E tbl 17 [a0] h = (S17 (E tbl) a0 h).bind ansOf := (E_eq tbl 17 [a0] h).trans (run17 (E tbl) a0 h)
theorem c18 (a0 a1 : AVal) (h : Heap) : E tbl 18 [a0, a1] h = (S18 (E tbl) a0 a1 h).bind ansOf := (E_eq tbl 18 [a0, a1] h).trans (run18 (E tbl) a0 a1 h)
theorem c19 (a0 a1 a2 : AVal) (h : Heap) : E tbl 19 [a0, a1, a2] h = (S19 (E tbl) a0 a1 a2 h).bind ansOf := (E_eq tbl 19 [a0, a1, a2] h).trans (run19 (E tbl) a0 a1 a2 h)
theorem c20 (a0 a1 : AVal) (h : Heap) : E tbl 20 [a0, a1] h = (S20 (E tbl) a0 a1 h).bind ansOf := (E_eq tbl 20 [a0, a1] h).trans (run20 (E tbl) a0 a1 h)
theorem c21 (a0 a1 : AVal) (h : Heap) : E tbl 21 [a0, a1] h = (S21 (E tbl) a0 a1 h).bind ansOf := (E_eq tbl 21 [a0, a1] h).trans (run21 (E tbl) a0 a1 h)
theorem c22 (a0 a1 a2 a3 : AVal) (h : Heap) : E tbl 22 [a0, a1, a2, a3] h = (S22 (E tbl) a0 a1 a2 a3 h).bind ansOf := (E_eq tbl 22 [a0, a1, a2, a3] h).trans (run22 (E tbl) a0 a1 a2 a3 h)
theorem c23 (a0 a1 : AVal) (h : Heap) : E tbl 23 [a0, a1] h = (S23 (E tbl) a0 a1 h).bind ansOf := (E_eq tbl 23 [a0, a1] h).trans (run23 (E tbl) a0 a1 h)
theorem c24 (a0 a1 : AVal) (h : Heap) : E tbl 24 [a0, a1] h = (S24 (E tbl) a0 a1 h).bind ansOf := (E_eq tbl 24 [a0, a1] h).trans (run24 (E tbl) a0 a1 h)
theorem c25 (a0 a1 : AVal) (h : Heap) : E tbl 25 [a0, a1] h = (S25 (E tbl) a0 a1 h).bind ansOf := (E_eq tbl 25 [a0, a1] h).trans (run25 (E tbl) a0 a1 h)
theorem c26 (a0 a1 a2 a3 : AVal) (h : Heap) : E tbl 26 [a0, a1, a2, a3] h = (S26 (E tbl) a0 a1 a2 a3 h).bind ansOf := (E_eq tbl 26 [a0, a1, a2, a3] h).trans (run26 (E tbl) a0 a1 a2 a3 h)
theorem c27 (a0 a1 : AVal) (h : Heap) : E tbl 27 [a0, a1] h = (S27 (E tbl) a0 a1 h).bind ansOf := (E_eq tbl 27 [a0, a1] h).trans (run27 (E tbl) a0 a1 h)
theorem c28 (a0 a1 : AVal) (h : Heap) : E tbl 28 [a0, a1] h = (S28 (E tbl) a0 a1 h).bind ansOf := (E_eq tbl 28 [a0, a1] h).trans (run28 (E tbl) a0 a1 h)
theorem c29 (a0 : AVal) (h : Heap) : E tbl 29 [a0] h = (S29 (E tbl) a0 h).bind ansOf := (E_eq tbl 29 [a0] h).trans (run29 (E tbl) a0 h)
theorem c30 (a0 a1 a2 : AVal) (h : Heap) : E tbl 30 [a0, a1, a2] h = (S30 (E tbl) a0 a1 a2 h).bind ansOf := (E_eq tbl 30 [a0, a1, a2] h).trans (run30 (E tbl) a0 a1 a2 h)
theorem c31 (a0 a1 : AVal) (h : Heap) : E tbl 31 [a0, a1] h = (S31 (E tbl) a0 a1 h).bind ansOf := (E_eq tbl 31 [a0, a1] h).trans (run31 (E tbl) a0 a1 h)
theorem c32 (a0 a1 : AVal) (h : Heap) : E tbl 32 [a0, a1] h = (S32 (E tbl) a0 a1 h).bind ansOf := (E_eq tbl 32 [a0, a1] h).trans (run32 (E tbl) a0 a1 h)
theorem c33 (a0 : AVal) (h : Heap) : E tbl 33 [a0] h = (S33 (E tbl) a0 h).bind ansOf := (E_eq tbl 33 [a0] h).trans (run33 (E tbl) a0 h)
theorem tbl_ok : ∀ f a, tbl f = some a → FnOk Try.prog (drawOk Try.prog) f a := by
  intro f a h
  unfold tbl at h
  split at h
  · cases h; exact ⟨_, Try.func3, by decide +kernel, ok3⟩
  · cases h; exact ⟨_, Try.func4, by decide +kernel, ok4⟩
  · cases h; exact ⟨_, Try.func5, by decide +kernel, ok5⟩
  · cases h; exact ⟨_, Try.func6, by decide +kernel, ok6⟩
  · cases h; exact ⟨_, Try.func7, by decide +kernel, ok7⟩
  · cases h; exact ⟨_, Try.func8, by decide +kernel, ok8⟩
  · cases h; exact ⟨_, Try.func9, by decide +kernel, ok9⟩
  · cases h; exact ⟨_, Try.func10, by decide +kernel, ok10⟩
  · cases h; exact ⟨_, Try.func11, by decide +kernel, ok11⟩
  · cases h; exact ⟨_, Try.func12, by decide +kernel, ok12⟩
  · cases h; exact ⟨_, Try.func13, by decide +kernel, ok13⟩
  · cases h; exact ⟨_, Try.func14, by decide +kernel, ok14⟩
  · cases h; exact ⟨_, Try.func15, by decide +kernel, ok15⟩
  · cases h; exact ⟨_, Try.func16, by decide +kernel, ok16⟩
  · cases h; exact ⟨_, Try.func17, by decide +kernel, ok17⟩
  · cases h; exact ⟨_, Try.func18, by decide +kernel, ok18⟩
  · cases h; exact ⟨_, Try.func19, by decide +kernel, ok19⟩
  · cases h; exact ⟨_, Try.func20, by decide +kernel, ok20⟩
  · cases h; exact ⟨_, Try.func21, by decide +kernel, ok21⟩
  · cases h; exact ⟨_, Try.func22, by decide +kernel, ok22⟩
  · cases h; exact ⟨_, Try.func23, by decide +kernel, ok23⟩
  · cases h; exact ⟨_, Try.func24, by decide +kernel, ok24⟩
  · cases h; exact ⟨_, Try.func25, by decide +kernel, ok25⟩
  · cases h; exact ⟨_, Try.func26, by decide +kernel, ok26⟩
  · cases h; exact ⟨_, Try.func27, by decide +kernel, ok27⟩
  · cases h; exact ⟨_, Try.func28, by decide +kernel, ok28⟩
  · cases h; exact ⟨_, Try.func29, by decide +kernel, ok29⟩
  · cases h; exact ⟨_, Try.func30, by decide +kernel, ok30⟩
  · cases h; exact ⟨_, Try.func31, by decide +kernel, ok31⟩
  · cases h; exact ⟨_, Try.func32, by decide +kernel, ok32⟩
  · cases h; exact ⟨_, Try.func33, by decide +kernel, ok33⟩
  · cases h
theorem prog_ok : CallOk Try.prog (E tbl) := E_ok tbl_ok
end Go.Proofs.Ytfdhljghamkgjaa.Code
