import Derived.Test.YtkmegdliingbjaaProg
import Derived.Test.YtkmegdliingbjaaFwZc
import Derived.KernelRfl
namespace Go.Proofs.Ytkmegdliingbjaa.Code
open Go.Fw
/-- frankpledge/frankpledgelaw9.LeaseLate -/
noncomputable def A3 : AFunc := ⟨3, (.seq (.region [.op 0 (.mov 6 (.const (.bool false)))] [])
 (.seq (.region [.op 0 (.mov 14 (.tmp 0)),
 .op 1 (.build 15 [.nilSlice, .int .i64 0] [(0, 1, .tmp 14)]),
 .op 2 (.box 16 false (.tmp 15)),
 .op 3 (.mov 7 (.tmp 16))] [])
 (.seq (.region [.op 0 (.mov 17 (.tmp 7)),
 .op 1 (.call 18 8 [.tmp 17]),
 .op 2 (.mov 19 (.tmp 7)),
 .op 3 (.call 20 9 [.tmp 19, .const (.int .i64 50)]),
 .op 4 (.build 21 [.str [], .str [], .int .i64 0, .int .i64 0, .int .i64 0, .int .i64 0, .int .i64 0, .int .i64 0, .bool false, .int .i64 0] [(0, 9, .tmp 18), (9, 1, .tmp 20)]),
 .op 5 (.alloc 8 true [.str [], .str [], .int .i64 0, .int .i64 0, .int .i64 0, .int .i64 0, .int .i64 0, .int .i64 0, .bool false, .int .i64 0]),
 .op 6 (.store true 10 (.tmp 8) (.tmp 21))] [])
 (.seq (.region [.op 0 (.faddr 22 0 (.tmp 8)),
 .op 1 (.faddr 23 8 (.tmp 22)),
 .op 2 (.store false 1 (.tmp 23) (.const (.bool false)))] [])
 (.seq (.region [.op 0 (.mov 24 (.tmp 1)),
 .op 1 (.bin 25 .and .plain (.tmp 24) (.const (.int .i64 65535))),
 .op 2 (.mov 26 (.tmp 2)),
 .op 3 (.bin 27 .and .plain (.tmp 26) (.const (.int .i64 255))),
 .op 4 (.mov 9 (.tmp 25)),
 .op 5 (.mov 10 (.tmp 27))] [])
 (.seq (.region [.op 0 (.load 29 true 10 (.tmp 8)),
 .op 1 (.mov 30 (.tmp 9)),
 .op 2 (.call 31 10 [.tmp 29, .tmp 30]),
 .op 3 (.mov 28 (.tmp 31)),
 .op 4 (.extract 32 (.tmp 28) 0),
 .op 5 (.extract 33 (.tmp 28) 1),
 .op 6 (.alloc 11 true [.str [], .str [], .int .i64 0, .int .i64 0, .int .i64 0, .int .i64 0, .int .i64 0, .int .i64 0, .bool false, .int .i64 0]),
 .op 7 (.store true 10 (.tmp 11) (.tmp 32)),
 .op 8 (.mov 12 (.tmp 33))] [])
 (.seq (.region [.op 0 (.mov 34 (.tmp 9)),
 .op 1 (.faddr 35 9 (.tmp 8)),
 .op 2 (.load 36 false 1 (.tmp 35)),
 .op 3 (.minmax 37 true [.tmp 34, .tmp 36]),
 .op 4 (.mov 13 (.tmp 37))] [])
 (.seq (.region [.op 0 (.mov 38 (.tmp 12)),
 .op 1 (.mov 39 (.tmp 38)),
 .guard 39 true [.op 2 (.faddr 40 9 (.tmp 11)),
 .op 3 (.load 41 false 1 (.tmp 40)),
 .op 4 (.mov 42 (.tmp 13)),
 .op 5 (.bin 43 .eql .plain (.tmp 41) (.tmp 42))] [] [43],
 .op 6 (.pick 44 (.tmp 39) (.tmp 43) (.const (.bool false))),
 .op 7 (.mov 45 (.tmp 44)),
 .guard 45 true [.op 8 (.load 46 true 10 (.tmp 11)),
 .op 9 (.mov 47 (.tmp 13)),
 .op 10 (.mov 48 (.tmp 10)),
 .op 11 (.bin 49 .add .plain (.tmp 47) (.tmp 48)),
 .op 12 (.call 50 11 [.tmp 46, .tmp 49]),
 .op 13 (.mov 51 (.tmp 10)),
 .op 14 (.faddr 52 0 (.tmp 8)),
 .op 15 (.faddr 53 4 (.tmp 52)),
 .op 16 (.load 54 false 1 (.tmp 53)),
 .op 17 (.bin 55 .sub .plain (.tmp 51) (.tmp 54)),
 .op 18 (.minmax 56 true [.tmp 55, .const (.int .i64 0)]),
 .op 19 (.bin 57 .eql .plain (.tmp 50) (.tmp 56))] [(16, 12)] [57],
 .op 20 (.pick 58 (.tmp 45) (.tmp 57) (.const (.bool false))),
 .op 21 (.mov 59 (.tmp 58)),
 .guard 59 true [.op 22 (.load 60 true 10 (.tmp 11)),
 .op 23 (.mov 61 (.tmp 13)),
 .op 24 (.faddr 62 0 (.tmp 8)),
 .op 25 (.faddr 63 4 (.tmp 62)),
 .op 26 (.load 64 false 1 (.tmp 63)),
 .op 27 (.bin 65 .add .plain (.tmp 61) (.tmp 64)),
 .op 28 (.mov 66 (.tmp 10)),
 .op 29 (.bin 67 .add .plain (.tmp 65) (.tmp 66)),
 .op 30 (.call 68 11 [.tmp 60, .tmp 67]),
 .op 31 (.mov 69 (.tmp 10)),
 .op 32 (.bin 70 .eql .plain (.tmp 68) (.tmp 69))] [] [70],
 .op 33 (.pick 71 (.tmp 59) (.tmp 70) (.const (.bool false))),
 .op 34 (.mov 72 (.tmp 71)),
 .guard 72 true [.op 35 (.faddr 73 0 (.tmp 11)),
 .op 36 (.load 74 true 9 (.tmp 73)),
 .op 37 (.faddr 75 0 (.tmp 8)),
 .op 38 (.load 76 true 9 (.tmp 75)),
 .op 39 (.bin 77 .eql (.cells [2, 2, 1, 1, 1, 1, 1, 1, 0]) (.tmp 74) (.tmp 76))] [] [77],
 .op 40 (.pick 78 (.tmp 72) (.tmp 77) (.const (.bool false))),
 .op 41 (.mov 79 (.tmp 78)),
 .guard 79 true [.op 42 (.call 80 12 [])] [] [80],
 .op 43 (.pick 81 (.tmp 79) (.tmp 80) (.const (.bool false))),
 .op 44 (.mov 6 (.tmp 81))] [])
 .ret)))))))),
 [.tmp 6]⟩
theorem ok3 : funcOk Try.prog (drawOk Try.prog) Try.f3 A3 = true := by kernel_rfl
noncomputable def S3 (call : Go.Fw.Call) (a0 a1 a2 : AVal) (h : Heap) : Option J :=
 (aFill [.nilSlice, .int .i64 0] [(0, 1, a0)]).bind fun c1 =>
 (AVal.cells? (.agg c1)).bind fun c2 =>
 (call 8 [(.ptr h.next 0)] (h.alloc c2)).bind fun r4 =>
 (call 9 [(.ptr h.next 0), (.int .i64 50)] r4.2).bind fun r5 =>
 (aFill [.str [], .str [], .int .i64 0, .int .i64 0, .int .i64 0, .int .i64 0, .int .i64 0, .int .i64 0, .bool false, .int .i64 0] [(0, 9, r4.1), (9, 1, r5.1)]).bind fun c6 =>
 (aCells 10 (.agg c6)).bind fun c7 =>
 bif Nat.ble ((0) + 10) (List.length (α := AVal) [.str [], .str [], .int .i64 0, .int .i64 0, .int .i64 0, .int .i64 0, .int .i64 0, .int .i64 0, .bool false, .int .i64 0]) then (aCells 1 (.bool false)).bind fun c8 =>
 bif Nat.ble ((8) + 1) (List.length (α := AVal) (splice [.str [], .str [], .int .i64 0, .int .i64 0, .int .i64 0, .int .i64 0, .int .i64 0, .int .i64 0, .bool false, .int .i64 0] (0) c7)) then (aBin .and .plain a1 (.int .i64 65535)).bind fun v9 =>
 (aBin .and .plain a2 (.int .i64 255)).bind fun v10 =>
 (rdL (splice (splice [.str [], .str [], .int .i64 0, .int .i64 0, .int .i64 0, .int .i64 0, .int .i64 0, .int .i64 0, .bool false, .int .i64 0] (0) c7) (8) c8) 0 10).bind fun c11 =>
 (fromCells true c11).bind fun v12 =>
 (call 10 [v12, v9] r5.2).bind fun r13 =>
 (aExtract 0 r13.1).bind fun v14 =>
 (aExtract 1 r13.1).bind fun v15 =>
 (aCells 10 v14).bind fun c16 =>
 bif Nat.ble ((0) + 10) (List.length (α := AVal) [.str [], .str [], .int .i64 0, .int .i64 0, .int .i64 0, .int .i64 0, .int .i64 0, .int .i64 0, .bool false, .int .i64 0]) then (rdL (splice (splice [.str [], .str [], .int .i64 0, .int .i64 0, .int .i64 0, .int .i64 0, .int .i64 0, .int .i64 0, .bool false, .int .i64 0] (0) c7) (8) c8) 9 1).bind fun c17 =>
 (fromCells false c17).bind fun v18 =>
 (aMinMaxL true [v9, v18]).bind fun v19 =>
 (guardV v15 true
 ((rdL (splice [.str [], .str [], .int .i64 0, .int .i64 0, .int .i64 0, .int .i64 0, .int .i64 0, .int .i64 0, .bool false, .int .i64 0] (0) c16) 9 1).bind fun c20 =>
 (fromCells false c20).bind fun v21 =>
 (aBin .eql .plain v21 v19).bind fun v22 =>
 some (0, [v22], r13.2))
 (some (0, [skipV], r13.2))).bind fun g23 =>
 (aPick v15 (g23.2.1.getD 0 .undef) (.bool false)).bind fun v24 =>
 (guardV v24 true
 ((rdL (splice [.str [], .str [], .int .i64 0, .int .i64 0, .int .i64 0, .int .i64 0, .int .i64 0, .int .i64 0, .bool false, .int .i64 0] (0) c16) 0 10).bind fun c25 =>
 (fromCells true c25).bind fun v26 =>
 (aBin .add .plain v19 v10).bind fun v27 =>
 (call 11 [v26, v27] g23.2.2).bind fun r28 =>
 (rdL (splice (splice [.str [], .str [], .int .i64 0, .int .i64 0, .int .i64 0, .int .i64 0, .int .i64 0, .int .i64 0, .bool false, .int .i64 0] (0) c7) (8) c8) 4 1).bind fun c29 =>
 (fromCells false c29).bind fun v30 =>
 (aBin .sub .plain v10 v30).bind fun v31 =>
 (aMinMaxL true [v31, (.int .i64 0)]).bind fun v32 =>
 (aBin .eql .plain r28.1 v32).bind fun v33 =>
 bif checkPairs [(16, some (.lrd 8 (4) 1)), (12, some (.ef [(11, (splice [.str [], .str [], .int .i64 0, .int .i64 0, .int .i64 0, .int .i64 0, .int .i64 0, .int .i64 0, .bool false, .int .i64 0] (0) c16)), (8, (splice (splice [.str [], .str [], .int .i64 0, .int .i64 0, .int .i64 0, .int .i64 0, .int .i64 0, .int .i64 0, .bool false, .int .i64 0] (0) c7) (8) c8))] g23.2.2 [(11, (splice [.str [], .str [], .int .i64 0, .int .i64 0, .int .i64 0, .int .i64 0, .int .i64 0, .int .i64 0, .bool false, .int .i64 0] (0) c16)), (8, (splice (splice [.str [], .str [], .int .i64 0, .int .i64 0, .int .i64 0, .int .i64 0, .int .i64 0, .int .i64 0, .bool false, .int .i64 0] (0) c7) (8) c8))] r28.2))] [(16, 12)] then some (0, [v33], r28.2) else none)
 (some (0, [skipV], g23.2.2))).bind fun g34 =>
 (aPick v24 (g34.2.1.getD 0 .undef) (.bool false)).bind fun v35 =>
 (guardV v35 true
 ((rdL (splice [.str [], .str [], .int .i64 0, .int .i64 0, .int .i64 0, .int .i64 0, .int .i64 0, .int .i64 0, .bool false, .int .i64 0] (0) c16) 0 10).bind fun c36 =>
 (fromCells true c36).bind fun v37 =>
 (rdL (splice (splice [.str [], .str [], .int .i64 0, .int .i64 0, .int .i64 0, .int .i64 0, .int .i64 0, .int .i64 0, .bool false, .int .i64 0] (0) c7) (8) c8) 4 1).bind fun c38 =>
 (fromCells false c38).bind fun v39 =>
 (aBin .add .plain v19 v39).bind fun v40 =>
 (aBin .add .plain v40 v10).bind fun v41 =>
 (call 11 [v37, v41] g34.2.2).bind fun r42 =>
 (aBin .eql .plain r42.1 v10).bind fun v43 =>
 some (0, [v43], r42.2))
 (some (0, [skipV], g34.2.2))).bind fun g44 =>
 (aPick v35 (g44.2.1.getD 0 .undef) (.bool false)).bind fun v45 =>
 (guardV v45 true
 ((rdL (splice [.str [], .str [], .int .i64 0, .int .i64 0, .int .i64 0, .int .i64 0, .int .i64 0, .int .i64 0, .bool false, .int .i64 0] (0) c16) 0 9).bind fun c46 =>
 (fromCells true c46).bind fun v47 =>
 (rdL (splice (splice [.str [], .str [], .int .i64 0, .int .i64 0, .int .i64 0, .int .i64 0, .int .i64 0, .int .i64 0, .bool false, .int .i64 0] (0) c7) (8) c8) 0 9).bind fun c48 =>
 (fromCells true c48).bind fun v49 =>
 (aBin .eql (.cells [2, 2, 1, 1, 1, 1, 1, 1, 0]) v47 v49).bind fun v50 =>
 some (0, [v50], g44.2.2))
 (some (0, [skipV], g44.2.2))).bind fun g51 =>
 (aPick v45 (g51.2.1.getD 0 .undef) (.bool false)).bind fun v52 =>
 (guardV v52 true
 ((call 12 [] g51.2.2).bind fun r53 =>
 some (0, [r53.1], r53.2))
 (some (0, [skipV], g51.2.2))).bind fun g54 =>
 (aPick v52 (g54.2.1.getD 0 .undef) (.bool false)).bind fun v55 =>
 some (0, [v55], g54.2.2) else none else none else none
theorem run3 (call : Go.Fw.Call) (a0 a1 a2 : AVal) (h : Heap) : runFn call (.code A3) [a0, a1, a2] h = (S3 call a0 a1 a2 h).bind ansOf := by kernel_rfl

/-- frankpledge/frankpledgelaw9.LeaseNumbers -/
noncomputable def A4 : AFunc := ⟨0, (.seq (.region [.op 0 (.mov 0 (.const (.bool false)))] [])
 (.seq (.seq (.region [.op 0 (.buildSl 9 [.int .i64 0] 1 7 [(0, .const (.int .i64 (-9223372036854775808))), (1, .const (.int .i64 (-5))), (2, .const (.int .i64 0)), (3, .const (.int .i64 3)), (4, .const (.int .i64 1099511627776)), (5, .const (.int .i64 4611686018427387904)), (6, .const (.int .i64 9223372036854775807))]),
 .op 1 (.len 10 false (.tmp 9)),
 .op 2 (.mov 11 (.const (.int .i64 0)))] [])
 (.block 0 (.loop ⟨[9, 10, 11], []⟩ [((.exit 0), ⟨[], []⟩), (.ret, ⟨[0], []⟩)]
 (.seq (.region [.op 0 (.bin 12 .lss .plain (.tmp 11) (.tmp 10))] [])
 (.seq (.cond (.tmp 12)
 .skip
 (.exit 0))
 (.seq (.block 1 (.seq (.region [.op 0 (.iaddr 13 none 1 (.tmp 9) (.tmp 11)),
 .op 1 (.load 14 false 1 (.tmp 13)),
 .op 2 (.mov 2 (.tmp 14))] [])
 (.seq (.region [.op 0 (.buildSl 15 [.int .i64 0] 1 6 [(0, .const (.int .i64 1)), (1, .const (.int .i64 5)), (2, .const (.int .i64 1048576)), (3, .const (.int .i64 4611686018427387904)), (4, .const (.int .i64 (-1))), (5, .const (.int .i64 9223372036854775807))]),
 .op 1 (.len 16 false (.tmp 15)),
 .op 2 (.mov 17 (.const (.int .i64 0)))] [])
 (.block 2 (.loop ⟨[2, 9, 10, 11, 15, 16, 17], []⟩ [((.exit 2), ⟨[9, 10, 11], []⟩), (.ret, ⟨[0], []⟩)]
 (.seq (.region [.op 0 (.bin 18 .lss .plain (.tmp 17) (.tmp 16))] [])
 (.seq (.cond (.tmp 18)
 .skip
 (.exit 2))
 (.seq (.block 3 (.seq (.region [.op 0 (.iaddr 19 none 1 (.tmp 15) (.tmp 17)),
 .op 1 (.load 20 false 1 (.tmp 19)),
 .op 2 (.mov 4 (.tmp 20))] [])
 (.seq (.region [.op 0 (.buildSl 21 [.int .i64 0] 1 7 [(0, .const (.int .i64 (-9223372036854775808))), (1, .const (.int .i64 0)), (2, .const (.int .i64 4)), (3, .const (.int .i64 8)), (4, .const (.int .i64 9)), (5, .const (.int .i64 2199023255552)), (6, .const (.int .i64 9223372036854775807))]),
 .op 1 (.len 22 false (.tmp 21)),
 .op 2 (.mov 23 (.const (.int .i64 0)))] [])
 (.block 4 (.loop ⟨[2, 4, 9, 10, 11, 15, 16, 17, 21, 22, 23], []⟩ [((.exit 4), ⟨[2, 9, 10, 11, 15, 16, 17], []⟩), (.ret, ⟨[0], []⟩)]
 (.seq (.region [.op 0 (.bin 24 .lss .plain (.tmp 23) (.tmp 22))] [])
 (.seq (.cond (.tmp 24)
 .skip
 (.exit 4))
 (.seq (.block 5 (.seq (.region [.op 0 (.iaddr 25 none 1 (.tmp 21) (.tmp 23)),
 .op 1 (.load 26 false 1 (.tmp 25)),
 .op 2 (.mov 6 (.tmp 26))] [])
 (.seq (.region [.op 0 (.mov 7 (.const (.int .i64 (-1))))] [])
 (.block 6 (.loop ⟨[2, 4, 6, 7, 9, 10, 11, 15, 16, 17, 21, 22, 23], []⟩ [((.exit 6), ⟨[2, 4, 9, 10, 11, 15, 16, 17, 21, 22, 23], []⟩), (.ret, ⟨[0], []⟩)]
 (.seq (.seq (.region [.op 0 (.mov 27 (.tmp 7)),
 .op 1 (.bin 28 .lss .plain (.tmp 27) (.const (.int .i64 5)))] [])
 (.cond (.tmp 28)
 .skip
 (.exit 6)))
 (.seq (.block 7 (.seq (.region [.op 0 (.mov 31 (.tmp 4)),
 .op 1 (.mov 32 (.tmp 7)),
 .op 2 (.bin 33 .eql .plain (.tmp 32) (.const (.int .i64 3))),
 .op 3 (.build 34 [.str [], .str [], .int .i64 0, .int .i64 0, .int .i64 0, .int .i64 0, .int .i64 0, .int .i64 0, .bool false] [(4, 1, .tmp 31), (3, 1, .const (.int .i64 2)), (2, 1, .const (.int .i64 1)), (8, 1, .tmp 33)]),
 .op 4 (.mov 35 (.tmp 2)),
 .op 5 (.build 36 [.str [], .str [], .int .i64 0, .int .i64 0, .int .i64 0, .int .i64 0, .int .i64 0, .int .i64 0, .bool false, .int .i64 0] [(0, 9, .tmp 34), (9, 1, .tmp 35)]),
 .op 6 (.alloc 8 true [.str [], .str [], .int .i64 0, .int .i64 0, .int .i64 0, .int .i64 0, .int .i64 0, .int .i64 0, .bool false, .int .i64 0]),
 .op 7 (.store true 10 (.tmp 8) (.tmp 36))] [])
 (.seq (.region [.op 0 (.load 37 true 10 (.tmp 8)),
 .op 1 (.mov 38 (.tmp 7)),
 .op 2 (.bin 39 .and .plain (.tmp 38) (.const (.int .i64 1))),
 .op 3 (.bin 40 .eql .plain (.tmp 39) (.const (.int .i64 0))),
 .op 4 (.mov 41 (.tmp 7)),
 .op 5 (.bin 42 .eql .plain (.tmp 41) (.const (.int .i64 2))),
 .op 6 (.build 43 [.str [], .str [], .int .i64 0, .int .i64 0, .int .i64 0, .int .i64 0, .int .i64 0, .int .i64 0, .bool false] [(4, 1, .const (.int .i64 7)), (3, 1, .const (.int .i64 3)), (8, 1, .tmp 42)]),
 .op 7 (.mov 44 (.tmp 7)),
 .op 8 (.mov 45 (.tmp 6)),
 .op 9 (.build 46 [.int .i64 0, .int .i64 0, .int .i64 0] [(0, 1, .tmp 45)]),
 .op 10 (.mov 47 (.tmp 6)),
 .op 11 (.call 48 13 [.tmp 37, .tmp 40, .tmp 43, .tmp 44, .tmp 46, .tmp 47]),
 .op 12 (.un 49 .not (.tmp 48))] [])
 (.cond (.tmp 49)
 (.seq (.region [.op 0 (.mov 0 (.const (.bool false)))] [])
 .ret)
 .skip))))
 (.region [.op 0 (.mov 29 (.tmp 7)),
 .op 1 (.bin 30 .add .plain (.tmp 29) (.const (.int .i64 1))),
 .op 2 (.mov 7 (.tmp 30))] []))))))))
 (.region [.op 0 (.bin 50 .add .plain (.tmp 23) (.const (.int .i64 1))),
 .op 1 (.mov 23 (.tmp 50))] [])))))))))
 (.region [.op 0 (.bin 51 .add .plain (.tmp 17) (.const (.int .i64 1))),
 .op 1 (.mov 17 (.tmp 51))] [])))))))))
 (.region [.op 0 (.bin 52 .add .plain (.tmp 11) (.const (.int .i64 1))),
 .op 1 (.mov 11 (.tmp 52))] [])))))))
 (.seq (.region [.op 0 (.call 53 14 [.const (.nilSlice), .const (.nilSlice)]),
 .op 1 (.mov 54 (.tmp 53)),
 .guard 54 true [.op 2 (.mkSlice 55 10 96 [.str [], .str [], .int .i64 0, .int .i64 0, .int .i64 0, .int .i64 0, .int .i64 0, .int .i64 0, .bool false, .int .i64 0] (.const (.int .i64 1)) (.const (.int .i64 1))),
 .op 3 (.call 56 14 [.const (.nilSlice), .tmp 55]),
 .op 4 (.un 57 .not (.tmp 56))] [] [57],
 .op 5 (.pick 58 (.tmp 54) (.tmp 57) (.const (.bool false))),
 .op 6 (.mov 59 (.tmp 58)),
 .guard 59 true [.op 7 (.call 60 12 [])] [] [60],
 .op 8 (.pick 61 (.tmp 59) (.tmp 60) (.const (.bool false))),
 .op 9 (.mov 0 (.tmp 61))] [])
 .ret))),
 [.tmp 0]⟩
theorem ok4 : funcOk Try.prog (drawOk Try.prog) Try.f4 A4 = true := by kernel_rfl
/-- xs: t2, t4, t6, t7, t9, t10, t11, t15, t16, t17, t21, t22, t23 -/
noncomputable def L4_3 (call : Go.Fw.Call) (xs : List AVal) (h : Heap) : Option J :=
 (aBin .lss .plain (xs.getD 3 .undef) (.int .i64 5)).bind fun v19 =>
 condV v19
 ((aBin .eql .plain (xs.getD 3 .undef) (.int .i64 3)).bind fun v20 =>
 (aFill [.str [], .str [], .int .i64 0, .int .i64 0, .int .i64 0, .int .i64 0, .int .i64 0, .int .i64 0, .bool false] [(4, 1, (xs.getD 1 .undef)), (3, 1, (.int .i64 2)), (2, 1, (.int .i64 1)), (8, 1, v20)]).bind fun c21 =>
 (aFill [.str [], .str [], .int .i64 0, .int .i64 0, .int .i64 0, .int .i64 0, .int .i64 0, .int .i64 0, .bool false, .int .i64 0] [(0, 9, (.agg c21)), (9, 1, (xs.getD 0 .undef))]).bind fun c22 =>
 (aCells 10 (.agg c22)).bind fun c23 =>
 bif Nat.ble ((0) + 10) (List.length (α := AVal) [.str [], .str [], .int .i64 0, .int .i64 0, .int .i64 0, .int .i64 0, .int .i64 0, .int .i64 0, .bool false, .int .i64 0]) then (rdL (splice [.str [], .str [], .int .i64 0, .int .i64 0, .int .i64 0, .int .i64 0, .int .i64 0, .int .i64 0, .bool false, .int .i64 0] (0) c23) 0 10).bind fun c24 =>
 (fromCells true c24).bind fun v25 =>
 (aBin .and .plain (xs.getD 3 .undef) (.int .i64 1)).bind fun v26 =>
 (aBin .eql .plain v26 (.int .i64 0)).bind fun v27 =>
 (aBin .eql .plain (xs.getD 3 .undef) (.int .i64 2)).bind fun v28 =>
 (aFill [.str [], .str [], .int .i64 0, .int .i64 0, .int .i64 0, .int .i64 0, .int .i64 0, .int .i64 0, .bool false] [(4, 1, (.int .i64 7)), (3, 1, (.int .i64 3)), (8, 1, v28)]).bind fun c29 =>
 (aFill [.int .i64 0, .int .i64 0, .int .i64 0] [(0, 1, (xs.getD 2 .undef))]).bind fun c30 =>
 (call 13 [v25, v27, (.agg c29), (xs.getD 3 .undef), (.agg c30), (xs.getD 2 .undef)] h).bind fun r31 =>
 (aUn .not r31.1).bind fun v32 =>
 condV v32
 (some (2, [(.bool false)], r31.2))
 ((aBin .add .plain (xs.getD 3 .undef) (.int .i64 1)).bind fun v33 =>
 some (0, [(xs.getD 0 .undef), (xs.getD 1 .undef), (xs.getD 2 .undef), v33, (xs.getD 4 .undef), (xs.getD 5 .undef), (xs.getD 6 .undef), (xs.getD 7 .undef), (xs.getD 8 .undef), (xs.getD 9 .undef), (xs.getD 10 .undef), (xs.getD 11 .undef), (xs.getD 12 .undef)], r31.2)) else none)
 (some (1, [(xs.getD 0 .undef), (xs.getD 1 .undef), (xs.getD 4 .undef), (xs.getD 5 .undef), (xs.getD 6 .undef), (xs.getD 7 .undef), (xs.getD 8 .undef), (xs.getD 9 .undef), (xs.getD 10 .undef), (xs.getD 11 .undef), (xs.getD 12 .undef)], h))
/-- xs: t2, t4, t9, t10, t11, t15, t16, t17, t21, t22, t23 -/
noncomputable def L4_2 (call : Go.Fw.Call) (xs : List AVal) (h : Heap) : Option J :=
 (aBin .lss .plain (xs.getD 10 .undef) (xs.getD 9 .undef)).bind fun v15 =>
 condV v15
 ((aIaddr 1 (xs.getD 8 .undef) (xs.getD 10 .undef)).bind fun v16 =>
 (aLoad h 1 v16).bind fun c17 =>
 (fromCells false c17).bind fun v18 =>
 (loop (L4_3 call) [(xs.getD 0 .undef), (xs.getD 1 .undef), v18, (.int .i64 (-1)), (xs.getD 2 .undef), (xs.getD 3 .undef), (xs.getD 4 .undef), (xs.getD 5 .undef), (xs.getD 6 .undef), (xs.getD 7 .undef), (xs.getD 8 .undef), (xs.getD 9 .undef), (xs.getD 10 .undef)] h).bind fun x34 =>
 bif Nat.beq x34.1 1 then (aBin .add .plain (x34.2.1.getD 10 .undef) (.int .i64 1)).bind fun v35 =>
 some (0, [(x34.2.1.getD 0 .undef), (x34.2.1.getD 1 .undef), (x34.2.1.getD 2 .undef), (x34.2.1.getD 3 .undef), (x34.2.1.getD 4 .undef), (x34.2.1.getD 5 .undef), (x34.2.1.getD 6 .undef), (x34.2.1.getD 7 .undef), (x34.2.1.getD 8 .undef), (x34.2.1.getD 9 .undef), v35], x34.2.2) else
 bif Nat.beq x34.1 2 then some (2, [(x34.2.1.getD 0 .undef)], x34.2.2) else
 none)
 (some (1, [(xs.getD 0 .undef), (xs.getD 2 .undef), (xs.getD 3 .undef), (xs.getD 4 .undef), (xs.getD 5 .undef), (xs.getD 6 .undef), (xs.getD 7 .undef)], h))
/-- xs: t2, t9, t10, t11, t15, t16, t17 -/
noncomputable def L4_1 (call : Go.Fw.Call) (xs : List AVal) (h : Heap) : Option J :=
 (aBin .lss .plain (xs.getD 6 .undef) (xs.getD 5 .undef)).bind fun v9 =>
 condV v9
 ((aIaddr 1 (xs.getD 4 .undef) (xs.getD 6 .undef)).bind fun v10 =>
 (aLoad h 1 v10).bind fun c11 =>
 (fromCells false c11).bind fun v12 =>
 (aFill (reps [.int .i64 0] 7) [(0, 1, (.int .i64 (-9223372036854775808))), (1, 1, (.int .i64 0)), (2, 1, (.int .i64 4)), (3, 1, (.int .i64 8)), (4, 1, (.int .i64 9)), (5, 1, (.int .i64 2199023255552)), (6, 1, (.int .i64 9223372036854775807))]).bind fun c13 =>
 (aLen false (.slice h.next 0 7 7 1 true)).bind fun v14 =>
 (loop (L4_2 call) [(xs.getD 0 .undef), v12, (xs.getD 1 .undef), (xs.getD 2 .undef), (xs.getD 3 .undef), (xs.getD 4 .undef), (xs.getD 5 .undef), (xs.getD 6 .undef), (.slice h.next 0 7 7 1 true), v14, (.int .i64 0)] (h.alloc c13)).bind fun x36 =>
 bif Nat.beq x36.1 1 then (aBin .add .plain (x36.2.1.getD 6 .undef) (.int .i64 1)).bind fun v37 =>
 some (0, [(x36.2.1.getD 0 .undef), (x36.2.1.getD 1 .undef), (x36.2.1.getD 2 .undef), (x36.2.1.getD 3 .undef), (x36.2.1.getD 4 .undef), (x36.2.1.getD 5 .undef), v37], x36.2.2) else
 bif Nat.beq x36.1 2 then some (2, [(x36.2.1.getD 0 .undef)], x36.2.2) else
 none)
 (some (1, [(xs.getD 1 .undef), (xs.getD 2 .undef), (xs.getD 3 .undef)], h))
/-- xs: t9, t10, t11 -/
noncomputable def L4_0 (call : Go.Fw.Call) (xs : List AVal) (h : Heap) : Option J :=
 (aBin .lss .plain (xs.getD 2 .undef) (xs.getD 1 .undef)).bind fun v3 =>
 condV v3
 ((aIaddr 1 (xs.getD 0 .undef) (xs.getD 2 .undef)).bind fun v4 =>
 (aLoad h 1 v4).bind fun c5 =>
 (fromCells false c5).bind fun v6 =>
 (aFill (reps [.int .i64 0] 6) [(0, 1, (.int .i64 1)), (1, 1, (.int .i64 5)), (2, 1, (.int .i64 1048576)), (3, 1, (.int .i64 4611686018427387904)), (4, 1, (.int .i64 (-1))), (5, 1, (.int .i64 9223372036854775807))]).bind fun c7 =>
 (aLen false (.slice h.next 0 6 6 1 true)).bind fun v8 =>
 (loop (L4_1 call) [v6, (xs.getD 0 .undef), (xs.getD 1 .undef), (xs.getD 2 .undef), (.slice h.next 0 6 6 1 true), v8, (.int .i64 0)] (h.alloc c7)).bind fun x38 =>
 bif Nat.beq x38.1 1 then (aBin .add .plain (x38.2.1.getD 2 .undef) (.int .i64 1)).bind fun v39 =>
 some (0, [(x38.2.1.getD 0 .undef), (x38.2.1.getD 1 .undef), v39], x38.2.2) else
 bif Nat.beq x38.1 2 then some (2, [(x38.2.1.getD 0 .undef)], x38.2.2) else
 none)
 (some (1, [], h))
noncomputable def S4 (call : Go.Fw.Call) (h : Heap) : Option J :=
 (aFill (reps [.int .i64 0] 7) [(0, 1, (.int .i64 (-9223372036854775808))), (1, 1, (.int .i64 (-5))), (2, 1, (.int .i64 0)), (3, 1, (.int .i64 3)), (4, 1, (.int .i64 1099511627776)), (5, 1, (.int .i64 4611686018427387904)), (6, 1, (.int .i64 9223372036854775807))]).bind fun c1 =>
 (aLen false (.slice h.next 0 7 7 1 true)).bind fun v2 =>
 (loop (L4_0 call) [(.slice h.next 0 7 7 1 true), v2, (.int .i64 0)] (h.alloc c1)).bind fun x40 =>
 bif Nat.beq x40.1 1 then (call 14 [(.nilSlice), (.nilSlice)] x40.2.2).bind fun r41 =>
 (guardV r41.1 true
 ((aMkSlice 10 96 [.str [], .str [], .int .i64 0, .int .i64 0, .int .i64 0, .int .i64 0, .int .i64 0, .int .i64 0, .bool false, .int .i64 0] (.int .i64 1) (.int .i64 1) r41.2).bind fun r42 =>
 (call 14 [(.nilSlice), r42.1] r42.2).bind fun r43 =>
 (aUn .not r43.1).bind fun v44 =>
 some (0, [v44], r43.2))
 (some (0, [skipV], r41.2))).bind fun g45 =>
 (aPick r41.1 (g45.2.1.getD 0 .undef) (.bool false)).bind fun v46 =>
 (guardV v46 true
 ((call 12 [] g45.2.2).bind fun r47 =>
 some (0, [r47.1], r47.2))
 (some (0, [skipV], g45.2.2))).bind fun g48 =>
 (aPick v46 (g48.2.1.getD 0 .undef) (.bool false)).bind fun v49 =>
 some (0, [v49], g48.2.2) else
 bif Nat.beq x40.1 2 then some (0, [(x40.2.1.getD 0 .undef)], x40.2.2) else
 none
theorem run4 (call : Go.Fw.Call) (h : Heap) : runFn call (.code A4) [] h = (S4 call  h).bind ansOf := by kernel_rfl

/-- frankpledge/frankpledgelaw9.LeaseTells -/
noncomputable def A5 : AFunc := ⟨7, (.seq (.region [.op 0 (.box 8 true (.tmp 1)),
 .op 1 (.box 10 true (.tmp 3)),
 .op 2 (.box 12 true (.tmp 5)),
 .op 3 (.mov 14 (.const (.bool false)))] [])
 (.seq (.region [.op 0 (.mov 17 (.tmp 0)),
 .op 1 (.build 18 [.nilSlice, .int .i64 0] [(0, 1, .tmp 17)]),
 .op 2 (.box 19 false (.tmp 18)),
 .op 3 (.mov 15 (.tmp 19))] [])
 (.seq (.region [.op 0 (.mov 20 (.tmp 15)),
 .op 1 (.call 21 8 [.tmp 20]),
 .op 2 (.mov 22 (.tmp 15)),
 .op 3 (.call 23 9 [.tmp 22, .const (.int .i64 80)]),
 .op 4 (.build 24 [.str [], .str [], .int .i64 0, .int .i64 0, .int .i64 0, .int .i64 0, .int .i64 0, .int .i64 0, .bool false, .int .i64 0] [(0, 9, .tmp 21), (9, 1, .tmp 23)]),
 .op 5 (.alloc 16 true [.str [], .str [], .int .i64 0, .int .i64 0, .int .i64 0, .int .i64 0, .int .i64 0, .int .i64 0, .bool false, .int .i64 0]),
 .op 6 (.store true 10 (.tmp 16) (.tmp 24))] [])
 (.seq (.region [.op 0 (.load 25 true 10 (.tmp 8)),
 .op 1 (.mov 26 (.tmp 2)),
 .op 2 (.load 27 true 9 (.tmp 10)),
 .op 3 (.mov 28 (.tmp 4)),
 .op 4 (.load 29 true 3 (.tmp 12)),
 .op 5 (.mov 30 (.tmp 6)),
 .op 6 (.call 31 13 [.tmp 25, .tmp 26, .tmp 27, .tmp 28, .tmp 29, .tmp 30]),
 .op 7 (.mov 32 (.tmp 31)),
 .guard 32 true [.op 8 (.load 33 true 10 (.tmp 16)),
 .op 9 (.mov 34 (.tmp 2)),
 .op 10 (.mov 35 (.tmp 15)),
 .op 11 (.call 36 8 [.tmp 35]),
 .op 12 (.mov 37 (.tmp 4)),
 .op 13 (.bin 38 .and .plain (.tmp 37) (.const (.int .i64 3))),
 .op 14 (.mov 39 (.tmp 15)),
 .op 15 (.call 40 15 [.tmp 39]),
 .op 16 (.mov 41 (.tmp 6)),
 .op 17 (.bin 42 .and .plain (.tmp 41) (.const (.int .i64 127))),
 .op 18 (.call 43 13 [.tmp 33, .tmp 34, .tmp 36, .tmp 38, .tmp 40, .tmp 42])] [(8, 11), (8, 15)] [43],
 .op 19 (.pick 44 (.tmp 32) (.tmp 43) (.const (.bool false))),
 .op 20 (.mov 45 (.tmp 44)),
 .guard 45 true [.op 21 (.load 46 true 10 (.tmp 16)),
 .op 22 (.mov 47 (.tmp 2)),
 .op 23 (.load 48 true 9 (.tmp 10)),
 .op 24 (.mov 49 (.tmp 4)),
 .op 25 (.load 50 true 3 (.tmp 12)),
 .op 26 (.mov 51 (.tmp 6)),
 .op 27 (.call 52 13 [.tmp 46, .tmp 47, .tmp 48, .tmp 49, .tmp 50, .tmp 51])] [] [52],
 .op 28 (.pick 53 (.tmp 45) (.tmp 52) (.const (.bool false))),
 .op 29 (.mov 54 (.tmp 53)),
 .guard 54 true [.op 30 (.call 55 12 [])] [] [55],
 .op 31 (.pick 56 (.tmp 54) (.tmp 55) (.const (.bool false))),
 .op 32 (.mov 14 (.tmp 56))] [])
 .ret)))),
 [.tmp 14]⟩
theorem ok5 : funcOk Try.prog (drawOk Try.prog) Try.f5 A5 = true := by kernel_rfl
noncomputable def S5 (call : Go.Fw.Call) (a0 a1 a2 a3 a4 a5 a6 : AVal) (h : Heap) : Option J :=
 (AVal.cells? a1).bind fun c1 =>
 (AVal.cells? a3).bind fun c2 =>
 (AVal.cells? a5).bind fun c3 =>
 (aFill [.nilSlice, .int .i64 0] [(0, 1, a0)]).bind fun c4 =>
 (AVal.cells? (.agg c4)).bind fun c5 =>
 (call 8 [(.ptr h.next 0)] (h.alloc c5)).bind fun r7 =>
 (call 9 [(.ptr h.next 0), (.int .i64 80)] r7.2).bind fun r8 =>
 (aFill [.str [], .str [], .int .i64 0, .int .i64 0, .int .i64 0, .int .i64 0, .int .i64 0, .int .i64 0, .bool false, .int .i64 0] [(0, 9, r7.1), (9, 1, r8.1)]).bind fun c9 =>
 (aCells 10 (.agg c9)).bind fun c10 =>
 bif Nat.ble ((0) + 10) (List.length (α := AVal) [.str [], .str [], .int .i64 0, .int .i64 0, .int .i64 0, .int .i64 0, .int .i64 0, .int .i64 0, .bool false, .int .i64 0]) then (rdL c1 0 10).bind fun c11 =>
 (fromCells true c11).bind fun v12 =>
 (rdL c2 0 9).bind fun c13 =>
 (fromCells true c13).bind fun v14 =>
 (rdL c3 0 3).bind fun c15 =>
 (fromCells true c15).bind fun v16 =>
 (call 13 [v12, a2, v14, a4, v16, a6] r8.2).bind fun r17 =>
 (guardV r17.1 true
 ((rdL (splice [.str [], .str [], .int .i64 0, .int .i64 0, .int .i64 0, .int .i64 0, .int .i64 0, .int .i64 0, .bool false, .int .i64 0] (0) c10) 0 10).bind fun c18 =>
 (fromCells true c18).bind fun v19 =>
 (call 8 [(.ptr h.next 0)] r17.2).bind fun r20 =>
 (aBin .and .plain a4 (.int .i64 3)).bind fun v21 =>
 (call 15 [(.ptr h.next 0)] r20.2).bind fun r22 =>
 (aBin .and .plain a6 (.int .i64 127)).bind fun v23 =>
 (call 13 [v19, a2, r20.1, v21, r22.1, v23] r22.2).bind fun r24 =>
 bif checkPairs [(15, some (.ef [(16, (splice [.str [], .str [], .int .i64 0, .int .i64 0, .int .i64 0, .int .i64 0, .int .i64 0, .int .i64 0, .bool false, .int .i64 0] (0) c10)), (12, c3), (10, c2), (8, c1)] r20.2 [(16, (splice [.str [], .str [], .int .i64 0, .int .i64 0, .int .i64 0, .int .i64 0, .int .i64 0, .int .i64 0, .bool false, .int .i64 0] (0) c10)), (12, c3), (10, c2), (8, c1)] r22.2)), (11, some (.ef [(16, (splice [.str [], .str [], .int .i64 0, .int .i64 0, .int .i64 0, .int .i64 0, .int .i64 0, .int .i64 0, .bool false, .int .i64 0] (0) c10)), (12, c3), (10, c2), (8, c1)] r17.2 [(16, (splice [.str [], .str [], .int .i64 0, .int .i64 0, .int .i64 0, .int .i64 0, .int .i64 0, .int .i64 0, .bool false, .int .i64 0] (0) c10)), (12, c3), (10, c2), (8, c1)] r20.2)), (8, some (.lrd 16 (0) 10))] [(8, 11), (8, 15)] then some (0, [r24.1], r24.2) else none)
 (some (0, [skipV], r17.2))).bind fun g25 =>
 (aPick r17.1 (g25.2.1.getD 0 .undef) (.bool false)).bind fun v26 =>
 (guardV v26 true
 ((rdL (splice [.str [], .str [], .int .i64 0, .int .i64 0, .int .i64 0, .int .i64 0, .int .i64 0, .int .i64 0, .bool false, .int .i64 0] (0) c10) 0 10).bind fun c27 =>
 (fromCells true c27).bind fun v28 =>
 (rdL c2 0 9).bind fun c29 =>
 (fromCells true c29).bind fun v30 =>
 (rdL c3 0 3).bind fun c31 =>
 (fromCells true c31).bind fun v32 =>
 (call 13 [v28, a2, v30, a4, v32, a6] g25.2.2).bind fun r33 =>
 some (0, [r33.1], r33.2))
 (some (0, [skipV], g25.2.2))).bind fun g34 =>
 (aPick v26 (g34.2.1.getD 0 .undef) (.bool false)).bind fun v35 =>
 (guardV v35 true
 ((call 12 [] g34.2.2).bind fun r36 =>
 some (0, [r36.1], r36.2))
 (some (0, [skipV], g34.2.2))).bind fun g37 =>
 (aPick v35 (g37.2.1.getD 0 .undef) (.bool false)).bind fun v38 =>
 some (0, [v38], g37.2.2) else none
theorem run5 (call : Go.Fw.Call) (a0 a1 a2 a3 a4 a5 a6 : AVal) (h : Heap) : runFn call (.code A5) [a0, a1, a2, a3, a4, a5, a6] h = (S5 call a0 a1 a2 a3 a4 a5 a6 h).bind ansOf := by kernel_rfl

/-- frankpledge/frankpledgelaw9.LeaseTurns -/
noncomputable def A6 : AFunc := ⟨3, (.seq (.region [.op 0 (.mov 6 (.const (.bool false)))] [])
 (.seq (.region [.op 0 (.mov 23 (.tmp 0)),
 .op 1 (.build 24 [.nilSlice, .int .i64 0] [(0, 1, .tmp 23)]),
 .op 2 (.box 25 false (.tmp 24)),
 .op 3 (.mov 7 (.tmp 25))] [])
 (.seq (.region [.op 0 (.mov 26 (.tmp 2)),
 .op 1 (.bin 27 .and .plain (.tmp 26) (.const (.int .i64 65535))),
 .op 2 (.mov 8 (.tmp 27))] [])
 (.seq (.region [.op 0 (.mov 28 (.tmp 7)),
 .op 1 (.call 29 8 [.tmp 28]),
 .op 2 (.alloc 9 true [.str [], .str [], .int .i64 0, .int .i64 0, .int .i64 0, .int .i64 0, .int .i64 0, .int .i64 0, .bool false]),
 .op 3 (.store true 9 (.tmp 9) (.tmp 29))] [])
 (.seq (.region [.op 0 (.faddr 30 8 (.tmp 9)),
 .op 1 (.store false 1 (.tmp 30) (.const (.bool false)))] [])
 (.seq (.region [.op 0 (.build 31 [.str [], .str [], .int .i64 0, .int .i64 0, .int .i64 0, .int .i64 0, .int .i64 0, .int .i64 0, .bool false, .int .i64 0] []),
 .op 1 (.load 32 true 9 (.tmp 9)),
 .op 2 (.mov 33 (.tmp 8)),
 .op 3 (.call 34 16 [.tmp 31, .const (.bool false), .tmp 32, .tmp 33]),
 .op 4 (.alloc 10 true [.str [], .str [], .int .i64 0, .int .i64 0, .int .i64 0, .int .i64 0, .int .i64 0, .int .i64 0, .bool false, .int .i64 0]),
 .op 5 (.store true 10 (.tmp 10) (.tmp 34))] [])
 (.seq (.regionF 1 [.op 0 (.load 36 true 10 (.tmp 10)),
 .op 1 (.mov 37 (.tmp 1)),
 .op 2 (.bin 38 .and .plain (.tmp 37) (.const (.int .i64 3))),
 .op 3 (.mov 39 (.tmp 7)),
 .op 4 (.call 40 15 [.tmp 39]),
 .op 5 (.call 41 17 [.tmp 36, .tmp 38, .tmp 40]),
 .op 6 (.mov 35 (.tmp 41)),
 .op 7 (.extract 42 (.tmp 35) 0),
 .op 8 (.extract 43 (.tmp 35) 1),
 .op 9 (.fl 11 0 none [.str [], .str [], .int .i64 0, .int .i64 0, .int .i64 0, .int .i64 0, .int .i64 0, .int .i64 0, .bool false, .int .i64 0] []),
 .op 10 (.store true 10 (.tmp 11) (.tmp 42)),
 .op 11 (.mov 12 (.tmp 43))] [(0, 4)])
 (.seq (.region [.op 0 (.load 44 true 10 (.tmp 11)),
 .op 1 (.load 45 true 9 (.tmp 9)),
 .op 2 (.mov 46 (.tmp 8)),
 .op 3 (.bin 47 .add .plain (.tmp 46) (.const (.int .i64 5))),
 .op 4 (.call 48 16 [.tmp 44, .const (.bool true), .tmp 45, .tmp 47]),
 .op 5 (.alloc 13 true [.str [], .str [], .int .i64 0, .int .i64 0, .int .i64 0, .int .i64 0, .int .i64 0, .int .i64 0, .bool false, .int .i64 0]),
 .op 6 (.store true 10 (.tmp 13) (.tmp 48))] [])
 (.seq (.regionF 1 [.op 0 (.load 50 true 10 (.tmp 11)),
 .op 1 (.mov 51 (.tmp 7)),
 .op 2 (.call 52 15 [.tmp 51]),
 .op 3 (.mov 53 (.tmp 8)),
 .op 4 (.bin 54 .add .plain (.tmp 53) (.const (.int .i64 7))),
 .op 5 (.call 55 18 [.tmp 50, .tmp 52, .tmp 54]),
 .op 6 (.mov 49 (.tmp 55)),
 .op 7 (.extract 56 (.tmp 49) 0),
 .op 8 (.extract 57 (.tmp 49) 1),
 .op 9 (.fl 14 0 none [.str [], .str [], .int .i64 0, .int .i64 0, .int .i64 0, .int .i64 0, .int .i64 0, .int .i64 0, .bool false, .int .i64 0] []),
 .op 10 (.store true 10 (.tmp 14) (.tmp 56)),
 .op 11 (.mov 15 (.tmp 57))] [(0, 2)])
 (.seq (.region [.op 0 (.load 59 true 10 (.tmp 14)),
 .op 1 (.mov 60 (.tmp 8)),
 .op 2 (.bin 61 .add .plain (.tmp 60) (.const (.int .i64 9))),
 .op 3 (.call 62 10 [.tmp 59, .tmp 61]),
 .op 4 (.mov 58 (.tmp 62)),
 .op 5 (.extract 63 (.tmp 58) 0),
 .op 6 (.extract 64 (.tmp 58) 1),
 .op 7 (.alloc 16 true [.str [], .str [], .int .i64 0, .int .i64 0, .int .i64 0, .int .i64 0, .int .i64 0, .int .i64 0, .bool false, .int .i64 0]),
 .op 8 (.store true 10 (.tmp 16) (.tmp 63)),
 .op 9 (.mov 17 (.tmp 64))] [])
 (.seq (.regionF 1 [.op 0 (.load 66 true 10 (.tmp 14)),
 .op 1 (.mov 67 (.tmp 7)),
 .op 2 (.call 68 15 [.tmp 67]),
 .op 3 (.call 69 17 [.tmp 66, .const (.int .i64 1), .tmp 68]),
 .op 4 (.mov 65 (.tmp 69)),
 .op 5 (.extract 70 (.tmp 65) 0),
 .op 6 (.extract 71 (.tmp 65) 1),
 .op 7 (.fl 18 0 none [.str [], .str [], .int .i64 0, .int .i64 0, .int .i64 0, .int .i64 0, .int .i64 0, .int .i64 0, .bool false, .int .i64 0] []),
 .op 8 (.store true 10 (.tmp 18) (.tmp 70)),
 .op 9 (.mov 19 (.tmp 71))] [(0, 2)])
 (.seq (.regionF 1 [.op 0 (.load 73 true 10 (.tmp 14)),
 .op 1 (.mov 74 (.tmp 7)),
 .op 2 (.call 75 15 [.tmp 74]),
 .op 3 (.mov 76 (.tmp 8)),
 .op 4 (.bin 77 .add .plain (.tmp 76) (.const (.int .i64 9))),
 .op 5 (.call 78 18 [.tmp 73, .tmp 75, .tmp 77]),
 .op 6 (.mov 72 (.tmp 78)),
 .op 7 (.extract 79 (.tmp 72) 0),
 .op 8 (.extract 80 (.tmp 72) 1),
 .op 9 (.fl 20 0 none [.str [], .str [], .int .i64 0, .int .i64 0, .int .i64 0, .int .i64 0, .int .i64 0, .int .i64 0, .bool false, .int .i64 0] []),
 .op 10 (.store true 10 (.tmp 20) (.tmp 79)),
 .op 11 (.mov 21 (.tmp 80))] [(0, 2)])
 (.seq (.region [.op 0 (.load 81 true 10 (.tmp 14)),
 .op 1 (.load 82 true 9 (.tmp 9)),
 .op 2 (.mov 83 (.tmp 8)),
 .op 3 (.bin 84 .add .plain (.tmp 83) (.const (.int .i64 9))),
 .op 4 (.call 85 16 [.tmp 81, .const (.bool true), .tmp 82, .tmp 84]),
 .op 5 (.alloc 22 true [.str [], .str [], .int .i64 0, .int .i64 0, .int .i64 0, .int .i64 0, .int .i64 0, .int .i64 0, .bool false, .int .i64 0]),
 .op 6 (.store true 10 (.tmp 22) (.tmp 85))] [])
 (.seq (.region [.op 0 (.faddr 86 0 (.tmp 10)),
 .op 1 (.faddr 87 3 (.tmp 86)),
 .op 2 (.load 88 false 1 (.tmp 87)),
 .op 3 (.bin 89 .eql .plain (.tmp 88) (.const (.int .i64 0))),
 .op 4 (.mov 90 (.tmp 89)),
 .guard 90 true [.op 5 (.mov 91 (.tmp 12))] [] [91],
 .op 6 (.pick 92 (.tmp 90) (.tmp 91) (.const (.bool false))),
 .op 7 (.mov 93 (.tmp 92)),
 .guard 93 true [.op 8 (.faddr 94 0 (.tmp 13)),
 .op 9 (.faddr 95 3 (.tmp 94)),
 .op 10 (.load 96 false 1 (.tmp 95)),
 .op 11 (.mov 97 (.tmp 1)),
 .op 12 (.bin 98 .and .plain (.tmp 97) (.const (.int .i64 3))),
 .op 13 (.bin 99 .eql .plain (.tmp 96) (.tmp 98))] [] [99],
 .op 14 (.pick 100 (.tmp 93) (.tmp 99) (.const (.bool false))),
 .op 15 (.mov 101 (.tmp 100)),
 .guard 101 true [.op 16 (.mov 102 (.tmp 15))] [] [102],
 .op 17 (.pick 103 (.tmp 101) (.tmp 102) (.const (.bool false))),
 .op 18 (.mov 104 (.tmp 103)),
 .guard 104 true [.op 19 (.mov 105 (.tmp 17)),
 .op 20 (.un 106 .not (.tmp 105))] [] [106],
 .op 21 (.pick 107 (.tmp 104) (.tmp 106) (.const (.bool false))),
 .op 22 (.mov 108 (.tmp 107)),
 .guard 108 true [.op 23 (.mov 109 (.tmp 19)),
 .op 24 (.un 110 .not (.tmp 109))] [] [110],
 .op 25 (.pick 111 (.tmp 108) (.tmp 110) (.const (.bool false))),
 .op 26 (.mov 112 (.tmp 111)),
 .guard 112 true [.op 27 (.mov 113 (.tmp 21)),
 .op 28 (.un 114 .not (.tmp 113))] [] [114],
 .op 29 (.pick 115 (.tmp 112) (.tmp 114) (.const (.bool false))),
 .op 30 (.mov 116 (.tmp 115)),
 .guard 116 true [.op 31 (.faddr 117 0 (.tmp 22)),
 .op 32 (.faddr 118 3 (.tmp 117)),
 .op 33 (.load 119 false 1 (.tmp 118)),
 .op 34 (.bin 120 .eql .plain (.tmp 119) (.const (.int .i64 0)))] [] [120],
 .op 35 (.pick 121 (.tmp 116) (.tmp 120) (.const (.bool false))),
 .op 36 (.mov 122 (.tmp 121)),
 .guard 122 true [.op 37 (.faddr 123 0 (.tmp 22)),
 .op 38 (.faddr 124 8 (.tmp 123)),
 .op 39 (.load 125 false 1 (.tmp 124)),
 .op 40 (.un 126 .not (.tmp 125))] [] [126],
 .op 41 (.pick 127 (.tmp 122) (.tmp 126) (.const (.bool false))),
 .op 42 (.mov 128 (.tmp 127)),
 .guard 128 true [.op 43 (.faddr 129 9 (.tmp 22)),
 .op 44 (.load 130 false 1 (.tmp 129)),
 .op 45 (.mov 131 (.tmp 8)),
 .op 46 (.bin 132 .add .plain (.tmp 131) (.const (.int .i64 9))),
 .op 47 (.bin 133 .eql .plain (.tmp 130) (.tmp 132))] [] [133],
 .op 48 (.pick 134 (.tmp 128) (.tmp 133) (.const (.bool false))),
 .op 49 (.mov 135 (.tmp 134)),
 .guard 135 true [.op 50 (.call 136 12 [])] [] [136],
 .op 51 (.pick 137 (.tmp 135) (.tmp 136) (.const (.bool false))),
 .op 52 (.mov 6 (.tmp 137))] [])
 .ret)))))))))))))),
 [.tmp 6]⟩
theorem ok6 : funcOk Try.prog (drawOk Try.prog) Try.f6 A6 = true := by kernel_rfl
noncomputable def S6 (call : Go.Fw.Call) (a0 a1 a2 : AVal) (h : Heap) : Option J :=
 (aFill [.nilSlice, .int .i64 0] [(0, 1, a0)]).bind fun c1 =>
 (AVal.cells? (.agg c1)).bind fun c2 =>
 (aBin .and .plain a2 (.int .i64 65535)).bind fun v4 =>
 (call 8 [(.ptr h.next 0)] (h.alloc c2)).bind fun r5 =>
 (aCells 9 r5.1).bind fun c6 =>
 bif Nat.ble ((0) + 9) (List.length (α := AVal) [.str [], .str [], .int .i64 0, .int .i64 0, .int .i64 0, .int .i64 0, .int .i64 0, .int .i64 0, .bool false]) then (aCells 1 (.bool false)).bind fun c7 =>
 bif Nat.ble ((8) + 1) (List.length (α := AVal) (splice [.str [], .str [], .int .i64 0, .int .i64 0, .int .i64 0, .int .i64 0, .int .i64 0, .int .i64 0, .bool false] (0) c6)) then (aFill [.str [], .str [], .int .i64 0, .int .i64 0, .int .i64 0, .int .i64 0, .int .i64 0, .int .i64 0, .bool false, .int .i64 0] []).bind fun c8 =>
 (rdL (splice (splice [.str [], .str [], .int .i64 0, .int .i64 0, .int .i64 0, .int .i64 0, .int .i64 0, .int .i64 0, .bool false] (0) c6) (8) c7) 0 9).bind fun c9 =>
 (fromCells true c9).bind fun v10 =>
 (call 16 [(.agg c8), (.bool false), v10, v4] r5.2).bind fun r11 =>
 (aCells 10 r11.1).bind fun c12 =>
 bif Nat.ble ((0) + 10) (List.length (α := AVal) [.str [], .str [], .int .i64 0, .int .i64 0, .int .i64 0, .int .i64 0, .int .i64 0, .int .i64 0, .bool false, .int .i64 0]) then (rdL (splice [.str [], .str [], .int .i64 0, .int .i64 0, .int .i64 0, .int .i64 0, .int .i64 0, .int .i64 0, .bool false, .int .i64 0] (0) c12) 0 10).bind fun c13 =>
 (fromCells true c13).bind fun v14 =>
 (aBin .and .plain a1 (.int .i64 3)).bind fun v15 =>
 (call 15 [(.ptr h.next 0)] (r11.2.res 1)).bind fun r16 =>
 (call 17 [v14, v15, r16.1] r16.2).bind fun r17 =>
 (aExtract 0 r17.1).bind fun v18 =>
 (aExtract 1 r17.1).bind fun v19 =>
 (aCells 10 v18).bind fun c20 =>
 (aStore (r17.2.setBlk (r11.2.next + 0) (some ⟨[.str [], .str [], .int .i64 0, .int .i64 0, .int .i64 0, .int .i64 0, .int .i64 0, .int .i64 0, .bool false, .int .i64 0], true⟩)) (.ptr (r11.2.next + 0) 0) c20).bind fun h21 =>
 bif checkPairs [(4, some (.ef [(10, (splice [.str [], .str [], .int .i64 0, .int .i64 0, .int .i64 0, .int .i64 0, .int .i64 0, .int .i64 0, .bool false, .int .i64 0] (0) c12)), (9, (splice (splice [.str [], .str [], .int .i64 0, .int .i64 0, .int .i64 0, .int .i64 0, .int .i64 0, .int .i64 0, .bool false] (0) c6) (8) c7))] (r11.2.res 1) [(10, (splice [.str [], .str [], .int .i64 0, .int .i64 0, .int .i64 0, .int .i64 0, .int .i64 0, .int .i64 0, .bool false, .int .i64 0] (0) c12)), (9, (splice (splice [.str [], .str [], .int .i64 0, .int .i64 0, .int .i64 0, .int .i64 0, .int .i64 0, .int .i64 0, .bool false] (0) c6) (8) c7))] r16.2)), (0, some (.lrd 10 (0) 10))] [(0, 4)] then (aLoad h21 10 (.ptr (r11.2.next + 0) 0)).bind fun c22 =>
 (fromCells true c22).bind fun v23 =>
 (rdL (splice (splice [.str [], .str [], .int .i64 0, .int .i64 0, .int .i64 0, .int .i64 0, .int .i64 0, .int .i64 0, .bool false] (0) c6) (8) c7) 0 9).bind fun c24 =>
 (fromCells true c24).bind fun v25 =>
 (aBin .add .plain v4 (.int .i64 5)).bind fun v26 =>
 (call 16 [v23, (.bool true), v25, v26] h21).bind fun r27 =>
 (aCells 10 r27.1).bind fun c28 =>
 bif Nat.ble ((0) + 10) (List.length (α := AVal) [.str [], .str [], .int .i64 0, .int .i64 0, .int .i64 0, .int .i64 0, .int .i64 0, .int .i64 0, .bool false, .int .i64 0]) then (aLoad (r27.2.res 1) 10 (.ptr (r11.2.next + 0) 0)).bind fun c29 =>
 (fromCells true c29).bind fun v30 =>
 (call 15 [(.ptr h.next 0)] (r27.2.res 1)).bind fun r31 =>
 (aBin .add .plain v4 (.int .i64 7)).bind fun v32 =>
 (call 18 [v30, r31.1, v32] r31.2).bind fun r33 =>
 (aExtract 0 r33.1).bind fun v34 =>
 (aExtract 1 r33.1).bind fun v35 =>
 (aCells 10 v34).bind fun c36 =>
 (aStore (r33.2.setBlk (r27.2.next + 0) (some ⟨[.str [], .str [], .int .i64 0, .int .i64 0, .int .i64 0, .int .i64 0, .int .i64 0, .int .i64 0, .bool false, .int .i64 0], true⟩)) (.ptr (r27.2.next + 0) 0) c36).bind fun h37 =>
 bif checkPairs [(2, some (.ef [(13, (splice [.str [], .str [], .int .i64 0, .int .i64 0, .int .i64 0, .int .i64 0, .int .i64 0, .int .i64 0, .bool false, .int .i64 0] (0) c28)), (10, (splice [.str [], .str [], .int .i64 0, .int .i64 0, .int .i64 0, .int .i64 0, .int .i64 0, .int .i64 0, .bool false, .int .i64 0] (0) c12)), (9, (splice (splice [.str [], .str [], .int .i64 0, .int .i64 0, .int .i64 0, .int .i64 0, .int .i64 0, .int .i64 0, .bool false] (0) c6) (8) c7))] (r27.2.res 1) [(13, (splice [.str [], .str [], .int .i64 0, .int .i64 0, .int .i64 0, .int .i64 0, .int .i64 0, .int .i64 0, .bool false, .int .i64 0] (0) c28)), (10, (splice [.str [], .str [], .int .i64 0, .int .i64 0, .int .i64 0, .int .i64 0, .int .i64 0, .int .i64 0, .bool false, .int .i64 0] (0) c12)), (9, (splice (splice [.str [], .str [], .int .i64 0, .int .i64 0, .int .i64 0, .int .i64 0, .int .i64 0, .int .i64 0, .bool false] (0) c6) (8) c7))] r31.2)), (0, logRd (.ptr (r11.2.next + 0) 0) 10)] [(0, 2)] then (aLoad h37 10 (.ptr (r27.2.next + 0) 0)).bind fun c38 =>
 (fromCells true c38).bind fun v39 =>
 (aBin .add .plain v4 (.int .i64 9)).bind fun v40 =>
 (call 10 [v39, v40] h37).bind fun r41 =>
 (aExtract 0 r41.1).bind fun v42 =>
 (aExtract 1 r41.1).bind fun v43 =>
 (aCells 10 v42).bind fun c44 =>
 bif Nat.ble ((0) + 10) (List.length (α := AVal) [.str [], .str [], .int .i64 0, .int .i64 0, .int .i64 0, .int .i64 0, .int .i64 0, .int .i64 0, .bool false, .int .i64 0]) then (aLoad (r41.2.res 1) 10 (.ptr (r27.2.next + 0) 0)).bind fun c45 =>
 (fromCells true c45).bind fun v46 =>
 (call 15 [(.ptr h.next 0)] (r41.2.res 1)).bind fun r47 =>
 (call 17 [v46, (.int .i64 1), r47.1] r47.2).bind fun r48 =>
 (aExtract 0 r48.1).bind fun v49 =>
 (aExtract 1 r48.1).bind fun v50 =>
 (aCells 10 v49).bind fun c51 =>
 (aStore (r48.2.setBlk (r41.2.next + 0) (some ⟨[.str [], .str [], .int .i64 0, .int .i64 0, .int .i64 0, .int .i64 0, .int .i64 0, .int .i64 0, .bool false, .int .i64 0], true⟩)) (.ptr (r41.2.next + 0) 0) c51).bind fun h52 =>
 bif checkPairs [(2, some (.ef [(16, (splice [.str [], .str [], .int .i64 0, .int .i64 0, .int .i64 0, .int .i64 0, .int .i64 0, .int .i64 0, .bool false, .int .i64 0] (0) c44)), (13, (splice [.str [], .str [], .int .i64 0, .int .i64 0, .int .i64 0, .int .i64 0, .int .i64 0, .int .i64 0, .bool false, .int .i64 0] (0) c28)), (10, (splice [.str [], .str [], .int .i64 0, .int .i64 0, .int .i64 0, .int .i64 0, .int .i64 0, .int .i64 0, .bool false, .int .i64 0] (0) c12)), (9, (splice (splice [.str [], .str [], .int .i64 0, .int .i64 0, .int .i64 0, .int .i64 0, .int .i64 0, .int .i64 0, .bool false] (0) c6) (8) c7))] (r41.2.res 1) [(16, (splice [.str [], .str [], .int .i64 0, .int .i64 0, .int .i64 0, .int .i64 0, .int .i64 0, .int .i64 0, .bool false, .int .i64 0] (0) c44)), (13, (splice [.str [], .str [], .int .i64 0, .int .i64 0, .int .i64 0, .int .i64 0, .int .i64 0, .int .i64 0, .bool false, .int .i64 0] (0) c28)), (10, (splice [.str [], .str [], .int .i64 0, .int .i64 0, .int .i64 0, .int .i64 0, .int .i64 0, .int .i64 0, .bool false, .int .i64 0] (0) c12)), (9, (splice (splice [.str [], .str [], .int .i64 0, .int .i64 0, .int .i64 0, .int .i64 0, .int .i64 0, .int .i64 0, .bool false] (0) c6) (8) c7))] r47.2)), (0, logRd (.ptr (r27.2.next + 0) 0) 10)] [(0, 2)] then (aLoad (h52.res 1) 10 (.ptr (r27.2.next + 0) 0)).bind fun c53 =>
 (fromCells true c53).bind fun v54 =>
 (call 15 [(.ptr h.next 0)] (h52.res 1)).bind fun r55 =>
 (aBin .add .plain v4 (.int .i64 9)).bind fun v56 =>
 (call 18 [v54, r55.1, v56] r55.2).bind fun r57 =>
 (aExtract 0 r57.1).bind fun v58 =>
 (aExtract 1 r57.1).bind fun v59 =>
 (aCells 10 v58).bind fun c60 =>
 (aStore (r57.2.setBlk (h52.next + 0) (some ⟨[.str [], .str [], .int .i64 0, .int .i64 0, .int .i64 0, .int .i64 0, .int .i64 0, .int .i64 0, .bool false, .int .i64 0], true⟩)) (.ptr (h52.next + 0) 0) c60).bind fun h61 =>
 bif checkPairs [(2, some (.ef [(16, (splice [.str [], .str [], .int .i64 0, .int .i64 0, .int .i64 0, .int .i64 0, .int .i64 0, .int .i64 0, .bool false, .int .i64 0] (0) c44)), (13, (splice [.str [], .str [], .int .i64 0, .int .i64 0, .int .i64 0, .int .i64 0, .int .i64 0, .int .i64 0, .bool false, .int .i64 0] (0) c28)), (10, (splice [.str [], .str [], .int .i64 0, .int .i64 0, .int .i64 0, .int .i64 0, .int .i64 0, .int .i64 0, .bool false, .int .i64 0] (0) c12)), (9, (splice (splice [.str [], .str [], .int .i64 0, .int .i64 0, .int .i64 0, .int .i64 0, .int .i64 0, .int .i64 0, .bool false] (0) c6) (8) c7))] (h52.res 1) [(16, (splice [.str [], .str [], .int .i64 0, .int .i64 0, .int .i64 0, .int .i64 0, .int .i64 0, .int .i64 0, .bool false, .int .i64 0] (0) c44)), (13, (splice [.str [], .str [], .int .i64 0, .int .i64 0, .int .i64 0, .int .i64 0, .int .i64 0, .int .i64 0, .bool false, .int .i64 0] (0) c28)), (10, (splice [.str [], .str [], .int .i64 0, .int .i64 0, .int .i64 0, .int .i64 0, .int .i64 0, .int .i64 0, .bool false, .int .i64 0] (0) c12)), (9, (splice (splice [.str [], .str [], .int .i64 0, .int .i64 0, .int .i64 0, .int .i64 0, .int .i64 0, .int .i64 0, .bool false] (0) c6) (8) c7))] r55.2)), (0, logRd (.ptr (r27.2.next + 0) 0) 10)] [(0, 2)] then (aLoad h61 10 (.ptr (r27.2.next + 0) 0)).bind fun c62 =>
 (fromCells true c62).bind fun v63 =>
 (rdL (splice (splice [.str [], .str [], .int .i64 0, .int .i64 0, .int .i64 0, .int .i64 0, .int .i64 0, .int .i64 0, .bool false] (0) c6) (8) c7) 0 9).bind fun c64 =>
 (fromCells true c64).bind fun v65 =>
 (aBin .add .plain v4 (.int .i64 9)).bind fun v66 =>
 (call 16 [v63, (.bool true), v65, v66] h61).bind fun r67 =>
 (aCells 10 r67.1).bind fun c68 =>
 bif Nat.ble ((0) + 10) (List.length (α := AVal) [.str [], .str [], .int .i64 0, .int .i64 0, .int .i64 0, .int .i64 0, .int .i64 0, .int .i64 0, .bool false, .int .i64 0]) then (rdL (splice [.str [], .str [], .int .i64 0, .int .i64 0, .int .i64 0, .int .i64 0, .int .i64 0, .int .i64 0, .bool false, .int .i64 0] (0) c12) 3 1).bind fun c69 =>
 (fromCells false c69).bind fun v70 =>
 (aBin .eql .plain v70 (.int .i64 0)).bind fun v71 =>
 (guardV v71 true
 (some (0, [v19], r67.2))
 (some (0, [skipV], r67.2))).bind fun g72 =>
 (aPick v71 (g72.2.1.getD 0 .undef) (.bool false)).bind fun v73 =>
 (guardV v73 true
 ((rdL (splice [.str [], .str [], .int .i64 0, .int .i64 0, .int .i64 0, .int .i64 0, .int .i64 0, .int .i64 0, .bool false, .int .i64 0] (0) c28) 3 1).bind fun c74 =>
 (fromCells false c74).bind fun v75 =>
 (aBin .and .plain a1 (.int .i64 3)).bind fun v76 =>
 (aBin .eql .plain v75 v76).bind fun v77 =>
 some (0, [v77], g72.2.2))
 (some (0, [skipV], g72.2.2))).bind fun g78 =>
 (aPick v73 (g78.2.1.getD 0 .undef) (.bool false)).bind fun v79 =>
 (guardV v79 true
 (some (0, [v35], g78.2.2))
 (some (0, [skipV], g78.2.2))).bind fun g80 =>
 (aPick v79 (g80.2.1.getD 0 .undef) (.bool false)).bind fun v81 =>
 (guardV v81 true
 ((aUn .not v43).bind fun v82 =>
 some (0, [v82], g80.2.2))
 (some (0, [skipV], g80.2.2))).bind fun g83 =>
 (aPick v81 (g83.2.1.getD 0 .undef) (.bool false)).bind fun v84 =>
 (guardV v84 true
 ((aUn .not v50).bind fun v85 =>
 some (0, [v85], g83.2.2))
 (some (0, [skipV], g83.2.2))).bind fun g86 =>
 (aPick v84 (g86.2.1.getD 0 .undef) (.bool false)).bind fun v87 =>
 (guardV v87 true
 ((aUn .not v59).bind fun v88 =>
 some (0, [v88], g86.2.2))
 (some (0, [skipV], g86.2.2))).bind fun g89 =>
 (aPick v87 (g89.2.1.getD 0 .undef) (.bool false)).bind fun v90 =>
 (guardV v90 true
 ((rdL (splice [.str [], .str [], .int .i64 0, .int .i64 0, .int .i64 0, .int .i64 0, .int .i64 0, .int .i64 0, .bool false, .int .i64 0] (0) c68) 3 1).bind fun c91 =>
 (fromCells false c91).bind fun v92 =>
 (aBin .eql .plain v92 (.int .i64 0)).bind fun v93 =>
 some (0, [v93], g89.2.2))
 (some (0, [skipV], g89.2.2))).bind fun g94 =>
 (aPick v90 (g94.2.1.getD 0 .undef) (.bool false)).bind fun v95 =>
 (guardV v95 true
 ((rdL (splice [.str [], .str [], .int .i64 0, .int .i64 0, .int .i64 0, .int .i64 0, .int .i64 0, .int .i64 0, .bool false, .int .i64 0] (0) c68) 8 1).bind fun c96 =>
 (fromCells false c96).bind fun v97 =>
 (aUn .not v97).bind fun v98 =>
 some (0, [v98], g94.2.2))
 (some (0, [skipV], g94.2.2))).bind fun g99 =>
 (aPick v95 (g99.2.1.getD 0 .undef) (.bool false)).bind fun v100 =>
 (guardV v100 true
 ((rdL (splice [.str [], .str [], .int .i64 0, .int .i64 0, .int .i64 0, .int .i64 0, .int .i64 0, .int .i64 0, .bool false, .int .i64 0] (0) c68) 9 1).bind fun c101 =>
 (fromCells false c101).bind fun v102 =>
 (aBin .add .plain v4 (.int .i64 9)).bind fun v103 =>
 (aBin .eql .plain v102 v103).bind fun v104 =>
 some (0, [v104], g99.2.2))
 (some (0, [skipV], g99.2.2))).bind fun g105 =>
 (aPick v100 (g105.2.1.getD 0 .undef) (.bool false)).bind fun v106 =>
 (guardV v106 true
 ((call 12 [] g105.2.2).bind fun r107 =>
 some (0, [r107.1], r107.2))
 (some (0, [skipV], g105.2.2))).bind fun g108 =>
 (aPick v106 (g108.2.1.getD 0 .undef) (.bool false)).bind fun v109 =>
 some (0, [v109], g108.2.2) else none else none else none else none else none else none else none else none else none else none
theorem run6 (call : Go.Fw.Call) (a0 a1 a2 : AVal) (h : Heap) : runFn call (.code A6) [a0, a1, a2] h = (S6 call a0 a1 a2 h).bind ansOf := by kernel_rfl

/-- frankpledge/frankpledgelaw9.LeaseSeen -/
noncomputable def A7 : AFunc := ⟨2, (.seq (.region [.op 0 (.mov 4 (.const (.bool false)))] [])
 (.seq (.region [.op 0 (.mov 13 (.tmp 0)),
 .op 1 (.build 14 [.nilSlice, .int .i64 0] [(0, 1, .tmp 13)]),
 .op 2 (.box 15 false (.tmp 14)),
 .op 3 (.mov 5 (.tmp 15))] [])
 (.seq (.region [.op 0 (.mov 16 (.tmp 5)),
 .op 1 (.call 17 8 [.tmp 16]),
 .op 2 (.alloc 6 true [.str [], .str [], .int .i64 0, .int .i64 0, .int .i64 0, .int .i64 0, .int .i64 0, .int .i64 0, .bool false]),
 .op 3 (.store true 9 (.tmp 6) (.tmp 17))] [])
 (.seq (.region [.op 0 (.faddr 18 8 (.tmp 6)),
 .op 1 (.store false 1 (.tmp 18) (.const (.bool false)))] [])
 (.seq (.region [.op 0 (.build 19 [.str [], .str [], .int .i64 0, .int .i64 0, .int .i64 0, .int .i64 0, .int .i64 0, .int .i64 0, .bool false, .int .i64 0] []),
 .op 1 (.load 20 true 9 (.tmp 6)),
 .op 2 (.call 21 16 [.tmp 19, .const (.bool false), .tmp 20, .const (.int .i64 5)]),
 .op 3 (.alloc 7 true [.str [], .str [], .int .i64 0, .int .i64 0, .int .i64 0, .int .i64 0, .int .i64 0, .int .i64 0, .bool false, .int .i64 0]),
 .op 4 (.store true 10 (.tmp 7) (.tmp 21))] [])
 (.seq (.region [.op 0 (.mov 8 (.const (.int .i64 5)))] [])
 (.seq (.seq (.region [.op 0 (.mov 9 (.const (.int .i64 0)))] [])
 (.block 0 (.loop ⟨[1, 8, 9], [7]⟩ [((.exit 0), ⟨[], []⟩), (.ret, ⟨[4], []⟩)]
 (.seq (.seq (.region [.op 0 (.mov 22 (.tmp 9)),
 .op 1 (.mov 23 (.tmp 1)),
 .op 2 (.len 24 false (.tmp 23)),
 .op 3 (.bin 25 .lss .plain (.tmp 22) (.tmp 24)),
 .op 4 (.mov 26 (.tmp 25)),
 .guard 26 true [.op 5 (.mov 27 (.tmp 9)),
 .op 6 (.bin 28 .lss .plain (.tmp 27) (.const (.int .i64 20)))] [] [28],
 .op 7 (.pick 29 (.tmp 26) (.tmp 28) (.const (.bool false)))] [])
 (.cond (.tmp 29)
 .skip
 (.exit 0)))
 (.seq (.block 1 (.seq (.region [.op 0 (.mov 32 (.tmp 1)),
 .op 1 (.mov 33 (.tmp 9)),
 .op 2 (.iaddr 34 none 1 (.tmp 32) (.tmp 33)),
 .op 3 (.load 35 false 1 (.tmp 34)),
 .op 4 (.bin 36 .and .plain (.tmp 35) (.const (.int .i64 65535))),
 .op 5 (.mov 10 (.tmp 36))] [])
 (.seq (.region [.op 0 (.mov 37 (.tmp 8)),
 .op 1 (.mov 38 (.tmp 10)),
 .op 2 (.minmax 39 true [.tmp 37, .tmp 38]),
 .op 3 (.mov 8 (.tmp 39))] [])
 (.seq (.region [.op 0 (.load 41 true 10 (.tmp 7)),
 .op 1 (.mov 42 (.tmp 10)),
 .op 2 (.call 43 10 [.tmp 41, .tmp 42]),
 .op 3 (.mov 40 (.tmp 43)),
 .op 4 (.extract 44 (.tmp 40) 0),
 .op 5 (.extract 45 (.tmp 40) 1),
 .op 6 (.alloc 11 true [.str [], .str [], .int .i64 0, .int .i64 0, .int .i64 0, .int .i64 0, .int .i64 0, .int .i64 0, .bool false, .int .i64 0]),
 .op 7 (.store true 10 (.tmp 11) (.tmp 44)),
 .op 8 (.mov 12 (.tmp 45))] [])
 (.seq (.seq (.region [.op 0 (.mov 46 (.tmp 12)),
 .op 1 (.un 47 .not (.tmp 46)),
 .op 2 (.mov 48 (.tmp 47)),
 .guard 48 false [.op 3 (.faddr 49 9 (.tmp 11)),
 .op 4 (.load 50 false 1 (.tmp 49)),
 .op 5 (.mov 51 (.tmp 8)),
 .op 6 (.bin 52 .neq .plain (.tmp 50) (.tmp 51))] [] [52],
 .op 7 (.pick 53 (.tmp 48) (.const (.bool true)) (.tmp 52)),
 .op 8 (.mov 54 (.tmp 53)),
 .guard 54 false [.op 9 (.faddr 55 0 (.tmp 11)),
 .op 10 (.load 56 true 9 (.tmp 55)),
 .op 11 (.faddr 57 0 (.tmp 7)),
 .op 12 (.load 58 true 9 (.tmp 57)),
 .op 13 (.bin 59 .neq (.cells [2, 2, 1, 1, 1, 1, 1, 1, 0]) (.tmp 56) (.tmp 58))] [] [59],
 .op 14 (.pick 60 (.tmp 54) (.const (.bool true)) (.tmp 59))] [])
 (.cond (.tmp 60)
 (.seq (.region [.op 0 (.mov 4 (.const (.bool false)))] [])
 .ret)
 .skip))
 (.region [.op 0 (.load 61 true 10 (.tmp 11)),
 .op 1 (.store true 10 (.tmp 7) (.tmp 61))] []))))))
 (.region [.op 0 (.mov 30 (.tmp 9)),
 .op 1 (.bin 31 .add .plain (.tmp 30) (.const (.int .i64 1))),
 .op 2 (.mov 9 (.tmp 31))] []))))))
 (.seq (.region [.op 0 (.call 62 12 []),
 .op 1 (.mov 4 (.tmp 62))] [])
 .ret)))))))),
 [.tmp 4]⟩
theorem ok7 : funcOk Try.prog (drawOk Try.prog) Try.f7 A7 = true := by kernel_rfl
/-- xs: t1, t8, t9, cells of 7 -/
noncomputable def L7_0 (call : Go.Fw.Call) (xs : List AVal) (h : Heap) : Option J :=
 (aLen false (xs.getD 0 .undef)).bind fun v12 =>
 (aBin .lss .plain (xs.getD 2 .undef) v12).bind fun v13 =>
 (guardV v13 true
 ((aBin .lss .plain (xs.getD 2 .undef) (.int .i64 20)).bind fun v14 =>
 some (0, [v14], h))
 (some (0, [skipV], h))).bind fun g15 =>
 (aPick v13 (g15.2.1.getD 0 .undef) (.bool false)).bind fun v16 =>
 condV v16
 ((aIaddr 1 (xs.getD 0 .undef) (xs.getD 2 .undef)).bind fun v17 =>
 (aLoad g15.2.2 1 v17).bind fun c18 =>
 (fromCells false c18).bind fun v19 =>
 (aBin .and .plain v19 (.int .i64 65535)).bind fun v20 =>
 (aMinMaxL true [(xs.getD 1 .undef), v20]).bind fun v21 =>
 (rdL (AVal.aggCells (xs.getD 3 .undef)) 0 10).bind fun c22 =>
 (fromCells true c22).bind fun v23 =>
 (call 10 [v23, v20] g15.2.2).bind fun r24 =>
 (aExtract 0 r24.1).bind fun v25 =>
 (aExtract 1 r24.1).bind fun v26 =>
 (aCells 10 v25).bind fun c27 =>
 bif Nat.ble ((0) + 10) (List.length (α := AVal) [.str [], .str [], .int .i64 0, .int .i64 0, .int .i64 0, .int .i64 0, .int .i64 0, .int .i64 0, .bool false, .int .i64 0]) then (aUn .not v26).bind fun v28 =>
 (guardV v28 false
 ((rdL (splice [.str [], .str [], .int .i64 0, .int .i64 0, .int .i64 0, .int .i64 0, .int .i64 0, .int .i64 0, .bool false, .int .i64 0] (0) c27) 9 1).bind fun c29 =>
 (fromCells false c29).bind fun v30 =>
 (aBin .neq .plain v30 v21).bind fun v31 =>
 some (0, [v31], r24.2))
 (some (0, [skipV], r24.2))).bind fun g32 =>
 (aPick v28 (.bool true) (g32.2.1.getD 0 .undef)).bind fun v33 =>
 (guardV v33 false
 ((rdL (splice [.str [], .str [], .int .i64 0, .int .i64 0, .int .i64 0, .int .i64 0, .int .i64 0, .int .i64 0, .bool false, .int .i64 0] (0) c27) 0 9).bind fun c34 =>
 (fromCells true c34).bind fun v35 =>
 (rdL (AVal.aggCells (xs.getD 3 .undef)) 0 9).bind fun c36 =>
 (fromCells true c36).bind fun v37 =>
 (aBin .neq (.cells [2, 2, 1, 1, 1, 1, 1, 1, 0]) v35 v37).bind fun v38 =>
 some (0, [v38], g32.2.2))
 (some (0, [skipV], g32.2.2))).bind fun g39 =>
 (aPick v33 (.bool true) (g39.2.1.getD 0 .undef)).bind fun v40 =>
 condV v40
 (some (2, [(.bool false)], g39.2.2))
 ((rdL (splice [.str [], .str [], .int .i64 0, .int .i64 0, .int .i64 0, .int .i64 0, .int .i64 0, .int .i64 0, .bool false, .int .i64 0] (0) c27) 0 10).bind fun c41 =>
 (fromCells true c41).bind fun v42 =>
 (aCells 10 v42).bind fun c43 =>
 bif Nat.ble ((0) + 10) (List.length (α := AVal) (AVal.aggCells (xs.getD 3 .undef))) then (aBin .add .plain (xs.getD 2 .undef) (.int .i64 1)).bind fun v44 =>
 some (0, [(xs.getD 0 .undef), v21, v44, (.agg (splice (AVal.aggCells (xs.getD 3 .undef)) (0) c43))], g39.2.2) else none) else none)
 (some (1, [], g15.2.2))
noncomputable def S7 (call : Go.Fw.Call) (a0 a1 : AVal) (h : Heap) : Option J :=
 (aFill [.nilSlice, .int .i64 0] [(0, 1, a0)]).bind fun c1 =>
 (AVal.cells? (.agg c1)).bind fun c2 =>
 (call 8 [(.ptr h.next 0)] (h.alloc c2)).bind fun r4 =>
 (aCells 9 r4.1).bind fun c5 =>
 bif Nat.ble ((0) + 9) (List.length (α := AVal) [.str [], .str [], .int .i64 0, .int .i64 0, .int .i64 0, .int .i64 0, .int .i64 0, .int .i64 0, .bool false]) then (aCells 1 (.bool false)).bind fun c6 =>
 bif Nat.ble ((8) + 1) (List.length (α := AVal) (splice [.str [], .str [], .int .i64 0, .int .i64 0, .int .i64 0, .int .i64 0, .int .i64 0, .int .i64 0, .bool false] (0) c5)) then (aFill [.str [], .str [], .int .i64 0, .int .i64 0, .int .i64 0, .int .i64 0, .int .i64 0, .int .i64 0, .bool false, .int .i64 0] []).bind fun c7 =>
 (rdL (splice (splice [.str [], .str [], .int .i64 0, .int .i64 0, .int .i64 0, .int .i64 0, .int .i64 0, .int .i64 0, .bool false] (0) c5) (8) c6) 0 9).bind fun c8 =>
 (fromCells true c8).bind fun v9 =>
 (call 16 [(.agg c7), (.bool false), v9, (.int .i64 5)] r4.2).bind fun r10 =>
 (aCells 10 r10.1).bind fun c11 =>
 bif Nat.ble ((0) + 10) (List.length (α := AVal) [.str [], .str [], .int .i64 0, .int .i64 0, .int .i64 0, .int .i64 0, .int .i64 0, .int .i64 0, .bool false, .int .i64 0]) then (loop (L7_0 call) [a1, (.int .i64 5), (.int .i64 0), (.agg (splice [.str [], .str [], .int .i64 0, .int .i64 0, .int .i64 0, .int .i64 0, .int .i64 0, .int .i64 0, .bool false, .int .i64 0] (0) c11))] r10.2).bind fun x45 =>
 bif Nat.beq x45.1 1 then (call 12 [] x45.2.2).bind fun r46 =>
 some (0, [r46.1], r46.2) else
 bif Nat.beq x45.1 2 then some (0, [(x45.2.1.getD 0 .undef)], x45.2.2) else
 none else none else none else none
theorem run7 (call : Go.Fw.Call) (a0 a1 : AVal) (h : Heap) : runFn call (.code A7) [a0, a1] h = (S7 call a0 a1 h).bind ansOf := by kernel_rfl

/-- (*frankpledge/frankpledgekeep.Tape).Card -/
noncomputable def A8 : AFunc := ⟨1, (.seq (.region [.op 0 (.alloc 2 true [.str [], .str [], .int .i64 0, .int .i64 0, .int .i64 0, .int .i64 0, .int .i64 0, .int .i64 0, .bool false])] [])
 (.seq (.region [.op 0 (.mov 3 (.tmp 0)),
 .op 1 (.call 4 19 [.tmp 3]),
 .op 2 (.mov 5 (.tmp 0)),
 .op 3 (.call 6 9 [.tmp 5, .const (.int .i64 2)]),
 .op 4 (.bin 7 .add .plain (.const (.int .i64 1)) (.tmp 6)),
 .op 5 (.mov 8 (.tmp 0)),
 .op 6 (.call 9 9 [.tmp 8, .const (.int .i64 7)]),
 .op 7 (.bin 10 .quo .plain (.tmp 9) (.const (.int .i64 2))),
 .op 8 (.mov 11 (.tmp 0)),
 .op 9 (.call 12 9 [.tmp 11, .const (.int .i64 60)]),
 .op 10 (.bin 13 .add .plain (.const (.int .i64 1)) (.tmp 12)),
 .op 11 (.mov 14 (.tmp 0)),
 .op 12 (.call 15 15 [.tmp 14]),
 .op 13 (.mov 16 (.tmp 0)),
 .op 14 (.call 17 9 [.tmp 16, .const (.int .i64 4)]),
 .op 15 (.bin 18 .eql .plain (.tmp 17) (.const (.int .i64 0))),
 .op 16 (.build 19 [.str [], .str [], .int .i64 0, .int .i64 0, .int .i64 0, .int .i64 0, .int .i64 0, .int .i64 0, .bool false] [(0, 2, .tmp 4), (2, 1, .tmp 7), (3, 1, .tmp 10), (4, 1, .tmp 13), (5, 3, .tmp 15), (8, 1, .tmp 18)]),
 .op 17 (.store true 9 (.tmp 2) (.tmp 19))] [])
 .ret)),
 [.cell 2 true 9]⟩
theorem ok8 : funcOk Try.prog (drawOk Try.prog) Try.f8 A8 = true := by kernel_rfl
noncomputable def S8 (call : Go.Fw.Call) (a0 : AVal) (h : Heap) : Option J :=
 (call 19 [a0] h).bind fun r1 =>
 (call 9 [a0, (.int .i64 2)] r1.2).bind fun r2 =>
 (aBin .add .plain (.int .i64 1) r2.1).bind fun v3 =>
 (call 9 [a0, (.int .i64 7)] r2.2).bind fun r4 =>
 (aBin .quo .plain r4.1 (.int .i64 2)).bind fun v5 =>
 (call 9 [a0, (.int .i64 60)] r4.2).bind fun r6 =>
 (aBin .add .plain (.int .i64 1) r6.1).bind fun v7 =>
 (call 15 [a0] r6.2).bind fun r8 =>
 (call 9 [a0, (.int .i64 4)] r8.2).bind fun r9 =>
 (aBin .eql .plain r9.1 (.int .i64 0)).bind fun v10 =>
 (aFill [.str [], .str [], .int .i64 0, .int .i64 0, .int .i64 0, .int .i64 0, .int .i64 0, .int .i64 0, .bool false] [(0, 2, r1.1), (2, 1, v3), (3, 1, v5), (4, 1, v7), (5, 3, r8.1), (8, 1, v10)]).bind fun c11 =>
 (aCells 9 (.agg c11)).bind fun c12 =>
 bif Nat.ble ((0) + 9) (List.length (α := AVal) [.str [], .str [], .int .i64 0, .int .i64 0, .int .i64 0, .int .i64 0, .int .i64 0, .int .i64 0, .bool false]) then (((rdL (splice [.str [], .str [], .int .i64 0, .int .i64 0, .int .i64 0, .int .i64 0, .int .i64 0, .int .i64 0, .bool false] (0) c12) (0) 9).bind fun cs => fromCells true cs).bind fun v => (some []).bind fun vs => some (v :: vs)).bind fun vs => some (0, [oneOr vs], r9.2) else none
theorem run8 (call : Go.Fw.Call) (a0 : AVal) (h : Heap) : runFn call (.code A8) [a0] h = (S8 call a0 h).bind ansOf := by kernel_rfl

/-- (*frankpledge/frankpledgekeep.Tape).Next -/
noncomputable def A9 : AFunc := ⟨2, (.seq (.region [.op 0 (.mov 4 (.const (.int .i64 0)))] [])
 (.seq (.seq (.region [.op 0 (.mov 5 (.tmp 0)),
 .op 1 (.nilchk 6 (.tmp 5)),
 .op 2 (.faddr 7 1 (.tmp 6)),
 .op 3 (.load 8 false 1 (.tmp 7)),
 .op 4 (.mov 9 (.tmp 0)),
 .op 5 (.nilchk 10 (.tmp 9)),
 .op 6 (.faddr 11 0 (.tmp 10)),
 .op 7 (.load 12 false 1 (.tmp 11)),
 .op 8 (.len 13 false (.tmp 12)),
 .op 9 (.bin 14 .geq .plain (.tmp 8) (.tmp 13)),
 .op 10 (.mov 15 (.tmp 14)),
 .guard 15 false [.op 11 (.mov 16 (.tmp 1)),
 .op 12 (.bin 17 .lss .plain (.tmp 16) (.const (.int .i64 1)))] [] [17],
 .op 13 (.pick 18 (.tmp 15) (.const (.bool true)) (.tmp 17))] [])
 (.cond (.tmp 18)
 (.seq (.region [.op 0 (.mov 4 (.const (.int .i64 0)))] [])
 .ret)
 .skip))
 (.seq (.region [.op 0 (.mov 19 (.tmp 0)),
 .op 1 (.nilchk 20 (.tmp 19)),
 .op 2 (.faddr 21 1 (.tmp 20)),
 .op 3 (.load 22 false 1 (.tmp 21)),
 .op 4 (.bin 23 .add .plain (.tmp 22) (.const (.int .i64 1))),
 .op 5 (.nilchk 24 (.tmp 19)),
 .op 6 (.faddr 25 1 (.tmp 24)),
 .op 7 (.store false 1 (.tmp 25) (.tmp 23))] [])
 (.seq (.region [.op 0 (.mov 26 (.tmp 0)),
 .op 1 (.nilchk 27 (.tmp 26)),
 .op 2 (.faddr 28 0 (.tmp 27)),
 .op 3 (.load 29 false 1 (.tmp 28)),
 .op 4 (.mov 30 (.tmp 0)),
 .op 5 (.nilchk 31 (.tmp 30)),
 .op 6 (.faddr 32 1 (.tmp 31)),
 .op 7 (.load 33 false 1 (.tmp 32)),
 .op 8 (.bin 34 .sub .plain (.tmp 33) (.const (.int .i64 1))),
 .op 9 (.iaddr 35 none 1 (.tmp 29) (.tmp 34)),
 .op 10 (.load 36 false 1 (.tmp 35)),
 .op 11 (.call 37 20 [.tmp 36, .const (.int .i64 0), .const (.int .i64 1073741824)]),
 .op 12 (.mov 38 (.tmp 1)),
 .op 13 (.bin 39 .rem .plain (.tmp 37) (.tmp 38)),
 .op 14 (.mov 4 (.tmp 39))] [])
 .ret)))),
 [.tmp 4]⟩
theorem ok9 : funcOk Try.prog (drawOk Try.prog) Try.f9 A9 = true := by kernel_rfl
noncomputable def S9 (call : Go.Fw.Call) (a0 a1 : AVal) (h : Heap) : Option J :=
 (aNilchk a0).bind fun v1 =>
 (aFaddr 1 v1).bind fun v2 =>
 (aLoad h 1 v2).bind fun c3 =>
 (fromCells false c3).bind fun v4 =>
 (aNilchk a0).bind fun v5 =>
 (aFaddr 0 v5).bind fun v6 =>
 (aLoad h 1 v6).bind fun c7 =>
 (fromCells false c7).bind fun v8 =>
 (aLen false v8).bind fun v9 =>
 (aBin .geq .plain v4 v9).bind fun v10 =>
 (guardV v10 false
 ((aBin .lss .plain a1 (.int .i64 1)).bind fun v11 =>
 some (0, [v11], h))
 (some (0, [skipV], h))).bind fun g12 =>
 (aPick v10 (.bool true) (g12.2.1.getD 0 .undef)).bind fun v13 =>
 condV v13
 (some (0, [(.int .i64 0)], g12.2.2))
 ((aNilchk a0).bind fun v14 =>
 (aFaddr 1 v14).bind fun v15 =>
 (aLoad g12.2.2 1 v15).bind fun c16 =>
 (fromCells false c16).bind fun v17 =>
 (aBin .add .plain v17 (.int .i64 1)).bind fun v18 =>
 (aNilchk a0).bind fun v19 =>
 (aFaddr 1 v19).bind fun v20 =>
 (aCells 1 v18).bind fun c21 =>
 (aStore g12.2.2 v20 c21).bind fun h22 =>
 (aNilchk a0).bind fun v23 =>
 (aFaddr 0 v23).bind fun v24 =>
 (aLoad h22 1 v24).bind fun c25 =>
 (fromCells false c25).bind fun v26 =>
 (aNilchk a0).bind fun v27 =>
 (aFaddr 1 v27).bind fun v28 =>
 (aLoad h22 1 v28).bind fun c29 =>
 (fromCells false c29).bind fun v30 =>
 (aBin .sub .plain v30 (.int .i64 1)).bind fun v31 =>
 (aIaddr 1 v26 v31).bind fun v32 =>
 (aLoad h22 1 v32).bind fun c33 =>
 (fromCells false c33).bind fun v34 =>
 (call 20 [v34, (.int .i64 0), (.int .i64 1073741824)] h22).bind fun r35 =>
 (aBin .rem .plain r35.1 a1).bind fun v36 =>
 some (0, [v36], r35.2))
theorem run9 (call : Go.Fw.Call) (a0 a1 : AVal) (h : Heap) : runFn call (.code A9) [a0, a1] h = (S9 call a0 a1 h).bind ansOf := by kernel_rfl

/-- frankpledge/lease.Renew -/
noncomputable def A10 : AFunc := ⟨2, (.seq (.region [.op 0 (.box 2 true (.tmp 0)),
 .op 1 (.alloc 4 true [.str [], .str [], .int .i64 0, .int .i64 0, .int .i64 0, .int .i64 0, .int .i64 0, .int .i64 0, .bool false, .int .i64 0]),
 .op 2 (.mov 5 (.const (.bool false)))] [])
 (.seq (.seq (.region [.op 0 (.faddr 6 0 (.tmp 2)),
 .op 1 (.faddr 7 8 (.tmp 6)),
 .op 2 (.load 8 false 1 (.tmp 7))] [])
 (.cond (.tmp 8)
 (.seq (.region [.op 0 (.build 9 [.str [], .str [], .int .i64 0, .int .i64 0, .int .i64 0, .int .i64 0, .int .i64 0, .int .i64 0, .bool false, .int .i64 0] []),
 .op 1 (.store true 10 (.tmp 4) (.tmp 9)),
 .op 2 (.mov 5 (.const (.bool false)))] [])
 .ret)
 .skip))
 (.seq (.region [.op 0 (.faddr 10 9 (.tmp 2)),
 .op 1 (.load 11 false 1 (.tmp 10)),
 .op 2 (.mov 12 (.tmp 1)),
 .op 3 (.minmax 13 true [.tmp 11, .tmp 12]),
 .op 4 (.faddr 14 9 (.tmp 2)),
 .op 5 (.store false 1 (.tmp 14) (.tmp 13))] [])
 (.seq (.region [.op 0 (.load 15 true 10 (.tmp 2)),
 .op 1 (.store true 10 (.tmp 4) (.tmp 15)),
 .op 2 (.mov 5 (.const (.bool true)))] [])
 .ret)))),
 [.cell 4 true 10, .tmp 5]⟩
theorem ok10 : funcOk Try.prog (drawOk Try.prog) Try.f10 A10 = true := by kernel_rfl
noncomputable def S10 (call : Go.Fw.Call) (a0 a1 : AVal) (h : Heap) : Option J :=
 (AVal.cells? a0).bind fun c1 =>
 (rdL c1 8 1).bind fun c2 =>
 (fromCells false c2).bind fun v3 =>
 condV v3
 ((aFill [.str [], .str [], .int .i64 0, .int .i64 0, .int .i64 0, .int .i64 0, .int .i64 0, .int .i64 0, .bool false, .int .i64 0] []).bind fun c4 =>
 (aCells 10 (.agg c4)).bind fun c5 =>
 bif Nat.ble ((0) + 10) (List.length (α := AVal) [.str [], .str [], .int .i64 0, .int .i64 0, .int .i64 0, .int .i64 0, .int .i64 0, .int .i64 0, .bool false, .int .i64 0]) then (((rdL (splice [.str [], .str [], .int .i64 0, .int .i64 0, .int .i64 0, .int .i64 0, .int .i64 0, .int .i64 0, .bool false, .int .i64 0] (0) c5) (0) 10).bind fun cs => fromCells true cs).bind fun v => ((some (.bool false)).bind fun v => (some []).bind fun vs => some (v :: vs)).bind fun vs => some (v :: vs)).bind fun vs => some (0, [oneOr vs], h) else none)
 ((rdL c1 9 1).bind fun c6 =>
 (fromCells false c6).bind fun v7 =>
 (aMinMaxL true [v7, a1]).bind fun v8 =>
 (aCells 1 v8).bind fun c9 =>
 bif Nat.ble ((9) + 1) (List.length (α := AVal) c1) then (rdL (splice c1 (9) c9) 0 10).bind fun c10 =>
 (fromCells true c10).bind fun v11 =>
 (aCells 10 v11).bind fun c12 =>
 bif Nat.ble ((0) + 10) (List.length (α := AVal) [.str [], .str [], .int .i64 0, .int .i64 0, .int .i64 0, .int .i64 0, .int .i64 0, .int .i64 0, .bool false, .int .i64 0]) then (((rdL (splice [.str [], .str [], .int .i64 0, .int .i64 0, .int .i64 0, .int .i64 0, .int .i64 0, .int .i64 0, .bool false, .int .i64 0] (0) c12) (0) 10).bind fun cs => fromCells true cs).bind fun v => ((some (.bool true)).bind fun v => (some []).bind fun vs => some (v :: vs)).bind fun vs => some (v :: vs)).bind fun vs => some (0, [oneOr vs], h) else none else none)
theorem run10 (call : Go.Fw.Call) (a0 a1 : AVal) (h : Heap) : runFn call (.code A10) [a0, a1] h = (S10 call a0 a1 h).bind ansOf := by kernel_rfl

/-- frankpledge/lease.Late -/
noncomputable def A11 : AFunc := ⟨2, (.seq (.region [.op 0 (.box 2 true (.tmp 0)),
 .op 1 (.mov 4 (.const (.int .i64 0)))] [])
 (.seq (.seq (.region [.op 0 (.faddr 5 0 (.tmp 2)),
 .op 1 (.faddr 6 8 (.tmp 5)),
 .op 2 (.load 7 false 1 (.tmp 6))] [])
 (.cond (.tmp 7)
 (.seq (.region [.op 0 (.mov 4 (.const (.int .i64 0)))] [])
 .ret)
 .skip))
 (.seq (.region [.op 0 (.mov 8 (.tmp 1)),
 .op 1 (.call 9 21 [.tmp 8]),
 .op 2 (.faddr 10 9 (.tmp 2)),
 .op 3 (.load 11 false 1 (.tmp 10)),
 .op 4 (.call 12 21 [.tmp 11]),
 .op 5 (.bin 13 .sub .plain (.tmp 9) (.tmp 12)),
 .op 6 (.faddr 14 0 (.tmp 2)),
 .op 7 (.faddr 15 4 (.tmp 14)),
 .op 8 (.load 16 false 1 (.tmp 15)),
 .op 9 (.call 17 21 [.tmp 16]),
 .op 10 (.bin 18 .sub .plain (.tmp 13) (.tmp 17)),
 .op 11 (.minmax 19 true [.const (.int .i64 0), .tmp 18]),
 .op 12 (.mov 4 (.tmp 19))] [(3, 1), (8, 1), (8, 4)])
 .ret))),
 [.tmp 4]⟩
theorem ok11 : funcOk Try.prog (drawOk Try.prog) Try.f11 A11 = true := by kernel_rfl
noncomputable def S11 (call : Go.Fw.Call) (a0 a1 : AVal) (h : Heap) : Option J :=
 (AVal.cells? a0).bind fun c1 =>
 (rdL c1 8 1).bind fun c2 =>
 (fromCells false c2).bind fun v3 =>
 condV v3
 (some (0, [(.int .i64 0)], h))
 ((call 21 [a1] h).bind fun r4 =>
 (rdL c1 9 1).bind fun c5 =>
 (fromCells false c5).bind fun v6 =>
 (call 21 [v6] r4.2).bind fun r7 =>
 (aBin .sub .plain r4.1 r7.1).bind fun v8 =>
 (rdL c1 4 1).bind fun c9 =>
 (fromCells false c9).bind fun v10 =>
 (call 21 [v10] r7.2).bind fun r11 =>
 (aBin .sub .plain v8 r11.1).bind fun v12 =>
 (aMinMaxL true [(.int .i64 0), v12]).bind fun v13 =>
 bif checkPairs [(8, some (.lrd 2 (4) 1)), (4, some (.ef [(2, c1)] r4.2 [(2, c1)] r7.2)), (3, some (.lrd 2 (9) 1)), (1, some (.ef [(2, c1)] h [(2, c1)] r4.2))] [(3, 1), (8, 1), (8, 4)] then some (0, [v13], r11.2) else none)
theorem run11 (call : Go.Fw.Call) (a0 a1 : AVal) (h : Heap) : runFn call (.code A11) [a0, a1] h = (S11 call a0 a1 h).bind ansOf := by kernel_rfl

/-- frankpledge/frankpledgelaw9.known -/
noncomputable def A12 : AFunc := ⟨0, (.seq (.region [.op 0 (.mov 0 (.const (.bool false)))] [])
 (.seq (.region [.op 0 (.build 8 [.str [], .str [], .int .i64 0, .int .i64 0, .int .i64 0, .int .i64 0, .int .i64 0, .int .i64 0, .bool false] [(4, 1, .const (.int .i64 5)), (2, 1, .const (.int .i64 1))]),
 .op 1 (.build 9 [.str [], .str [], .int .i64 0, .int .i64 0, .int .i64 0, .int .i64 0, .int .i64 0, .int .i64 0, .bool false, .int .i64 0] [(0, 9, .tmp 8)]),
 .op 2 (.alloc 1 true [.str [], .str [], .int .i64 0, .int .i64 0, .int .i64 0, .int .i64 0, .int .i64 0, .int .i64 0, .bool false, .int .i64 0]),
 .op 3 (.store true 10 (.tmp 1) (.tmp 9))] [])
 (.seq (.region [.op 0 (.load 11 true 10 (.tmp 1)),
 .op 1 (.build 12 [.int .i64 0, .int .i64 0, .int .i64 0] [(0, 1, .const (.int .i64 3))]),
 .op 2 (.call 13 18 [.tmp 11, .tmp 12, .const (.int .i64 7)]),
 .op 3 (.mov 10 (.tmp 13)),
 .op 4 (.extract 14 (.tmp 10) 0),
 .op 5 (.extract 15 (.tmp 10) 1),
 .op 6 (.alloc 2 true [.str [], .str [], .int .i64 0, .int .i64 0, .int .i64 0, .int .i64 0, .int .i64 0, .int .i64 0, .bool false, .int .i64 0]),
 .op 7 (.store true 10 (.tmp 2) (.tmp 14)),
 .op 8 (.mov 3 (.tmp 15))] [])
 (.seq (.region [.op 0 (.load 17 true 10 (.tmp 2)),
 .op 1 (.call 18 10 [.tmp 17, .const (.int .i64 9)]),
 .op 2 (.mov 16 (.tmp 18)),
 .op 3 (.extract 19 (.tmp 16) 0),
 .op 4 (.extract 20 (.tmp 16) 1),
 .op 5 (.alloc 4 true [.str [], .str [], .int .i64 0, .int .i64 0, .int .i64 0, .int .i64 0, .int .i64 0, .int .i64 0, .bool false, .int .i64 0]),
 .op 6 (.store true 10 (.tmp 4) (.tmp 19)),
 .op 7 (.mov 5 (.tmp 20))] [])
 (.seq (.region [.op 0 (.load 22 true 10 (.tmp 1)),
 .op 1 (.build 23 [.int .i64 0, .int .i64 0, .int .i64 0] []),
 .op 2 (.call 24 17 [.tmp 22, .const (.int .i64 4), .tmp 23]),
 .op 3 (.mov 21 (.tmp 24)),
 .op 4 (.extract 25 (.tmp 21) 0),
 .op 5 (.extract 26 (.tmp 21) 1),
 .op 6 (.alloc 6 true [.str [], .str [], .int .i64 0, .int .i64 0, .int .i64 0, .int .i64 0, .int .i64 0, .int .i64 0, .bool false, .int .i64 0]),
 .op 7 (.store true 10 (.tmp 6) (.tmp 25)),
 .op 8 (.mov 7 (.tmp 26))] [])
 (.seq (.region [.op 0 (.load 27 true 10 (.tmp 1)),
 .op 1 (.call 28 11 [.tmp 27, .const (.int .i64 9)]),
 .op 2 (.bin 29 .eql .plain (.tmp 28) (.const (.int .i64 4))),
 .op 3 (.mov 30 (.tmp 29)),
 .guard 30 true [.op 4 (.mov 31 (.tmp 3))] [] [31],
 .op 5 (.pick 32 (.tmp 30) (.tmp 31) (.const (.bool false))),
 .op 6 (.mov 33 (.tmp 32)),
 .guard 33 true [.op 7 (.faddr 34 0 (.tmp 2)),
 .op 8 (.faddr 35 8 (.tmp 34)),
 .op 9 (.load 36 false 1 (.tmp 35))] [] [36],
 .op 10 (.pick 37 (.tmp 33) (.tmp 36) (.const (.bool false))),
 .op 11 (.mov 38 (.tmp 37)),
 .guard 38 true [.op 12 (.faddr 39 9 (.tmp 2)),
 .op 13 (.load 40 false 1 (.tmp 39)),
 .op 14 (.bin 41 .eql .plain (.tmp 40) (.const (.int .i64 7)))] [] [41],
 .op 15 (.pick 42 (.tmp 38) (.tmp 41) (.const (.bool false))),
 .op 16 (.mov 43 (.tmp 42)),
 .guard 43 true [.op 17 (.mov 44 (.tmp 5)),
 .op 18 (.un 45 .not (.tmp 44))] [] [45],
 .op 19 (.pick 46 (.tmp 43) (.tmp 45) (.const (.bool false))),
 .op 20 (.mov 47 (.tmp 46)),
 .guard 47 true [.op 21 (.load 48 true 10 (.tmp 2)),
 .op 22 (.call 49 11 [.tmp 48, .const (.int .i64 99)]),
 .op 23 (.bin 50 .eql .plain (.tmp 49) (.const (.int .i64 0)))] [] [50],
 .op 24 (.pick 51 (.tmp 47) (.tmp 50) (.const (.bool false))),
 .op 25 (.mov 52 (.tmp 51)),
 .guard 52 true [.op 26 (.mov 53 (.tmp 7)),
 .op 27 (.un 54 .not (.tmp 53))] [] [54],
 .op 28 (.pick 55 (.tmp 52) (.tmp 54) (.const (.bool false))),
 .op 29 (.mov 56 (.tmp 55)),
 .guard 56 true [.op 30 (.load 57 true 10 (.tmp 1)),
 .op 31 (.buildSl 58 [.str [], .str [], .int .i64 0, .int .i64 0, .int .i64 0, .int .i64 0, .int .i64 0, .int .i64 0, .bool false, .int .i64 0] 10 1 [(0, .tmp 57)]),
 .op 32 (.load 59 true 10 (.tmp 1)),
 .op 33 (.buildSl 60 [.str [], .str [], .int .i64 0, .int .i64 0, .int .i64 0, .int .i64 0, .int .i64 0, .int .i64 0, .bool false, .int .i64 0] 10 1 [(0, .tmp 59)]),
 .op 34 (.call 61 14 [.tmp 58, .tmp 60])] [] [61],
 .op 35 (.pick 62 (.tmp 56) (.tmp 61) (.const (.bool false))),
 .op 36 (.mov 0 (.tmp 62))] [])
 .ret)))))),
 [.tmp 0]⟩
theorem ok12 : funcOk Try.prog (drawOk Try.prog) Try.f12 A12 = true := by kernel_rfl
noncomputable def S12 (call : Go.Fw.Call) (h : Heap) : Option J :=
 (aFill [.str [], .str [], .int .i64 0, .int .i64 0, .int .i64 0, .int .i64 0, .int .i64 0, .int .i64 0, .bool false] [(4, 1, (.int .i64 5)), (2, 1, (.int .i64 1))]).bind fun c1 =>
 (aFill [.str [], .str [], .int .i64 0, .int .i64 0, .int .i64 0, .int .i64 0, .int .i64 0, .int .i64 0, .bool false, .int .i64 0] [(0, 9, (.agg c1))]).bind fun c2 =>
 (aCells 10 (.agg c2)).bind fun c3 =>
 bif Nat.ble ((0) + 10) (List.length (α := AVal) [.str [], .str [], .int .i64 0, .int .i64 0, .int .i64 0, .int .i64 0, .int .i64 0, .int .i64 0, .bool false, .int .i64 0]) then (rdL (splice [.str [], .str [], .int .i64 0, .int .i64 0, .int .i64 0, .int .i64 0, .int .i64 0, .int .i64 0, .bool false, .int .i64 0] (0) c3) 0 10).bind fun c4 =>
 (fromCells true c4).bind fun v5 =>
 (aFill [.int .i64 0, .int .i64 0, .int .i64 0] [(0, 1, (.int .i64 3))]).bind fun c6 =>
 (call 18 [v5, (.agg c6), (.int .i64 7)] h).bind fun r7 =>
 (aExtract 0 r7.1).bind fun v8 =>
 (aExtract 1 r7.1).bind fun v9 =>
 (aCells 10 v8).bind fun c10 =>
 bif Nat.ble ((0) + 10) (List.length (α := AVal) [.str [], .str [], .int .i64 0, .int .i64 0, .int .i64 0, .int .i64 0, .int .i64 0, .int .i64 0, .bool false, .int .i64 0]) then (rdL (splice [.str [], .str [], .int .i64 0, .int .i64 0, .int .i64 0, .int .i64 0, .int .i64 0, .int .i64 0, .bool false, .int .i64 0] (0) c10) 0 10).bind fun c11 =>
 (fromCells true c11).bind fun v12 =>
 (call 10 [v12, (.int .i64 9)] r7.2).bind fun r13 =>
 (aExtract 0 r13.1).bind fun v14 =>
 (aExtract 1 r13.1).bind fun v15 =>
 (aCells 10 v14).bind fun c16 =>
 bif Nat.ble ((0) + 10) (List.length (α := AVal) [.str [], .str [], .int .i64 0, .int .i64 0, .int .i64 0, .int .i64 0, .int .i64 0, .int .i64 0, .bool false, .int .i64 0]) then (rdL (splice [.str [], .str [], .int .i64 0, .int .i64 0, .int .i64 0, .int .i64 0, .int .i64 0, .int .i64 0, .bool false, .int .i64 0] (0) c3) 0 10).bind fun c17 =>
 (fromCells true c17).bind fun v18 =>
 (aFill [.int .i64 0, .int .i64 0, .int .i64 0] []).bind fun c19 =>
 (call 17 [v18, (.int .i64 4), (.agg c19)] r13.2).bind fun r20 =>
 (aExtract 0 r20.1).bind fun v21 =>
 (aExtract 1 r20.1).bind fun v22 =>
 (aCells 10 v21).bind fun c23 =>
 bif Nat.ble ((0) + 10) (List.length (α := AVal) [.str [], .str [], .int .i64 0, .int .i64 0, .int .i64 0, .int .i64 0, .int .i64 0, .int .i64 0, .bool false, .int .i64 0]) then (rdL (splice [.str [], .str [], .int .i64 0, .int .i64 0, .int .i64 0, .int .i64 0, .int .i64 0, .int .i64 0, .bool false, .int .i64 0] (0) c3) 0 10).bind fun c24 =>
 (fromCells true c24).bind fun v25 =>
 (call 11 [v25, (.int .i64 9)] r20.2).bind fun r26 =>
 (aBin .eql .plain r26.1 (.int .i64 4)).bind fun v27 =>
 (guardV v27 true
 (some (0, [v9], r26.2))
 (some (0, [skipV], r26.2))).bind fun g28 =>
 (aPick v27 (g28.2.1.getD 0 .undef) (.bool false)).bind fun v29 =>
 (guardV v29 true
 ((rdL (splice [.str [], .str [], .int .i64 0, .int .i64 0, .int .i64 0, .int .i64 0, .int .i64 0, .int .i64 0, .bool false, .int .i64 0] (0) c10) 8 1).bind fun c30 =>
 (fromCells false c30).bind fun v31 =>
 some (0, [v31], g28.2.2))
 (some (0, [skipV], g28.2.2))).bind fun g32 =>
 (aPick v29 (g32.2.1.getD 0 .undef) (.bool false)).bind fun v33 =>
 (guardV v33 true
 ((rdL (splice [.str [], .str [], .int .i64 0, .int .i64 0, .int .i64 0, .int .i64 0, .int .i64 0, .int .i64 0, .bool false, .int .i64 0] (0) c10) 9 1).bind fun c34 =>
 (fromCells false c34).bind fun v35 =>
 (aBin .eql .plain v35 (.int .i64 7)).bind fun v36 =>
 some (0, [v36], g32.2.2))
 (some (0, [skipV], g32.2.2))).bind fun g37 =>
 (aPick v33 (g37.2.1.getD 0 .undef) (.bool false)).bind fun v38 =>
 (guardV v38 true
 ((aUn .not v15).bind fun v39 =>
 some (0, [v39], g37.2.2))
 (some (0, [skipV], g37.2.2))).bind fun g40 =>
 (aPick v38 (g40.2.1.getD 0 .undef) (.bool false)).bind fun v41 =>
 (guardV v41 true
 ((rdL (splice [.str [], .str [], .int .i64 0, .int .i64 0, .int .i64 0, .int .i64 0, .int .i64 0, .int .i64 0, .bool false, .int .i64 0] (0) c10) 0 10).bind fun c42 =>
 (fromCells true c42).bind fun v43 =>
 (call 11 [v43, (.int .i64 99)] g40.2.2).bind fun r44 =>
 (aBin .eql .plain r44.1 (.int .i64 0)).bind fun v45 =>
 some (0, [v45], r44.2))
 (some (0, [skipV], g40.2.2))).bind fun g46 =>
 (aPick v41 (g46.2.1.getD 0 .undef) (.bool false)).bind fun v47 =>
 (guardV v47 true
 ((aUn .not v22).bind fun v48 =>
 some (0, [v48], g46.2.2))
 (some (0, [skipV], g46.2.2))).bind fun g49 =>
 (aPick v47 (g49.2.1.getD 0 .undef) (.bool false)).bind fun v50 =>
 (guardV v50 true
 ((rdL (splice [.str [], .str [], .int .i64 0, .int .i64 0, .int .i64 0, .int .i64 0, .int .i64 0, .int .i64 0, .bool false, .int .i64 0] (0) c3) 0 10).bind fun c51 =>
 (fromCells true c51).bind fun v52 =>
 (aFill (reps [.str [], .str [], .int .i64 0, .int .i64 0, .int .i64 0, .int .i64 0, .int .i64 0, .int .i64 0, .bool false, .int .i64 0] 1) [(0, 10, v52)]).bind fun c53 =>
 (rdL (splice [.str [], .str [], .int .i64 0, .int .i64 0, .int .i64 0, .int .i64 0, .int .i64 0, .int .i64 0, .bool false, .int .i64 0] (0) c3) 0 10).bind fun c54 =>
 (fromCells true c54).bind fun v55 =>
 (aFill (reps [.str [], .str [], .int .i64 0, .int .i64 0, .int .i64 0, .int .i64 0, .int .i64 0, .int .i64 0, .bool false, .int .i64 0] 1) [(0, 10, v55)]).bind fun c56 =>
 (call 14 [(.slice g49.2.2.next 0 1 1 10 true), (.slice (g49.2.2.alloc c53).next 0 1 1 10 true)] ((g49.2.2.alloc c53).alloc c56)).bind fun r57 =>
 some (0, [r57.1], r57.2))
 (some (0, [skipV], g49.2.2))).bind fun g58 =>
 (aPick v50 (g58.2.1.getD 0 .undef) (.bool false)).bind fun v59 =>
 some (0, [v59], g58.2.2) else none else none else none else none
theorem run12 (call : Go.Fw.Call) (h : Heap) : runFn call (.code A12) [] h = (S12 call  h).bind ansOf := by kernel_rfl

/-- frankpledge/frankpledgelaw9.same -/
noncomputable def A13 : AFunc := ⟨6, (.seq (.region [.op 0 (.box 6 true (.tmp 0)),
 .op 1 (.box 8 true (.tmp 2)),
 .op 2 (.box 10 true (.tmp 4)),
 .op 3 (.mov 12 (.const (.bool false)))] [])
 (.seq (.region [.op 0 (.load 25 true 9 (.tmp 8)),
 .op 1 (.mov 26 (.tmp 5)),
 .op 2 (.build 27 [.str [], .str [], .int .i64 0, .int .i64 0, .int .i64 0, .int .i64 0, .int .i64 0, .int .i64 0, .bool false, .int .i64 0] [(0, 9, .tmp 25), (9, 1, .tmp 26)]),
 .op 3 (.alloc 13 true [.str [], .str [], .int .i64 0, .int .i64 0, .int .i64 0, .int .i64 0, .int .i64 0, .int .i64 0, .bool false, .int .i64 0]),
 .op 4 (.store true 10 (.tmp 13) (.tmp 27))] [])
 (.seq (.region [.op 0 (.faddr 28 0 (.tmp 13)),
 .op 1 (.faddr 29 3 (.tmp 28)),
 .op 2 (.store false 1 (.tmp 29) (.const (.int .i64 0))),
 .op 3 (.faddr 30 0 (.tmp 13)),
 .op 4 (.faddr 31 8 (.tmp 30)),
 .op 5 (.store false 1 (.tmp 31) (.const (.bool false)))] [])
 (.seq (.seq (.region [.op 0 (.mov 32 (.tmp 1)),
 .op 1 (.mov 33 (.tmp 32)),
 .guard 33 true [.op 2 (.faddr 34 0 (.tmp 6)),
 .op 3 (.faddr 35 8 (.tmp 34)),
 .op 4 (.load 36 false 1 (.tmp 35)),
 .op 5 (.un 37 .not (.tmp 36))] [] [37],
 .op 6 (.pick 38 (.tmp 33) (.tmp 37) (.const (.bool false)))] [])
 (.join [(.normal, ⟨[1, 3, 5], [6, 8, 10, 13]⟩)] (.cond (.tmp 38)
 (.region [.op 0 (.faddr 39 0 (.tmp 6)),
 .op 1 (.faddr 40 3 (.tmp 39)),
 .op 2 (.load 41 false 1 (.tmp 40)),
 .op 3 (.faddr 42 0 (.tmp 13)),
 .op 4 (.faddr 43 3 (.tmp 42)),
 .op 5 (.store false 1 (.tmp 43) (.tmp 41))] [])
 .skip)))
 (.seq (.region [.op 0 (.load 45 true 10 (.tmp 6)),
 .op 1 (.mov 46 (.tmp 5)),
 .op 2 (.call 47 10 [.tmp 45, .tmp 46]),
 .op 3 (.mov 44 (.tmp 47)),
 .op 4 (.extract 48 (.tmp 44) 0),
 .op 5 (.extract 49 (.tmp 44) 1),
 .op 6 (.alloc 14 true [.str [], .str [], .int .i64 0, .int .i64 0, .int .i64 0, .int .i64 0, .int .i64 0, .int .i64 0, .bool false, .int .i64 0]),
 .op 7 (.store true 10 (.tmp 14) (.tmp 48)),
 .op 8 (.mov 15 (.tmp 49))] [])
 (.seq (.region [.op 0 (.load 51 true 10 (.tmp 6)),
 .op 1 (.load 52 true 3 (.tmp 10)),
 .op 2 (.mov 53 (.tmp 5)),
 .op 3 (.call 54 18 [.tmp 51, .tmp 52, .tmp 53]),
 .op 4 (.mov 50 (.tmp 54)),
 .op 5 (.extract 55 (.tmp 50) 0),
 .op 6 (.extract 56 (.tmp 50) 1),
 .op 7 (.alloc 16 true [.str [], .str [], .int .i64 0, .int .i64 0, .int .i64 0, .int .i64 0, .int .i64 0, .int .i64 0, .bool false, .int .i64 0]),
 .op 8 (.store true 10 (.tmp 16) (.tmp 55)),
 .op 9 (.mov 17 (.tmp 56))] [])
 (.seq (.region [.op 0 (.load 58 true 10 (.tmp 6)),
 .op 1 (.mov 59 (.tmp 3)),
 .op 2 (.load 60 true 3 (.tmp 10)),
 .op 3 (.call 61 17 [.tmp 58, .tmp 59, .tmp 60]),
 .op 4 (.mov 57 (.tmp 61)),
 .op 5 (.extract 62 (.tmp 57) 0),
 .op 6 (.extract 63 (.tmp 57) 1),
 .op 7 (.alloc 18 true [.str [], .str [], .int .i64 0, .int .i64 0, .int .i64 0, .int .i64 0, .int .i64 0, .int .i64 0, .bool false, .int .i64 0]),
 .op 8 (.store true 10 (.tmp 18) (.tmp 62)),
 .op 9 (.mov 19 (.tmp 63))] [])
 (.seq (.regionF 3 [.op 0 (.load 64 true 10 (.tmp 6)),
 .op 1 (.load 65 true 10 (.tmp 6)),
 .op 2 (.load 66 true 10 (.tmp 6)),
 .op 3 (.fl 20 0 none [.str [], .str [], .int .i64 0, .int .i64 0, .int .i64 0, .int .i64 0, .int .i64 0, .int .i64 0, .bool false, .int .i64 0] []),
 .op 4 (.fl 21 1 none [.str [], .str [], .int .i64 0, .int .i64 0, .int .i64 0, .int .i64 0, .int .i64 0, .int .i64 0, .bool false, .int .i64 0] []),
 .op 5 (.fl 22 2 none [.str [], .str [], .int .i64 0, .int .i64 0, .int .i64 0, .int .i64 0, .int .i64 0, .int .i64 0, .bool false, .int .i64 0] []),
 .op 6 (.store true 10 (.tmp 20) (.tmp 64)),
 .op 7 (.store true 10 (.tmp 21) (.tmp 65)),
 .op 8 (.store true 10 (.tmp 22) (.tmp 66))] [(1, 6), (2, 6), (2, 7)])
 (.seq (.region [.op 0 (.faddr 67 9 (.tmp 6)),
 .op 1 (.load 68 false 1 (.tmp 67)),
 .op 2 (.mov 69 (.tmp 5)),
 .op 3 (.minmax 70 true [.tmp 68, .tmp 69]),
 .op 4 (.faddr 71 9 (.tmp 20)),
 .op 5 (.store false 1 (.tmp 71) (.tmp 70))] [])
 (.seq (.region [.op 0 (.load 72 true 3 (.tmp 10)),
 .op 1 (.mov 73 (.tmp 5)),
 .op 2 (.faddr 74 0 (.tmp 21)),
 .op 3 (.faddr 75 8 (.tmp 74)),
 .op 4 (.store false 1 (.tmp 75) (.const (.bool true))),
 .op 5 (.faddr 76 0 (.tmp 21)),
 .op 6 (.faddr 77 5 (.tmp 76)),
 .op 7 (.store true 3 (.tmp 77) (.tmp 72)),
 .op 8 (.faddr 78 9 (.tmp 21)),
 .op 9 (.store false 1 (.tmp 78) (.tmp 73))] [(0, 4)])
 (.seq (.region [.op 0 (.mov 79 (.tmp 3)),
 .op 1 (.load 80 true 3 (.tmp 10)),
 .op 2 (.faddr 81 0 (.tmp 22)),
 .op 3 (.faddr 82 3 (.tmp 81)),
 .op 4 (.store false 1 (.tmp 82) (.tmp 79)),
 .op 5 (.faddr 83 0 (.tmp 22)),
 .op 6 (.faddr 84 5 (.tmp 83)),
 .op 7 (.store true 3 (.tmp 84) (.tmp 80))] [(1, 4)])
 (.seq (.region [.op 0 (.faddr 85 0 (.tmp 6)),
 .op 1 (.faddr 86 8 (.tmp 85)),
 .op 2 (.load 87 false 1 (.tmp 86)),
 .op 3 (.un 88 .not (.tmp 87)),
 .op 4 (.mov 23 (.tmp 88))] [])
 (.seq (.region [.op 0 (.mov 89 (.tmp 23)),
 .op 1 (.mov 90 (.tmp 89)),
 .guard 90 true [.op 2 (.mov 91 (.tmp 3)),
 .op 3 (.bin 92 .geq .plain (.tmp 91) (.const (.int .i64 0)))] [] [92],
 .op 4 (.pick 93 (.tmp 90) (.tmp 92) (.const (.bool false))),
 .op 5 (.mov 94 (.tmp 93)),
 .guard 94 true [.op 6 (.mov 95 (.tmp 3)),
 .op 7 (.bin 96 .leq .plain (.tmp 95) (.const (.int .i64 3)))] [] [96],
 .op 8 (.pick 97 (.tmp 94) (.tmp 96) (.const (.bool false))),
 .op 9 (.mov 24 (.tmp 97))] [])
 (.seq (.seq (.region [.op 0 (.mov 98 (.tmp 23)),
 .op 1 (.un 99 .not (.tmp 98))] [])
 (.join [(.normal, ⟨[1, 5, 15, 17, 19, 20, 21, 22, 23, 24], [6, 8, 13, 14, 16, 18]⟩)] (.cond (.tmp 99)
 (.region [.op 0 (.build 100 [.str [], .str [], .int .i64 0, .int .i64 0, .int .i64 0, .int .i64 0, .int .i64 0, .int .i64 0, .bool false, .int .i64 0] []),
 .op 1 (.build 101 [.str [], .str [], .int .i64 0, .int .i64 0, .int .i64 0, .int .i64 0, .int .i64 0, .int .i64 0, .bool false, .int .i64 0] []),
 .op 2 (.store true 10 (.tmp 20) (.tmp 100)),
 .op 3 (.store true 10 (.tmp 21) (.tmp 101))] [])
 .skip)))
 (.seq (.seq (.region [.op 0 (.mov 102 (.tmp 24)),
 .op 1 (.un 103 .not (.tmp 102))] [])
 (.join [(.normal, ⟨[1, 5, 15, 17, 19, 20, 21, 22, 23, 24], [6, 8, 13, 14, 16, 18]⟩)] (.cond (.tmp 103)
 (.region [.op 0 (.build 104 [.str [], .str [], .int .i64 0, .int .i64 0, .int .i64 0, .int .i64 0, .int .i64 0, .int .i64 0, .bool false, .int .i64 0] []),
 .op 1 (.store true 10 (.tmp 22) (.tmp 104))] [])
 .skip)))
 (.seq (.region [.op 0 (.load 105 true 10 (.tmp 6)),
 .op 1 (.mov 106 (.tmp 1)),
 .op 2 (.load 107 true 9 (.tmp 8)),
 .op 3 (.mov 108 (.tmp 5)),
 .op 4 (.call 109 16 [.tmp 105, .tmp 106, .tmp 107, .tmp 108]),
 .op 5 (.load 110 true 10 (.tmp 13)),
 .op 6 (.bin 111 .eql (.cells [2, 2, 1, 1, 1, 1, 1, 1, 0, 1]) (.tmp 109) (.tmp 110)),
 .op 7 (.mov 112 (.tmp 111)),
 .guard 112 true [.op 8 (.load 113 true 10 (.tmp 14)),
 .op 9 (.load 114 true 10 (.tmp 20)),
 .op 10 (.bin 115 .eql (.cells [2, 2, 1, 1, 1, 1, 1, 1, 0, 1]) (.tmp 113) (.tmp 114))] [] [115],
 .op 11 (.pick 116 (.tmp 112) (.tmp 115) (.const (.bool false))),
 .op 12 (.mov 117 (.tmp 116)),
 .guard 117 true [.op 13 (.mov 118 (.tmp 15)),
 .op 14 (.mov 119 (.tmp 23)),
 .op 15 (.bin 120 .eql .bool (.tmp 118) (.tmp 119))] [] [120],
 .op 16 (.pick 121 (.tmp 117) (.tmp 120) (.const (.bool false))),
 .op 17 (.mov 122 (.tmp 121)),
 .guard 122 true [.op 18 (.load 123 true 10 (.tmp 16)),
 .op 19 (.load 124 true 10 (.tmp 21)),
 .op 20 (.bin 125 .eql (.cells [2, 2, 1, 1, 1, 1, 1, 1, 0, 1]) (.tmp 123) (.tmp 124))] [] [125],
 .op 21 (.pick 126 (.tmp 122) (.tmp 125) (.const (.bool false))),
 .op 22 (.mov 127 (.tmp 126)),
 .guard 127 true [.op 23 (.mov 128 (.tmp 17)),
 .op 24 (.mov 129 (.tmp 23)),
 .op 25 (.bin 130 .eql .bool (.tmp 128) (.tmp 129))] [] [130],
 .op 26 (.pick 131 (.tmp 127) (.tmp 130) (.const (.bool false))),
 .op 27 (.mov 132 (.tmp 131)),
 .guard 132 true [.op 28 (.load 133 true 10 (.tmp 18)),
 .op 29 (.load 134 true 10 (.tmp 22)),
 .op 30 (.bin 135 .eql (.cells [2, 2, 1, 1, 1, 1, 1, 1, 0, 1]) (.tmp 133) (.tmp 134))] [] [135],
 .op 31 (.pick 136 (.tmp 132) (.tmp 135) (.const (.bool false))),
 .op 32 (.mov 137 (.tmp 136)),
 .guard 137 true [.op 33 (.mov 138 (.tmp 19)),
 .op 34 (.mov 139 (.tmp 24)),
 .op 35 (.bin 140 .eql .bool (.tmp 138) (.tmp 139))] [] [140],
 .op 36 (.pick 141 (.tmp 137) (.tmp 140) (.const (.bool false))),
 .op 37 (.mov 142 (.tmp 141)),
 .guard 142 true [.op 38 (.load 143 true 10 (.tmp 6)),
 .op 39 (.mov 144 (.tmp 5)),
 .op 40 (.call 145 11 [.tmp 143, .tmp 144]),
 .op 41 (.load 146 true 10 (.tmp 6)),
 .op 42 (.call 147 23 [.tmp 146]),
 .op 43 (.mov 148 (.tmp 5)),
 .op 44 (.call 149 22 [.tmp 147, .tmp 148]),
 .op 45 (.bin 150 .eql .plain (.tmp 145) (.tmp 149))] [(41, 40)] [150],
 .op 46 (.pick 151 (.tmp 142) (.tmp 150) (.const (.bool false))),
 .op 47 (.mov 12 (.tmp 151))] [(5, 4)])
 .ret)))))))))))))))),
 [.tmp 12]⟩
theorem ok13 : funcOk Try.prog (drawOk Try.prog) Try.f13 A13 = true := by kernel_rfl
noncomputable def S13 (call : Go.Fw.Call) (a0 a1 a2 a3 a4 a5 : AVal) (h : Heap) : Option J :=
 (AVal.cells? a0).bind fun c1 =>
 (AVal.cells? a2).bind fun c2 =>
 (AVal.cells? a4).bind fun c3 =>
 (rdL c2 0 9).bind fun c4 =>
 (fromCells true c4).bind fun v5 =>
 (aFill [.str [], .str [], .int .i64 0, .int .i64 0, .int .i64 0, .int .i64 0, .int .i64 0, .int .i64 0, .bool false, .int .i64 0] [(0, 9, v5), (9, 1, a5)]).bind fun c6 =>
 (aCells 10 (.agg c6)).bind fun c7 =>
 bif Nat.ble ((0) + 10) (List.length (α := AVal) [.str [], .str [], .int .i64 0, .int .i64 0, .int .i64 0, .int .i64 0, .int .i64 0, .int .i64 0, .bool false, .int .i64 0]) then (aCells 1 (.int .i64 0)).bind fun c8 =>
 bif Nat.ble ((3) + 1) (List.length (α := AVal) (splice [.str [], .str [], .int .i64 0, .int .i64 0, .int .i64 0, .int .i64 0, .int .i64 0, .int .i64 0, .bool false, .int .i64 0] (0) c7)) then (aCells 1 (.bool false)).bind fun c9 =>
 bif Nat.ble ((8) + 1) (List.length (α := AVal) (splice (splice [.str [], .str [], .int .i64 0, .int .i64 0, .int .i64 0, .int .i64 0, .int .i64 0, .int .i64 0, .bool false, .int .i64 0] (0) c7) (3) c8)) then (guardV a1 true
 ((rdL c1 8 1).bind fun c10 =>
 (fromCells false c10).bind fun v11 =>
 (aUn .not v11).bind fun v12 =>
 some (0, [v12], h))
 (some (0, [skipV], h))).bind fun g13 =>
 (aPick a1 (g13.2.1.getD 0 .undef) (.bool false)).bind fun v14 =>
 (condV v14
 ((rdL c1 3 1).bind fun c15 =>
 (fromCells false c15).bind fun v16 =>
 (aCells 1 v16).bind fun c17 =>
 bif Nat.ble ((3) + 1) (List.length (α := AVal) (splice (splice (splice [.str [], .str [], .int .i64 0, .int .i64 0, .int .i64 0, .int .i64 0, .int .i64 0, .int .i64 0, .bool false, .int .i64 0] (0) c7) (3) c8) (8) c9)) then some (0, [a1, a3, a5, (.agg c1), (.agg c2), (.agg c3), (.agg (splice (splice (splice (splice [.str [], .str [], .int .i64 0, .int .i64 0, .int .i64 0, .int .i64 0, .int .i64 0, .int .i64 0, .bool false, .int .i64 0] (0) c7) (3) c8) (8) c9) (3) c17))], g13.2.2) else none)
 (some (0, [a1, a3, a5, (.agg c1), (.agg c2), (.agg c3), (.agg (splice (splice (splice [.str [], .str [], .int .i64 0, .int .i64 0, .int .i64 0, .int .i64 0, .int .i64 0, .int .i64 0, .bool false, .int .i64 0] (0) c7) (3) c8) (8) c9))], g13.2.2))).bind fun x18 =>
 bif Nat.beq x18.1 0 then (rdL (AVal.aggCells (x18.2.1.getD 3 .undef)) 0 10).bind fun c19 =>
 (fromCells true c19).bind fun v20 =>
 (call 10 [v20, (x18.2.1.getD 2 .undef)] x18.2.2).bind fun r21 =>
 (aExtract 0 r21.1).bind fun v22 =>
 (aExtract 1 r21.1).bind fun v23 =>
 (aCells 10 v22).bind fun c24 =>
 bif Nat.ble ((0) + 10) (List.length (α := AVal) [.str [], .str [], .int .i64 0, .int .i64 0, .int .i64 0, .int .i64 0, .int .i64 0, .int .i64 0, .bool false, .int .i64 0]) then (rdL (AVal.aggCells (x18.2.1.getD 3 .undef)) 0 10).bind fun c25 =>
 (fromCells true c25).bind fun v26 =>
 (rdL (AVal.aggCells (x18.2.1.getD 5 .undef)) 0 3).bind fun c27 =>
 (fromCells true c27).bind fun v28 =>
 (call 18 [v26, v28, (x18.2.1.getD 2 .undef)] r21.2).bind fun r29 =>
 (aExtract 0 r29.1).bind fun v30 =>
 (aExtract 1 r29.1).bind fun v31 =>
 (aCells 10 v30).bind fun c32 =>
 bif Nat.ble ((0) + 10) (List.length (α := AVal) [.str [], .str [], .int .i64 0, .int .i64 0, .int .i64 0, .int .i64 0, .int .i64 0, .int .i64 0, .bool false, .int .i64 0]) then (rdL (AVal.aggCells (x18.2.1.getD 3 .undef)) 0 10).bind fun c33 =>
 (fromCells true c33).bind fun v34 =>
 (rdL (AVal.aggCells (x18.2.1.getD 5 .undef)) 0 3).bind fun c35 =>
 (fromCells true c35).bind fun v36 =>
 (call 17 [v34, (x18.2.1.getD 1 .undef), v36] r29.2).bind fun r37 =>
 (aExtract 0 r37.1).bind fun v38 =>
 (aExtract 1 r37.1).bind fun v39 =>
 (aCells 10 v38).bind fun c40 =>
 bif Nat.ble ((0) + 10) (List.length (α := AVal) [.str [], .str [], .int .i64 0, .int .i64 0, .int .i64 0, .int .i64 0, .int .i64 0, .int .i64 0, .bool false, .int .i64 0]) then (rdL (AVal.aggCells (x18.2.1.getD 3 .undef)) 0 10).bind fun c41 =>
 (fromCells true c41).bind fun v42 =>
 (rdL (AVal.aggCells (x18.2.1.getD 3 .undef)) 0 10).bind fun c43 =>
 (fromCells true c43).bind fun v44 =>
 (rdL (AVal.aggCells (x18.2.1.getD 3 .undef)) 0 10).bind fun c45 =>
 (fromCells true c45).bind fun v46 =>
 (aCells 10 v42).bind fun c47 =>
 (aStore ((((r37.2.res 3).setBlk (r37.2.next + 0) (some ⟨[.str [], .str [], .int .i64 0, .int .i64 0, .int .i64 0, .int .i64 0, .int .i64 0, .int .i64 0, .bool false, .int .i64 0], true⟩)).setBlk (r37.2.next + 1) (some ⟨[.str [], .str [], .int .i64 0, .int .i64 0, .int .i64 0, .int .i64 0, .int .i64 0, .int .i64 0, .bool false, .int .i64 0], true⟩)).setBlk (r37.2.next + 2) (some ⟨[.str [], .str [], .int .i64 0, .int .i64 0, .int .i64 0, .int .i64 0, .int .i64 0, .int .i64 0, .bool false, .int .i64 0], true⟩)) (.ptr (r37.2.next + 0) 0) c47).bind fun h48 =>
 (aCells 10 v44).bind fun c49 =>
 (aStore h48 (.ptr (r37.2.next + 1) 0) c49).bind fun h50 =>
 (aCells 10 v46).bind fun c51 =>
 (aStore h50 (.ptr (r37.2.next + 2) 0) c51).bind fun h52 =>
 bif checkPairs [(7, some (.ef [(18, (splice [.str [], .str [], .int .i64 0, .int .i64 0, .int .i64 0, .int .i64 0, .int .i64 0, .int .i64 0, .bool false, .int .i64 0] (0) c40)), (16, (splice [.str [], .str [], .int .i64 0, .int .i64 0, .int .i64 0, .int .i64 0, .int .i64 0, .int .i64 0, .bool false, .int .i64 0] (0) c32)), (14, (splice [.str [], .str [], .int .i64 0, .int .i64 0, .int .i64 0, .int .i64 0, .int .i64 0, .int .i64 0, .bool false, .int .i64 0] (0) c24)), (6, (AVal.aggCells (x18.2.1.getD 3 .undef))), (8, (AVal.aggCells (x18.2.1.getD 4 .undef))), (10, (AVal.aggCells (x18.2.1.getD 5 .undef))), (13, (AVal.aggCells (x18.2.1.getD 6 .undef)))] h48 [(18, (splice [.str [], .str [], .int .i64 0, .int .i64 0, .int .i64 0, .int .i64 0, .int .i64 0, .int .i64 0, .bool false, .int .i64 0] (0) c40)), (16, (splice [.str [], .str [], .int .i64 0, .int .i64 0, .int .i64 0, .int .i64 0, .int .i64 0, .int .i64 0, .bool false, .int .i64 0] (0) c32)), (14, (splice [.str [], .str [], .int .i64 0, .int .i64 0, .int .i64 0, .int .i64 0, .int .i64 0, .int .i64 0, .bool false, .int .i64 0] (0) c24)), (6, (AVal.aggCells (x18.2.1.getD 3 .undef))), (8, (AVal.aggCells (x18.2.1.getD 4 .undef))), (10, (AVal.aggCells (x18.2.1.getD 5 .undef))), (13, (AVal.aggCells (x18.2.1.getD 6 .undef)))] h50)), (6, some (.ef [(18, (splice [.str [], .str [], .int .i64 0, .int .i64 0, .int .i64 0, .int .i64 0, .int .i64 0, .int .i64 0, .bool false, .int .i64 0] (0) c40)), (16, (splice [.str [], .str [], .int .i64 0, .int .i64 0, .int .i64 0, .int .i64 0, .int .i64 0, .int .i64 0, .bool false, .int .i64 0] (0) c32)), (14, (splice [.str [], .str [], .int .i64 0, .int .i64 0, .int .i64 0, .int .i64 0, .int .i64 0, .int .i64 0, .bool false, .int .i64 0] (0) c24)), (6, (AVal.aggCells (x18.2.1.getD 3 .undef))), (8, (AVal.aggCells (x18.2.1.getD 4 .undef))), (10, (AVal.aggCells (x18.2.1.getD 5 .undef))), (13, (AVal.aggCells (x18.2.1.getD 6 .undef)))] ((((r37.2.res 3).setBlk (r37.2.next + 0) (some ⟨[.str [], .str [], .int .i64 0, .int .i64 0, .int .i64 0, .int .i64 0, .int .i64 0, .int .i64 0, .bool false, .int .i64 0], true⟩)).setBlk (r37.2.next + 1) (some ⟨[.str [], .str [], .int .i64 0, .int .i64 0, .int .i64 0, .int .i64 0, .int .i64 0, .int .i64 0, .bool false, .int .i64 0], true⟩)).setBlk (r37.2.next + 2) (some ⟨[.str [], .str [], .int .i64 0, .int .i64 0, .int .i64 0, .int .i64 0, .int .i64 0, .int .i64 0, .bool false, .int .i64 0], true⟩)) [(18, (splice [.str [], .str [], .int .i64 0, .int .i64 0, .int .i64 0, .int .i64 0, .int .i64 0, .int .i64 0, .bool false, .int .i64 0] (0) c40)), (16, (splice [.str [], .str [], .int .i64 0, .int .i64 0, .int .i64 0, .int .i64 0, .int .i64 0, .int .i64 0, .bool false, .int .i64 0] (0) c32)), (14, (splice [.str [], .str [], .int .i64 0, .int .i64 0, .int .i64 0, .int .i64 0, .int .i64 0, .int .i64 0, .bool false, .int .i64 0] (0) c24)), (6, (AVal.aggCells (x18.2.1.getD 3 .undef))), (8, (AVal.aggCells (x18.2.1.getD 4 .undef))), (10, (AVal.aggCells (x18.2.1.getD 5 .undef))), (13, (AVal.aggCells (x18.2.1.getD 6 .undef)))] h48)), (2, some (.lrd 6 (0) 10)), (1, some (.lrd 6 (0) 10))] [(1, 6), (2, 6), (2, 7)] then (rdL (AVal.aggCells (x18.2.1.getD 3 .undef)) 9 1).bind fun c53 =>
 (fromCells false c53).bind fun v54 =>
 (aMinMaxL true [v54, (x18.2.1.getD 2 .undef)]).bind fun v55 =>
 (aFaddr 9 (.ptr (r37.2.next + 0) 0)).bind fun v56 =>
 (aCells 1 v55).bind fun c57 =>
 (aStore h52 v56 c57).bind fun h58 =>
 (rdL (AVal.aggCells (x18.2.1.getD 5 .undef)) 0 3).bind fun c59 =>
 (fromCells true c59).bind fun v60 =>
 (aFaddr 0 (.ptr (r37.2.next + 1) 0)).bind fun v61 =>
 (aFaddr 8 v61).bind fun v62 =>
 (aCells 1 (.bool true)).bind fun c63 =>
 (aStore h58 v62 c63).bind fun h64 =>
 (aFaddr 0 (.ptr (r37.2.next + 1) 0)).bind fun v65 =>
 (aFaddr 5 v65).bind fun v66 =>
 (aCells 3 v60).bind fun c67 =>
 (aStore h64 v66 c67).bind fun h68 =>
 (aFaddr 9 (.ptr (r37.2.next + 1) 0)).bind fun v69 =>
 (aCells 1 (x18.2.1.getD 2 .undef)).bind fun c70 =>
 (aStore h68 v69 c70).bind fun h71 =>
 bif checkPairs [(4, some (.ef [(18, (splice [.str [], .str [], .int .i64 0, .int .i64 0, .int .i64 0, .int .i64 0, .int .i64 0, .int .i64 0, .bool false, .int .i64 0] (0) c40)), (16, (splice [.str [], .str [], .int .i64 0, .int .i64 0, .int .i64 0, .int .i64 0, .int .i64 0, .int .i64 0, .bool false, .int .i64 0] (0) c32)), (14, (splice [.str [], .str [], .int .i64 0, .int .i64 0, .int .i64 0, .int .i64 0, .int .i64 0, .int .i64 0, .bool false, .int .i64 0] (0) c24)), (6, (AVal.aggCells (x18.2.1.getD 3 .undef))), (8, (AVal.aggCells (x18.2.1.getD 4 .undef))), (10, (AVal.aggCells (x18.2.1.getD 5 .undef))), (13, (AVal.aggCells (x18.2.1.getD 6 .undef)))] h58 [(18, (splice [.str [], .str [], .int .i64 0, .int .i64 0, .int .i64 0, .int .i64 0, .int .i64 0, .int .i64 0, .bool false, .int .i64 0] (0) c40)), (16, (splice [.str [], .str [], .int .i64 0, .int .i64 0, .int .i64 0, .int .i64 0, .int .i64 0, .int .i64 0, .bool false, .int .i64 0] (0) c32)), (14, (splice [.str [], .str [], .int .i64 0, .int .i64 0, .int .i64 0, .int .i64 0, .int .i64 0, .int .i64 0, .bool false, .int .i64 0] (0) c24)), (6, (AVal.aggCells (x18.2.1.getD 3 .undef))), (8, (AVal.aggCells (x18.2.1.getD 4 .undef))), (10, (AVal.aggCells (x18.2.1.getD 5 .undef))), (13, (AVal.aggCells (x18.2.1.getD 6 .undef)))] h64)), (0, some (.lrd 10 (0) 3))] [(0, 4)] then (rdL (AVal.aggCells (x18.2.1.getD 5 .undef)) 0 3).bind fun c72 =>
 (fromCells true c72).bind fun v73 =>
 (aFaddr 0 (.ptr (r37.2.next + 2) 0)).bind fun v74 =>
 (aFaddr 3 v74).bind fun v75 =>
 (aCells 1 (x18.2.1.getD 1 .undef)).bind fun c76 =>
 (aStore h71 v75 c76).bind fun h77 =>
 (aFaddr 0 (.ptr (r37.2.next + 2) 0)).bind fun v78 =>
 (aFaddr 5 v78).bind fun v79 =>
 (aCells 3 v73).bind fun c80 =>
 (aStore h77 v79 c80).bind fun h81 =>
 bif checkPairs [(4, some (.ef [(18, (splice [.str [], .str [], .int .i64 0, .int .i64 0, .int .i64 0, .int .i64 0, .int .i64 0, .int .i64 0, .bool false, .int .i64 0] (0) c40)), (16, (splice [.str [], .str [], .int .i64 0, .int .i64 0, .int .i64 0, .int .i64 0, .int .i64 0, .int .i64 0, .bool false, .int .i64 0] (0) c32)), (14, (splice [.str [], .str [], .int .i64 0, .int .i64 0, .int .i64 0, .int .i64 0, .int .i64 0, .int .i64 0, .bool false, .int .i64 0] (0) c24)), (6, (AVal.aggCells (x18.2.1.getD 3 .undef))), (8, (AVal.aggCells (x18.2.1.getD 4 .undef))), (10, (AVal.aggCells (x18.2.1.getD 5 .undef))), (13, (AVal.aggCells (x18.2.1.getD 6 .undef)))] h71 [(18, (splice [.str [], .str [], .int .i64 0, .int .i64 0, .int .i64 0, .int .i64 0, .int .i64 0, .int .i64 0, .bool false, .int .i64 0] (0) c40)), (16, (splice [.str [], .str [], .int .i64 0, .int .i64 0, .int .i64 0, .int .i64 0, .int .i64 0, .int .i64 0, .bool false, .int .i64 0] (0) c32)), (14, (splice [.str [], .str [], .int .i64 0, .int .i64 0, .int .i64 0, .int .i64 0, .int .i64 0, .int .i64 0, .bool false, .int .i64 0] (0) c24)), (6, (AVal.aggCells (x18.2.1.getD 3 .undef))), (8, (AVal.aggCells (x18.2.1.getD 4 .undef))), (10, (AVal.aggCells (x18.2.1.getD 5 .undef))), (13, (AVal.aggCells (x18.2.1.getD 6 .undef)))] h77)), (1, some (.lrd 10 (0) 3))] [(1, 4)] then (rdL (AVal.aggCells (x18.2.1.getD 3 .undef)) 8 1).bind fun c82 =>
 (fromCells false c82).bind fun v83 =>
 (aUn .not v83).bind fun v84 =>
 (guardV v84 true
 ((aBin .geq .plain (x18.2.1.getD 1 .undef) (.int .i64 0)).bind fun v85 =>
 some (0, [v85], h81))
 (some (0, [skipV], h81))).bind fun g86 =>
 (aPick v84 (g86.2.1.getD 0 .undef) (.bool false)).bind fun v87 =>
 (guardV v87 true
 ((aBin .leq .plain (x18.2.1.getD 1 .undef) (.int .i64 3)).bind fun v88 =>
 some (0, [v88], g86.2.2))
 (some (0, [skipV], g86.2.2))).bind fun g89 =>
 (aPick v87 (g89.2.1.getD 0 .undef) (.bool false)).bind fun v90 =>
 (aUn .not v84).bind fun v91 =>
 (condV v91
 ((aFill [.str [], .str [], .int .i64 0, .int .i64 0, .int .i64 0, .int .i64 0, .int .i64 0, .int .i64 0, .bool false, .int .i64 0] []).bind fun c92 =>
 (aFill [.str [], .str [], .int .i64 0, .int .i64 0, .int .i64 0, .int .i64 0, .int .i64 0, .int .i64 0, .bool false, .int .i64 0] []).bind fun c93 =>
 (aCells 10 (.agg c92)).bind fun c94 =>
 (aStore g89.2.2 (.ptr (r37.2.next + 0) 0) c94).bind fun h95 =>
 (aCells 10 (.agg c93)).bind fun c96 =>
 (aStore h95 (.ptr (r37.2.next + 1) 0) c96).bind fun h97 =>
 some (0, [(x18.2.1.getD 0 .undef), (x18.2.1.getD 2 .undef), v23, v31, v39, (.ptr (r37.2.next + 0) 0), (.ptr (r37.2.next + 1) 0), (.ptr (r37.2.next + 2) 0), v84, v90, (.agg (AVal.aggCells (x18.2.1.getD 3 .undef))), (.agg (AVal.aggCells (x18.2.1.getD 4 .undef))), (.agg (AVal.aggCells (x18.2.1.getD 6 .undef))), (.agg (splice [.str [], .str [], .int .i64 0, .int .i64 0, .int .i64 0, .int .i64 0, .int .i64 0, .int .i64 0, .bool false, .int .i64 0] (0) c24)), (.agg (splice [.str [], .str [], .int .i64 0, .int .i64 0, .int .i64 0, .int .i64 0, .int .i64 0, .int .i64 0, .bool false, .int .i64 0] (0) c32)), (.agg (splice [.str [], .str [], .int .i64 0, .int .i64 0, .int .i64 0, .int .i64 0, .int .i64 0, .int .i64 0, .bool false, .int .i64 0] (0) c40))], h97))
 (some (0, [(x18.2.1.getD 0 .undef), (x18.2.1.getD 2 .undef), v23, v31, v39, (.ptr (r37.2.next + 0) 0), (.ptr (r37.2.next + 1) 0), (.ptr (r37.2.next + 2) 0), v84, v90, (.agg (AVal.aggCells (x18.2.1.getD 3 .undef))), (.agg (AVal.aggCells (x18.2.1.getD 4 .undef))), (.agg (AVal.aggCells (x18.2.1.getD 6 .undef))), (.agg (splice [.str [], .str [], .int .i64 0, .int .i64 0, .int .i64 0, .int .i64 0, .int .i64 0, .int .i64 0, .bool false, .int .i64 0] (0) c24)), (.agg (splice [.str [], .str [], .int .i64 0, .int .i64 0, .int .i64 0, .int .i64 0, .int .i64 0, .int .i64 0, .bool false, .int .i64 0] (0) c32)), (.agg (splice [.str [], .str [], .int .i64 0, .int .i64 0, .int .i64 0, .int .i64 0, .int .i64 0, .int .i64 0, .bool false, .int .i64 0] (0) c40))], g89.2.2))).bind fun x98 =>
 bif Nat.beq x98.1 0 then (aUn .not (x98.2.1.getD 9 .undef)).bind fun v99 =>
 (condV v99
 ((aFill [.str [], .str [], .int .i64 0, .int .i64 0, .int .i64 0, .int .i64 0, .int .i64 0, .int .i64 0, .bool false, .int .i64 0] []).bind fun c100 =>
 (aCells 10 (.agg c100)).bind fun c101 =>
 (aStore x98.2.2 (x98.2.1.getD 7 .undef) c101).bind fun h102 =>
 some (0, [(x98.2.1.getD 0 .undef), (x98.2.1.getD 1 .undef), (x98.2.1.getD 2 .undef), (x98.2.1.getD 3 .undef), (x98.2.1.getD 4 .undef), (x98.2.1.getD 5 .undef), (x98.2.1.getD 6 .undef), (x98.2.1.getD 7 .undef), (x98.2.1.getD 8 .undef), (x98.2.1.getD 9 .undef), (.agg (AVal.aggCells (x98.2.1.getD 10 .undef))), (.agg (AVal.aggCells (x98.2.1.getD 11 .undef))), (.agg (AVal.aggCells (x98.2.1.getD 12 .undef))), (.agg (AVal.aggCells (x98.2.1.getD 13 .undef))), (.agg (AVal.aggCells (x98.2.1.getD 14 .undef))), (.agg (AVal.aggCells (x98.2.1.getD 15 .undef)))], h102))
 (some (0, [(x98.2.1.getD 0 .undef), (x98.2.1.getD 1 .undef), (x98.2.1.getD 2 .undef), (x98.2.1.getD 3 .undef), (x98.2.1.getD 4 .undef), (x98.2.1.getD 5 .undef), (x98.2.1.getD 6 .undef), (x98.2.1.getD 7 .undef), (x98.2.1.getD 8 .undef), (x98.2.1.getD 9 .undef), (.agg (AVal.aggCells (x98.2.1.getD 10 .undef))), (.agg (AVal.aggCells (x98.2.1.getD 11 .undef))), (.agg (AVal.aggCells (x98.2.1.getD 12 .undef))), (.agg (AVal.aggCells (x98.2.1.getD 13 .undef))), (.agg (AVal.aggCells (x98.2.1.getD 14 .undef))), (.agg (AVal.aggCells (x98.2.1.getD 15 .undef)))], x98.2.2))).bind fun x103 =>
 bif Nat.beq x103.1 0 then (rdL (AVal.aggCells (x103.2.1.getD 10 .undef)) 0 10).bind fun c104 =>
 (fromCells true c104).bind fun v105 =>
 (rdL (AVal.aggCells (x103.2.1.getD 11 .undef)) 0 9).bind fun c106 =>
 (fromCells true c106).bind fun v107 =>
 (call 16 [v105, (x103.2.1.getD 0 .undef), v107, (x103.2.1.getD 1 .undef)] x103.2.2).bind fun r108 =>
 (rdL (AVal.aggCells (x103.2.1.getD 12 .undef)) 0 10).bind fun c109 =>
 (fromCells true c109).bind fun v110 =>
 (aBin .eql (.cells [2, 2, 1, 1, 1, 1, 1, 1, 0, 1]) r108.1 v110).bind fun v111 =>
 (guardV v111 true
 ((rdL (AVal.aggCells (x103.2.1.getD 13 .undef)) 0 10).bind fun c112 =>
 (fromCells true c112).bind fun v113 =>
 (aLoad r108.2 10 (x103.2.1.getD 5 .undef)).bind fun c114 =>
 (fromCells true c114).bind fun v115 =>
 (aBin .eql (.cells [2, 2, 1, 1, 1, 1, 1, 1, 0, 1]) v113 v115).bind fun v116 =>
 some (0, [v116], r108.2))
 (some (0, [skipV], r108.2))).bind fun g117 =>
 (aPick v111 (g117.2.1.getD 0 .undef) (.bool false)).bind fun v118 =>
 (guardV v118 true
 ((aBin .eql .bool (x103.2.1.getD 2 .undef) (x103.2.1.getD 8 .undef)).bind fun v119 =>
 some (0, [v119], g117.2.2))
 (some (0, [skipV], g117.2.2))).bind fun g120 =>
 (aPick v118 (g120.2.1.getD 0 .undef) (.bool false)).bind fun v121 =>
 (guardV v121 true
 ((rdL (AVal.aggCells (x103.2.1.getD 14 .undef)) 0 10).bind fun c122 =>
 (fromCells true c122).bind fun v123 =>
 (aLoad g120.2.2 10 (x103.2.1.getD 6 .undef)).bind fun c124 =>
 (fromCells true c124).bind fun v125 =>
 (aBin .eql (.cells [2, 2, 1, 1, 1, 1, 1, 1, 0, 1]) v123 v125).bind fun v126 =>
 some (0, [v126], g120.2.2))
 (some (0, [skipV], g120.2.2))).bind fun g127 =>
 (aPick v121 (g127.2.1.getD 0 .undef) (.bool false)).bind fun v128 =>
 (guardV v128 true
 ((aBin .eql .bool (x103.2.1.getD 3 .undef) (x103.2.1.getD 8 .undef)).bind fun v129 =>
 some (0, [v129], g127.2.2))
 (some (0, [skipV], g127.2.2))).bind fun g130 =>
 (aPick v128 (g130.2.1.getD 0 .undef) (.bool false)).bind fun v131 =>
 (guardV v131 true
 ((rdL (AVal.aggCells (x103.2.1.getD 15 .undef)) 0 10).bind fun c132 =>
 (fromCells true c132).bind fun v133 =>
 (aLoad g130.2.2 10 (x103.2.1.getD 7 .undef)).bind fun c134 =>
 (fromCells true c134).bind fun v135 =>
 (aBin .eql (.cells [2, 2, 1, 1, 1, 1, 1, 1, 0, 1]) v133 v135).bind fun v136 =>
 some (0, [v136], g130.2.2))
 (some (0, [skipV], g130.2.2))).bind fun g137 =>
 (aPick v131 (g137.2.1.getD 0 .undef) (.bool false)).bind fun v138 =>
 (guardV v138 true
 ((aBin .eql .bool (x103.2.1.getD 4 .undef) (x103.2.1.getD 9 .undef)).bind fun v139 =>
 some (0, [v139], g137.2.2))
 (some (0, [skipV], g137.2.2))).bind fun g140 =>
 (aPick v138 (g140.2.1.getD 0 .undef) (.bool false)).bind fun v141 =>
 (guardV v141 true
 ((rdL (AVal.aggCells (x103.2.1.getD 10 .undef)) 0 10).bind fun c142 =>
 (fromCells true c142).bind fun v143 =>
 (call 11 [v143, (x103.2.1.getD 1 .undef)] g140.2.2).bind fun r144 =>
 (rdL (AVal.aggCells (x103.2.1.getD 10 .undef)) 0 10).bind fun c145 =>
 (fromCells true c145).bind fun v146 =>
 (call 23 [v146] r144.2).bind fun r147 =>
 (call 22 [r147.1, (x103.2.1.getD 1 .undef)] r147.2).bind fun r148 =>
 (aBin .eql .plain r144.1 r148.1).bind fun v149 =>
 bif checkPairs [(41, some (.lrd 6 (0) 10)), (40, some (.ef [(6, (AVal.aggCells (x103.2.1.getD 10 .undef))), (8, (AVal.aggCells (x103.2.1.getD 11 .undef))), (13, (AVal.aggCells (x103.2.1.getD 12 .undef))), (14, (AVal.aggCells (x103.2.1.getD 13 .undef))), (16, (AVal.aggCells (x103.2.1.getD 14 .undef))), (18, (AVal.aggCells (x103.2.1.getD 15 .undef)))] g140.2.2 [(6, (AVal.aggCells (x103.2.1.getD 10 .undef))), (8, (AVal.aggCells (x103.2.1.getD 11 .undef))), (13, (AVal.aggCells (x103.2.1.getD 12 .undef))), (14, (AVal.aggCells (x103.2.1.getD 13 .undef))), (16, (AVal.aggCells (x103.2.1.getD 14 .undef))), (18, (AVal.aggCells (x103.2.1.getD 15 .undef)))] r144.2))] [(41, 40)] then some (0, [v149], r148.2) else none)
 (some (0, [skipV], g140.2.2))).bind fun g150 =>
 (aPick v141 (g150.2.1.getD 0 .undef) (.bool false)).bind fun v151 =>
 bif checkPairs [(5, some (.lrd 13 (0) 10)), (4, some (.ef [(6, (AVal.aggCells (x103.2.1.getD 10 .undef))), (8, (AVal.aggCells (x103.2.1.getD 11 .undef))), (13, (AVal.aggCells (x103.2.1.getD 12 .undef))), (14, (AVal.aggCells (x103.2.1.getD 13 .undef))), (16, (AVal.aggCells (x103.2.1.getD 14 .undef))), (18, (AVal.aggCells (x103.2.1.getD 15 .undef)))] x103.2.2 [(6, (AVal.aggCells (x103.2.1.getD 10 .undef))), (8, (AVal.aggCells (x103.2.1.getD 11 .undef))), (13, (AVal.aggCells (x103.2.1.getD 12 .undef))), (14, (AVal.aggCells (x103.2.1.getD 13 .undef))), (16, (AVal.aggCells (x103.2.1.getD 14 .undef))), (18, (AVal.aggCells (x103.2.1.getD 15 .undef)))] r108.2))] [(5, 4)] then some (0, [v151], g150.2.2) else none else
 none else
 none else none else none else none else none else none else none else
 none else none else none else none
theorem run13 (call : Go.Fw.Call) (a0 a1 a2 a3 a4 a5 : AVal) (h : Heap) : runFn call (.code A13) [a0, a1, a2, a3, a4, a5] h = (S13 call a0 a1 a2 a3 a4 a5 h).bind ansOf := by kernel_rfl

/-- frankpledge/lease.Same -/
noncomputable def A14 : AFunc := ⟨2, (.seq (.region [.op 0 (.mov 4 (.const (.bool false)))] [])
 (.seq (.region [.op 0 (.mov 5 (.tmp 0)),
 .op 1 (.mov 6 (.tmp 1)),
 .op 2 (.call 7 24 [.tmp 5, .tmp 6]),
 .op 3 (.mov 4 (.tmp 7))] [])
 .ret)),
 [.tmp 4]⟩
theorem ok14 : funcOk Try.prog (drawOk Try.prog) Try.f14 A14 = true := by kernel_rfl
noncomputable def S14 (call : Go.Fw.Call) (a0 a1 : AVal) (h : Heap) : Option J :=
 (call 24 [a0, a1] h).bind fun r1 =>
 some (0, [r1.1], r1.2)
theorem run14 (call : Go.Fw.Call) (a0 a1 : AVal) (h : Heap) : runFn call (.code A14) [a0, a1] h = (S14 call a0 a1 h).bind ansOf := by kernel_rfl

/-- (*frankpledge/frankpledgekeep.Tape).Stamp -/
noncomputable def A15 : AFunc := ⟨1, (.seq (.region [.op 0 (.alloc 2 true [.int .i64 0, .int .i64 0, .int .i64 0])] [])
 (.seq (.region [.op 0 (.mov 3 (.tmp 0)),
 .op 1 (.call 4 9 [.tmp 3, .const (.int .i64 40)]),
 .op 2 (.mov 5 (.tmp 0)),
 .op 3 (.call 6 9 [.tmp 5, .const (.int .i64 6)]),
 .op 4 (.mov 7 (.tmp 0)),
 .op 5 (.call 8 9 [.tmp 7, .const (.int .i64 9)]),
 .op 6 (.build 9 [.int .i64 0, .int .i64 0, .int .i64 0] [(0, 1, .tmp 4), (1, 1, .tmp 6), (2, 1, .tmp 8)]),
 .op 7 (.store true 3 (.tmp 2) (.tmp 9))] [])
 .ret)),
 [.cell 2 true 3]⟩
theorem ok15 : funcOk Try.prog (drawOk Try.prog) Try.f15 A15 = true := by kernel_rfl
noncomputable def S15 (call : Go.Fw.Call) (a0 : AVal) (h : Heap) : Option J :=
 (call 9 [a0, (.int .i64 40)] h).bind fun r1 =>
 (call 9 [a0, (.int .i64 6)] r1.2).bind fun r2 =>
 (call 9 [a0, (.int .i64 9)] r2.2).bind fun r3 =>
 (aFill [.int .i64 0, .int .i64 0, .int .i64 0] [(0, 1, r1.1), (1, 1, r2.1), (2, 1, r3.1)]).bind fun c4 =>
 (aCells 3 (.agg c4)).bind fun c5 =>
 bif Nat.ble ((0) + 3) (List.length (α := AVal) [.int .i64 0, .int .i64 0, .int .i64 0]) then (((rdL (splice [.int .i64 0, .int .i64 0, .int .i64 0] (0) c5) (0) 3).bind fun cs => fromCells true cs).bind fun v => (some []).bind fun vs => some (v :: vs)).bind fun vs => some (0, [oneOr vs], r3.2) else none
theorem run15 (call : Go.Fw.Call) (a0 : AVal) (h : Heap) : runFn call (.code A15) [a0] h = (S15 call a0 h).bind ansOf := by kernel_rfl

/-- frankpledge/lease.Register -/
noncomputable def A16 : AFunc := ⟨4, (.seq (.region [.op 0 (.box 4 true (.tmp 0)),
 .op 1 (.box 6 true (.tmp 2)),
 .op 2 (.alloc 8 true [.str [], .str [], .int .i64 0, .int .i64 0, .int .i64 0, .int .i64 0, .int .i64 0, .int .i64 0, .bool false, .int .i64 0])] [])
 (.seq (.region [.op 0 (.faddr 9 3 (.tmp 6)),
 .op 1 (.store false 1 (.tmp 9) (.const (.int .i64 0))),
 .op 2 (.faddr 10 8 (.tmp 6)),
 .op 3 (.store false 1 (.tmp 10) (.const (.bool false)))] [])
 (.seq (.seq (.region [.op 0 (.mov 11 (.tmp 1)),
 .op 1 (.mov 12 (.tmp 11)),
 .guard 12 true [.op 2 (.faddr 13 0 (.tmp 4)),
 .op 3 (.faddr 14 8 (.tmp 13)),
 .op 4 (.load 15 false 1 (.tmp 14)),
 .op 5 (.un 16 .not (.tmp 15))] [] [16],
 .op 6 (.pick 17 (.tmp 12) (.tmp 16) (.const (.bool false)))] [])
 (.join [(.normal, ⟨[3], [6, 8]⟩)] (.cond (.tmp 17)
 (.region [.op 0 (.faddr 18 0 (.tmp 4)),
 .op 1 (.faddr 19 3 (.tmp 18)),
 .op 2 (.load 20 false 1 (.tmp 19)),
 .op 3 (.faddr 21 3 (.tmp 6)),
 .op 4 (.store false 1 (.tmp 21) (.tmp 20))] [])
 .skip)))
 (.seq (.region [.op 0 (.load 22 true 9 (.tmp 6)),
 .op 1 (.mov 23 (.tmp 3)),
 .op 2 (.build 24 [.str [], .str [], .int .i64 0, .int .i64 0, .int .i64 0, .int .i64 0, .int .i64 0, .int .i64 0, .bool false, .int .i64 0] [(0, 9, .tmp 22), (9, 1, .tmp 23)]),
 .op 3 (.store true 10 (.tmp 8) (.tmp 24))] [])
 .ret)))),
 [.cell 8 true 10]⟩
theorem ok16 : funcOk Try.prog (drawOk Try.prog) Try.f16 A16 = true := by kernel_rfl
noncomputable def S16 (call : Go.Fw.Call) (a0 a1 a2 a3 : AVal) (h : Heap) : Option J :=
 (AVal.cells? a0).bind fun c1 =>
 (AVal.cells? a2).bind fun c2 =>
 (aCells 1 (.int .i64 0)).bind fun c3 =>
 bif Nat.ble ((3) + 1) (List.length (α := AVal) c2) then (aCells 1 (.bool false)).bind fun c4 =>
 bif Nat.ble ((8) + 1) (List.length (α := AVal) (splice c2 (3) c3)) then (guardV a1 true
 ((rdL c1 8 1).bind fun c5 =>
 (fromCells false c5).bind fun v6 =>
 (aUn .not v6).bind fun v7 =>
 some (0, [v7], h))
 (some (0, [skipV], h))).bind fun g8 =>
 (aPick a1 (g8.2.1.getD 0 .undef) (.bool false)).bind fun v9 =>
 (condV v9
 ((rdL c1 3 1).bind fun c10 =>
 (fromCells false c10).bind fun v11 =>
 (aCells 1 v11).bind fun c12 =>
 bif Nat.ble ((3) + 1) (List.length (α := AVal) (splice (splice c2 (3) c3) (8) c4)) then some (0, [a3, (.agg (splice (splice (splice c2 (3) c3) (8) c4) (3) c12)), (.agg [.str [], .str [], .int .i64 0, .int .i64 0, .int .i64 0, .int .i64 0, .int .i64 0, .int .i64 0, .bool false, .int .i64 0])], g8.2.2) else none)
 (some (0, [a3, (.agg (splice (splice c2 (3) c3) (8) c4)), (.agg [.str [], .str [], .int .i64 0, .int .i64 0, .int .i64 0, .int .i64 0, .int .i64 0, .int .i64 0, .bool false, .int .i64 0])], g8.2.2))).bind fun x13 =>
 bif Nat.beq x13.1 0 then (rdL (AVal.aggCells (x13.2.1.getD 1 .undef)) 0 9).bind fun c14 =>
 (fromCells true c14).bind fun v15 =>
 (aFill [.str [], .str [], .int .i64 0, .int .i64 0, .int .i64 0, .int .i64 0, .int .i64 0, .int .i64 0, .bool false, .int .i64 0] [(0, 9, v15), (9, 1, (x13.2.1.getD 0 .undef))]).bind fun c16 =>
 (aCells 10 (.agg c16)).bind fun c17 =>
 bif Nat.ble ((0) + 10) (List.length (α := AVal) (AVal.aggCells (x13.2.1.getD 2 .undef))) then (((rdL (splice (AVal.aggCells (x13.2.1.getD 2 .undef)) (0) c17) (0) 10).bind fun cs => fromCells true cs).bind fun v => (some []).bind fun vs => some (v :: vs)).bind fun vs => some (0, [oneOr vs], x13.2.2) else none else
 none else none else none
theorem run16 (call : Go.Fw.Call) (a0 a1 a2 a3 : AVal) (h : Heap) : runFn call (.code A16) [a0, a1, a2, a3] h = (S16 call a0 a1 a2 a3 h).bind ansOf := by kernel_rfl

/-- frankpledge/lease.Override -/
noncomputable def A17 : AFunc := ⟨3, (.seq (.region [.op 0 (.box 3 true (.tmp 0)),
 .op 1 (.box 5 true (.tmp 2)),
 .op 2 (.alloc 6 true [.str [], .str [], .int .i64 0, .int .i64 0, .int .i64 0, .int .i64 0, .int .i64 0, .int .i64 0, .bool false, .int .i64 0]),
 .op 3 (.mov 7 (.const (.bool false)))] [])
 (.seq (.seq (.region [.op 0 (.faddr 8 0 (.tmp 3)),
 .op 1 (.faddr 9 8 (.tmp 8)),
 .op 2 (.load 10 false 1 (.tmp 9)),
 .op 3 (.mov 11 (.tmp 10)),
 .guard 11 false [.op 4 (.mov 12 (.tmp 1)),
 .op 5 (.bin 13 .lss .plain (.tmp 12) (.const (.int .i64 0)))] [] [13],
 .op 6 (.pick 14 (.tmp 11) (.const (.bool true)) (.tmp 13)),
 .op 7 (.mov 15 (.tmp 14)),
 .guard 15 false [.op 8 (.mov 16 (.tmp 1)),
 .op 9 (.bin 17 .gtr .plain (.tmp 16) (.const (.int .i64 3)))] [] [17],
 .op 10 (.pick 18 (.tmp 15) (.const (.bool true)) (.tmp 17))] [])
 (.cond (.tmp 18)
 (.seq (.region [.op 0 (.build 19 [.str [], .str [], .int .i64 0, .int .i64 0, .int .i64 0, .int .i64 0, .int .i64 0, .int .i64 0, .bool false, .int .i64 0] []),
 .op 1 (.store true 10 (.tmp 6) (.tmp 19)),
 .op 2 (.mov 7 (.const (.bool false)))] [])
 .ret)
 .skip))
 (.seq (.region [.op 0 (.mov 20 (.tmp 1)),
 .op 1 (.load 21 true 3 (.tmp 5)),
 .op 2 (.faddr 22 0 (.tmp 3)),
 .op 3 (.faddr 23 3 (.tmp 22)),
 .op 4 (.store false 1 (.tmp 23) (.tmp 20)),
 .op 5 (.faddr 24 0 (.tmp 3)),
 .op 6 (.faddr 25 5 (.tmp 24)),
 .op 7 (.store true 3 (.tmp 25) (.tmp 21))] [(1, 4)])
 (.seq (.region [.op 0 (.load 26 true 10 (.tmp 3)),
 .op 1 (.store true 10 (.tmp 6) (.tmp 26)),
 .op 2 (.mov 7 (.const (.bool true)))] [])
 .ret)))),
 [.cell 6 true 10, .tmp 7]⟩
theorem ok17 : funcOk Try.prog (drawOk Try.prog) Try.f17 A17 = true := by kernel_rfl
noncomputable def S17 (call : Go.Fw.Call) (a0 a1 a2 : AVal) (h : Heap) : Option J :=
 (AVal.cells? a0).bind fun c1 =>
 (AVal.cells? a2).bind fun c2 =>
 (rdL c1 8 1).bind fun c3 =>
 (fromCells false c3).bind fun v4 =>
 (guardV v4 false
 ((aBin .lss .plain a1 (.int .i64 0)).bind fun v5 =>
 some (0, [v5], h))
 (some (0, [skipV], h))).bind fun g6 =>
 (aPick v4 (.bool true) (g6.2.1.getD 0 .undef)).bind fun v7 =>
 (guardV v7 false
 ((aBin .gtr .plain a1 (.int .i64 3)).bind fun v8 =>
 some (0, [v8], g6.2.2))
 (some (0, [skipV], g6.2.2))).bind fun g9 =>
 (aPick v7 (.bool true) (g9.2.1.getD 0 .undef)).bind fun v10 =>
 condV v10
 ((aFill [.str [], .str [], .int .i64 0, .int .i64 0, .int .i64 0, .int .i64 0, .int .i64 0, .int .i64 0, .bool false, .int .i64 0] []).bind fun c11 =>
 (aCells 10 (.agg c11)).bind fun c12 =>
 bif Nat.ble ((0) + 10) (List.length (α := AVal) [.str [], .str [], .int .i64 0, .int .i64 0, .int .i64 0, .int .i64 0, .int .i64 0, .int .i64 0, .bool false, .int .i64 0]) then (((rdL (splice [.str [], .str [], .int .i64 0, .int .i64 0, .int .i64 0, .int .i64 0, .int .i64 0, .int .i64 0, .bool false, .int .i64 0] (0) c12) (0) 10).bind fun cs => fromCells true cs).bind fun v => ((some (.bool false)).bind fun v => (some []).bind fun vs => some (v :: vs)).bind fun vs => some (v :: vs)).bind fun vs => some (0, [oneOr vs], g9.2.2) else none)
 ((rdL c2 0 3).bind fun c13 =>
 (fromCells true c13).bind fun v14 =>
 (aCells 1 a1).bind fun c15 =>
 bif Nat.ble ((3) + 1) (List.length (α := AVal) c1) then (aCells 3 v14).bind fun c16 =>
 bif Nat.ble ((5) + 3) (List.length (α := AVal) (splice c1 (3) c15)) then bif checkPairs [(4, some (.ef [(6, [.str [], .str [], .int .i64 0, .int .i64 0, .int .i64 0, .int .i64 0, .int .i64 0, .int .i64 0, .bool false, .int .i64 0]), (5, c2), (3, c1)] g9.2.2 [(6, [.str [], .str [], .int .i64 0, .int .i64 0, .int .i64 0, .int .i64 0, .int .i64 0, .int .i64 0, .bool false, .int .i64 0]), (5, c2), (3, (splice c1 (3) c15))] g9.2.2)), (1, some (.lrd 5 (0) 3))] [(1, 4)] then (rdL (splice (splice c1 (3) c15) (5) c16) 0 10).bind fun c17 =>
 (fromCells true c17).bind fun v18 =>
 (aCells 10 v18).bind fun c19 =>
 bif Nat.ble ((0) + 10) (List.length (α := AVal) [.str [], .str [], .int .i64 0, .int .i64 0, .int .i64 0, .int .i64 0, .int .i64 0, .int .i64 0, .bool false, .int .i64 0]) then (((rdL (splice [.str [], .str [], .int .i64 0, .int .i64 0, .int .i64 0, .int .i64 0, .int .i64 0, .int .i64 0, .bool false, .int .i64 0] (0) c19) (0) 10).bind fun cs => fromCells true cs).bind fun v => ((some (.bool true)).bind fun v => (some []).bind fun vs => some (v :: vs)).bind fun vs => some (v :: vs)).bind fun vs => some (0, [oneOr vs], g9.2.2) else none else none else none else none)
theorem run17 (call : Go.Fw.Call) (a0 a1 a2 : AVal) (h : Heap) : runFn call (.code A17) [a0, a1, a2] h = (S17 call a0 a1 a2 h).bind ansOf := by kernel_rfl

/-- frankpledge/lease.Cancel -/
noncomputable def A18 : AFunc := ⟨3, (.seq (.region [.op 0 (.box 3 true (.tmp 0)),
 .op 1 (.box 4 true (.tmp 1)),
 .op 2 (.alloc 6 true [.str [], .str [], .int .i64 0, .int .i64 0, .int .i64 0, .int .i64 0, .int .i64 0, .int .i64 0, .bool false, .int .i64 0]),
 .op 3 (.mov 7 (.const (.bool false)))] [])
 (.seq (.seq (.region [.op 0 (.faddr 8 0 (.tmp 3)),
 .op 1 (.faddr 9 8 (.tmp 8)),
 .op 2 (.load 10 false 1 (.tmp 9))] [])
 (.cond (.tmp 10)
 (.seq (.region [.op 0 (.build 11 [.str [], .str [], .int .i64 0, .int .i64 0, .int .i64 0, .int .i64 0, .int .i64 0, .int .i64 0, .bool false, .int .i64 0] []),
 .op 1 (.store true 10 (.tmp 6) (.tmp 11)),
 .op 2 (.mov 7 (.const (.bool false)))] [])
 .ret)
 .skip))
 (.seq (.region [.op 0 (.load 12 true 3 (.tmp 4)),
 .op 1 (.mov 13 (.tmp 2)),
 .op 2 (.faddr 14 0 (.tmp 3)),
 .op 3 (.faddr 15 8 (.tmp 14)),
 .op 4 (.store false 1 (.tmp 15) (.const (.bool true))),
 .op 5 (.faddr 16 0 (.tmp 3)),
 .op 6 (.faddr 17 5 (.tmp 16)),
 .op 7 (.store true 3 (.tmp 17) (.tmp 12)),
 .op 8 (.faddr 18 9 (.tmp 3)),
 .op 9 (.store false 1 (.tmp 18) (.tmp 13))] [(0, 4)])
 (.seq (.region [.op 0 (.load 19 true 10 (.tmp 3)),
 .op 1 (.store true 10 (.tmp 6) (.tmp 19)),
 .op 2 (.mov 7 (.const (.bool true)))] [])
 .ret)))),
 [.cell 6 true 10, .tmp 7]⟩
theorem ok18 : funcOk Try.prog (drawOk Try.prog) Try.f18 A18 = true := by kernel_rfl
noncomputable def S18 (call : Go.Fw.Call) (a0 a1 a2 : AVal) (h : Heap) : Option J :=
 (AVal.cells? a0).bind fun c1 =>
 (AVal.cells? a1).bind fun c2 =>
 (rdL c1 8 1).bind fun c3 =>
 (fromCells false c3).bind fun v4 =>
 condV v4
 ((aFill [.str [], .str [], .int .i64 0, .int .i64 0, .int .i64 0, .int .i64 0, .int .i64 0, .int .i64 0, .bool false, .int .i64 0] []).bind fun c5 =>
 (aCells 10 (.agg c5)).bind fun c6 =>
 bif Nat.ble ((0) + 10) (List.length (α := AVal) [.str [], .str [], .int .i64 0, .int .i64 0, .int .i64 0, .int .i64 0, .int .i64 0, .int .i64 0, .bool false, .int .i64 0]) then (((rdL (splice [.str [], .str [], .int .i64 0, .int .i64 0, .int .i64 0, .int .i64 0, .int .i64 0, .int .i64 0, .bool false, .int .i64 0] (0) c6) (0) 10).bind fun cs => fromCells true cs).bind fun v => ((some (.bool false)).bind fun v => (some []).bind fun vs => some (v :: vs)).bind fun vs => some (v :: vs)).bind fun vs => some (0, [oneOr vs], h) else none)
 ((rdL c2 0 3).bind fun c7 =>
 (fromCells true c7).bind fun v8 =>
 (aCells 1 (.bool true)).bind fun c9 =>
 bif Nat.ble ((8) + 1) (List.length (α := AVal) c1) then (aCells 3 v8).bind fun c10 =>
 bif Nat.ble ((5) + 3) (List.length (α := AVal) (splice c1 (8) c9)) then (aCells 1 a2).bind fun c11 =>
 bif Nat.ble ((9) + 1) (List.length (α := AVal) (splice (splice c1 (8) c9) (5) c10)) then bif checkPairs [(4, some (.ef [(6, [.str [], .str [], .int .i64 0, .int .i64 0, .int .i64 0, .int .i64 0, .int .i64 0, .int .i64 0, .bool false, .int .i64 0]), (4, c2), (3, c1)] h [(6, [.str [], .str [], .int .i64 0, .int .i64 0, .int .i64 0, .int .i64 0, .int .i64 0, .int .i64 0, .bool false, .int .i64 0]), (4, c2), (3, (splice c1 (8) c9))] h)), (0, some (.lrd 4 (0) 3))] [(0, 4)] then (rdL (splice (splice (splice c1 (8) c9) (5) c10) (9) c11) 0 10).bind fun c12 =>
 (fromCells true c12).bind fun v13 =>
 (aCells 10 v13).bind fun c14 =>
 bif Nat.ble ((0) + 10) (List.length (α := AVal) [.str [], .str [], .int .i64 0, .int .i64 0, .int .i64 0, .int .i64 0, .int .i64 0, .int .i64 0, .bool false, .int .i64 0]) then (((rdL (splice [.str [], .str [], .int .i64 0, .int .i64 0, .int .i64 0, .int .i64 0, .int .i64 0, .int .i64 0, .bool false, .int .i64 0] (0) c14) (0) 10).bind fun cs => fromCells true cs).bind fun v => ((some (.bool true)).bind fun v => (some []).bind fun vs => some (v :: vs)).bind fun vs => some (v :: vs)).bind fun vs => some (0, [oneOr vs], h) else none else none else none else none else none)
theorem run18 (call : Go.Fw.Call) (a0 a1 a2 : AVal) (h : Heap) : runFn call (.code A18) [a0, a1, a2] h = (S18 call a0 a1 a2 h).bind ansOf := by kernel_rfl

/-- (*frankpledge/frankpledgekeep.Tape).Key -/
noncomputable def A19 : AFunc := ⟨1, (.seq (.region [.op 0 (.alloc 2 true [.str [], .str []])] [])
 (.seq (.regionF 2 [.op 0 (.fl 3 0 (some (1, 4)) [.str []] [(0, .const (.str [97, 112, 112])), (1, .const (.str [98])), (2, .const (.str [97, 112, 112, 49])), (3, .const (.str [122, 57]))]),
 .op 1 (.mov 4 (.tmp 0)),
 .op 2 (.call 5 9 [.tmp 4, .const (.int .i64 4)]),
 .op 3 (.iaddr 6 none 1 (.tmp 3) (.tmp 5)),
 .op 4 (.load 7 false 1 (.tmp 6)),
 .op 5 (.fl 8 1 (some (1, 5)) [.str []] [(0, .const (.str [105, 100])), (1, .const (.str [97])), (2, .const (.str [105, 100, 50])), (3, .const (.str [120, 48])), (4, .const (.str [109]))]),
 .op 6 (.mov 9 (.tmp 0)),
 .op 7 (.call 10 9 [.tmp 9, .const (.int .i64 5)]),
 .op 8 (.iaddr 11 none 1 (.tmp 8) (.tmp 10)),
 .op 9 (.load 12 false 1 (.tmp 11)),
 .op 10 (.build 13 [.str [], .str []] [(0, 1, .tmp 7), (1, 1, .tmp 12)]),
 .op 11 (.store true 2 (.tmp 2) (.tmp 13))] [(4, 7)])
 .ret)),
 [.cell 2 true 2]⟩
theorem ok19 : funcOk Try.prog (drawOk Try.prog) Try.f19 A19 = true := by kernel_rfl
noncomputable def S19 (call : Go.Fw.Call) (a0 : AVal) (h : Heap) : Option J :=
 (aFill (reps [.str []] 4) [(0, 1, (.str [97, 112, 112])), (1, 1, (.str [98])), (2, 1, (.str [97, 112, 112, 49])), (3, 1, (.str [122, 57]))]).bind fun c1 =>
 (call 9 [a0, (.int .i64 4)] ((h.res 2).setBlk (h.next + 0) (some ⟨c1, true⟩))).bind fun r2 =>
 (aIaddr 1 (.slice (h.next + 0) 0 4 4 1 true) r2.1).bind fun v3 =>
 (aLoad r2.2 1 v3).bind fun c4 =>
 (fromCells false c4).bind fun v5 =>
 (aFill (reps [.str []] 5) [(0, 1, (.str [105, 100])), (1, 1, (.str [97])), (2, 1, (.str [105, 100, 50])), (3, 1, (.str [120, 48])), (4, 1, (.str [109]))]).bind fun c6 =>
 (call 9 [a0, (.int .i64 5)] (r2.2.setBlk (h.next + 1) (some ⟨c6, true⟩))).bind fun r7 =>
 (aIaddr 1 (.slice (h.next + 1) 0 5 5 1 true) r7.1).bind fun v8 =>
 (aLoad r7.2 1 v8).bind fun c9 =>
 (fromCells false c9).bind fun v10 =>
 (aFill [.str [], .str []] [(0, 1, v5), (1, 1, v10)]).bind fun c11 =>
 (aCells 2 (.agg c11)).bind fun c12 =>
 bif Nat.ble ((0) + 2) (List.length (α := AVal) [.str [], .str []]) then bif checkPairs [(7, some (.ef [(2, [.str [], .str []])] (r2.2.setBlk (h.next + 1) (some ⟨c6, true⟩)) [(2, [.str [], .str []])] r7.2)), (4, logRd v3 1)] [(4, 7)] then (((rdL (splice [.str [], .str []] (0) c12) (0) 2).bind fun cs => fromCells true cs).bind fun v => (some []).bind fun vs => some (v :: vs)).bind fun vs => some (0, [oneOr vs], r7.2) else none else none
theorem run19 (call : Go.Fw.Call) (a0 : AVal) (h : Heap) : runFn call (.code A19) [a0] h = (S19 call a0 h).bind ansOf := by kernel_rfl

/-- frankpledge/frankpledgebook.Within -/
noncomputable def A20 : AFunc := ⟨3, (.seq (.region [.op 0 (.mov 6 (.const (.int .i64 0)))] [])
 (.seq (.seq (.region [.op 0 (.mov 7 (.tmp 0)),
 .op 1 (.mov 8 (.tmp 1)),
 .op 2 (.bin 9 .geq .plain (.tmp 7) (.tmp 8)),
 .op 3 (.mov 10 (.tmp 9)),
 .guard 10 true [.op 4 (.mov 11 (.tmp 0)),
 .op 5 (.mov 12 (.tmp 2)),
 .op 6 (.bin 13 .leq .plain (.tmp 11) (.tmp 12))] [] [13],
 .op 7 (.pick 14 (.tmp 10) (.tmp 13) (.const (.bool false)))] [])
 (.cond (.tmp 14)
 (.seq (.region [.op 0 (.mov 15 (.tmp 0)),
 .op 1 (.mov 6 (.tmp 15))] [])
 .ret)
 .skip))
 (.seq (.region [.op 0 (.mov 16 (.tmp 0)),
 .op 1 (.mov 17 (.tmp 2)),
 .op 2 (.mov 18 (.tmp 1)),
 .op 3 (.bin 19 .sub .plain (.tmp 17) (.tmp 18)),
 .op 4 (.bin 20 .add .plain (.tmp 19) (.const (.int .i64 1))),
 .op 5 (.bin 21 .rem .plain (.tmp 16) (.tmp 20)),
 .op 6 (.mov 0 (.tmp 21))] [])
 (.seq (.seq (.region [.op 0 (.mov 22 (.tmp 0)),
 .op 1 (.bin 23 .lss .plain (.tmp 22) (.const (.int .i64 0)))] [])
 (.join [(.normal, ⟨[0, 1], []⟩)] (.cond (.tmp 23)
 (.region [.op 0 (.mov 24 (.tmp 0)),
 .op 1 (.mov 25 (.tmp 2)),
 .op 2 (.bin 26 .add .plain (.tmp 24) (.tmp 25)),
 .op 3 (.mov 27 (.tmp 1)),
 .op 4 (.bin 28 .sub .plain (.tmp 26) (.tmp 27)),
 .op 5 (.bin 29 .add .plain (.tmp 28) (.const (.int .i64 1))),
 .op 6 (.mov 0 (.tmp 29))] [])
 .skip)))
 (.seq (.region [.op 0 (.mov 30 (.tmp 1)),
 .op 1 (.mov 31 (.tmp 0)),
 .op 2 (.bin 32 .add .plain (.tmp 30) (.tmp 31)),
 .op 3 (.mov 6 (.tmp 32))] [])
 .ret))))),
 [.tmp 6]⟩
theorem ok20 : funcOk Try.prog (drawOk Try.prog) Try.f20 A20 = true := by kernel_rfl
noncomputable def S20 (call : Go.Fw.Call) (a0 a1 a2 : AVal) (h : Heap) : Option J :=
 (aBin .geq .plain a0 a1).bind fun v1 =>
 (guardV v1 true
 ((aBin .leq .plain a0 a2).bind fun v2 =>
 some (0, [v2], h))
 (some (0, [skipV], h))).bind fun g3 =>
 (aPick v1 (g3.2.1.getD 0 .undef) (.bool false)).bind fun v4 =>
 condV v4
 (some (0, [a0], g3.2.2))
 ((aBin .sub .plain a2 a1).bind fun v5 =>
 (aBin .add .plain v5 (.int .i64 1)).bind fun v6 =>
 (aBin .rem .plain a0 v6).bind fun v7 =>
 (aBin .lss .plain v7 (.int .i64 0)).bind fun v8 =>
 (condV v8
 ((aBin .add .plain v7 a2).bind fun v9 =>
 (aBin .sub .plain v9 a1).bind fun v10 =>
 (aBin .add .plain v10 (.int .i64 1)).bind fun v11 =>
 some (0, [v11, a1], g3.2.2))
 (some (0, [v7, a1], g3.2.2))).bind fun x12 =>
 bif Nat.beq x12.1 0 then (aBin .add .plain (x12.2.1.getD 1 .undef) (x12.2.1.getD 0 .undef)).bind fun v13 =>
 some (0, [v13], x12.2.2) else
 none)
theorem run20 (call : Go.Fw.Call) (a0 a1 a2 : AVal) (h : Heap) : runFn call (.code A20) [a0, a1, a2] h = (S20 call a0 a1 a2 h).bind ansOf := by kernel_rfl

/-- frankpledge/lease.held -/
noncomputable def A21 : AFunc := ⟨1, (.seq (.region [.op 0 (.mov 2 (.const (.int .i64 0)))] [])
 (.seq (.region [.op 0 (.mov 3 (.tmp 0)),
 .op 1 (.minmax 4 false [.tmp 3, .const (.int .i64 4611686018427387904)]),
 .op 2 (.minmax 5 true [.const (.int .i64 0), .tmp 4]),
 .op 3 (.mov 2 (.tmp 5))] [])
 .ret)),
 [.tmp 2]⟩
theorem ok21 : funcOk Try.prog (drawOk Try.prog) Try.f21 A21 = true := by kernel_rfl
noncomputable def S21 (call : Go.Fw.Call) (a0 : AVal) (h : Heap) : Option J :=
 (aMinMaxL false [a0, (.int .i64 4611686018427387904)]).bind fun v1 =>
 (aMinMaxL true [(.int .i64 0), v1]).bind fun v2 =>
 some (0, [v2], h)
theorem run21 (call : Go.Fw.Call) (a0 : AVal) (h : Heap) : runFn call (.code A21) [a0] h = (S21 call a0 h).bind ansOf := by kernel_rfl

/-- frankpledge/frankpledgeref9.Late -/
noncomputable def A22 : AFunc := ⟨2, (.seq (.region [.op 0 (.box 2 true (.tmp 0)),
 .op 1 (.mov 4 (.const (.int .i64 0)))] [])
 (.seq (.seq (.region [.op 0 (.faddr 5 0 (.tmp 2)),
 .op 1 (.faddr 6 8 (.tmp 5)),
 .op 2 (.load 7 false 1 (.tmp 6))] [])
 (.cond (.tmp 7)
 (.seq (.region [.op 0 (.mov 4 (.const (.int .i64 0)))] [])
 .ret)
 .skip))
 (.seq (.region [.op 0 (.mov 8 (.tmp 1)),
 .op 1 (.call 9 25 [.tmp 8]),
 .op 2 (.faddr 10 9 (.tmp 2)),
 .op 3 (.load 11 false 1 (.tmp 10)),
 .op 4 (.call 12 25 [.tmp 11]),
 .op 5 (.bin 13 .sub .plain (.tmp 9) (.tmp 12)),
 .op 6 (.faddr 14 0 (.tmp 2)),
 .op 7 (.faddr 15 4 (.tmp 14)),
 .op 8 (.load 16 false 1 (.tmp 15)),
 .op 9 (.call 17 25 [.tmp 16]),
 .op 10 (.bin 18 .sub .plain (.tmp 13) (.tmp 17)),
 .op 11 (.minmax 19 true [.tmp 18, .const (.int .i64 0)]),
 .op 12 (.mov 4 (.tmp 19))] [(3, 1), (8, 1), (8, 4)])
 .ret))),
 [.tmp 4]⟩
theorem ok22 : funcOk Try.prog (drawOk Try.prog) Try.f22 A22 = true := by kernel_rfl
noncomputable def S22 (call : Go.Fw.Call) (a0 a1 : AVal) (h : Heap) : Option J :=
 (AVal.cells? a0).bind fun c1 =>
 (rdL c1 8 1).bind fun c2 =>
 (fromCells false c2).bind fun v3 =>
 condV v3
 (some (0, [(.int .i64 0)], h))
 ((call 25 [a1] h).bind fun r4 =>
 (rdL c1 9 1).bind fun c5 =>
 (fromCells false c5).bind fun v6 =>
 (call 25 [v6] r4.2).bind fun r7 =>
 (aBin .sub .plain r4.1 r7.1).bind fun v8 =>
 (rdL c1 4 1).bind fun c9 =>
 (fromCells false c9).bind fun v10 =>
 (call 25 [v10] r7.2).bind fun r11 =>
 (aBin .sub .plain v8 r11.1).bind fun v12 =>
 (aMinMaxL true [v12, (.int .i64 0)]).bind fun v13 =>
 bif checkPairs [(8, some (.lrd 2 (4) 1)), (4, some (.ef [(2, c1)] r4.2 [(2, c1)] r7.2)), (3, some (.lrd 2 (9) 1)), (1, some (.ef [(2, c1)] h [(2, c1)] r4.2))] [(3, 1), (8, 1), (8, 4)] then some (0, [v13], r11.2) else none)
theorem run22 (call : Go.Fw.Call) (a0 a1 : AVal) (h : Heap) : runFn call (.code A22) [a0, a1] h = (S22 call a0 a1 h).bind ansOf := by kernel_rfl

/-- frankpledge/frankpledgelaw9.plain -/
noncomputable def A23 : AFunc := ⟨1, (.seq (.region [.op 0 (.box 1 true (.tmp 0)),
 .op 1 (.alloc 2 true [.str [], .str [], .int .i64 0, .int .i64 0, .int .i64 0, .int .i64 0, .int .i64 0, .int .i64 0, .bool false, .int .i64 0])] [])
 (.seq (.region [.op 0 (.faddr 3 0 (.tmp 1)),
 .op 1 (.load 4 true 9 (.tmp 3)),
 .op 2 (.faddr 5 9 (.tmp 1)),
 .op 3 (.load 6 false 1 (.tmp 5)),
 .op 4 (.build 7 [.str [], .str [], .int .i64 0, .int .i64 0, .int .i64 0, .int .i64 0, .int .i64 0, .int .i64 0, .bool false, .int .i64 0] [(0, 9, .tmp 4), (9, 1, .tmp 6)]),
 .op 5 (.store true 10 (.tmp 2) (.tmp 7))] [])
 .ret)),
 [.cell 2 true 10]⟩
theorem ok23 : funcOk Try.prog (drawOk Try.prog) Try.f23 A23 = true := by kernel_rfl
noncomputable def S23 (call : Go.Fw.Call) (a0 : AVal) (h : Heap) : Option J :=
 (AVal.cells? a0).bind fun c1 =>
 (rdL c1 0 9).bind fun c2 =>
 (fromCells true c2).bind fun v3 =>
 (rdL c1 9 1).bind fun c4 =>
 (fromCells false c4).bind fun v5 =>
 (aFill [.str [], .str [], .int .i64 0, .int .i64 0, .int .i64 0, .int .i64 0, .int .i64 0, .int .i64 0, .bool false, .int .i64 0] [(0, 9, v3), (9, 1, v5)]).bind fun c6 =>
 (aCells 10 (.agg c6)).bind fun c7 =>
 bif Nat.ble ((0) + 10) (List.length (α := AVal) [.str [], .str [], .int .i64 0, .int .i64 0, .int .i64 0, .int .i64 0, .int .i64 0, .int .i64 0, .bool false, .int .i64 0]) then (((rdL (splice [.str [], .str [], .int .i64 0, .int .i64 0, .int .i64 0, .int .i64 0, .int .i64 0, .int .i64 0, .bool false, .int .i64 0] (0) c7) (0) 10).bind fun cs => fromCells true cs).bind fun v => (some []).bind fun vs => some (v :: vs)).bind fun vs => some (0, [oneOr vs], h) else none
theorem run23 (call : Go.Fw.Call) (a0 : AVal) (h : Heap) : runFn call (.code A23) [a0] h = (S23 call a0 h).bind ansOf := by kernel_rfl

/-- slices.Equal[[]frankpledge/lease.Entry,frankpledge/lease.Entry] -/
noncomputable def A24 : AFunc := ⟨2, (.seq (.region [.op 0 (.mov 4 (.const (.bool false)))] [])
 (.seq (.seq (.region [.op 0 (.mov 6 (.tmp 0)),
 .op 1 (.len 7 false (.tmp 6)),
 .op 2 (.mov 8 (.tmp 1)),
 .op 3 (.len 9 false (.tmp 8)),
 .op 4 (.bin 10 .neq .plain (.tmp 7) (.tmp 9))] [])
 (.cond (.tmp 10)
 (.seq (.region [.op 0 (.mov 4 (.const (.bool false)))] [])
 .ret)
 .skip))
 (.seq (.seq (.region [.op 0 (.mov 11 (.tmp 0)),
 .op 1 (.len 12 false (.tmp 11)),
 .op 2 (.mov 13 (.const (.int .i64 0)))] [])
 (.block 0 (.loop ⟨[0, 1, 12, 13], []⟩ [((.exit 0), ⟨[], []⟩), (.ret, ⟨[4], []⟩)]
 (.seq (.region [.op 0 (.bin 14 .lss .plain (.tmp 13) (.tmp 12))] [])
 (.seq (.cond (.tmp 14)
 .skip
 (.exit 0))
 (.seq (.block 1 (.seq (.region [.op 0 (.mov 15 (.tmp 13)),
 .op 1 (.mov 5 (.tmp 15))] [])
 (.seq (.region [.op 0 (.mov 16 (.tmp 0)),
 .op 1 (.mov 17 (.tmp 5)),
 .op 2 (.iaddr 18 none 10 (.tmp 16) (.tmp 17)),
 .op 3 (.load 19 true 10 (.tmp 18)),
 .op 4 (.mov 20 (.tmp 1)),
 .op 5 (.mov 21 (.tmp 5)),
 .op 6 (.iaddr 22 none 10 (.tmp 20) (.tmp 21)),
 .op 7 (.load 23 true 10 (.tmp 22)),
 .op 8 (.bin 24 .neq (.cells [2, 2, 1, 1, 1, 1, 1, 1, 0, 1]) (.tmp 19) (.tmp 23))] [])
 (.cond (.tmp 24)
 (.seq (.region [.op 0 (.mov 4 (.const (.bool false)))] [])
 .ret)
 .skip))))
 (.region [.op 0 (.bin 25 .add .plain (.tmp 13) (.const (.int .i64 1))),
 .op 1 (.mov 13 (.tmp 25))] [])))))))
 (.seq (.region [.op 0 (.mov 4 (.const (.bool true)))] [])
 .ret)))),
 [.tmp 4]⟩
theorem ok24 : funcOk Try.prog (drawOk Try.prog) Try.f24 A24 = true := by kernel_rfl
/-- xs: t0, t1, t12, t13 -/
noncomputable def L24_0 (call : Go.Fw.Call) (xs : List AVal) (h : Heap) : Option J :=
 (aBin .lss .plain (xs.getD 3 .undef) (xs.getD 2 .undef)).bind fun v5 =>
 condV v5
 ((aIaddr 10 (xs.getD 0 .undef) (xs.getD 3 .undef)).bind fun v6 =>
 (aLoad h 10 v6).bind fun c7 =>
 (fromCells true c7).bind fun v8 =>
 (aIaddr 10 (xs.getD 1 .undef) (xs.getD 3 .undef)).bind fun v9 =>
 (aLoad h 10 v9).bind fun c10 =>
 (fromCells true c10).bind fun v11 =>
 (aBin .neq (.cells [2, 2, 1, 1, 1, 1, 1, 1, 0, 1]) v8 v11).bind fun v12 =>
 condV v12
 (some (2, [(.bool false)], h))
 ((aBin .add .plain (xs.getD 3 .undef) (.int .i64 1)).bind fun v13 =>
 some (0, [(xs.getD 0 .undef), (xs.getD 1 .undef), (xs.getD 2 .undef), v13], h)))
 (some (1, [], h))
noncomputable def S24 (call : Go.Fw.Call) (a0 a1 : AVal) (h : Heap) : Option J :=
 (aLen false a0).bind fun v1 =>
 (aLen false a1).bind fun v2 =>
 (aBin .neq .plain v1 v2).bind fun v3 =>
 condV v3
 (some (0, [(.bool false)], h))
 ((aLen false a0).bind fun v4 =>
 (loop (L24_0 call) [a0, a1, v4, (.int .i64 0)] h).bind fun x14 =>
 bif Nat.beq x14.1 1 then some (0, [(.bool true)], x14.2.2) else
 bif Nat.beq x14.1 2 then some (0, [(x14.2.1.getD 0 .undef)], x14.2.2) else
 none)
theorem run24 (call : Go.Fw.Call) (a0 a1 : AVal) (h : Heap) : runFn call (.code A24) [a0, a1] h = (S24 call a0 a1 h).bind ansOf := by kernel_rfl

/-- frankpledge/frankpledgeref9.hold -/
noncomputable def A25 : AFunc := ⟨1, (.seq (.region [.op 0 (.mov 2 (.const (.int .i64 0)))] [])
 (.seq (.region [.op 0 (.mov 3 (.tmp 0)),
 .op 1 (.minmax 4 false [.tmp 3, .const (.int .i64 4611686018427387904)]),
 .op 2 (.minmax 5 true [.tmp 4, .const (.int .i64 0)]),
 .op 3 (.mov 2 (.tmp 5))] [])
 .ret)),
 [.tmp 2]⟩
theorem ok25 : funcOk Try.prog (drawOk Try.prog) Try.f25 A25 = true := by kernel_rfl
noncomputable def S25 (call : Go.Fw.Call) (a0 : AVal) (h : Heap) : Option J :=
 (aMinMaxL false [a0, (.int .i64 4611686018427387904)]).bind fun v1 =>
 (aMinMaxL true [v1, (.int .i64 0)]).bind fun v2 =>
 some (0, [v2], h)
theorem run25 (call : Go.Fw.Call) (a0 : AVal) (h : Heap) : runFn call (.code A25) [a0] h = (S25 call a0 h).bind ansOf := by kernel_rfl

noncomputable def tbl (f : Nat) : Option AFn :=
 match f with
 | 3 => some (.code A3)
 | 4 => some (.code A4)
 | 5 => some (.code A5)
 | 6 => some (.code A6)
 | 7 => some (.code A7)
 | 8 => some (.code A8)
 | 9 => some (.code A9)
 | 10 => some (.code A10)
 | 11 => some (.code A11)
 | 12 => some (.code A12)
 | 13 => some (.code A13)
 | 14 => some (.code A14)
 | 15 => some (.code A15)
 | 16 => some (.code A16)
 | 17 => some (.code A17)
 | 18 => some (.code A18)
 | 19 => some (.code A19)
 | 20 => some (.code A20)
 | 21 => some (.code A21)
 | 22 => some (.code A22)
 | 23 => some (.code A23)
 | 24 => some (.code A24)
 | 25 => some (.code A25)
 | _ => none
theorem c3 (a0 a1 a2 : AVal) (h : Heap) : E tbl 3 [a0, a1, a2] h = (S3 (E tbl) a0 a1 a2 h).bind ansOf := (E_eq tbl 3 [a0, a1, a2] h).trans (run3 (E tbl) a0 a1 a2 h)
theorem c4 (h : Heap) : E tbl 4 [] h = (S4 (E tbl)  h).bind ansOf := (E_eq tbl 4 [] h).trans (run4 (E tbl)  h)
theorem c5 (a0 a1 a2 a3 a4 a5 a6 : AVal) (h : Heap) : E tbl 5 [a0, a1, a2, a3, a4, a5, a6] h = (S5 (E tbl) a0 a1 a2 a3 a4 a5 a6 h).bind ansOf := (E_eq tbl 5 [a0, a1, a2, a3, a4, a5, a6] h).trans (run5 (E tbl) a0 a1 a2 a3 a4 a5 a6 h)
theorem c6 (a0 a1 a2 : AVal) (h : Heap) : E tbl 6 [a0, a1, a2] h = (S6 (E tbl) a0 a1 a2 h).bind ansOf := (E_eq tbl 6 [a0, a1, a2] h).trans (run6 (E tbl) a0 a1 a2 h)
theorem c7 (a0 a1 : AVal) (h : Heap) : E tbl 7 [a0, a1] h = (S7 (E tbl) a0 a1 h).bind ansOf := (E_eq tbl 7 [a0, a1] h).trans (run7 (E tbl) a0 a1 h)
theorem c8 (a0 : AVal) (h : Heap) : E tbl 8 [a0] h = (S8 (E tbl) a0 h).bind ansOf := (E_eq tbl 8 [a0] h).trans (run8 (E tbl) a0 h)
theorem c9 (a0 a1 : AVal) (h : Heap) : E tbl 9 [a0, a1] h = (S9 (E tbl) a0 a1 h).bind ansOf := (E_eq tbl 9 [a0, a1] h).trans (run9 (E tbl) a0 a1 h)
theorem c10 (a0 a1 : AVal) (h : Heap) : E tbl 10 [a0, a1] h = (S10 (E tbl) a0 a1 h).bind ansOf := (E_eq tbl 10 [a0, a1] h).trans (run10 (E tbl) a0 a1 h)
theorem c11 (a0 a1 : AVal) (h : Heap) : E tbl 11 [a0, a1] h = (S11 (E tbl) a0 a1 h).bind ansOf := (E_eq tbl 11 [a0, a1] h).trans (run11 (E tbl) a0 a1 h)
theorem c12 (h : Heap) : E tbl 12 [] h = (S12 (E tbl)  h).bind ansOf := (E_eq tbl 12 [] h).trans (run12 (E tbl)  h)
theorem c13 (a0 a1 a2 a3 a4 a5 : AVal) (h : Heap) : E tbl 13 [a0, a1, a2, a3, a4, a5] h = (S13 (E tbl) a0 a1 a2 a3 a4 a5 h).bind ansOf := (E_eq tbl 13 [a0, a1, a2, a3, a4, a5] h).trans (run13 (E tbl) a0 a1 a2 a3 a4 a5 h)
theorem c14 (a0 a1 : AVal) (h : Heap) : E tbl 14 [a0, a1] h = (S14 (E tbl) a0 a1 h).bind ansOf := (E_eq tbl 14 [a0, a1] h).trans (run14 (E tbl) a0 a1 h)
theorem c15 (a0 : AVal) (h : Heap) : E tbl 15 [a0] h = (S15 (E tbl) a0 h).bind ansOf := (E_eq tbl 15 [a0] h).trans (run15 (E tbl) a0 h)
theorem c16 (a0 a1 a2 a3 : AVal) (h : Heap) : E tbl 16 [a0, a1, a2, a3] h = (S16 (E tbl) a0 a1 a2 a3 h).bind ansOf := (E_eq tbl 16 [a0, a1, a2, a3] h).trans (run16 (E tbl) a0 a1 a2 a3 h)
theorem c17 (a0 a1 a2 : AVal) (h : Heap) : E tbl 17 [a0, a1, a2] h = (S17 (E tbl) a0 a1 a2 h).bind ansOf := (E_eq tbl 17 [a0, a1, a2] h).trans (run17 (E tbl) a0 a1 a2 h)
theorem c18 (a0 a1 a2 : AVal) (h : Heap) : E tbl 18 [a0, a1, a2] h = (S18 (E tbl) a0 a1 a2 h).bind ansOf := (E_eq tbl 18 [a0, a1, a2] h).trans (run18 (E tbl) a0 a1 a2 h)
theorem c19 (a0 : AVal) (h : Heap) : E tbl 19 [a0] h = (S19 (E tbl) a0 h).bind ansOf := (E_eq tbl 19 [a0] h).trans (run19 (E tbl) a0 h)
theorem c20 (a0 a1 a2 : AVal) (h : Heap) : E tbl 20 [a0, a1, a2] h = (S20 (E tbl) a0 a1 a2 h).bind ansOf := (E_eq tbl 20 [a0, a1, a2] h).trans (run20 (E tbl) a0 a1 a2 h)
theorem c21 (a0 : AVal) (h : Heap) : E tbl 21 [a0] h = (S21 (E tbl) a0 h).bind ansOf := (E_eq tbl 21 [a0] h).trans (run21 (E tbl) a0 h)
theorem c22 (a0 a1 : AVal) (h : Heap) : E tbl 22 [a0, a1] h = (S22 (E tbl) a0 a1 h).bind ansOf := (E_eq tbl 22 [a0, a1] h).trans (run22 (E tbl) a0 a1 h)
theorem c23 (a0 : AVal) (h : Heap) : E tbl 23 [a0] h = (S23 (E tbl) a0 h).bind ansOf := (E_eq tbl 23 [a0] h).trans (run23 (E tbl) a0 h)
theorem c24 (a0 a1 : AVal) (h : Heap) : E tbl 24 [a0, a1] h = (S24 (E tbl) a0 a1 h).bind ansOf := (E_eq tbl 24 [a0, a1] h).trans (run24 (E tbl) a0 a1 h)
theorem c25 (a0 : AVal) (h : Heap) : E tbl 25 [a0] h = (S25 (E tbl) a0 h).bind ansOf := (E_eq tbl 25 [a0] h).trans (run25 (E tbl) a0 h)
theorem tbl_ok : ∀ f a, tbl f = some a → FnOk Try.prog (drawOk Try.prog) f a := by
  intro f a h
  unfold tbl at h
  split at h
  · cases h; exact ⟨_, Try.func3, by decide +kernel, ok3⟩
  · cases h; exact ⟨_, Try.func4, by decide +kernel, ok4⟩
  · cases h; exact ⟨_, Try.func5, by decide +kernel, ok5⟩
  · cases h; exact ⟨_, Try.func6, by decide +kernel, ok6⟩
  · cases h; exact ⟨_, Try.func7, by decide +kernel, ok7⟩
  · cases h; exact ⟨_, Try.func8, by decide +kernel, ok8⟩
  · cases h; exact ⟨_, Try.func9, by decide +kernel, ok9⟩
  · cases h; exact ⟨_, Try.func10, by decide +kernel, ok10⟩
  · cases h; exact ⟨_, Try.func11, by decide +kernel, ok11⟩
  · cases h; exact ⟨_, Try.func12, by decide +kernel, ok12⟩
  · cases h; exact ⟨_, Try.func13, by decide +kernel, ok13⟩
  · cases h; exact ⟨_, Try.func14, by decide +kernel, ok14⟩
  · cases h; exact ⟨_, Try.func15, by decide +kernel, ok15⟩
  · cases h; exact ⟨_, Try.func16, by decide +kernel, ok16⟩
  · cases h; exact ⟨_, Try.func17, by decide +kernel, ok17⟩
  · cases h; exact ⟨_, Try.func18, by decide +kernel, ok18⟩
  · cases h; exact ⟨_, Try.func19, by decide +kernel, ok19⟩
  · cases h; exact ⟨_, Try.func20, by decide +kernel, ok20⟩
  · cases h; exact ⟨_, Try.func21, by decide +kernel, ok21⟩
  · cases h; exact ⟨_, Try.func22, by decide +kernel, ok22⟩
  · cases h; exact ⟨_, Try.func23, by decide +kernel, ok23⟩
  · cases h; exact ⟨_, Try.func24, by decide +kernel, ok24⟩
  · cases h; exact ⟨_, Try.func25, by decide +kernel, ok25⟩
  · cases h
theorem prog_ok : CallOk Try.prog (E tbl) := E_ok tbl_ok
end Go.Proofs.Ytkmegdliingbjaa.Code
