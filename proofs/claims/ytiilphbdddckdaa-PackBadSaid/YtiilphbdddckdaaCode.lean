import Derived.Test.YtiilphbdddckdaaProg
import Derived.Test.YtiilphbdddckdaaFwZc
import Derived.KernelRfl
namespace Go.Proofs.Ytiilphbdddckdaa.Code
open Go.Fw
/-- frankpledge/frankpledgelaw2.PackBad -/
noncomputable def A3 : AFunc := ⟨2, (.seq (.region [.op 0 (.mov 4 (.const (.bool false)))] [])
 (.seq (.region [.op 0 (.mov 5 (.const (.nilSlice)))] [])
 (.seq (.region [.op 0 (.mov 13 (.tmp 0)),
 .op 1 (.len 14 false (.tmp 13)),
 .op 2 (.minmax 15 false [.tmp 14, .const (.int .i64 12)]),
 .op 3 (.mov 6 (.tmp 15))] [])
 (.seq (.seq (.region [.op 0 (.mov 7 (.const (.int .i64 0)))] [])
 (.block 0 (.loop ⟨[0, 1, 5, 6, 7], []⟩ [((.exit 0), ⟨[0, 1, 5, 6], []⟩)]
 (.seq (.seq (.region [.op 0 (.mov 16 (.tmp 7)),
 .op 1 (.mov 17 (.tmp 6)),
 .op 2 (.bin 18 .lss .plain (.tmp 16) (.tmp 17))] [])
 (.cond (.tmp 18)
 .skip
 (.exit 0)))
 (.seq (.block 1 (.region [.op 0 (.mov 21 (.tmp 5)),
 .op 1 (.mov 22 (.tmp 0)),
 .op 2 (.mov 23 (.tmp 7)),
 .op 3 (.iaddr 24 none 1 (.tmp 22) (.tmp 23)),
 .op 4 (.load 25 false 1 (.tmp 24)),
 .op 5 (.call 26 7 [.tmp 21, .tmp 25]),
 .op 6 (.mov 5 (.tmp 26))] []))
 (.region [.op 0 (.mov 19 (.tmp 7)),
 .op 1 (.bin 20 .add .plain (.tmp 19) (.const (.int .i64 1))),
 .op 2 (.mov 7 (.tmp 20))] []))))))
 (.seq (.region [.op 0 (.mov 27 (.tmp 1)),
 .op 1 (.mov 28 (.tmp 5)),
 .op 2 (.len 29 false (.tmp 28)),
 .op 3 (.call 30 8 [.tmp 27, .const (.int .i64 0), .tmp 29]),
 .op 4 (.mov 8 (.tmp 30))] [])
 (.seq (.region [.op 0 (.mov 31 (.tmp 5)),
 .op 1 (.mov 32 (.tmp 8)),
 .op 2 (.slice 33 (.sl 1) (.tmp 31) none (some (.tmp 32)) none),
 .op 3 (.call 34 9 [.tmp 33]),
 .op 4 (.mov 9 (.tmp 34))] [])
 (.seq (.seq (.region [.op 0 (.mov 35 (.tmp 9)),
 .op 1 (.bin 36 .eql .ptr (.tmp 35) (.const (.nilPtr)))] [])
 (.cond (.tmp 36)
 (.seq (.region [.op 0 (.mov 4 (.const (.bool false)))] [])
 .ret)
 .skip))
 (.seq (.seq (.region [.op 0 (.mov 10 (.const (.int .i64 0)))] [])
 (.block 2 (.loop ⟨[0, 5, 6, 8, 9, 10], []⟩ [((.exit 2), ⟨[5, 8, 9], []⟩), (.ret, ⟨[4], []⟩)]
 (.seq (.seq (.region [.op 0 (.mov 37 (.tmp 10)),
 .op 1 (.mov 38 (.tmp 6)),
 .op 2 (.bin 39 .lss .plain (.tmp 37) (.tmp 38))] [])
 (.cond (.tmp 39)
 .skip
 (.exit 2)))
 (.seq (.block 3 (.seq (.region [.op 0 (.mov 42 (.tmp 10)),
 .op 1 (.bin 43 .mul .plain (.const (.int .i64 8)) (.tmp 42)),
 .op 2 (.bin 44 .add .plain (.tmp 43) (.const (.int .i64 8))),
 .op 3 (.mov 45 (.tmp 8)),
 .op 4 (.bin 46 .leq .plain (.tmp 44) (.tmp 45)),
 .op 5 (.mov 11 (.tmp 46))] [])
 (.seq (.region [.op 0 (.mov 47 (.tmp 9)),
 .op 1 (.call 48 10 [.tmp 47]),
 .op 2 (.mov 12 (.tmp 48))] [])
 (.seq (.region [.op 0 (.mov 49 (.tmp 11)),
 .op 1 (.mov 50 (.tmp 49)),
 .guard 50 true [.op 2 (.mov 51 (.tmp 12)),
 .op 3 (.mov 52 (.tmp 0)),
 .op 4 (.mov 53 (.tmp 10)),
 .op 5 (.iaddr 54 none 1 (.tmp 52) (.tmp 53)),
 .op 6 (.load 55 false 1 (.tmp 54)),
 .op 7 (.bin 56 .neq .plain (.tmp 51) (.tmp 55)),
 .op 8 (.mov 57 (.tmp 56)),
 .guard 57 false [.op 9 (.mov 58 (.tmp 9)),
 .op 10 (.call 59 11 [.tmp 58])] [] [59],
 .op 11 (.pick 60 (.tmp 57) (.const (.bool true)) (.tmp 59))] [] [60],
 .op 12 (.pick 61 (.tmp 50) (.tmp 60) (.const (.bool false))),
 .op 13 (.mov 62 (.tmp 61)),
 .guard 62 false [.op 14 (.mov 63 (.tmp 11)),
 .op 15 (.un 64 .not (.tmp 63)),
 .op 16 (.mov 65 (.tmp 64)),
 .guard 65 true [.op 17 (.mov 66 (.tmp 12)),
 .op 18 (.bin 67 .neq .plain (.tmp 66) (.const (.int .i64 0))),
 .op 19 (.mov 68 (.tmp 67)),
 .guard 68 false [.op 20 (.mov 69 (.tmp 9)),
 .op 21 (.call 70 11 [.tmp 69]),
 .op 22 (.un 71 .not (.tmp 70))] [] [71],
 .op 23 (.pick 72 (.tmp 68) (.const (.bool true)) (.tmp 71))] [] [72],
 .op 24 (.pick 73 (.tmp 65) (.tmp 72) (.const (.bool false)))] [] [73],
 .op 25 (.pick 74 (.tmp 62) (.const (.bool true)) (.tmp 73))] [])
 (.cond (.tmp 74)
 (.seq (.region [.op 0 (.mov 4 (.const (.bool false)))] [])
 .ret)
 .skip)))))
 (.region [.op 0 (.mov 40 (.tmp 10)),
 .op 1 (.bin 41 .add .plain (.tmp 40) (.const (.int .i64 1))),
 .op 2 (.mov 10 (.tmp 41))] []))))))
 (.seq (.region [.op 0 (.mov 75 (.tmp 9)),
 .op 1 (.call 76 11 [.tmp 75]),
 .op 2 (.mov 77 (.tmp 8)),
 .op 3 (.mov 78 (.tmp 5)),
 .op 4 (.len 79 false (.tmp 78)),
 .op 5 (.bin 80 .lss .plain (.tmp 77) (.tmp 79)),
 .op 6 (.bin 81 .eql .bool (.tmp 76) (.tmp 80)),
 .op 7 (.mov 82 (.tmp 81)),
 .guard 82 true [.op 8 (.mov 83 (.tmp 9)),
 .op 9 (.call 84 12 [.tmp 83]),
 .op 10 (.mov 85 (.tmp 8)),
 .op 11 (.mov 86 (.tmp 5)),
 .op 12 (.len 87 false (.tmp 86)),
 .op 13 (.bin 88 .eql .plain (.tmp 85) (.tmp 87)),
 .op 14 (.bin 89 .eql .bool (.tmp 84) (.tmp 88))] [] [89],
 .op 15 (.pick 90 (.tmp 82) (.tmp 89) (.const (.bool false))),
 .op 16 (.mov 91 (.tmp 90)),
 .guard 91 true [.op 17 (.call 92 13 [])] [] [92],
 .op 18 (.pick 93 (.tmp 91) (.tmp 92) (.const (.bool false))),
 .op 19 (.mov 4 (.tmp 93))] [])
 .ret))))))))),
 [.tmp 4]⟩
theorem ok3 : funcOk Try.prog (drawOk Try.prog) Try.f3 A3 = true := by kernel_rfl
/-- xs: t0, t1, t5, t6, t7 -/
noncomputable def L3_0 (call : Go.Fw.Call) (xs : List AVal) (h : Heap) : Option J :=
 (aBin .lss .plain (xs.getD 4 .undef) (xs.getD 3 .undef)).bind fun v3 =>
 condV v3
 ((aIaddr 1 (xs.getD 0 .undef) (xs.getD 4 .undef)).bind fun v4 =>
 (aLoad h 1 v4).bind fun c5 =>
 (fromCells false c5).bind fun v6 =>
 (call 7 [(xs.getD 2 .undef), v6] h).bind fun r7 =>
 (aBin .add .plain (xs.getD 4 .undef) (.int .i64 1)).bind fun v8 =>
 some (0, [(xs.getD 0 .undef), (xs.getD 1 .undef), r7.1, (xs.getD 3 .undef), v8], r7.2))
 (some (1, [(xs.getD 0 .undef), (xs.getD 1 .undef), (xs.getD 2 .undef), (xs.getD 3 .undef)], h))
/-- xs: t0, t5, t6, t8, t9, t10 -/
noncomputable def L3_1 (call : Go.Fw.Call) (xs : List AVal) (h : Heap) : Option J :=
 (aBin .lss .plain (xs.getD 5 .undef) (xs.getD 2 .undef)).bind fun v15 =>
 condV v15
 ((aBin .mul .plain (.int .i64 8) (xs.getD 5 .undef)).bind fun v16 =>
 (aBin .add .plain v16 (.int .i64 8)).bind fun v17 =>
 (aBin .leq .plain v17 (xs.getD 3 .undef)).bind fun v18 =>
 (call 10 [(xs.getD 4 .undef)] h).bind fun r19 =>
 (guardV v18 true
 ((aIaddr 1 (xs.getD 0 .undef) (xs.getD 5 .undef)).bind fun v20 =>
 (aLoad r19.2 1 v20).bind fun c21 =>
 (fromCells false c21).bind fun v22 =>
 (aBin .neq .plain r19.1 v22).bind fun v23 =>
 (guardV v23 false
 ((call 11 [(xs.getD 4 .undef)] r19.2).bind fun r24 =>
 some (0, [r24.1], r24.2))
 (some (0, [skipV], r19.2))).bind fun g25 =>
 (aPick v23 (.bool true) (g25.2.1.getD 0 .undef)).bind fun v26 =>
 some (0, [v26], g25.2.2))
 (some (0, [skipV], r19.2))).bind fun g27 =>
 (aPick v18 (g27.2.1.getD 0 .undef) (.bool false)).bind fun v28 =>
 (guardV v28 false
 ((aUn .not v18).bind fun v29 =>
 (guardV v29 true
 ((aBin .neq .plain r19.1 (.int .i64 0)).bind fun v30 =>
 (guardV v30 false
 ((call 11 [(xs.getD 4 .undef)] g27.2.2).bind fun r31 =>
 (aUn .not r31.1).bind fun v32 =>
 some (0, [v32], r31.2))
 (some (0, [skipV], g27.2.2))).bind fun g33 =>
 (aPick v30 (.bool true) (g33.2.1.getD 0 .undef)).bind fun v34 =>
 some (0, [v34], g33.2.2))
 (some (0, [skipV], g27.2.2))).bind fun g35 =>
 (aPick v29 (g35.2.1.getD 0 .undef) (.bool false)).bind fun v36 =>
 some (0, [v36], g35.2.2))
 (some (0, [skipV], g27.2.2))).bind fun g37 =>
 (aPick v28 (.bool true) (g37.2.1.getD 0 .undef)).bind fun v38 =>
 condV v38
 (some (2, [(.bool false)], g37.2.2))
 ((aBin .add .plain (xs.getD 5 .undef) (.int .i64 1)).bind fun v39 =>
 some (0, [(xs.getD 0 .undef), (xs.getD 1 .undef), (xs.getD 2 .undef), (xs.getD 3 .undef), (xs.getD 4 .undef), v39], g37.2.2)))
 (some (1, [(xs.getD 1 .undef), (xs.getD 3 .undef), (xs.getD 4 .undef)], h))
noncomputable def S3 (call : Go.Fw.Call) (a0 a1 : AVal) (h : Heap) : Option J :=
 (aLen false a0).bind fun v1 =>
 (aMinMaxL false [v1, (.int .i64 12)]).bind fun v2 =>
 (loop (L3_0 call) [a0, a1, (.nilSlice), v2, (.int .i64 0)] h).bind fun x9 =>
 bif Nat.beq x9.1 1 then (aLen false (x9.2.1.getD 2 .undef)).bind fun v10 =>
 (call 8 [(x9.2.1.getD 1 .undef), (.int .i64 0), v10] x9.2.2).bind fun r11 =>
 (aSliceSl 1 (x9.2.1.getD 2 .undef) none (some r11.1) none).bind fun v12 =>
 (call 9 [v12] r11.2).bind fun r13 =>
 (aBin .eql .ptr r13.1 (.nilPtr)).bind fun v14 =>
 condV v14
 (some (0, [(.bool false)], r13.2))
 ((loop (L3_1 call) [(x9.2.1.getD 0 .undef), (x9.2.1.getD 2 .undef), (x9.2.1.getD 3 .undef), r11.1, r13.1, (.int .i64 0)] r13.2).bind fun x40 =>
 bif Nat.beq x40.1 1 then (call 11 [(x40.2.1.getD 2 .undef)] x40.2.2).bind fun r41 =>
 (aLen false (x40.2.1.getD 0 .undef)).bind fun v42 =>
 (aBin .lss .plain (x40.2.1.getD 1 .undef) v42).bind fun v43 =>
 (aBin .eql .bool r41.1 v43).bind fun v44 =>
 (guardV v44 true
 ((call 12 [(x40.2.1.getD 2 .undef)] r41.2).bind fun r45 =>
 (aLen false (x40.2.1.getD 0 .undef)).bind fun v46 =>
 (aBin .eql .plain (x40.2.1.getD 1 .undef) v46).bind fun v47 =>
 (aBin .eql .bool r45.1 v47).bind fun v48 =>
 some (0, [v48], r45.2))
 (some (0, [skipV], r41.2))).bind fun g49 =>
 (aPick v44 (g49.2.1.getD 0 .undef) (.bool false)).bind fun v50 =>
 (guardV v50 true
 ((call 13 [] g49.2.2).bind fun r51 =>
 some (0, [r51.1], r51.2))
 (some (0, [skipV], g49.2.2))).bind fun g52 =>
 (aPick v50 (g52.2.1.getD 0 .undef) (.bool false)).bind fun v53 =>
 some (0, [v53], g52.2.2) else
 bif Nat.beq x40.1 2 then some (0, [(x40.2.1.getD 0 .undef)], x40.2.2) else
 none) else
 none
theorem run3 (call : Go.Fw.Call) (a0 a1 : AVal) (h : Heap) : runFn call (.code A3) [a0, a1] h = (S3 call a0 a1 h).bind ansOf := by kernel_rfl

/-- frankpledge/frankpledgelaw2.PackNumbers -/
noncomputable def A4 : AFunc := ⟨0, (.seq (.region [.op 0 (.mov 0 (.const (.bool false)))] [])
 (.seq (.region [.op 0 (.mov 1 (.const (.str [])))] [])
 (.seq (.seq (.region [.op 0 (.mov 2 (.const (.int .i64 0)))] [])
 (.block 0 (.loop ⟨[1, 2], []⟩ [((.exit 0), ⟨[], []⟩), (.ret, ⟨[0], []⟩)]
 (.seq (.seq (.region [.op 0 (.mov 7 (.tmp 2)),
 .op 1 (.bin 8 .lss .plain (.tmp 7) (.const (.int .i64 260)))] [])
 (.cond (.tmp 8)
 .skip
 (.exit 0)))
 (.seq (.block 1 (.seq (.seq (.region [.op 0 (.mov 11 (.tmp 2)),
 .op 1 (.bin 12 .lss .plain (.tmp 11) (.const (.int .i64 5))),
 .op 2 (.mov 13 (.tmp 12)),
 .guard 13 false [.op 3 (.mov 14 (.tmp 2)),
 .op 4 (.bin 15 .gtr .plain (.tmp 14) (.const (.int .i64 250)))] [] [15],
 .op 5 (.pick 16 (.tmp 13) (.const (.bool true)) (.tmp 15))] [])
 (.join [(.ret, ⟨[0], []⟩), (.normal, ⟨[1, 2], []⟩)] (.cond (.tmp 16)
 (.seq (.region [.op 0 (.buildSl 17 [.int .u8 0] 1 1 [(0, .const (.int .u8 9))]),
 .op 1 (.mov 18 (.tmp 2)),
 .op 2 (.bin 19 .sub .plain (.tmp 18) (.const (.int .i64 2))),
 .op 3 (.mov 20 (.tmp 2)),
 .op 4 (.mov 21 (.tmp 1)),
 .op 5 (.call 22 14 [.tmp 17, .tmp 19, .tmp 20, .tmp 21]),
 .op 6 (.un 23 .not (.tmp 22)),
 .op 7 (.mov 24 (.tmp 23)),
 .guard 24 false [.op 8 (.mov 25 (.tmp 1)),
 .op 9 (.call 26 16 [.const (.nilSlice), .tmp 25]),
 .op 10 (.buildSl 27 [.int .i64 0] 1 2 [(0, .const (.int .i64 2)), (1, .const (.int .i64 1))]),
 .op 11 (.call 28 15 [.tmp 26, .tmp 27]),
 .op 12 (.un 29 .not (.tmp 28))] [] [29],
 .op 13 (.pick 30 (.tmp 24) (.const (.bool true)) (.tmp 29))] [])
 (.cond (.tmp 30)
 (.seq (.region [.op 0 (.mov 0 (.const (.bool false)))] [])
 .ret)
 .skip))
 .skip)))
 (.region [.op 0 (.mov 31 (.tmp 1)),
 .op 1 (.bin 32 .add .plain (.tmp 31) (.const (.str [113]))),
 .op 2 (.mov 1 (.tmp 32))] [])))
 (.region [.op 0 (.mov 9 (.tmp 2)),
 .op 1 (.bin 10 .add .plain (.tmp 9) (.const (.int .i64 1))),
 .op 2 (.mov 2 (.tmp 10))] []))))))
 (.seq (.seq (.region [.op 0 (.buildSl 33 [.int .i64 0] 1 5 [(0, .const (.int .i64 0)), (1, .const (.int .i64 (-1))), (2, .const (.int .i64 9223372036854775807)), (3, .const (.int .i64 (-9223372036854775808))), (4, .const (.int .i64 1099511627776))]),
 .op 1 (.len 34 false (.tmp 33)),
 .op 2 (.mov 35 (.const (.int .i64 0)))] [])
 (.block 2 (.loop ⟨[33, 34, 35], []⟩ [((.exit 2), ⟨[], []⟩), (.ret, ⟨[0], []⟩)]
 (.seq (.region [.op 0 (.bin 36 .lss .plain (.tmp 35) (.tmp 34))] [])
 (.seq (.cond (.tmp 36)
 .skip
 (.exit 2))
 (.seq (.block 3 (.seq (.region [.op 0 (.iaddr 37 none 1 (.tmp 33) (.tmp 35)),
 .op 1 (.load 38 false 1 (.tmp 37)),
 .op 2 (.mov 4 (.tmp 38))] [])
 (.seq (.region [.op 0 (.mov 39 (.tmp 4)),
 .op 1 (.mov 40 (.tmp 4)),
 .op 2 (.call 41 14 [.const (.nilSlice), .tmp 39, .tmp 40, .const (.str [])]),
 .op 3 (.un 42 .not (.tmp 41))] [])
 (.cond (.tmp 42)
 (.seq (.region [.op 0 (.mov 0 (.const (.bool false)))] [])
 .ret)
 .skip))))
 (.region [.op 0 (.bin 43 .add .plain (.tmp 35) (.const (.int .i64 1))),
 .op 1 (.mov 35 (.tmp 43))] [])))))))
 (.seq (.region [.op 0 (.call 44 17 [.const (.nilSlice), .const (.str [97, 98, 99])]),
 .op 1 (.call 45 19 [.tmp 44, .const (.int .i64 (-5))]),
 .op 2 (.call 46 18 [.tmp 45, .const (.int .i64 200)]),
 .op 3 (.call 47 17 [.tmp 46, .const (.str [])]),
 .op 4 (.mov 5 (.tmp 47))] [])
 (.seq (.seq (.region [.op 0 (.mov 6 (.const (.int .i64 0)))] [])
 (.block 4 (.loop ⟨[5, 6], []⟩ [((.exit 4), ⟨[], []⟩), (.ret, ⟨[0], []⟩)]
 (.seq (.seq (.region [.op 0 (.mov 48 (.tmp 6)),
 .op 1 (.mov 49 (.tmp 5)),
 .op 2 (.len 50 false (.tmp 49)),
 .op 3 (.bin 51 .leq .plain (.tmp 48) (.tmp 50))] [])
 (.cond (.tmp 51)
 .skip
 (.exit 4)))
 (.seq (.block 5 (.seq (.region [.op 0 (.mov 54 (.tmp 5)),
 .op 1 (.mov 55 (.tmp 6)),
 .op 2 (.slice 56 (.sl 1) (.tmp 54) none (some (.tmp 55)) none),
 .op 3 (.buildSl 57 [.int .i64 0] 1 5 [(0, .const (.int .i64 2)), (1, .const (.int .i64 0)), (2, .const (.int .i64 1)), (3, .const (.int .i64 2)), (4, .const (.int .i64 2))]),
 .op 4 (.call 58 15 [.tmp 56, .tmp 57]),
 .op 5 (.un 59 .not (.tmp 58)),
 .op 6 (.mov 60 (.tmp 59)),
 .guard 60 false [.op 7 (.mov 61 (.tmp 5)),
 .op 8 (.mov 62 (.tmp 6)),
 .op 9 (.slice 63 (.sl 1) (.tmp 61) (some (.tmp 62)) none none),
 .op 10 (.buildSl 64 [.int .i64 0] 1 5 [(0, .const (.int .i64 0)), (1, .const (.int .i64 1)), (2, .const (.int .i64 2)), (3, .const (.int .i64 1)), (4, .const (.int .i64 0))]),
 .op 11 (.call 65 15 [.tmp 63, .tmp 64]),
 .op 12 (.un 66 .not (.tmp 65))] [] [66],
 .op 13 (.pick 67 (.tmp 60) (.const (.bool true)) (.tmp 66))] [])
 (.cond (.tmp 67)
 (.seq (.region [.op 0 (.mov 0 (.const (.bool false)))] [])
 .ret)
 .skip)))
 (.region [.op 0 (.mov 52 (.tmp 6)),
 .op 1 (.bin 53 .add .plain (.tmp 52) (.const (.int .i64 1))),
 .op 2 (.mov 6 (.tmp 53))] []))))))
 (.seq (.region [.op 0 (.call 68 13 []),
 .op 1 (.mov 0 (.tmp 68))] [])
 .ret))))))),
 [.tmp 0]⟩
theorem ok4 : funcOk Try.prog (drawOk Try.prog) Try.f4 A4 = true := by kernel_rfl
/-- xs: t1, t2 -/
noncomputable def L4_0 (call : Go.Fw.Call) (xs : List AVal) (h : Heap) : Option J :=
 (aBin .lss .plain (xs.getD 1 .undef) (.int .i64 260)).bind fun v1 =>
 condV v1
 ((aBin .lss .plain (xs.getD 1 .undef) (.int .i64 5)).bind fun v2 =>
 (guardV v2 false
 ((aBin .gtr .plain (xs.getD 1 .undef) (.int .i64 250)).bind fun v3 =>
 some (0, [v3], h))
 (some (0, [skipV], h))).bind fun g4 =>
 (aPick v2 (.bool true) (g4.2.1.getD 0 .undef)).bind fun v5 =>
 (condV v5
 ((aFill (reps [.int .u8 0] 1) [(0, 1, (.int .u8 9))]).bind fun c6 =>
 (aBin .sub .plain (xs.getD 1 .undef) (.int .i64 2)).bind fun v7 =>
 (call 14 [(.slice g4.2.2.next 0 1 1 1 true), v7, (xs.getD 1 .undef), (xs.getD 0 .undef)] (g4.2.2.alloc c6)).bind fun r8 =>
 (aUn .not r8.1).bind fun v9 =>
 (guardV v9 false
 ((call 16 [(.nilSlice), (xs.getD 0 .undef)] r8.2).bind fun r10 =>
 (aFill (reps [.int .i64 0] 2) [(0, 1, (.int .i64 2)), (1, 1, (.int .i64 1))]).bind fun c11 =>
 (call 15 [r10.1, (.slice r10.2.next 0 2 2 1 true)] (r10.2.alloc c11)).bind fun r12 =>
 (aUn .not r12.1).bind fun v13 =>
 some (0, [v13], r12.2))
 (some (0, [skipV], r8.2))).bind fun g14 =>
 (aPick v9 (.bool true) (g14.2.1.getD 0 .undef)).bind fun v15 =>
 condV v15
 (some (0, [(.bool false)], g14.2.2))
 (some (1, [(xs.getD 0 .undef), (xs.getD 1 .undef)], g14.2.2)))
 (some (1, [(xs.getD 0 .undef), (xs.getD 1 .undef)], g4.2.2))).bind fun x16 =>
 bif Nat.beq x16.1 0 then some (2, [(x16.2.1.getD 0 .undef)], x16.2.2) else
 bif Nat.beq x16.1 1 then (aBin .add .plain (x16.2.1.getD 0 .undef) (.str [113])).bind fun v17 =>
 (aBin .add .plain (x16.2.1.getD 1 .undef) (.int .i64 1)).bind fun v18 =>
 some (0, [v17, v18], x16.2.2) else
 none)
 (some (1, [], h))
/-- xs: t33, t34, t35 -/
noncomputable def L4_1 (call : Go.Fw.Call) (xs : List AVal) (h : Heap) : Option J :=
 (aBin .lss .plain (xs.getD 2 .undef) (xs.getD 1 .undef)).bind fun v22 =>
 condV v22
 ((aIaddr 1 (xs.getD 0 .undef) (xs.getD 2 .undef)).bind fun v23 =>
 (aLoad h 1 v23).bind fun c24 =>
 (fromCells false c24).bind fun v25 =>
 (call 14 [(.nilSlice), v25, v25, (.str [])] h).bind fun r26 =>
 (aUn .not r26.1).bind fun v27 =>
 condV v27
 (some (2, [(.bool false)], r26.2))
 ((aBin .add .plain (xs.getD 2 .undef) (.int .i64 1)).bind fun v28 =>
 some (0, [(xs.getD 0 .undef), (xs.getD 1 .undef), v28], r26.2)))
 (some (1, [], h))
/-- xs: t5, t6 -/
noncomputable def L4_2 (call : Go.Fw.Call) (xs : List AVal) (h : Heap) : Option J :=
 (aLen false (xs.getD 0 .undef)).bind fun v34 =>
 (aBin .leq .plain (xs.getD 1 .undef) v34).bind fun v35 =>
 condV v35
 ((aSliceSl 1 (xs.getD 0 .undef) none (some (xs.getD 1 .undef)) none).bind fun v36 =>
 (aFill (reps [.int .i64 0] 5) [(0, 1, (.int .i64 2)), (1, 1, (.int .i64 0)), (2, 1, (.int .i64 1)), (3, 1, (.int .i64 2)), (4, 1, (.int .i64 2))]).bind fun c37 =>
 (call 15 [v36, (.slice h.next 0 5 5 1 true)] (h.alloc c37)).bind fun r38 =>
 (aUn .not r38.1).bind fun v39 =>
 (guardV v39 false
 ((aSliceSl 1 (xs.getD 0 .undef) (some (xs.getD 1 .undef)) none none).bind fun v40 =>
 (aFill (reps [.int .i64 0] 5) [(0, 1, (.int .i64 0)), (1, 1, (.int .i64 1)), (2, 1, (.int .i64 2)), (3, 1, (.int .i64 1)), (4, 1, (.int .i64 0))]).bind fun c41 =>
 (call 15 [v40, (.slice r38.2.next 0 5 5 1 true)] (r38.2.alloc c41)).bind fun r42 =>
 (aUn .not r42.1).bind fun v43 =>
 some (0, [v43], r42.2))
 (some (0, [skipV], r38.2))).bind fun g44 =>
 (aPick v39 (.bool true) (g44.2.1.getD 0 .undef)).bind fun v45 =>
 condV v45
 (some (2, [(.bool false)], g44.2.2))
 ((aBin .add .plain (xs.getD 1 .undef) (.int .i64 1)).bind fun v46 =>
 some (0, [(xs.getD 0 .undef), v46], g44.2.2)))
 (some (1, [], h))
noncomputable def S4 (call : Go.Fw.Call) (h : Heap) : Option J :=
 (loop (L4_0 call) [(.str []), (.int .i64 0)] h).bind fun x19 =>
 bif Nat.beq x19.1 1 then (aFill (reps [.int .i64 0] 5) [(0, 1, (.int .i64 0)), (1, 1, (.int .i64 (-1))), (2, 1, (.int .i64 9223372036854775807)), (3, 1, (.int .i64 (-9223372036854775808))), (4, 1, (.int .i64 1099511627776))]).bind fun c20 =>
 (aLen false (.slice x19.2.2.next 0 5 5 1 true)).bind fun v21 =>
 (loop (L4_1 call) [(.slice x19.2.2.next 0 5 5 1 true), v21, (.int .i64 0)] (x19.2.2.alloc c20)).bind fun x29 =>
 bif Nat.beq x29.1 1 then (call 17 [(.nilSlice), (.str [97, 98, 99])] x29.2.2).bind fun r30 =>
 (call 19 [r30.1, (.int .i64 (-5))] r30.2).bind fun r31 =>
 (call 18 [r31.1, (.int .i64 200)] r31.2).bind fun r32 =>
 (call 17 [r32.1, (.str [])] r32.2).bind fun r33 =>
 (loop (L4_2 call) [r33.1, (.int .i64 0)] r33.2).bind fun x47 =>
 bif Nat.beq x47.1 1 then (call 13 [] x47.2.2).bind fun r48 =>
 some (0, [r48.1], r48.2) else
 bif Nat.beq x47.1 2 then some (0, [(x47.2.1.getD 0 .undef)], x47.2.2) else
 none else
 bif Nat.beq x29.1 2 then some (0, [(x29.2.1.getD 0 .undef)], x29.2.2) else
 none else
 bif Nat.beq x19.1 2 then some (0, [(x19.2.1.getD 0 .undef)], x19.2.2) else
 none
theorem run4 (call : Go.Fw.Call) (h : Heap) : runFn call (.code A4) [] h = (S4 call  h).bind ansOf := by kernel_rfl

/-- frankpledge/frankpledgelaw2.PackTells -/
noncomputable def A5 : AFunc := ⟨5, (.seq (.region [.op 0 (.mov 10 (.const (.bool false)))] [])
 (.seq (.seq (.region [.op 0 (.mov 11 (.tmp 3)),
 .op 1 (.len 12 true (.tmp 11)),
 .op 2 (.bin 13 .gtr .plain (.tmp 12) (.const (.int .i64 300)))] [])
 (.join [(.normal, ⟨[0, 1, 2, 3, 4], []⟩)] (.cond (.tmp 13)
 (.region [.op 0 (.mov 14 (.tmp 3)),
 .op 1 (.slice 15 .str (.tmp 14) none (some (.const (.int .i64 300))) none),
 .op 2 (.mov 3 (.tmp 15))] [])
 .skip)))
 (.seq (.region [.op 0 (.mov 16 (.tmp 0)),
 .op 1 (.mov 17 (.tmp 1)),
 .op 2 (.mov 18 (.tmp 2)),
 .op 3 (.mov 19 (.tmp 3)),
 .op 4 (.call 20 14 [.tmp 16, .tmp 17, .tmp 18, .tmp 19]),
 .op 5 (.mov 21 (.tmp 20)),
 .guard 21 true [.op 6 (.mov 22 (.tmp 0)),
 .op 7 (.mov 23 (.tmp 4)),
 .op 8 (.call 24 15 [.tmp 22, .tmp 23])] [] [24],
 .op 9 (.pick 25 (.tmp 21) (.tmp 24) (.const (.bool false))),
 .op 10 (.mov 26 (.tmp 25)),
 .guard 26 true [.op 11 (.mov 27 (.tmp 1)),
 .op 12 (.call 28 19 [.const (.nilSlice), .tmp 27]),
 .op 13 (.mov 29 (.tmp 3)),
 .op 14 (.call 30 17 [.tmp 28, .tmp 29]),
 .op 15 (.mov 31 (.tmp 0)),
 .op 16 (.append 32 1 1 [.int .u8 0] false (.tmp 30) (.tmp 31)),
 .op 17 (.buildSl 33 [.int .i64 0] 1 2 [(0, .const (.int .i64 0)), (1, .const (.int .i64 2))]),
 .op 18 (.mov 34 (.tmp 4)),
 .op 19 (.append 35 1 8 [.int .i64 0] false (.tmp 33) (.tmp 34)),
 .op 20 (.call 36 15 [.tmp 32, .tmp 35])] [] [36],
 .op 21 (.pick 37 (.tmp 26) (.tmp 36) (.const (.bool false))),
 .op 22 (.mov 38 (.tmp 37)),
 .guard 38 true [.op 23 (.call 39 13 [])] [] [39],
 .op 24 (.pick 40 (.tmp 38) (.tmp 39) (.const (.bool false))),
 .op 25 (.mov 10 (.tmp 40))] [])
 .ret))),
 [.tmp 10]⟩
theorem ok5 : funcOk Try.prog (drawOk Try.prog) Try.f5 A5 = true := by kernel_rfl
noncomputable def S5 (call : Go.Fw.Call) (a0 a1 a2 a3 a4 : AVal) (h : Heap) : Option J :=
 (aLen true a3).bind fun v1 =>
 (aBin .gtr .plain v1 (.int .i64 300)).bind fun v2 =>
 (condV v2
 ((aSliceStr a3 none (some (.int .i64 300))).bind fun v3 =>
 some (0, [a0, a1, a2, v3, a4], h))
 (some (0, [a0, a1, a2, a3, a4], h))).bind fun x4 =>
 bif Nat.beq x4.1 0 then (call 14 [(x4.2.1.getD 0 .undef), (x4.2.1.getD 1 .undef), (x4.2.1.getD 2 .undef), (x4.2.1.getD 3 .undef)] x4.2.2).bind fun r5 =>
 (guardV r5.1 true
 ((call 15 [(x4.2.1.getD 0 .undef), (x4.2.1.getD 4 .undef)] r5.2).bind fun r6 =>
 some (0, [r6.1], r6.2))
 (some (0, [skipV], r5.2))).bind fun g7 =>
 (aPick r5.1 (g7.2.1.getD 0 .undef) (.bool false)).bind fun v8 =>
 (guardV v8 true
 ((call 19 [(.nilSlice), (x4.2.1.getD 1 .undef)] g7.2.2).bind fun r9 =>
 (call 17 [r9.1, (x4.2.1.getD 3 .undef)] r9.2).bind fun r10 =>
 (aAppend 1 1 [.int .u8 0] false r10.1 (x4.2.1.getD 0 .undef) r10.2).bind fun r11 =>
 (aFill (reps [.int .i64 0] 2) [(0, 1, (.int .i64 0)), (1, 1, (.int .i64 2))]).bind fun c12 =>
 (aAppend 1 8 [.int .i64 0] false (.slice r11.2.next 0 2 2 1 true) (x4.2.1.getD 4 .undef) (r11.2.alloc c12)).bind fun r13 =>
 (call 15 [r11.1, r13.1] r13.2).bind fun r14 =>
 some (0, [r14.1], r14.2))
 (some (0, [skipV], g7.2.2))).bind fun g15 =>
 (aPick v8 (g15.2.1.getD 0 .undef) (.bool false)).bind fun v16 =>
 (guardV v16 true
 ((call 13 [] g15.2.2).bind fun r17 =>
 some (0, [r17.1], r17.2))
 (some (0, [skipV], g15.2.2))).bind fun g18 =>
 (aPick v16 (g18.2.1.getD 0 .undef) (.bool false)).bind fun v19 =>
 some (0, [v19], g18.2.2) else
 none
theorem run5 (call : Go.Fw.Call) (a0 a1 a2 a3 a4 : AVal) (h : Heap) : runFn call (.code A5) [a0, a1, a2, a3, a4] h = (S5 call a0 a1 a2 a3 a4 h).bind ansOf := by kernel_rfl

/-- frankpledge/frankpledgelaw2.PackBack -/
noncomputable def A6 : AFunc := ⟨2, (.seq (.region [.op 0 (.mov 4 (.const (.bool false)))] [])
 (.seq (.region [.op 0 (.mov 5 (.const (.nilSlice)))] [])
 (.seq (.region [.op 0 (.mov 6 (.const (.int .i64 0)))] [])
 (.seq (.seq (.region [.op 0 (.mov 7 (.const (.int .i64 0)))] [])
 (.block 0 (.loop ⟨[0, 1, 5, 6, 7], []⟩ [((.exit 0), ⟨[0, 1, 5, 6], []⟩)]
 (.seq (.seq (.region [.op 0 (.mov 12 (.tmp 7)),
 .op 1 (.mov 13 (.tmp 0)),
 .op 2 (.len 14 false (.tmp 13)),
 .op 3 (.bin 15 .lss .plain (.tmp 12) (.tmp 14)),
 .op 4 (.mov 16 (.tmp 15)),
 .guard 16 true [.op 5 (.mov 17 (.tmp 7)),
 .op 6 (.mov 18 (.tmp 1)),
 .op 7 (.len 19 false (.tmp 18)),
 .op 8 (.bin 20 .lss .plain (.tmp 17) (.tmp 19))] [] [20],
 .op 9 (.pick 21 (.tmp 16) (.tmp 20) (.const (.bool false))),
 .op 10 (.mov 22 (.tmp 21)),
 .guard 22 true [.op 11 (.mov 23 (.tmp 7)),
 .op 12 (.bin 24 .lss .plain (.tmp 23) (.const (.int .i64 20)))] [] [24],
 .op 13 (.pick 25 (.tmp 22) (.tmp 24) (.const (.bool false)))] [])
 (.cond (.tmp 25)
 .skip
 (.exit 0)))
 (.seq (.block 1 (.seq (.region [.op 0 (.mov 28 (.tmp 1)),
 .op 1 (.mov 29 (.tmp 7)),
 .op 2 (.iaddr 30 none 1 (.tmp 28) (.tmp 29)),
 .op 3 (.load 31 false 1 (.tmp 30)),
 .op 4 (.mov 8 (.tmp 31))] [])
 (.seq (.seq (.region [.op 0 (.mov 32 (.tmp 8)),
 .op 1 (.len 33 true (.tmp 32)),
 .op 2 (.bin 34 .gtr .plain (.tmp 33) (.const (.int .i64 100)))] [])
 (.join [(.normal, ⟨[0, 1, 5, 6, 7, 8], []⟩)] (.cond (.tmp 34)
 (.region [.op 0 (.mov 35 (.tmp 8)),
 .op 1 (.slice 36 .str (.tmp 35) none (some (.const (.int .i64 100))) none),
 .op 2 (.mov 8 (.tmp 36))] [])
 .skip)))
 (.seq (.region [.op 0 (.mov 37 (.tmp 5)),
 .op 1 (.mov 38 (.tmp 0)),
 .op 2 (.mov 39 (.tmp 7)),
 .op 3 (.iaddr 40 none 1 (.tmp 38) (.tmp 39)),
 .op 4 (.load 41 false 1 (.tmp 40)),
 .op 5 (.call 42 7 [.tmp 37, .tmp 41]),
 .op 6 (.mov 43 (.tmp 8)),
 .op 7 (.call 44 16 [.tmp 42, .tmp 43]),
 .op 8 (.mov 45 (.tmp 7)),
 .op 9 (.call 46 20 [.tmp 44, .tmp 45]),
 .op 10 (.mov 5 (.tmp 46))] [])
 (.region [.op 0 (.mov 47 (.tmp 6)),
 .op 1 (.bin 48 .add .plain (.tmp 47) (.const (.int .i64 1))),
 .op 2 (.mov 6 (.tmp 48))] [])))))
 (.region [.op 0 (.mov 26 (.tmp 7)),
 .op 1 (.bin 27 .add .plain (.tmp 26) (.const (.int .i64 1))),
 .op 2 (.mov 7 (.tmp 27))] []))))))
 (.seq (.region [.op 0 (.mov 49 (.tmp 5)),
 .op 1 (.call 50 9 [.tmp 49]),
 .op 2 (.mov 9 (.tmp 50))] [])
 (.seq (.seq (.region [.op 0 (.mov 51 (.tmp 9)),
 .op 1 (.bin 52 .eql .ptr (.tmp 51) (.const (.nilPtr)))] [])
 (.cond (.tmp 52)
 (.seq (.region [.op 0 (.mov 4 (.const (.bool false)))] [])
 .ret)
 .skip))
 (.seq (.seq (.region [.op 0 (.mov 10 (.const (.int .i64 0)))] [])
 (.block 2 (.loop ⟨[0, 1, 6, 9, 10], []⟩ [((.exit 2), ⟨[9], []⟩), (.ret, ⟨[4], []⟩)]
 (.seq (.seq (.region [.op 0 (.mov 53 (.tmp 10)),
 .op 1 (.mov 54 (.tmp 6)),
 .op 2 (.bin 55 .lss .plain (.tmp 53) (.tmp 54))] [])
 (.cond (.tmp 55)
 .skip
 (.exit 2)))
 (.seq (.block 3 (.seq (.region [.op 0 (.mov 58 (.tmp 1)),
 .op 1 (.mov 59 (.tmp 10)),
 .op 2 (.iaddr 60 none 1 (.tmp 58) (.tmp 59)),
 .op 3 (.load 61 false 1 (.tmp 60)),
 .op 4 (.mov 11 (.tmp 61))] [])
 (.seq (.seq (.region [.op 0 (.mov 62 (.tmp 11)),
 .op 1 (.len 63 true (.tmp 62)),
 .op 2 (.bin 64 .gtr .plain (.tmp 63) (.const (.int .i64 100)))] [])
 (.join [(.normal, ⟨[0, 1, 6, 9, 10, 11], []⟩)] (.cond (.tmp 64)
 (.region [.op 0 (.mov 65 (.tmp 11)),
 .op 1 (.slice 66 .str (.tmp 65) none (some (.const (.int .i64 100))) none),
 .op 2 (.mov 11 (.tmp 66))] [])
 .skip)))
 (.seq (.region [.op 0 (.mov 67 (.tmp 9)),
 .op 1 (.call 68 12 [.tmp 67]),
 .op 2 (.mov 69 (.tmp 68)),
 .guard 69 false [.op 3 (.mov 70 (.tmp 9)),
 .op 4 (.call 71 10 [.tmp 70]),
 .op 5 (.mov 72 (.tmp 0)),
 .op 6 (.mov 73 (.tmp 10)),
 .op 7 (.iaddr 74 none 1 (.tmp 72) (.tmp 73)),
 .op 8 (.load 75 false 1 (.tmp 74)),
 .op 9 (.bin 76 .neq .plain (.tmp 71) (.tmp 75))] [(8, 4)] [76],
 .op 10 (.pick 77 (.tmp 69) (.const (.bool true)) (.tmp 76)),
 .op 11 (.mov 78 (.tmp 77)),
 .guard 78 false [.op 12 (.mov 79 (.tmp 9)),
 .op 13 (.call 80 21 [.tmp 79]),
 .op 14 (.mov 81 (.tmp 11)),
 .op 15 (.bin 82 .neq .plain (.tmp 80) (.tmp 81))] [] [82],
 .op 16 (.pick 83 (.tmp 78) (.const (.bool true)) (.tmp 82)),
 .op 17 (.mov 84 (.tmp 83)),
 .guard 84 false [.op 18 (.mov 85 (.tmp 9)),
 .op 19 (.call 86 22 [.tmp 85]),
 .op 20 (.mov 87 (.tmp 10)),
 .op 21 (.bin 88 .neq .plain (.tmp 86) (.tmp 87))] [] [88],
 .op 22 (.pick 89 (.tmp 84) (.const (.bool true)) (.tmp 88)),
 .op 23 (.mov 90 (.tmp 89)),
 .guard 90 false [.op 24 (.mov 91 (.tmp 9)),
 .op 25 (.call 92 11 [.tmp 91])] [] [92],
 .op 26 (.pick 93 (.tmp 90) (.const (.bool true)) (.tmp 92))] [])
 (.cond (.tmp 93)
 (.seq (.region [.op 0 (.mov 4 (.const (.bool false)))] [])
 .ret)
 .skip)))))
 (.region [.op 0 (.mov 56 (.tmp 10)),
 .op 1 (.bin 57 .add .plain (.tmp 56) (.const (.int .i64 1))),
 .op 2 (.mov 10 (.tmp 57))] []))))))
 (.seq (.region [.op 0 (.mov 94 (.tmp 9)),
 .op 1 (.call 95 12 [.tmp 94]),
 .op 2 (.mov 96 (.tmp 95)),
 .guard 96 true [.op 3 (.mov 97 (.tmp 9)),
 .op 4 (.call 98 22 [.tmp 97]),
 .op 5 (.bin 99 .eql .plain (.tmp 98) (.const (.int .i64 0)))] [] [99],
 .op 6 (.pick 100 (.tmp 96) (.tmp 99) (.const (.bool false))),
 .op 7 (.mov 101 (.tmp 100)),
 .guard 101 true [.op 8 (.mov 102 (.tmp 9)),
 .op 9 (.call 103 11 [.tmp 102])] [] [103],
 .op 10 (.pick 104 (.tmp 101) (.tmp 103) (.const (.bool false))),
 .op 11 (.mov 105 (.tmp 104)),
 .guard 105 true [.op 12 (.mov 106 (.tmp 9)),
 .op 13 (.call 107 12 [.tmp 106]),
 .op 14 (.un 108 .not (.tmp 107))] [] [108],
 .op 15 (.pick 109 (.tmp 105) (.tmp 108) (.const (.bool false))),
 .op 16 (.mov 110 (.tmp 109)),
 .guard 110 true [.op 17 (.call 111 13 [])] [] [111],
 .op 18 (.pick 112 (.tmp 110) (.tmp 111) (.const (.bool false))),
 .op 19 (.mov 4 (.tmp 112))] [])
 .ret)))))))),
 [.tmp 4]⟩
theorem ok6 : funcOk Try.prog (drawOk Try.prog) Try.f6 A6 = true := by kernel_rfl
/-- xs: t0, t1, t5, t6, t7 -/
noncomputable def L6_0 (call : Go.Fw.Call) (xs : List AVal) (h : Heap) : Option J :=
 (aLen false (xs.getD 0 .undef)).bind fun v1 =>
 (aBin .lss .plain (xs.getD 4 .undef) v1).bind fun v2 =>
 (guardV v2 true
 ((aLen false (xs.getD 1 .undef)).bind fun v3 =>
 (aBin .lss .plain (xs.getD 4 .undef) v3).bind fun v4 =>
 some (0, [v4], h))
 (some (0, [skipV], h))).bind fun g5 =>
 (aPick v2 (g5.2.1.getD 0 .undef) (.bool false)).bind fun v6 =>
 (guardV v6 true
 ((aBin .lss .plain (xs.getD 4 .undef) (.int .i64 20)).bind fun v7 =>
 some (0, [v7], g5.2.2))
 (some (0, [skipV], g5.2.2))).bind fun g8 =>
 (aPick v6 (g8.2.1.getD 0 .undef) (.bool false)).bind fun v9 =>
 condV v9
 ((aIaddr 1 (xs.getD 1 .undef) (xs.getD 4 .undef)).bind fun v10 =>
 (aLoad g8.2.2 1 v10).bind fun c11 =>
 (fromCells false c11).bind fun v12 =>
 (aLen true v12).bind fun v13 =>
 (aBin .gtr .plain v13 (.int .i64 100)).bind fun v14 =>
 (condV v14
 ((aSliceStr v12 none (some (.int .i64 100))).bind fun v15 =>
 some (0, [(xs.getD 0 .undef), (xs.getD 1 .undef), (xs.getD 2 .undef), (xs.getD 3 .undef), (xs.getD 4 .undef), v15], g8.2.2))
 (some (0, [(xs.getD 0 .undef), (xs.getD 1 .undef), (xs.getD 2 .undef), (xs.getD 3 .undef), (xs.getD 4 .undef), v12], g8.2.2))).bind fun x16 =>
 bif Nat.beq x16.1 0 then (aIaddr 1 (x16.2.1.getD 0 .undef) (x16.2.1.getD 4 .undef)).bind fun v17 =>
 (aLoad x16.2.2 1 v17).bind fun c18 =>
 (fromCells false c18).bind fun v19 =>
 (call 7 [(x16.2.1.getD 2 .undef), v19] x16.2.2).bind fun r20 =>
 (call 16 [r20.1, (x16.2.1.getD 5 .undef)] r20.2).bind fun r21 =>
 (call 20 [r21.1, (x16.2.1.getD 4 .undef)] r21.2).bind fun r22 =>
 (aBin .add .plain (x16.2.1.getD 3 .undef) (.int .i64 1)).bind fun v23 =>
 (aBin .add .plain (x16.2.1.getD 4 .undef) (.int .i64 1)).bind fun v24 =>
 some (0, [(x16.2.1.getD 0 .undef), (x16.2.1.getD 1 .undef), r22.1, v23, v24], r22.2) else
 none)
 (some (1, [(xs.getD 0 .undef), (xs.getD 1 .undef), (xs.getD 2 .undef), (xs.getD 3 .undef)], g8.2.2))
/-- xs: t0, t1, t6, t9, t10 -/
noncomputable def L6_1 (call : Go.Fw.Call) (xs : List AVal) (h : Heap) : Option J :=
 (aBin .lss .plain (xs.getD 4 .undef) (xs.getD 2 .undef)).bind fun v28 =>
 condV v28
 ((aIaddr 1 (xs.getD 1 .undef) (xs.getD 4 .undef)).bind fun v29 =>
 (aLoad h 1 v29).bind fun c30 =>
 (fromCells false c30).bind fun v31 =>
 (aLen true v31).bind fun v32 =>
 (aBin .gtr .plain v32 (.int .i64 100)).bind fun v33 =>
 (condV v33
 ((aSliceStr v31 none (some (.int .i64 100))).bind fun v34 =>
 some (0, [(xs.getD 0 .undef), (xs.getD 1 .undef), (xs.getD 2 .undef), (xs.getD 3 .undef), (xs.getD 4 .undef), v34], h))
 (some (0, [(xs.getD 0 .undef), (xs.getD 1 .undef), (xs.getD 2 .undef), (xs.getD 3 .undef), (xs.getD 4 .undef), v31], h))).bind fun x35 =>
 bif Nat.beq x35.1 0 then (call 12 [(x35.2.1.getD 3 .undef)] x35.2.2).bind fun r36 =>
 (guardV r36.1 false
 ((call 10 [(x35.2.1.getD 3 .undef)] r36.2).bind fun r37 =>
 (aIaddr 1 (x35.2.1.getD 0 .undef) (x35.2.1.getD 4 .undef)).bind fun v38 =>
 (aLoad r37.2 1 v38).bind fun c39 =>
 (fromCells false c39).bind fun v40 =>
 (aBin .neq .plain r37.1 v40).bind fun v41 =>
 bif checkPairs [(8, logRd v38 1), (4, some (.ef [] r36.2 [] r37.2))] [(8, 4)] then some (0, [v41], r37.2) else none)
 (some (0, [skipV], r36.2))).bind fun g42 =>
 (aPick r36.1 (.bool true) (g42.2.1.getD 0 .undef)).bind fun v43 =>
 (guardV v43 false
 ((call 21 [(x35.2.1.getD 3 .undef)] g42.2.2).bind fun r44 =>
 (aBin .neq .plain r44.1 (x35.2.1.getD 5 .undef)).bind fun v45 =>
 some (0, [v45], r44.2))
 (some (0, [skipV], g42.2.2))).bind fun g46 =>
 (aPick v43 (.bool true) (g46.2.1.getD 0 .undef)).bind fun v47 =>
 (guardV v47 false
 ((call 22 [(x35.2.1.getD 3 .undef)] g46.2.2).bind fun r48 =>
 (aBin .neq .plain r48.1 (x35.2.1.getD 4 .undef)).bind fun v49 =>
 some (0, [v49], r48.2))
 (some (0, [skipV], g46.2.2))).bind fun g50 =>
 (aPick v47 (.bool true) (g50.2.1.getD 0 .undef)).bind fun v51 =>
 (guardV v51 false
 ((call 11 [(x35.2.1.getD 3 .undef)] g50.2.2).bind fun r52 =>
 some (0, [r52.1], r52.2))
 (some (0, [skipV], g50.2.2))).bind fun g53 =>
 (aPick v51 (.bool true) (g53.2.1.getD 0 .undef)).bind fun v54 =>
 condV v54
 (some (2, [(.bool false)], g53.2.2))
 ((aBin .add .plain (x35.2.1.getD 4 .undef) (.int .i64 1)).bind fun v55 =>
 some (0, [(x35.2.1.getD 0 .undef), (x35.2.1.getD 1 .undef), (x35.2.1.getD 2 .undef), (x35.2.1.getD 3 .undef), v55], g53.2.2)) else
 none)
 (some (1, [(xs.getD 3 .undef)], h))
noncomputable def S6 (call : Go.Fw.Call) (a0 a1 : AVal) (h : Heap) : Option J :=
 (loop (L6_0 call) [a0, a1, (.nilSlice), (.int .i64 0), (.int .i64 0)] h).bind fun x25 =>
 bif Nat.beq x25.1 1 then (call 9 [(x25.2.1.getD 2 .undef)] x25.2.2).bind fun r26 =>
 (aBin .eql .ptr r26.1 (.nilPtr)).bind fun v27 =>
 condV v27
 (some (0, [(.bool false)], r26.2))
 ((loop (L6_1 call) [(x25.2.1.getD 0 .undef), (x25.2.1.getD 1 .undef), (x25.2.1.getD 3 .undef), r26.1, (.int .i64 0)] r26.2).bind fun x56 =>
 bif Nat.beq x56.1 1 then (call 12 [(x56.2.1.getD 0 .undef)] x56.2.2).bind fun r57 =>
 (guardV r57.1 true
 ((call 22 [(x56.2.1.getD 0 .undef)] r57.2).bind fun r58 =>
 (aBin .eql .plain r58.1 (.int .i64 0)).bind fun v59 =>
 some (0, [v59], r58.2))
 (some (0, [skipV], r57.2))).bind fun g60 =>
 (aPick r57.1 (g60.2.1.getD 0 .undef) (.bool false)).bind fun v61 =>
 (guardV v61 true
 ((call 11 [(x56.2.1.getD 0 .undef)] g60.2.2).bind fun r62 =>
 some (0, [r62.1], r62.2))
 (some (0, [skipV], g60.2.2))).bind fun g63 =>
 (aPick v61 (g63.2.1.getD 0 .undef) (.bool false)).bind fun v64 =>
 (guardV v64 true
 ((call 12 [(x56.2.1.getD 0 .undef)] g63.2.2).bind fun r65 =>
 (aUn .not r65.1).bind fun v66 =>
 some (0, [v66], r65.2))
 (some (0, [skipV], g63.2.2))).bind fun g67 =>
 (aPick v64 (g67.2.1.getD 0 .undef) (.bool false)).bind fun v68 =>
 (guardV v68 true
 ((call 13 [] g67.2.2).bind fun r69 =>
 some (0, [r69.1], r69.2))
 (some (0, [skipV], g67.2.2))).bind fun g70 =>
 (aPick v68 (g70.2.1.getD 0 .undef) (.bool false)).bind fun v71 =>
 some (0, [v71], g70.2.2) else
 bif Nat.beq x56.1 2 then some (0, [(x56.2.1.getD 0 .undef)], x56.2.2) else
 none) else
 none
theorem run6 (call : Go.Fw.Call) (a0 a1 : AVal) (h : Heap) : runFn call (.code A6) [a0, a1] h = (S6 call a0 a1 h).bind ansOf := by kernel_rfl

/-- frankpledge/pack.Int -/
noncomputable def A7 : AFunc := ⟨2, (.seq (.region [.op 0 (.mov 4 (.const (.nilSlice)))] [])
 (.seq (.region [.op 0 (.mov 7 (.tmp 0)),
 .op 1 (.call 8 23 [.tmp 7]),
 .op 2 (.mov 5 (.tmp 8))] [])
 (.seq (.seq (.region [.op 0 (.mov 6 (.const (.int .i64 7)))] [])
 (.block 0 (.loop ⟨[1, 5, 6], []⟩ [((.exit 0), ⟨[5], []⟩)]
 (.seq (.seq (.region [.op 0 (.mov 9 (.tmp 6)),
 .op 1 (.bin 10 .geq .plain (.tmp 9) (.const (.int .i64 0)))] [])
 (.cond (.tmp 10)
 .skip
 (.exit 0)))
 (.seq (.block 1 (.region [.op 0 (.mov 13 (.tmp 5)),
 .op 1 (.mov 14 (.tmp 1)),
 .op 2 (.mov 15 (.tmp 6)),
 .op 3 (.bin 16 .mul .plain (.const (.int .i64 8)) (.tmp 15)),
 .op 4 (.bin 17 .shr .plain (.tmp 14) (.tmp 16)),
 .op 5 (.conv 18 (.toInt .u8) (.tmp 17)),
 .op 6 (.buildSl 19 [.int .u8 0] 1 1 [(0, .tmp 18)]),
 .op 7 (.append 20 1 1 [.int .u8 0] false (.tmp 13) (.tmp 19)),
 .op 8 (.mov 5 (.tmp 20))] []))
 (.region [.op 0 (.mov 11 (.tmp 6)),
 .op 1 (.bin 12 .sub .plain (.tmp 11) (.const (.int .i64 1))),
 .op 2 (.mov 6 (.tmp 12))] []))))))
 (.seq (.region [.op 0 (.mov 21 (.tmp 5)),
 .op 1 (.call 22 24 [.tmp 21]),
 .op 2 (.mov 4 (.tmp 22))] [])
 .ret)))),
 [.tmp 4]⟩
theorem ok7 : funcOk Try.prog (drawOk Try.prog) Try.f7 A7 = true := by kernel_rfl
/-- xs: t1, t5, t6 -/
noncomputable def L7_0 (call : Go.Fw.Call) (xs : List AVal) (h : Heap) : Option J :=
 (aBin .geq .plain (xs.getD 2 .undef) (.int .i64 0)).bind fun v2 =>
 condV v2
 ((aBin .mul .plain (.int .i64 8) (xs.getD 2 .undef)).bind fun v3 =>
 (aBin .shr .plain (xs.getD 0 .undef) v3).bind fun v4 =>
 (aConv (.toInt .u8) v4 h).bind fun r5 =>
 (aFill (reps [.int .u8 0] 1) [(0, 1, r5.1)]).bind fun c6 =>
 (aAppend 1 1 [.int .u8 0] false (xs.getD 1 .undef) (.slice r5.2.next 0 1 1 1 true) (r5.2.alloc c6)).bind fun r7 =>
 (aBin .sub .plain (xs.getD 2 .undef) (.int .i64 1)).bind fun v8 =>
 some (0, [(xs.getD 0 .undef), r7.1, v8], r7.2))
 (some (1, [(xs.getD 1 .undef)], h))
noncomputable def S7 (call : Go.Fw.Call) (a0 a1 : AVal) (h : Heap) : Option J :=
 (call 23 [a0] h).bind fun r1 =>
 (loop (L7_0 call) [a1, r1.1, (.int .i64 7)] r1.2).bind fun x9 =>
 bif Nat.beq x9.1 1 then (call 24 [(x9.2.1.getD 0 .undef)] x9.2.2).bind fun r10 =>
 some (0, [r10.1], r10.2) else
 none
theorem run7 (call : Go.Fw.Call) (a0 a1 : AVal) (h : Heap) : runFn call (.code A7) [a0, a1] h = (S7 call a0 a1 h).bind ansOf := by kernel_rfl

/-- frankpledge/frankpledgebook.Within -/
noncomputable def A8 : AFunc := ⟨3, (.seq (.region [.op 0 (.mov 6 (.const (.int .i64 0)))] [])
 (.seq (.seq (.region [.op 0 (.mov 7 (.tmp 0)),
 .op 1 (.mov 8 (.tmp 1)),
 .op 2 (.bin 9 .geq .plain (.tmp 7) (.tmp 8)),
 .op 3 (.mov 10 (.tmp 9)),
 .guard 10 true [.op 4 (.mov 11 (.tmp 0)),
 .op 5 (.mov 12 (.tmp 2)),
 .op 6 (.bin 13 .leq .plain (.tmp 11) (.tmp 12))] [] [13],
 .op 7 (.pick 14 (.tmp 10) (.tmp 13) (.const (.bool false)))] [])
 (.cond (.tmp 14)
 (.seq (.region [.op 0 (.mov 15 (.tmp 0)),
 .op 1 (.mov 6 (.tmp 15))] [])
 .ret)
 .skip))
 (.seq (.region [.op 0 (.mov 16 (.tmp 0)),
 .op 1 (.mov 17 (.tmp 2)),
 .op 2 (.mov 18 (.tmp 1)),
 .op 3 (.bin 19 .sub .plain (.tmp 17) (.tmp 18)),
 .op 4 (.bin 20 .add .plain (.tmp 19) (.const (.int .i64 1))),
 .op 5 (.bin 21 .rem .plain (.tmp 16) (.tmp 20)),
 .op 6 (.mov 0 (.tmp 21))] [])
 (.seq (.seq (.region [.op 0 (.mov 22 (.tmp 0)),
 .op 1 (.bin 23 .lss .plain (.tmp 22) (.const (.int .i64 0)))] [])
 (.join [(.normal, ⟨[0, 1], []⟩)] (.cond (.tmp 23)
 (.region [.op 0 (.mov 24 (.tmp 0)),
 .op 1 (.mov 25 (.tmp 2)),
 .op 2 (.bin 26 .add .plain (.tmp 24) (.tmp 25)),
 .op 3 (.mov 27 (.tmp 1)),
 .op 4 (.bin 28 .sub .plain (.tmp 26) (.tmp 27)),
 .op 5 (.bin 29 .add .plain (.tmp 28) (.const (.int .i64 1))),
 .op 6 (.mov 0 (.tmp 29))] [])
 .skip)))
 (.seq (.region [.op 0 (.mov 30 (.tmp 1)),
 .op 1 (.mov 31 (.tmp 0)),
 .op 2 (.bin 32 .add .plain (.tmp 30) (.tmp 31)),
 .op 3 (.mov 6 (.tmp 32))] [])
 .ret))))),
 [.tmp 6]⟩
theorem ok8 : funcOk Try.prog (drawOk Try.prog) Try.f8 A8 = true := by kernel_rfl
noncomputable def S8 (call : Go.Fw.Call) (a0 a1 a2 : AVal) (h : Heap) : Option J :=
 (aBin .geq .plain a0 a1).bind fun v1 =>
 (guardV v1 true
 ((aBin .leq .plain a0 a2).bind fun v2 =>
 some (0, [v2], h))
 (some (0, [skipV], h))).bind fun g3 =>
 (aPick v1 (g3.2.1.getD 0 .undef) (.bool false)).bind fun v4 =>
 condV v4
 (some (0, [a0], g3.2.2))
 ((aBin .sub .plain a2 a1).bind fun v5 =>
 (aBin .add .plain v5 (.int .i64 1)).bind fun v6 =>
 (aBin .rem .plain a0 v6).bind fun v7 =>
 (aBin .lss .plain v7 (.int .i64 0)).bind fun v8 =>
 (condV v8
 ((aBin .add .plain v7 a2).bind fun v9 =>
 (aBin .sub .plain v9 a1).bind fun v10 =>
 (aBin .add .plain v10 (.int .i64 1)).bind fun v11 =>
 some (0, [v11, a1], g3.2.2))
 (some (0, [v7, a1], g3.2.2))).bind fun x12 =>
 bif Nat.beq x12.1 0 then (aBin .add .plain (x12.2.1.getD 1 .undef) (x12.2.1.getD 0 .undef)).bind fun v13 =>
 some (0, [v13], x12.2.2) else
 none)
theorem run8 (call : Go.Fw.Call) (a0 a1 a2 : AVal) (h : Heap) : runFn call (.code A8) [a0, a1, a2] h = (S8 call a0 a1 a2 h).bind ansOf := by kernel_rfl

/-- frankpledge/pack.New -/
noncomputable def A9 : AFunc := ⟨1, (.seq (.region [.op 0 (.mov 2 (.const (.nilPtr)))] [])
 (.seq (.region [.op 0 (.mov 3 (.tmp 0)),
 .op 1 (.call 4 23 [.tmp 3]),
 .op 2 (.build 5 [.nilSlice, .bool false] [(0, 1, .tmp 4)]),
 .op 3 (.box 6 false (.tmp 5)),
 .op 4 (.mov 2 (.tmp 6))] [])
 .ret)),
 [.tmp 2]⟩
theorem ok9 : funcOk Try.prog (drawOk Try.prog) Try.f9 A9 = true := by kernel_rfl
noncomputable def S9 (call : Go.Fw.Call) (a0 : AVal) (h : Heap) : Option J :=
 (call 23 [a0] h).bind fun r1 =>
 (aFill [.nilSlice, .bool false] [(0, 1, r1.1)]).bind fun c2 =>
 (AVal.cells? (.agg c2)).bind fun c3 =>
 some (0, [(.ptr r1.2.next 0)], (r1.2.alloc c3))
theorem run9 (call : Go.Fw.Call) (a0 : AVal) (h : Heap) : runFn call (.code A9) [a0] h = (S9 call a0 h).bind ansOf := by kernel_rfl

/-- (*frankpledge/pack.Reader).Int -/
noncomputable def A10 : AFunc := ⟨1, (.seq (.region [.op 0 (.mov 2 (.const (.int .i64 0)))] [])
 (.seq (.region [.op 0 (.mov 3 (.const (.int .i64 0)))] [])
 (.seq (.seq (.region [.op 0 (.mov 6 (.tmp 0)),
 .op 1 (.call 7 25 [.tmp 6, .const (.int .i64 8)]),
 .op 2 (.len 8 false (.tmp 7)),
 .op 3 (.mov 9 (.const (.int .i64 0)))] [])
 (.block 0 (.loop ⟨[3, 7, 8, 9], []⟩ [((.exit 0), ⟨[3], []⟩)]
 (.seq (.region [.op 0 (.bin 10 .lss .plain (.tmp 9) (.tmp 8))] [])
 (.seq (.cond (.tmp 10)
 .skip
 (.exit 0))
 (.seq (.block 1 (.seq (.region [.op 0 (.iaddr 11 none 1 (.tmp 7) (.tmp 9)),
 .op 1 (.load 12 false 1 (.tmp 11)),
 .op 2 (.mov 5 (.tmp 12))] [])
 (.region [.op 0 (.mov 13 (.tmp 3)),
 .op 1 (.bin 14 .shl .plain (.tmp 13) (.const (.int .u64 8))),
 .op 2 (.mov 15 (.tmp 5)),
 .op 3 (.conv 16 (.toInt .i64) (.tmp 15)),
 .op 4 (.bin 17 .or .plain (.tmp 14) (.tmp 16)),
 .op 5 (.mov 3 (.tmp 17))] [])))
 (.region [.op 0 (.bin 18 .add .plain (.tmp 9) (.const (.int .i64 1))),
 .op 1 (.mov 9 (.tmp 18))] [])))))))
 (.seq (.region [.op 0 (.mov 19 (.tmp 3)),
 .op 1 (.mov 2 (.tmp 19))] [])
 .ret)))),
 [.tmp 2]⟩
theorem ok10 : funcOk Try.prog (drawOk Try.prog) Try.f10 A10 = true := by kernel_rfl
/-- xs: t3, t7, t8, t9 -/
noncomputable def L10_0 (call : Go.Fw.Call) (xs : List AVal) (h : Heap) : Option J :=
 (aBin .lss .plain (xs.getD 3 .undef) (xs.getD 2 .undef)).bind fun v3 =>
 condV v3
 ((aIaddr 1 (xs.getD 1 .undef) (xs.getD 3 .undef)).bind fun v4 =>
 (aLoad h 1 v4).bind fun c5 =>
 (fromCells false c5).bind fun v6 =>
 (aBin .shl .plain (xs.getD 0 .undef) (.int .u64 8)).bind fun v7 =>
 (aConv (.toInt .i64) v6 h).bind fun r8 =>
 (aBin .or .plain v7 r8.1).bind fun v9 =>
 (aBin .add .plain (xs.getD 3 .undef) (.int .i64 1)).bind fun v10 =>
 some (0, [v9, (xs.getD 1 .undef), (xs.getD 2 .undef), v10], r8.2))
 (some (1, [(xs.getD 0 .undef)], h))
noncomputable def S10 (call : Go.Fw.Call) (a0 : AVal) (h : Heap) : Option J :=
 (call 25 [a0, (.int .i64 8)] h).bind fun r1 =>
 (aLen false r1.1).bind fun v2 =>
 (loop (L10_0 call) [(.int .i64 0), r1.1, v2, (.int .i64 0)] r1.2).bind fun x11 =>
 bif Nat.beq x11.1 1 then some (0, [(x11.2.1.getD 0 .undef)], x11.2.2) else
 none
theorem run10 (call : Go.Fw.Call) (a0 : AVal) (h : Heap) : runFn call (.code A10) [a0] h = (S10 call a0 h).bind ansOf := by kernel_rfl

/-- (*frankpledge/pack.Reader).Bad -/
noncomputable def A11 : AFunc := ⟨1, (.seq (.region [.op 0 (.mov 2 (.const (.bool false)))] [])
 (.seq (.region [.op 0 (.mov 3 (.tmp 0)),
 .op 1 (.nilchk 4 (.tmp 3)),
 .op 2 (.faddr 5 1 (.tmp 4)),
 .op 3 (.load 6 false 1 (.tmp 5)),
 .op 4 (.mov 2 (.tmp 6))] [])
 .ret)),
 [.tmp 2]⟩
theorem ok11 : funcOk Try.prog (drawOk Try.prog) Try.f11 A11 = true := by kernel_rfl
noncomputable def S11 (call : Go.Fw.Call) (a0 : AVal) (h : Heap) : Option J :=
 (aNilchk a0).bind fun v1 =>
 (aFaddr 1 v1).bind fun v2 =>
 (aLoad h 1 v2).bind fun c3 =>
 (fromCells false c3).bind fun v4 =>
 some (0, [v4], h)
theorem run11 (call : Go.Fw.Call) (a0 : AVal) (h : Heap) : runFn call (.code A11) [a0] h = (S11 call a0 h).bind ansOf := by kernel_rfl

/-- (*frankpledge/pack.Reader).Done -/
noncomputable def A12 : AFunc := ⟨1, (.seq (.region [.op 0 (.mov 2 (.const (.bool false)))] [])
 (.seq (.region [.op 0 (.mov 3 (.tmp 0)),
 .op 1 (.nilchk 4 (.tmp 3)),
 .op 2 (.faddr 5 1 (.tmp 4)),
 .op 3 (.load 6 false 1 (.tmp 5)),
 .op 4 (.un 7 .not (.tmp 6)),
 .op 5 (.mov 8 (.tmp 7)),
 .guard 8 true [.op 6 (.mov 9 (.tmp 0)),
 .op 7 (.nilchk 10 (.tmp 9)),
 .op 8 (.faddr 11 0 (.tmp 10)),
 .op 9 (.load 12 false 1 (.tmp 11)),
 .op 10 (.len 13 false (.tmp 12)),
 .op 11 (.bin 14 .eql .plain (.tmp 13) (.const (.int .i64 0)))] [] [14],
 .op 12 (.pick 15 (.tmp 8) (.tmp 14) (.const (.bool false))),
 .op 13 (.mov 2 (.tmp 15))] [])
 .ret)),
 [.tmp 2]⟩
theorem ok12 : funcOk Try.prog (drawOk Try.prog) Try.f12 A12 = true := by kernel_rfl
noncomputable def S12 (call : Go.Fw.Call) (a0 : AVal) (h : Heap) : Option J :=
 (aNilchk a0).bind fun v1 =>
 (aFaddr 1 v1).bind fun v2 =>
 (aLoad h 1 v2).bind fun c3 =>
 (fromCells false c3).bind fun v4 =>
 (aUn .not v4).bind fun v5 =>
 (guardV v5 true
 ((aNilchk a0).bind fun v6 =>
 (aFaddr 0 v6).bind fun v7 =>
 (aLoad h 1 v7).bind fun c8 =>
 (fromCells false c8).bind fun v9 =>
 (aLen false v9).bind fun v10 =>
 (aBin .eql .plain v10 (.int .i64 0)).bind fun v11 =>
 some (0, [v11], h))
 (some (0, [skipV], h))).bind fun g12 =>
 (aPick v5 (g12.2.1.getD 0 .undef) (.bool false)).bind fun v13 =>
 some (0, [v13], g12.2.2)
theorem run12 (call : Go.Fw.Call) (a0 : AVal) (h : Heap) : runFn call (.code A12) [a0] h = (S12 call a0 h).bind ansOf := by kernel_rfl

/-- frankpledge/frankpledgelaw2.known -/
noncomputable def A13 : AFunc := ⟨0, (.seq (.region [.op 0 (.mov 0 (.const (.bool false)))] [])
 (.seq (.region [.op 0 (.buildSl 3 [.int .u8 0] 1 3 [(0, .const (.int .u8 1)), (1, .const (.int .u8 2)), (2, .const (.int .u8 3))]),
 .op 1 (.call 4 9 [.tmp 3]),
 .op 2 (.mov 1 (.tmp 4))] [])
 (.seq (.seq (.region [.op 0 (.mov 5 (.tmp 1)),
 .op 1 (.bin 6 .eql .ptr (.tmp 5) (.const (.nilPtr)))] [])
 (.cond (.tmp 6)
 (.seq (.region [.op 0 (.mov 0 (.const (.bool false)))] [])
 .ret)
 .skip))
 (.seq (.region [.op 0 (.mov 7 (.tmp 1)),
 .op 1 (.call 8 10 [.tmp 7]),
 .op 2 (.mov 2 (.tmp 8))] [])
 (.seq (.region [.op 0 (.call 9 16 [.const (.nilSlice), .const (.str [97, 98])]),
 .op 1 (.conv 10 .bytesStr (.tmp 9)),
 .op 2 (.bin 11 .eql .plain (.tmp 10) (.const (.str [2, 97, 98]))),
 .op 3 (.mov 12 (.tmp 11)),
 .guard 12 true [.op 4 (.mov 13 (.tmp 2)),
 .op 5 (.bin 14 .eql .plain (.tmp 13) (.const (.int .i64 0)))] [] [14],
 .op 6 (.pick 15 (.tmp 12) (.tmp 14) (.const (.bool false))),
 .op 7 (.mov 16 (.tmp 15)),
 .guard 16 true [.op 8 (.mov 17 (.tmp 1)),
 .op 9 (.call 18 11 [.tmp 17])] [] [18],
 .op 10 (.pick 19 (.tmp 16) (.tmp 18) (.const (.bool false))),
 .op 11 (.mov 20 (.tmp 19)),
 .guard 20 true [.op 12 (.mov 21 (.tmp 1)),
 .op 13 (.call 22 12 [.tmp 21]),
 .op 14 (.un 23 .not (.tmp 22))] [] [23],
 .op 15 (.pick 24 (.tmp 20) (.tmp 23) (.const (.bool false))),
 .op 16 (.mov 25 (.tmp 24)),
 .guard 25 true [.op 17 (.mov 26 (.tmp 1)),
 .op 18 (.call 27 22 [.tmp 26]),
 .op 19 (.bin 28 .eql .plain (.tmp 27) (.const (.int .i64 0)))] [] [28],
 .op 20 (.pick 29 (.tmp 25) (.tmp 28) (.const (.bool false))),
 .op 21 (.mov 30 (.tmp 29)),
 .guard 30 true [.op 22 (.call 31 9 [.const (.nilSlice)]),
 .op 23 (.call 32 12 [.tmp 31])] [] [32],
 .op 24 (.pick 33 (.tmp 30) (.tmp 32) (.const (.bool false))),
 .op 25 (.mov 0 (.tmp 33))] [])
 .ret))))),
 [.tmp 0]⟩
theorem ok13 : funcOk Try.prog (drawOk Try.prog) Try.f13 A13 = true := by kernel_rfl
noncomputable def S13 (call : Go.Fw.Call) (h : Heap) : Option J :=
 (aFill (reps [.int .u8 0] 3) [(0, 1, (.int .u8 1)), (1, 1, (.int .u8 2)), (2, 1, (.int .u8 3))]).bind fun c1 =>
 (call 9 [(.slice h.next 0 3 3 1 true)] (h.alloc c1)).bind fun r2 =>
 (aBin .eql .ptr r2.1 (.nilPtr)).bind fun v3 =>
 condV v3
 (some (0, [(.bool false)], r2.2))
 ((call 10 [r2.1] r2.2).bind fun r4 =>
 (call 16 [(.nilSlice), (.str [97, 98])] r4.2).bind fun r5 =>
 (aConv .bytesStr r5.1 r5.2).bind fun r6 =>
 (aBin .eql .plain r6.1 (.str [2, 97, 98])).bind fun v7 =>
 (guardV v7 true
 ((aBin .eql .plain r4.1 (.int .i64 0)).bind fun v8 =>
 some (0, [v8], r6.2))
 (some (0, [skipV], r6.2))).bind fun g9 =>
 (aPick v7 (g9.2.1.getD 0 .undef) (.bool false)).bind fun v10 =>
 (guardV v10 true
 ((call 11 [r2.1] g9.2.2).bind fun r11 =>
 some (0, [r11.1], r11.2))
 (some (0, [skipV], g9.2.2))).bind fun g12 =>
 (aPick v10 (g12.2.1.getD 0 .undef) (.bool false)).bind fun v13 =>
 (guardV v13 true
 ((call 12 [r2.1] g12.2.2).bind fun r14 =>
 (aUn .not r14.1).bind fun v15 =>
 some (0, [v15], r14.2))
 (some (0, [skipV], g12.2.2))).bind fun g16 =>
 (aPick v13 (g16.2.1.getD 0 .undef) (.bool false)).bind fun v17 =>
 (guardV v17 true
 ((call 22 [r2.1] g16.2.2).bind fun r18 =>
 (aBin .eql .plain r18.1 (.int .i64 0)).bind fun v19 =>
 some (0, [v19], r18.2))
 (some (0, [skipV], g16.2.2))).bind fun g20 =>
 (aPick v17 (g20.2.1.getD 0 .undef) (.bool false)).bind fun v21 =>
 (guardV v21 true
 ((call 9 [(.nilSlice)] g20.2.2).bind fun r22 =>
 (call 12 [r22.1] r22.2).bind fun r23 =>
 some (0, [r23.1], r23.2))
 (some (0, [skipV], g20.2.2))).bind fun g24 =>
 (aPick v21 (g24.2.1.getD 0 .undef) (.bool false)).bind fun v25 =>
 some (0, [v25], g24.2.2))
theorem run13 (call : Go.Fw.Call) (h : Heap) : runFn call (.code A13) [] h = (S13 call  h).bind ansOf := by kernel_rfl

/-- frankpledge/frankpledgelaw2.puts -/
noncomputable def A14 : AFunc := ⟨4, (.seq (.region [.op 0 (.mov 8 (.const (.bool false)))] [])
 (.seq (.region [.op 0 (.mov 9 (.tmp 0)),
 .op 1 (.mov 10 (.tmp 1)),
 .op 2 (.call 11 7 [.tmp 9, .tmp 10]),
 .op 3 (.conv 12 .bytesStr (.tmp 11)),
 .op 4 (.mov 13 (.tmp 0)),
 .op 5 (.mov 14 (.tmp 1)),
 .op 6 (.call 15 19 [.tmp 13, .tmp 14]),
 .op 7 (.conv 16 .bytesStr (.tmp 15)),
 .op 8 (.bin 17 .eql .plain (.tmp 12) (.tmp 16)),
 .op 9 (.mov 18 (.tmp 17)),
 .guard 18 true [.op 10 (.mov 19 (.tmp 0)),
 .op 11 (.mov 20 (.tmp 2)),
 .op 12 (.call 21 20 [.tmp 19, .tmp 20]),
 .op 13 (.conv 22 .bytesStr (.tmp 21)),
 .op 14 (.mov 23 (.tmp 0)),
 .op 15 (.mov 24 (.tmp 2)),
 .op 16 (.call 25 18 [.tmp 23, .tmp 24]),
 .op 17 (.conv 26 .bytesStr (.tmp 25)),
 .op 18 (.bin 27 .eql .plain (.tmp 22) (.tmp 26))] [(13, 16)] [27],
 .op 19 (.pick 28 (.tmp 18) (.tmp 27) (.const (.bool false))),
 .op 20 (.mov 29 (.tmp 28)),
 .guard 29 true [.op 21 (.mov 30 (.tmp 0)),
 .op 22 (.mov 31 (.tmp 3)),
 .op 23 (.call 32 16 [.tmp 30, .tmp 31]),
 .op 24 (.conv 33 .bytesStr (.tmp 32)),
 .op 25 (.mov 34 (.tmp 0)),
 .op 26 (.mov 35 (.tmp 3)),
 .op 27 (.call 36 17 [.tmp 34, .tmp 35]),
 .op 28 (.conv 37 .bytesStr (.tmp 36)),
 .op 29 (.bin 38 .eql .plain (.tmp 33) (.tmp 37))] [(24, 27)] [38],
 .op 30 (.pick 39 (.tmp 29) (.tmp 38) (.const (.bool false))),
 .op 31 (.mov 8 (.tmp 39))] [(3, 6)])
 .ret)),
 [.tmp 8]⟩
theorem ok14 : funcOk Try.prog (drawOk Try.prog) Try.f14 A14 = true := by kernel_rfl
noncomputable def S14 (call : Go.Fw.Call) (a0 a1 a2 a3 : AVal) (h : Heap) : Option J :=
 (call 7 [a0, a1] h).bind fun r1 =>
 (aConv .bytesStr r1.1 r1.2).bind fun r2 =>
 (call 19 [a0, a1] r2.2).bind fun r3 =>
 (aConv .bytesStr r3.1 r3.2).bind fun r4 =>
 (aBin .eql .plain r2.1 r4.1).bind fun v5 =>
 (guardV v5 true
 ((call 20 [a0, a2] r4.2).bind fun r6 =>
 (aConv .bytesStr r6.1 r6.2).bind fun r7 =>
 (call 18 [a0, a2] r7.2).bind fun r8 =>
 (aConv .bytesStr r8.1 r8.2).bind fun r9 =>
 (aBin .eql .plain r7.1 r9.1).bind fun v10 =>
 bif checkPairs [(16, some (.ef [] r7.2 [] r8.2)), (13, logBs r6.1)] [(13, 16)] then some (0, [v10], r9.2) else none)
 (some (0, [skipV], r4.2))).bind fun g11 =>
 (aPick v5 (g11.2.1.getD 0 .undef) (.bool false)).bind fun v12 =>
 (guardV v12 true
 ((call 16 [a0, a3] g11.2.2).bind fun r13 =>
 (aConv .bytesStr r13.1 r13.2).bind fun r14 =>
 (call 17 [a0, a3] r14.2).bind fun r15 =>
 (aConv .bytesStr r15.1 r15.2).bind fun r16 =>
 (aBin .eql .plain r14.1 r16.1).bind fun v17 =>
 bif checkPairs [(27, some (.ef [] r14.2 [] r15.2)), (24, logBs r13.1)] [(24, 27)] then some (0, [v17], r16.2) else none)
 (some (0, [skipV], g11.2.2))).bind fun g18 =>
 (aPick v12 (g18.2.1.getD 0 .undef) (.bool false)).bind fun v19 =>
 bif checkPairs [(6, some (.ef [] r2.2 [] r3.2)), (3, logBs r1.1)] [(3, 6)] then some (0, [v19], g18.2.2) else none
theorem run14 (call : Go.Fw.Call) (a0 a1 a2 a3 : AVal) (h : Heap) : runFn call (.code A14) [a0, a1, a2, a3] h = (S14 call a0 a1 a2 a3 h).bind ansOf := by kernel_rfl

/-- frankpledge/frankpledgelaw2.play -/
noncomputable def A15 : AFunc := ⟨2, (.seq (.region [.op 0 (.mov 4 (.const (.bool false)))] [])
 (.seq (.region [.op 0 (.mov 8 (.tmp 0)),
 .op 1 (.call 9 9 [.tmp 8]),
 .op 2 (.buildSl 10 [.int .u8 0] 1 0 []),
 .op 3 (.mov 11 (.tmp 0)),
 .op 4 (.append 12 1 1 [.int .u8 0] false (.tmp 10) (.tmp 11)),
 .op 5 (.build 13 [.nilSlice, .bool false] [(0, 1, .tmp 12)]),
 .op 6 (.box 14 false (.tmp 13)),
 .op 7 (.mov 5 (.tmp 9)),
 .op 8 (.mov 6 (.tmp 14))] [])
 (.seq (.seq (.region [.op 0 (.mov 15 (.tmp 5)),
 .op 1 (.bin 16 .eql .ptr (.tmp 15) (.const (.nilPtr)))] [])
 (.cond (.tmp 16)
 (.seq (.region [.op 0 (.mov 4 (.const (.bool false)))] [])
 .ret)
 .skip))
 (.seq (.seq (.region [.op 0 (.mov 7 (.const (.int .i64 0)))] [])
 (.block 0 (.loop ⟨[1, 5, 6, 7], []⟩ [((.exit 0), ⟨[5, 6], []⟩), (.ret, ⟨[4], []⟩)]
 (.seq (.seq (.region [.op 0 (.mov 17 (.tmp 7)),
 .op 1 (.mov 18 (.tmp 1)),
 .op 2 (.len 19 false (.tmp 18)),
 .op 3 (.bin 20 .lss .plain (.tmp 17) (.tmp 19)),
 .op 4 (.mov 21 (.tmp 20)),
 .guard 21 true [.op 5 (.mov 22 (.tmp 7)),
 .op 6 (.bin 23 .lss .plain (.tmp 22) (.const (.int .i64 40)))] [] [23],
 .op 7 (.pick 24 (.tmp 21) (.tmp 23) (.const (.bool false)))] [])
 (.cond (.tmp 24)
 .skip
 (.exit 0)))
 (.seq (.block 1 (.seq (.seq (.region [.op 0 (.mov 27 (.tmp 1)),
 .op 1 (.mov 28 (.tmp 7)),
 .op 2 (.iaddr 29 none 1 (.tmp 27) (.tmp 28)),
 .op 3 (.load 30 false 1 (.tmp 29)),
 .op 4 (.call 31 8 [.tmp 30, .const (.int .i64 0), .const (.int .i64 2)])] [])
 (.block 2 (.seq (.region [.op 0 (.bin 38 .eql .plain (.tmp 31) (.const (.int .i64 0))),
 .op 1 (.mov 37 (.tmp 38))] [])
 (.join [(.ret, ⟨[4], []⟩), (.normal, ⟨[1, 5, 6, 7], []⟩)] (.cond (.tmp 37)
 (.seq (.region [.op 0 (.mov 39 (.tmp 5)),
 .op 1 (.call 40 10 [.tmp 39]),
 .op 2 (.mov 41 (.tmp 6)),
 .op 3 (.call 42 26 [.tmp 41]),
 .op 4 (.bin 43 .neq .plain (.tmp 40) (.tmp 42))] [])
 (.cond (.tmp 43)
 (.seq (.region [.op 0 (.mov 4 (.const (.bool false)))] [])
 .ret)
 .skip))
 (.seq (.region [.op 0 (.bin 45 .eql .plain (.tmp 31) (.const (.int .i64 1))),
 .op 1 (.mov 44 (.tmp 45))] [])
 (.join [(.ret, ⟨[4], []⟩), (.normal, ⟨[1, 5, 6, 7], []⟩)] (.cond (.tmp 44)
 (.seq (.region [.op 0 (.mov 46 (.tmp 5)),
 .op 1 (.call 47 22 [.tmp 46]),
 .op 2 (.mov 48 (.tmp 6)),
 .op 3 (.call 49 27 [.tmp 48]),
 .op 4 (.bin 50 .neq .plain (.tmp 47) (.tmp 49))] [])
 (.cond (.tmp 50)
 (.seq (.region [.op 0 (.mov 4 (.const (.bool false)))] [])
 .ret)
 .skip))
 (.seq (.region [.op 0 (.mov 32 (.tmp 5)),
 .op 1 (.call 33 21 [.tmp 32]),
 .op 2 (.mov 34 (.tmp 6)),
 .op 3 (.call 35 28 [.tmp 34]),
 .op 4 (.bin 36 .neq .plain (.tmp 33) (.tmp 35))] [])
 (.cond (.tmp 36)
 (.seq (.region [.op 0 (.mov 4 (.const (.bool false)))] [])
 .ret)
 .skip))))))))))
 (.seq (.region [.op 0 (.mov 51 (.tmp 5)),
 .op 1 (.call 52 11 [.tmp 51]),
 .op 2 (.mov 53 (.tmp 6)),
 .op 3 (.nilchk 54 (.tmp 53)),
 .op 4 (.faddr 55 1 (.tmp 54)),
 .op 5 (.load 56 false 1 (.tmp 55)),
 .op 6 (.bin 57 .neq .bool (.tmp 52) (.tmp 56)),
 .op 7 (.mov 58 (.tmp 57)),
 .guard 58 false [.op 8 (.mov 59 (.tmp 5)),
 .op 9 (.call 60 12 [.tmp 59]),
 .op 10 (.mov 61 (.tmp 6)),
 .op 11 (.call 62 29 [.tmp 61]),
 .op 12 (.bin 63 .neq .bool (.tmp 60) (.tmp 62))] [] [63],
 .op 13 (.pick 64 (.tmp 58) (.const (.bool true)) (.tmp 63))] [(5, 1)])
 (.cond (.tmp 64)
 (.seq (.region [.op 0 (.mov 4 (.const (.bool false)))] [])
 .ret)
 .skip))))
 (.region [.op 0 (.mov 25 (.tmp 7)),
 .op 1 (.bin 26 .add .plain (.tmp 25) (.const (.int .i64 1))),
 .op 2 (.mov 7 (.tmp 26))] []))))))
 (.seq (.region [.op 0 (.mov 65 (.tmp 5)),
 .op 1 (.call 66 11 [.tmp 65]),
 .op 2 (.mov 67 (.tmp 6)),
 .op 3 (.nilchk 68 (.tmp 67)),
 .op 4 (.faddr 69 1 (.tmp 68)),
 .op 5 (.load 70 false 1 (.tmp 69)),
 .op 6 (.bin 71 .eql .bool (.tmp 66) (.tmp 70)),
 .op 7 (.mov 72 (.tmp 71)),
 .guard 72 true [.op 8 (.mov 73 (.tmp 5)),
 .op 9 (.call 74 12 [.tmp 73]),
 .op 10 (.mov 75 (.tmp 6)),
 .op 11 (.call 76 29 [.tmp 75]),
 .op 12 (.bin 77 .eql .bool (.tmp 74) (.tmp 76))] [] [77],
 .op 13 (.pick 78 (.tmp 72) (.tmp 77) (.const (.bool false))),
 .op 14 (.mov 4 (.tmp 78))] [(5, 1)])
 .ret))))),
 [.tmp 4]⟩
theorem ok15 : funcOk Try.prog (drawOk Try.prog) Try.f15 A15 = true := by kernel_rfl
/-- xs: t1, t5, t6, t7 -/
noncomputable def L15_0 (call : Go.Fw.Call) (xs : List AVal) (h : Heap) : Option J :=
 (aLen false (xs.getD 0 .undef)).bind fun v8 =>
 (aBin .lss .plain (xs.getD 3 .undef) v8).bind fun v9 =>
 (guardV v9 true
 ((aBin .lss .plain (xs.getD 3 .undef) (.int .i64 40)).bind fun v10 =>
 some (0, [v10], h))
 (some (0, [skipV], h))).bind fun g11 =>
 (aPick v9 (g11.2.1.getD 0 .undef) (.bool false)).bind fun v12 =>
 condV v12
 ((aIaddr 1 (xs.getD 0 .undef) (xs.getD 3 .undef)).bind fun v13 =>
 (aLoad g11.2.2 1 v13).bind fun c14 =>
 (fromCells false c14).bind fun v15 =>
 (call 8 [v15, (.int .i64 0), (.int .i64 2)] g11.2.2).bind fun r16 =>
 (aBin .eql .plain r16.1 (.int .i64 0)).bind fun v17 =>
 (condV v17
 ((call 10 [(xs.getD 1 .undef)] r16.2).bind fun r18 =>
 (call 26 [(xs.getD 2 .undef)] r18.2).bind fun r19 =>
 (aBin .neq .plain r18.1 r19.1).bind fun v20 =>
 condV v20
 (some (0, [(.bool false)], r19.2))
 (some (1, [(xs.getD 0 .undef), (xs.getD 1 .undef), (xs.getD 2 .undef), (xs.getD 3 .undef)], r19.2)))
 ((aBin .eql .plain r16.1 (.int .i64 1)).bind fun v21 =>
 (condV v21
 ((call 22 [(xs.getD 1 .undef)] r16.2).bind fun r22 =>
 (call 27 [(xs.getD 2 .undef)] r22.2).bind fun r23 =>
 (aBin .neq .plain r22.1 r23.1).bind fun v24 =>
 condV v24
 (some (0, [(.bool false)], r23.2))
 (some (1, [(xs.getD 0 .undef), (xs.getD 1 .undef), (xs.getD 2 .undef), (xs.getD 3 .undef)], r23.2)))
 ((call 21 [(xs.getD 1 .undef)] r16.2).bind fun r25 =>
 (call 28 [(xs.getD 2 .undef)] r25.2).bind fun r26 =>
 (aBin .neq .plain r25.1 r26.1).bind fun v27 =>
 condV v27
 (some (0, [(.bool false)], r26.2))
 (some (1, [(xs.getD 0 .undef), (xs.getD 1 .undef), (xs.getD 2 .undef), (xs.getD 3 .undef)], r26.2)))).bind fun x28 =>
 bif Nat.beq x28.1 0 then some (0, [(x28.2.1.getD 0 .undef)], x28.2.2) else
 bif Nat.beq x28.1 1 then some (1, [(x28.2.1.getD 0 .undef), (x28.2.1.getD 1 .undef), (x28.2.1.getD 2 .undef), (x28.2.1.getD 3 .undef)], x28.2.2) else
 none)).bind fun x29 =>
 bif Nat.beq x29.1 0 then some (2, [(x29.2.1.getD 0 .undef)], x29.2.2) else
 bif Nat.beq x29.1 1 then (call 11 [(x29.2.1.getD 1 .undef)] x29.2.2).bind fun r30 =>
 (aNilchk (x29.2.1.getD 2 .undef)).bind fun v31 =>
 (aFaddr 1 v31).bind fun v32 =>
 (aLoad r30.2 1 v32).bind fun c33 =>
 (fromCells false c33).bind fun v34 =>
 (aBin .neq .bool r30.1 v34).bind fun v35 =>
 (guardV v35 false
 ((call 12 [(x29.2.1.getD 1 .undef)] r30.2).bind fun r36 =>
 (call 29 [(x29.2.1.getD 2 .undef)] r36.2).bind fun r37 =>
 (aBin .neq .bool r36.1 r37.1).bind fun v38 =>
 some (0, [v38], r37.2))
 (some (0, [skipV], r30.2))).bind fun g39 =>
 (aPick v35 (.bool true) (g39.2.1.getD 0 .undef)).bind fun v40 =>
 bif checkPairs [(5, logRd v32 1), (1, some (.ef [] x29.2.2 [] r30.2))] [(5, 1)] then condV v40
 (some (2, [(.bool false)], g39.2.2))
 ((aBin .add .plain (x29.2.1.getD 3 .undef) (.int .i64 1)).bind fun v41 =>
 some (0, [(x29.2.1.getD 0 .undef), (x29.2.1.getD 1 .undef), (x29.2.1.getD 2 .undef), v41], g39.2.2)) else none else
 none)
 (some (1, [(xs.getD 1 .undef), (xs.getD 2 .undef)], g11.2.2))
noncomputable def S15 (call : Go.Fw.Call) (a0 a1 : AVal) (h : Heap) : Option J :=
 (call 9 [a0] h).bind fun r1 =>
 (aFill (reps [.int .u8 0] 0) []).bind fun c2 =>
 (aAppend 1 1 [.int .u8 0] false (.slice r1.2.next 0 0 0 1 true) a0 (r1.2.alloc c2)).bind fun r3 =>
 (aFill [.nilSlice, .bool false] [(0, 1, r3.1)]).bind fun c4 =>
 (AVal.cells? (.agg c4)).bind fun c5 =>
 (aBin .eql .ptr r1.1 (.nilPtr)).bind fun v7 =>
 condV v7
 (some (0, [(.bool false)], (r3.2.alloc c5)))
 ((loop (L15_0 call) [a1, r1.1, (.ptr r3.2.next 0), (.int .i64 0)] (r3.2.alloc c5)).bind fun x42 =>
 bif Nat.beq x42.1 1 then (call 11 [(x42.2.1.getD 0 .undef)] x42.2.2).bind fun r43 =>
 (aNilchk (x42.2.1.getD 1 .undef)).bind fun v44 =>
 (aFaddr 1 v44).bind fun v45 =>
 (aLoad r43.2 1 v45).bind fun c46 =>
 (fromCells false c46).bind fun v47 =>
 (aBin .eql .bool r43.1 v47).bind fun v48 =>
 (guardV v48 true
 ((call 12 [(x42.2.1.getD 0 .undef)] r43.2).bind fun r49 =>
 (call 29 [(x42.2.1.getD 1 .undef)] r49.2).bind fun r50 =>
 (aBin .eql .bool r49.1 r50.1).bind fun v51 =>
 some (0, [v51], r50.2))
 (some (0, [skipV], r43.2))).bind fun g52 =>
 (aPick v48 (g52.2.1.getD 0 .undef) (.bool false)).bind fun v53 =>
 bif checkPairs [(5, logRd v45 1), (1, some (.ef [] x42.2.2 [] r43.2))] [(5, 1)] then some (0, [v53], g52.2.2) else none else
 bif Nat.beq x42.1 2 then some (0, [(x42.2.1.getD 0 .undef)], x42.2.2) else
 none)
theorem run15 (call : Go.Fw.Call) (a0 a1 : AVal) (h : Heap) : runFn call (.code A15) [a0, a1] h = (S15 call a0 a1 h).bind ansOf := by kernel_rfl

/-- frankpledge/pack.Text -/
noncomputable def A16 : AFunc := ⟨2, (.seq (.region [.op 0 (.mov 4 (.const (.nilSlice)))] [])
 (.seq (.region [.op 0 (.mov 5 (.tmp 1)),
 .op 1 (.mov 6 (.tmp 1)),
 .op 2 (.len 7 true (.tmp 6)),
 .op 3 (.minmax 8 false [.tmp 7, .const (.int .i64 255)]),
 .op 4 (.slice 9 .str (.tmp 5) none (some (.tmp 8)) none),
 .op 5 (.mov 1 (.tmp 9))] [])
 (.seq (.region [.op 0 (.mov 10 (.tmp 0)),
 .op 1 (.mov 11 (.tmp 1)),
 .op 2 (.len 12 true (.tmp 11)),
 .op 3 (.call 13 20 [.tmp 10, .tmp 12]),
 .op 4 (.mov 14 (.tmp 1)),
 .op 5 (.append 15 1 1 [.int .u8 0] false (.tmp 13) (.tmp 14)),
 .op 6 (.mov 4 (.tmp 15))] [])
 .ret))),
 [.tmp 4]⟩
theorem ok16 : funcOk Try.prog (drawOk Try.prog) Try.f16 A16 = true := by kernel_rfl
noncomputable def S16 (call : Go.Fw.Call) (a0 a1 : AVal) (h : Heap) : Option J :=
 (aLen true a1).bind fun v1 =>
 (aMinMaxL false [v1, (.int .i64 255)]).bind fun v2 =>
 (aSliceStr a1 none (some v2)).bind fun v3 =>
 (aLen true v3).bind fun v4 =>
 (call 20 [a0, v4] h).bind fun r5 =>
 (aAppend 1 1 [.int .u8 0] false r5.1 v3 r5.2).bind fun r6 =>
 some (0, [r6.1], r6.2)
theorem run16 (call : Go.Fw.Call) (a0 a1 : AVal) (h : Heap) : runFn call (.code A16) [a0, a1] h = (S16 call a0 a1 h).bind ansOf := by kernel_rfl

/-- frankpledge/frankpledgeref2.Text -/
noncomputable def A17 : AFunc := ⟨2, (.seq (.region [.op 0 (.mov 4 (.const (.nilSlice)))] [])
 (.seq (.seq (.region [.op 0 (.mov 5 (.tmp 1)),
 .op 1 (.len 6 true (.tmp 5)),
 .op 2 (.bin 7 .gtr .plain (.tmp 6) (.const (.int .i64 255)))] [])
 (.join [(.normal, ⟨[0, 1], []⟩)] (.cond (.tmp 7)
 (.region [.op 0 (.mov 8 (.tmp 1)),
 .op 1 (.slice 9 .str (.tmp 8) none (some (.const (.int .i64 255))) none),
 .op 2 (.mov 1 (.tmp 9))] [])
 .skip)))
 (.seq (.region [.op 0 (.mov 10 (.tmp 0)),
 .op 1 (.mov 11 (.tmp 1)),
 .op 2 (.len 12 true (.tmp 11)),
 .op 3 (.call 13 18 [.tmp 10, .tmp 12]),
 .op 4 (.mov 14 (.tmp 1)),
 .op 5 (.append 15 1 1 [.int .u8 0] false (.tmp 13) (.tmp 14)),
 .op 6 (.mov 4 (.tmp 15))] [])
 .ret))),
 [.tmp 4]⟩
theorem ok17 : funcOk Try.prog (drawOk Try.prog) Try.f17 A17 = true := by kernel_rfl
noncomputable def S17 (call : Go.Fw.Call) (a0 a1 : AVal) (h : Heap) : Option J :=
 (aLen true a1).bind fun v1 =>
 (aBin .gtr .plain v1 (.int .i64 255)).bind fun v2 =>
 (condV v2
 ((aSliceStr a1 none (some (.int .i64 255))).bind fun v3 =>
 some (0, [a0, v3], h))
 (some (0, [a0, a1], h))).bind fun x4 =>
 bif Nat.beq x4.1 0 then (aLen true (x4.2.1.getD 1 .undef)).bind fun v5 =>
 (call 18 [(x4.2.1.getD 0 .undef), v5] x4.2.2).bind fun r6 =>
 (aAppend 1 1 [.int .u8 0] false r6.1 (x4.2.1.getD 1 .undef) r6.2).bind fun r7 =>
 some (0, [r7.1], r7.2) else
 none
theorem run17 (call : Go.Fw.Call) (a0 a1 : AVal) (h : Heap) : runFn call (.code A17) [a0, a1] h = (S17 call a0 a1 h).bind ansOf := by kernel_rfl

/-- frankpledge/frankpledgeref2.Byte -/
noncomputable def A18 : AFunc := ⟨2, (.seq (.region [.op 0 (.mov 4 (.const (.nilSlice)))] [])
 (.seq (.region [.op 0 (.buildSl 5 [.int .u8 0] 1 0 []),
 .op 1 (.mov 6 (.tmp 0)),
 .op 2 (.append 7 1 1 [.int .u8 0] false (.tmp 5) (.tmp 6)),
 .op 3 (.mov 8 (.tmp 1)),
 .op 4 (.conv 9 (.toInt .u8) (.tmp 8)),
 .op 5 (.buildSl 10 [.int .u8 0] 1 1 [(0, .tmp 9)]),
 .op 6 (.append 11 1 1 [.int .u8 0] false (.tmp 7) (.tmp 10)),
 .op 7 (.mov 4 (.tmp 11))] [])
 .ret)),
 [.tmp 4]⟩
theorem ok18 : funcOk Try.prog (drawOk Try.prog) Try.f18 A18 = true := by kernel_rfl
noncomputable def S18 (call : Go.Fw.Call) (a0 a1 : AVal) (h : Heap) : Option J :=
 (aFill (reps [.int .u8 0] 0) []).bind fun c1 =>
 (aAppend 1 1 [.int .u8 0] false (.slice h.next 0 0 0 1 true) a0 (h.alloc c1)).bind fun r2 =>
 (aConv (.toInt .u8) a1 r2.2).bind fun r3 =>
 (aFill (reps [.int .u8 0] 1) [(0, 1, r3.1)]).bind fun c4 =>
 (aAppend 1 1 [.int .u8 0] false r2.1 (.slice r3.2.next 0 1 1 1 true) (r3.2.alloc c4)).bind fun r5 =>
 some (0, [r5.1], r5.2)
theorem run18 (call : Go.Fw.Call) (a0 a1 : AVal) (h : Heap) : runFn call (.code A18) [a0, a1] h = (S18 call a0 a1 h).bind ansOf := by kernel_rfl

/-- frankpledge/frankpledgeref2.Int -/
noncomputable def A19 : AFunc := ⟨2, (.seq (.region [.op 0 (.mov 4 (.const (.nilSlice)))] [])
 (.seq (.region [.op 0 (.buildSl 7 [.int .u8 0] 1 0 []),
 .op 1 (.mov 8 (.tmp 0)),
 .op 2 (.append 9 1 1 [.int .u8 0] false (.tmp 7) (.tmp 8)),
 .op 3 (.mov 5 (.tmp 9))] [])
 (.seq (.seq (.region [.op 0 (.mov 6 (.const (.int .i64 56)))] [])
 (.block 0 (.loop ⟨[1, 5, 6], []⟩ [((.exit 0), ⟨[5], []⟩)]
 (.seq (.seq (.region [.op 0 (.mov 10 (.tmp 6)),
 .op 1 (.bin 11 .geq .plain (.tmp 10) (.const (.int .i64 0)))] [])
 (.cond (.tmp 11)
 .skip
 (.exit 0)))
 (.seq (.block 1 (.region [.op 0 (.mov 14 (.tmp 5)),
 .op 1 (.mov 15 (.tmp 1)),
 .op 2 (.mov 16 (.tmp 6)),
 .op 3 (.conv 17 (.toInt .u64) (.tmp 16)),
 .op 4 (.bin 18 .shr .plain (.tmp 15) (.tmp 17)),
 .op 5 (.conv 19 (.toInt .u8) (.tmp 18)),
 .op 6 (.buildSl 20 [.int .u8 0] 1 1 [(0, .tmp 19)]),
 .op 7 (.append 21 1 1 [.int .u8 0] false (.tmp 14) (.tmp 20)),
 .op 8 (.mov 5 (.tmp 21))] []))
 (.region [.op 0 (.mov 12 (.tmp 6)),
 .op 1 (.bin 13 .sub .plain (.tmp 12) (.const (.int .i64 8))),
 .op 2 (.mov 6 (.tmp 13))] []))))))
 (.seq (.region [.op 0 (.mov 22 (.tmp 5)),
 .op 1 (.mov 4 (.tmp 22))] [])
 .ret)))),
 [.tmp 4]⟩
theorem ok19 : funcOk Try.prog (drawOk Try.prog) Try.f19 A19 = true := by kernel_rfl
/-- xs: t1, t5, t6 -/
noncomputable def L19_0 (call : Go.Fw.Call) (xs : List AVal) (h : Heap) : Option J :=
 (aBin .geq .plain (xs.getD 2 .undef) (.int .i64 0)).bind fun v3 =>
 condV v3
 ((aConv (.toInt .u64) (xs.getD 2 .undef) h).bind fun r4 =>
 (aBin .shr .plain (xs.getD 0 .undef) r4.1).bind fun v5 =>
 (aConv (.toInt .u8) v5 r4.2).bind fun r6 =>
 (aFill (reps [.int .u8 0] 1) [(0, 1, r6.1)]).bind fun c7 =>
 (aAppend 1 1 [.int .u8 0] false (xs.getD 1 .undef) (.slice r6.2.next 0 1 1 1 true) (r6.2.alloc c7)).bind fun r8 =>
 (aBin .sub .plain (xs.getD 2 .undef) (.int .i64 8)).bind fun v9 =>
 some (0, [(xs.getD 0 .undef), r8.1, v9], r8.2))
 (some (1, [(xs.getD 1 .undef)], h))
noncomputable def S19 (call : Go.Fw.Call) (a0 a1 : AVal) (h : Heap) : Option J :=
 (aFill (reps [.int .u8 0] 0) []).bind fun c1 =>
 (aAppend 1 1 [.int .u8 0] false (.slice h.next 0 0 0 1 true) a0 (h.alloc c1)).bind fun r2 =>
 (loop (L19_0 call) [a1, r2.1, (.int .i64 56)] r2.2).bind fun x10 =>
 bif Nat.beq x10.1 1 then some (0, [(x10.2.1.getD 0 .undef)], x10.2.2) else
 none
theorem run19 (call : Go.Fw.Call) (a0 a1 : AVal) (h : Heap) : runFn call (.code A19) [a0, a1] h = (S19 call a0 a1 h).bind ansOf := by kernel_rfl

/-- frankpledge/pack.Byte -/
noncomputable def A20 : AFunc := ⟨2, (.seq (.region [.op 0 (.mov 4 (.const (.nilSlice)))] [])
 (.seq (.region [.op 0 (.mov 5 (.tmp 0)),
 .op 1 (.call 6 23 [.tmp 5]),
 .op 2 (.mov 7 (.tmp 1)),
 .op 3 (.conv 8 (.toInt .u8) (.tmp 7)),
 .op 4 (.buildSl 9 [.int .u8 0] 1 1 [(0, .tmp 8)]),
 .op 5 (.append 10 1 1 [.int .u8 0] false (.tmp 6) (.tmp 9)),
 .op 6 (.mov 4 (.tmp 10))] [])
 .ret)),
 [.tmp 4]⟩
theorem ok20 : funcOk Try.prog (drawOk Try.prog) Try.f20 A20 = true := by kernel_rfl
noncomputable def S20 (call : Go.Fw.Call) (a0 a1 : AVal) (h : Heap) : Option J :=
 (call 23 [a0] h).bind fun r1 =>
 (aConv (.toInt .u8) a1 r1.2).bind fun r2 =>
 (aFill (reps [.int .u8 0] 1) [(0, 1, r2.1)]).bind fun c3 =>
 (aAppend 1 1 [.int .u8 0] false r1.1 (.slice r2.2.next 0 1 1 1 true) (r2.2.alloc c3)).bind fun r4 =>
 some (0, [r4.1], r4.2)
theorem run20 (call : Go.Fw.Call) (a0 a1 : AVal) (h : Heap) : runFn call (.code A20) [a0, a1] h = (S20 call a0 a1 h).bind ansOf := by kernel_rfl

/-- (*frankpledge/pack.Reader).Text -/
noncomputable def A21 : AFunc := ⟨1, (.seq (.region [.op 0 (.mov 2 (.const (.str [])))] [])
 (.seq (.region [.op 0 (.mov 3 (.tmp 0)),
 .op 1 (.mov 4 (.tmp 0)),
 .op 2 (.call 5 22 [.tmp 4]),
 .op 3 (.call 6 25 [.tmp 3, .tmp 5]),
 .op 4 (.conv 7 .bytesStr (.tmp 6)),
 .op 5 (.mov 2 (.tmp 7))] [])
 .ret)),
 [.tmp 2]⟩
theorem ok21 : funcOk Try.prog (drawOk Try.prog) Try.f21 A21 = true := by kernel_rfl
noncomputable def S21 (call : Go.Fw.Call) (a0 : AVal) (h : Heap) : Option J :=
 (call 22 [a0] h).bind fun r1 =>
 (call 25 [a0, r1.1] r1.2).bind fun r2 =>
 (aConv .bytesStr r2.1 r2.2).bind fun r3 =>
 some (0, [r3.1], r3.2)
theorem run21 (call : Go.Fw.Call) (a0 : AVal) (h : Heap) : runFn call (.code A21) [a0] h = (S21 call a0 h).bind ansOf := by kernel_rfl

/-- (*frankpledge/pack.Reader).Byte -/
noncomputable def A22 : AFunc := ⟨1, (.seq (.region [.op 0 (.mov 2 (.const (.int .i64 0)))] [])
 (.seq (.seq (.region [.op 0 (.mov 5 (.tmp 0)),
 .op 1 (.call 6 25 [.tmp 5, .const (.int .i64 1)]),
 .op 2 (.len 7 false (.tmp 6)),
 .op 3 (.mov 8 (.const (.int .i64 0)))] [])
 (.block 0 (.loop ⟨[6, 7, 8], []⟩ [((.exit 0), ⟨[], []⟩), (.ret, ⟨[2], []⟩)]
 (.seq (.region [.op 0 (.bin 9 .lss .plain (.tmp 8) (.tmp 7))] [])
 (.seq (.cond (.tmp 9)
 .skip
 (.exit 0))
 (.seq (.block 1 (.seq (.region [.op 0 (.iaddr 10 none 1 (.tmp 6) (.tmp 8)),
 .op 1 (.load 11 false 1 (.tmp 10)),
 .op 2 (.mov 4 (.tmp 11))] [])
 (.seq (.region [.op 0 (.mov 12 (.tmp 4)),
 .op 1 (.conv 13 (.toInt .i64) (.tmp 12)),
 .op 2 (.mov 2 (.tmp 13))] [])
 .ret)))
 (.region [.op 0 (.bin 14 .add .plain (.tmp 8) (.const (.int .i64 1))),
 .op 1 (.mov 8 (.tmp 14))] [])))))))
 (.seq (.region [.op 0 (.mov 2 (.const (.int .i64 0)))] [])
 .ret))),
 [.tmp 2]⟩
theorem ok22 : funcOk Try.prog (drawOk Try.prog) Try.f22 A22 = true := by kernel_rfl
/-- xs: t6, t7, t8 -/
noncomputable def L22_0 (call : Go.Fw.Call) (xs : List AVal) (h : Heap) : Option J :=
 (aBin .lss .plain (xs.getD 2 .undef) (xs.getD 1 .undef)).bind fun v3 =>
 condV v3
 ((aIaddr 1 (xs.getD 0 .undef) (xs.getD 2 .undef)).bind fun v4 =>
 (aLoad h 1 v4).bind fun c5 =>
 (fromCells false c5).bind fun v6 =>
 (aConv (.toInt .i64) v6 h).bind fun r7 =>
 some (2, [r7.1], r7.2))
 (some (1, [], h))
noncomputable def S22 (call : Go.Fw.Call) (a0 : AVal) (h : Heap) : Option J :=
 (call 25 [a0, (.int .i64 1)] h).bind fun r1 =>
 (aLen false r1.1).bind fun v2 =>
 (loop (L22_0 call) [r1.1, v2, (.int .i64 0)] r1.2).bind fun x8 =>
 bif Nat.beq x8.1 1 then some (0, [(.int .i64 0)], x8.2.2) else
 bif Nat.beq x8.1 2 then some (0, [(x8.2.1.getD 0 .undef)], x8.2.2) else
 none
theorem run22 (call : Go.Fw.Call) (a0 : AVal) (h : Heap) : runFn call (.code A22) [a0] h = (S22 call a0 h).bind ansOf := by kernel_rfl

/-- slices.Clone[[]byte,byte] -/
noncomputable def A23 : AFunc := ⟨1, (.seq (.region [.op 0 (.mov 2 (.const (.nilSlice)))] [])
 (.seq (.seq (.region [.op 0 (.mov 3 (.tmp 0)),
 .op 1 (.bin 4 .eql .slice (.tmp 3) (.const (.nilSlice)))] [])
 (.cond (.tmp 4)
 (.seq (.region [.op 0 (.mov 2 (.const (.nilSlice)))] [])
 .ret)
 .skip))
 (.seq (.region [.op 0 (.buildSl 5 [.int .u8 0] 1 0 []),
 .op 1 (.mov 6 (.tmp 0)),
 .op 2 (.append 7 1 1 [.int .u8 0] false (.tmp 5) (.tmp 6)),
 .op 3 (.mov 2 (.tmp 7))] [])
 .ret))),
 [.tmp 2]⟩
theorem ok23 : funcOk Try.prog (drawOk Try.prog) Try.f23 A23 = true := by kernel_rfl
noncomputable def S23 (call : Go.Fw.Call) (a0 : AVal) (h : Heap) : Option J :=
 (aBin .eql .slice a0 (.nilSlice)).bind fun v1 =>
 condV v1
 (some (0, [(.nilSlice)], h))
 ((aFill (reps [.int .u8 0] 0) []).bind fun c2 =>
 (aAppend 1 1 [.int .u8 0] false (.slice h.next 0 0 0 1 true) a0 (h.alloc c2)).bind fun r3 =>
 some (0, [r3.1], r3.2))
theorem run23 (call : Go.Fw.Call) (a0 : AVal) (h : Heap) : runFn call (.code A23) [a0] h = (S23 call a0 h).bind ansOf := by kernel_rfl

/-- slices.Clip[[]byte,byte] -/
noncomputable def A24 : AFunc := ⟨1, (.seq (.region [.op 0 (.mov 2 (.const (.nilSlice)))] [])
 (.seq (.region [.op 0 (.mov 3 (.tmp 0)),
 .op 1 (.mov 4 (.tmp 0)),
 .op 2 (.len 5 false (.tmp 4)),
 .op 3 (.mov 6 (.tmp 0)),
 .op 4 (.len 7 false (.tmp 6)),
 .op 5 (.slice 8 (.sl 1) (.tmp 3) none (some (.tmp 5)) (some (.tmp 7))),
 .op 6 (.mov 2 (.tmp 8))] [])
 .ret)),
 [.tmp 2]⟩
theorem ok24 : funcOk Try.prog (drawOk Try.prog) Try.f24 A24 = true := by kernel_rfl
noncomputable def S24 (call : Go.Fw.Call) (a0 : AVal) (h : Heap) : Option J :=
 (aLen false a0).bind fun v1 =>
 (aLen false a0).bind fun v2 =>
 (aSliceSl 1 a0 none (some v1) (some v2)).bind fun v3 =>
 some (0, [v3], h)
theorem run24 (call : Go.Fw.Call) (a0 : AVal) (h : Heap) : runFn call (.code A24) [a0] h = (S24 call a0 h).bind ansOf := by kernel_rfl

/-- (*frankpledge/pack.Reader).take -/
noncomputable def A25 : AFunc := ⟨2, (.seq (.region [.op 0 (.mov 4 (.const (.nilSlice)))] [])
 (.seq (.seq (.region [.op 0 (.mov 6 (.tmp 0)),
 .op 1 (.nilchk 7 (.tmp 6)),
 .op 2 (.faddr 8 1 (.tmp 7)),
 .op 3 (.load 9 false 1 (.tmp 8)),
 .op 4 (.mov 10 (.tmp 9)),
 .guard 10 false [.op 5 (.mov 11 (.tmp 1)),
 .op 6 (.mov 12 (.tmp 0)),
 .op 7 (.nilchk 13 (.tmp 12)),
 .op 8 (.faddr 14 0 (.tmp 13)),
 .op 9 (.load 15 false 1 (.tmp 14)),
 .op 10 (.len 16 false (.tmp 15)),
 .op 11 (.bin 17 .gtr .plain (.tmp 11) (.tmp 16))] [] [17],
 .op 12 (.pick 18 (.tmp 10) (.const (.bool true)) (.tmp 17))] [])
 (.cond (.tmp 18)
 (.seq (.region [.op 0 (.mov 19 (.tmp 0)),
 .op 1 (.nilchk 20 (.tmp 19)),
 .op 2 (.faddr 21 1 (.tmp 20)),
 .op 3 (.store false 1 (.tmp 21) (.const (.bool true)))] [])
 (.seq (.region [.op 0 (.mov 4 (.const (.nilSlice)))] [])
 .ret))
 .skip))
 (.seq (.region [.op 0 (.mov 22 (.tmp 0)),
 .op 1 (.nilchk 23 (.tmp 22)),
 .op 2 (.faddr 24 0 (.tmp 23)),
 .op 3 (.load 25 false 1 (.tmp 24)),
 .op 4 (.mov 26 (.tmp 1)),
 .op 5 (.slice 27 (.sl 1) (.tmp 25) none (some (.tmp 26)) none),
 .op 6 (.mov 5 (.tmp 27))] [])
 (.seq (.region [.op 0 (.mov 28 (.tmp 0)),
 .op 1 (.mov 29 (.tmp 0)),
 .op 2 (.nilchk 30 (.tmp 29)),
 .op 3 (.faddr 31 0 (.tmp 30)),
 .op 4 (.load 32 false 1 (.tmp 31)),
 .op 5 (.mov 33 (.tmp 1)),
 .op 6 (.slice 34 (.sl 1) (.tmp 32) (some (.tmp 33)) none none),
 .op 7 (.nilchk 35 (.tmp 28)),
 .op 8 (.faddr 36 0 (.tmp 35)),
 .op 9 (.store false 1 (.tmp 36) (.tmp 34))] [])
 (.seq (.region [.op 0 (.mov 37 (.tmp 5)),
 .op 1 (.mov 4 (.tmp 37))] [])
 .ret))))),
 [.tmp 4]⟩
theorem ok25 : funcOk Try.prog (drawOk Try.prog) Try.f25 A25 = true := by kernel_rfl
noncomputable def S25 (call : Go.Fw.Call) (a0 a1 : AVal) (h : Heap) : Option J :=
 (aNilchk a0).bind fun v1 =>
 (aFaddr 1 v1).bind fun v2 =>
 (aLoad h 1 v2).bind fun c3 =>
 (fromCells false c3).bind fun v4 =>
 (guardV v4 false
 ((aNilchk a0).bind fun v5 =>
 (aFaddr 0 v5).bind fun v6 =>
 (aLoad h 1 v6).bind fun c7 =>
 (fromCells false c7).bind fun v8 =>
 (aLen false v8).bind fun v9 =>
 (aBin .gtr .plain a1 v9).bind fun v10 =>
 some (0, [v10], h))
 (some (0, [skipV], h))).bind fun g11 =>
 (aPick v4 (.bool true) (g11.2.1.getD 0 .undef)).bind fun v12 =>
 condV v12
 ((aNilchk a0).bind fun v13 =>
 (aFaddr 1 v13).bind fun v14 =>
 (aCells 1 (.bool true)).bind fun c15 =>
 (aStore g11.2.2 v14 c15).bind fun h16 =>
 some (0, [(.nilSlice)], h16))
 ((aNilchk a0).bind fun v17 =>
 (aFaddr 0 v17).bind fun v18 =>
 (aLoad g11.2.2 1 v18).bind fun c19 =>
 (fromCells false c19).bind fun v20 =>
 (aSliceSl 1 v20 none (some a1) none).bind fun v21 =>
 (aNilchk a0).bind fun v22 =>
 (aFaddr 0 v22).bind fun v23 =>
 (aLoad g11.2.2 1 v23).bind fun c24 =>
 (fromCells false c24).bind fun v25 =>
 (aSliceSl 1 v25 (some a1) none none).bind fun v26 =>
 (aNilchk a0).bind fun v27 =>
 (aFaddr 0 v27).bind fun v28 =>
 (aCells 1 v26).bind fun c29 =>
 (aStore g11.2.2 v28 c29).bind fun h30 =>
 some (0, [v21], h30))
theorem run25 (call : Go.Fw.Call) (a0 a1 : AVal) (h : Heap) : runFn call (.code A25) [a0, a1] h = (S25 call a0 a1 h).bind ansOf := by kernel_rfl

/-- (*frankpledge/frankpledgeref2.Reader).Int -/
noncomputable def A26 : AFunc := ⟨1, (.seq (.region [.op 0 (.mov 2 (.const (.int .i64 0)))] [])
 (.seq (.region [.op 0 (.mov 3 (.const (.int .u64 0)))] [])
 (.seq (.seq (.region [.op 0 (.mov 6 (.tmp 0)),
 .op 1 (.call 7 30 [.tmp 6, .const (.int .i64 8)]),
 .op 2 (.len 8 false (.tmp 7)),
 .op 3 (.mov 9 (.const (.int .i64 0)))] [])
 (.block 0 (.loop ⟨[3, 7, 8, 9], []⟩ [((.exit 0), ⟨[3], []⟩)]
 (.seq (.region [.op 0 (.bin 10 .lss .plain (.tmp 9) (.tmp 8))] [])
 (.seq (.cond (.tmp 10)
 .skip
 (.exit 0))
 (.seq (.block 1 (.seq (.region [.op 0 (.iaddr 11 none 1 (.tmp 7) (.tmp 9)),
 .op 1 (.load 12 false 1 (.tmp 11)),
 .op 2 (.mov 5 (.tmp 12))] [])
 (.region [.op 0 (.mov 13 (.tmp 3)),
 .op 1 (.bin 14 .shl .plain (.tmp 13) (.const (.int .u64 8))),
 .op 2 (.mov 15 (.tmp 5)),
 .op 3 (.conv 16 (.toInt .u64) (.tmp 15)),
 .op 4 (.bin 17 .or .plain (.tmp 14) (.tmp 16)),
 .op 5 (.mov 3 (.tmp 17))] [])))
 (.region [.op 0 (.bin 18 .add .plain (.tmp 9) (.const (.int .i64 1))),
 .op 1 (.mov 9 (.tmp 18))] [])))))))
 (.seq (.region [.op 0 (.mov 19 (.tmp 3)),
 .op 1 (.conv 20 (.toInt .i64) (.tmp 19)),
 .op 2 (.mov 2 (.tmp 20))] [])
 .ret)))),
 [.tmp 2]⟩
theorem ok26 : funcOk Try.prog (drawOk Try.prog) Try.f26 A26 = true := by kernel_rfl
/-- xs: t3, t7, t8, t9 -/
noncomputable def L26_0 (call : Go.Fw.Call) (xs : List AVal) (h : Heap) : Option J :=
 (aBin .lss .plain (xs.getD 3 .undef) (xs.getD 2 .undef)).bind fun v3 =>
 condV v3
 ((aIaddr 1 (xs.getD 1 .undef) (xs.getD 3 .undef)).bind fun v4 =>
 (aLoad h 1 v4).bind fun c5 =>
 (fromCells false c5).bind fun v6 =>
 (aBin .shl .plain (xs.getD 0 .undef) (.int .u64 8)).bind fun v7 =>
 (aConv (.toInt .u64) v6 h).bind fun r8 =>
 (aBin .or .plain v7 r8.1).bind fun v9 =>
 (aBin .add .plain (xs.getD 3 .undef) (.int .i64 1)).bind fun v10 =>
 some (0, [v9, (xs.getD 1 .undef), (xs.getD 2 .undef), v10], r8.2))
 (some (1, [(xs.getD 0 .undef)], h))
noncomputable def S26 (call : Go.Fw.Call) (a0 : AVal) (h : Heap) : Option J :=
 (call 30 [a0, (.int .i64 8)] h).bind fun r1 =>
 (aLen false r1.1).bind fun v2 =>
 (loop (L26_0 call) [(.int .u64 0), r1.1, v2, (.int .i64 0)] r1.2).bind fun x11 =>
 bif Nat.beq x11.1 1 then (aConv (.toInt .i64) (x11.2.1.getD 0 .undef) x11.2.2).bind fun r12 =>
 some (0, [r12.1], r12.2) else
 none
theorem run26 (call : Go.Fw.Call) (a0 : AVal) (h : Heap) : runFn call (.code A26) [a0] h = (S26 call a0 h).bind ansOf := by kernel_rfl

/-- (*frankpledge/frankpledgeref2.Reader).Byte -/
noncomputable def A27 : AFunc := ⟨1, (.seq (.region [.op 0 (.mov 2 (.const (.int .i64 0)))] [])
 (.seq (.seq (.region [.op 0 (.mov 5 (.tmp 0)),
 .op 1 (.call 6 30 [.tmp 5, .const (.int .i64 1)]),
 .op 2 (.len 7 false (.tmp 6)),
 .op 3 (.mov 8 (.const (.int .i64 0)))] [])
 (.block 0 (.loop ⟨[6, 7, 8], []⟩ [((.exit 0), ⟨[], []⟩), (.ret, ⟨[2], []⟩)]
 (.seq (.region [.op 0 (.bin 9 .lss .plain (.tmp 8) (.tmp 7))] [])
 (.seq (.cond (.tmp 9)
 .skip
 (.exit 0))
 (.seq (.block 1 (.seq (.region [.op 0 (.iaddr 10 none 1 (.tmp 6) (.tmp 8)),
 .op 1 (.load 11 false 1 (.tmp 10)),
 .op 2 (.mov 4 (.tmp 11))] [])
 (.seq (.region [.op 0 (.mov 12 (.tmp 4)),
 .op 1 (.conv 13 (.toInt .i64) (.tmp 12)),
 .op 2 (.mov 2 (.tmp 13))] [])
 .ret)))
 (.region [.op 0 (.bin 14 .add .plain (.tmp 8) (.const (.int .i64 1))),
 .op 1 (.mov 8 (.tmp 14))] [])))))))
 (.seq (.region [.op 0 (.mov 2 (.const (.int .i64 0)))] [])
 .ret))),
 [.tmp 2]⟩
theorem ok27 : funcOk Try.prog (drawOk Try.prog) Try.f27 A27 = true := by kernel_rfl
/-- xs: t6, t7, t8 -/
noncomputable def L27_0 (call : Go.Fw.Call) (xs : List AVal) (h : Heap) : Option J :=
 (aBin .lss .plain (xs.getD 2 .undef) (xs.getD 1 .undef)).bind fun v3 =>
 condV v3
 ((aIaddr 1 (xs.getD 0 .undef) (xs.getD 2 .undef)).bind fun v4 =>
 (aLoad h 1 v4).bind fun c5 =>
 (fromCells false c5).bind fun v6 =>
 (aConv (.toInt .i64) v6 h).bind fun r7 =>
 some (2, [r7.1], r7.2))
 (some (1, [], h))
noncomputable def S27 (call : Go.Fw.Call) (a0 : AVal) (h : Heap) : Option J :=
 (call 30 [a0, (.int .i64 1)] h).bind fun r1 =>
 (aLen false r1.1).bind fun v2 =>
 (loop (L27_0 call) [r1.1, v2, (.int .i64 0)] r1.2).bind fun x8 =>
 bif Nat.beq x8.1 1 then some (0, [(.int .i64 0)], x8.2.2) else
 bif Nat.beq x8.1 2 then some (0, [(x8.2.1.getD 0 .undef)], x8.2.2) else
 none
theorem run27 (call : Go.Fw.Call) (a0 : AVal) (h : Heap) : runFn call (.code A27) [a0] h = (S27 call a0 h).bind ansOf := by kernel_rfl

/-- (*frankpledge/frankpledgeref2.Reader).Text -/
noncomputable def A28 : AFunc := ⟨1, (.seq (.region [.op 0 (.mov 2 (.const (.str [])))] [])
 (.seq (.region [.op 0 (.mov 3 (.tmp 0)),
 .op 1 (.mov 4 (.tmp 0)),
 .op 2 (.call 5 27 [.tmp 4]),
 .op 3 (.call 6 30 [.tmp 3, .tmp 5]),
 .op 4 (.conv 7 .bytesStr (.tmp 6)),
 .op 5 (.mov 2 (.tmp 7))] [])
 .ret)),
 [.tmp 2]⟩
theorem ok28 : funcOk Try.prog (drawOk Try.prog) Try.f28 A28 = true := by kernel_rfl
noncomputable def S28 (call : Go.Fw.Call) (a0 : AVal) (h : Heap) : Option J :=
 (call 27 [a0] h).bind fun r1 =>
 (call 30 [a0, r1.1] r1.2).bind fun r2 =>
 (aConv .bytesStr r2.1 r2.2).bind fun r3 =>
 some (0, [r3.1], r3.2)
theorem run28 (call : Go.Fw.Call) (a0 : AVal) (h : Heap) : runFn call (.code A28) [a0] h = (S28 call a0 h).bind ansOf := by kernel_rfl

/-- (*frankpledge/frankpledgeref2.Reader).Done -/
noncomputable def A29 : AFunc := ⟨1, (.seq (.region [.op 0 (.mov 2 (.const (.bool false)))] [])
 (.seq (.region [.op 0 (.mov 3 (.tmp 0)),
 .op 1 (.nilchk 4 (.tmp 3)),
 .op 2 (.faddr 5 1 (.tmp 4)),
 .op 3 (.load 6 false 1 (.tmp 5)),
 .op 4 (.un 7 .not (.tmp 6)),
 .op 5 (.mov 8 (.tmp 7)),
 .guard 8 true [.op 6 (.mov 9 (.tmp 0)),
 .op 7 (.nilchk 10 (.tmp 9)),
 .op 8 (.faddr 11 0 (.tmp 10)),
 .op 9 (.load 12 false 1 (.tmp 11)),
 .op 10 (.len 13 false (.tmp 12)),
 .op 11 (.bin 14 .eql .plain (.tmp 13) (.const (.int .i64 0)))] [] [14],
 .op 12 (.pick 15 (.tmp 8) (.tmp 14) (.const (.bool false))),
 .op 13 (.mov 2 (.tmp 15))] [])
 .ret)),
 [.tmp 2]⟩
theorem ok29 : funcOk Try.prog (drawOk Try.prog) Try.f29 A29 = true := by kernel_rfl
noncomputable def S29 (call : Go.Fw.Call) (a0 : AVal) (h : Heap) : Option J :=
 (aNilchk a0).bind fun v1 =>
 (aFaddr 1 v1).bind fun v2 =>
 (aLoad h 1 v2).bind fun c3 =>
 (fromCells false c3).bind fun v4 =>
 (aUn .not v4).bind fun v5 =>
 (guardV v5 true
 ((aNilchk a0).bind fun v6 =>
 (aFaddr 0 v6).bind fun v7 =>
 (aLoad h 1 v7).bind fun c8 =>
 (fromCells false c8).bind fun v9 =>
 (aLen false v9).bind fun v10 =>
 (aBin .eql .plain v10 (.int .i64 0)).bind fun v11 =>
 some (0, [v11], h))
 (some (0, [skipV], h))).bind fun g12 =>
 (aPick v5 (g12.2.1.getD 0 .undef) (.bool false)).bind fun v13 =>
 some (0, [v13], g12.2.2)
theorem run29 (call : Go.Fw.Call) (a0 : AVal) (h : Heap) : runFn call (.code A29) [a0] h = (S29 call a0 h).bind ansOf := by kernel_rfl

/-- (*frankpledge/frankpledgeref2.Reader).take -/
noncomputable def A30 : AFunc := ⟨2, (.seq (.region [.op 0 (.mov 4 (.const (.nilSlice)))] [])
 (.seq (.seq (.region [.op 0 (.mov 6 (.tmp 0)),
 .op 1 (.nilchk 7 (.tmp 6)),
 .op 2 (.faddr 8 1 (.tmp 7)),
 .op 3 (.load 9 false 1 (.tmp 8)),
 .op 4 (.mov 10 (.tmp 9)),
 .guard 10 false [.op 5 (.mov 11 (.tmp 0)),
 .op 6 (.nilchk 12 (.tmp 11)),
 .op 7 (.faddr 13 0 (.tmp 12)),
 .op 8 (.load 14 false 1 (.tmp 13)),
 .op 9 (.len 15 false (.tmp 14)),
 .op 10 (.mov 16 (.tmp 1)),
 .op 11 (.bin 17 .lss .plain (.tmp 15) (.tmp 16))] [] [17],
 .op 12 (.pick 18 (.tmp 10) (.const (.bool true)) (.tmp 17))] [])
 (.cond (.tmp 18)
 (.seq (.region [.op 0 (.mov 19 (.tmp 0)),
 .op 1 (.nilchk 20 (.tmp 19)),
 .op 2 (.faddr 21 1 (.tmp 20)),
 .op 3 (.store false 1 (.tmp 21) (.const (.bool true)))] [])
 (.seq (.region [.op 0 (.mov 4 (.const (.nilSlice)))] [])
 .ret))
 .skip))
 (.seq (.region [.op 0 (.mov 22 (.tmp 0)),
 .op 1 (.nilchk 23 (.tmp 22)),
 .op 2 (.faddr 24 0 (.tmp 23)),
 .op 3 (.load 25 false 1 (.tmp 24)),
 .op 4 (.mov 26 (.tmp 1)),
 .op 5 (.slice 27 (.sl 1) (.tmp 25) none (some (.tmp 26)) none),
 .op 6 (.mov 5 (.tmp 27))] [])
 (.seq (.region [.op 0 (.mov 28 (.tmp 0)),
 .op 1 (.mov 29 (.tmp 0)),
 .op 2 (.nilchk 30 (.tmp 29)),
 .op 3 (.faddr 31 0 (.tmp 30)),
 .op 4 (.load 32 false 1 (.tmp 31)),
 .op 5 (.mov 33 (.tmp 1)),
 .op 6 (.slice 34 (.sl 1) (.tmp 32) (some (.tmp 33)) none none),
 .op 7 (.nilchk 35 (.tmp 28)),
 .op 8 (.faddr 36 0 (.tmp 35)),
 .op 9 (.store false 1 (.tmp 36) (.tmp 34))] [])
 (.seq (.region [.op 0 (.mov 37 (.tmp 5)),
 .op 1 (.mov 4 (.tmp 37))] [])
 .ret))))),
 [.tmp 4]⟩
theorem ok30 : funcOk Try.prog (drawOk Try.prog) Try.f30 A30 = true := by kernel_rfl
noncomputable def S30 (call : Go.Fw.Call) (a0 a1 : AVal) (h : Heap) : Option J :=
 (aNilchk a0).bind fun v1 =>
 (aFaddr 1 v1).bind fun v2 =>
 (aLoad h 1 v2).bind fun c3 =>
 (fromCells false c3).bind fun v4 =>
 (guardV v4 false
 ((aNilchk a0).bind fun v5 =>
 (aFaddr 0 v5).bind fun v6 =>
 (aLoad h 1 v6).bind fun c7 =>
 (fromCells false c7).bind fun v8 =>
 (aLen false v8).bind fun v9 =>
 (aBin .lss .plain v9 a1).bind fun v10 =>
 some (0, [v10], h))
 (some (0, [skipV], h))).bind fun g11 =>
 (aPick v4 (.bool true) (g11.2.1.getD 0 .undef)).bind fun v12 =>
 condV v12
 ((aNilchk a0).bind fun v13 =>
 (aFaddr 1 v13).bind fun v14 =>
 (aCells 1 (.bool true)).bind fun c15 =>
 (aStore g11.2.2 v14 c15).bind fun h16 =>
 some (0, [(.nilSlice)], h16))
 ((aNilchk a0).bind fun v17 =>
 (aFaddr 0 v17).bind fun v18 =>
 (aLoad g11.2.2 1 v18).bind fun c19 =>
 (fromCells false c19).bind fun v20 =>
 (aSliceSl 1 v20 none (some a1) none).bind fun v21 =>
 (aNilchk a0).bind fun v22 =>
 (aFaddr 0 v22).bind fun v23 =>
 (aLoad g11.2.2 1 v23).bind fun c24 =>
 (fromCells false c24).bind fun v25 =>
 (aSliceSl 1 v25 (some a1) none none).bind fun v26 =>
 (aNilchk a0).bind fun v27 =>
 (aFaddr 0 v27).bind fun v28 =>
 (aCells 1 v26).bind fun c29 =>
 (aStore g11.2.2 v28 c29).bind fun h30 =>
 some (0, [v21], h30))
theorem run30 (call : Go.Fw.Call) (a0 a1 : AVal) (h : Heap) : runFn call (.code A30) [a0, a1] h = (S30 call a0 a1 h).bind ansOf := by kernel_rfl

noncomputable def tbl (f : Nat) : Option AFn :=
 match f with
 | 3 => some (.code A3)
 | 4 => some (.code A4)
 | 5 => some (.code A5)
 | 6 => some (.code A6)
 | 7 => some (.code A7)
 | 8 => some (.code A8)
 | 9 => some (.code A9)
 | 10 => some (.code A10)
 | 11 => some (.code A11)
 | 12 => some (.code A12)
 | 13 => some (.code A13)
 | 14 => some (.code A14)
 | 15 => some (.code A15)
 | 16 => some (.code A16)
 | 17 => some (.code A17)
 | 18 => some (.code A18)
 | 19 => some (.code A19)
 | 20 => some (.code A20)
 | 21 => some (.code A21)
 | 22 => some (.code A22)
 | 23 => some (.code A23)
 | 24 => some (.code A24)
 | 25 => some (.code A25)
 | 26 => some (.code A26)
 | 27 => some (.code A27)
 | 28 => some (.code A28)
 | 29 => some (.code A29)
 | 30 => some (.code A30)
 | _ => none
theorem c3 (a0 a1 : AVal) (h : Heap) : E tbl 3 [a0, a1] h = (S3 (E tbl) a0 a1 h).bind ansOf := (E_eq tbl 3 [a0, a1] h).trans (run3 (E tbl) a0 a1 h)
theorem c4 (h : Heap) : E tbl 4 [] h = (S4 (E tbl)  h).bind ansOf := (E_eq tbl 4 [] h).trans (run4 (E tbl)  h)
theorem c5 (a0 a1 a2 a3 a4 : AVal) (h : Heap) : E tbl 5 [a0, a1, a2, a3, a4] h = (S5 (E tbl) a0 a1 a2 a3 a4 h).bind ansOf := (E_eq tbl 5 [a0, a1, a2, a3, a4] h).trans (run5 (E tbl) a0 a1 a2 a3 a4 h)
theorem c6 (a0 a1 : AVal) (h : Heap) : E tbl 6 [a0, a1] h = (S6 (E tbl) a0 a1 h).bind ansOf := (E_eq tbl 6 [a0, a1] h).trans (run6 (E tbl) a0 a1 h)
theorem c7 (a0 a1 : AVal) (h : Heap) : E tbl 7 [a0, a1] h = (S7 (E tbl) a0 a1 h).bind ansOf := (E_eq tbl 7 [a0, a1] h).trans (run7 (E tbl) a0 a1 h)
theorem c8 (a0 a1 a2 : AVal) (h : Heap) : E tbl 8 [a0, a1, a2] h = (S8 (E tbl) a0 a1 a2 h).bind ansOf := (E_eq tbl 8 [a0, a1, a2] h).trans (run8 (E tbl) a0 a1 a2 h)
theorem c9 (a0 : AVal) (h : Heap) : E tbl 9 [a0] h = (S9 (E tbl) a0 h).bind ansOf := (E_eq tbl 9 [a0] h).trans (run9 (E tbl) a0 h)
theorem c10 (a0 : AVal) (h : Heap) : E tbl 10 [a0] h = (S10 (E tbl) a0 h).bind ansOf := (E_eq tbl 10 [a0] h).trans (run10 (E tbl) a0 h)
theorem c11 (a0 : AVal) (h : Heap) : E tbl 11 [a0] h = (S11 (E tbl) a0 h).bind ansOf := (E_eq tbl 11 [a0] h).trans (run11 (E tbl) a0 h)
theorem c12 (a0 : AVal) (h : Heap) : E tbl 12 [a0] h = (S12 (E tbl) a0 h).bind ansOf := (E_eq tbl 12 [a0] h).trans (run12 (E tbl) a0 h)
theorem c13 (h : Heap) : E tbl 13 [] h = (S13 (E tbl)  h).bind ansOf := (E_eq tbl 13 [] h).trans (run13 (E tbl)  h)
theorem c14 (a0 a1 a2 a3 : AVal) (h : Heap) : E tbl 14 [a0, a1, a2, a3] h = (S14 (E tbl) a0 a1 a2 a3 h).bind ansOf := (E_eq tbl 14 [a0, a1, a2, a3] h).trans (run14 (E tbl) a0 a1 a2 a3 h)
theorem c15 (a0 a1 : AVal) (h : Heap) : E tbl 15 [a0, a1] h = (S15 (E tbl) a0 a1 h).bind ansOf := (E_eq tbl 15 [a0, a1] h).trans (run15 (E tbl) a0 a1 h)
theorem c16 (a0 a1 : AVal) (h : Heap) : E tbl 16 [a0, a1] h = (S16 (E tbl) a0 a1 h).bind ansOf := (E_eq tbl 16 [a0, a1] h).trans (run16 (E tbl) a0 a1 h)
theorem c17 (a0 a1 : AVal) (h : Heap) : E tbl 17 [a0, a1] h = (S17 (E tbl) a0 a1 h).bind ansOf := (E_eq tbl 17 [a0, a1] h).trans (run17 (E tbl) a0 a1 h)
theorem c18 (a0 a1 : AVal) (h : Heap) : E tbl 18 [a0, a1] h = (S18 (E tbl) a0 a1 h).bind ansOf := (E_eq tbl 18 [a0, a1] h).trans (run18 (E tbl) a0 a1 h)
theorem c19 (a0 a1 : AVal) (h : Heap) : E tbl 19 [a0, a1] h = (S19 (E tbl) a0 a1 h).bind ansOf := (E_eq tbl 19 [a0, a1] h).trans (run19 (E tbl) a0 a1 h)
theorem c20 (a0 a1 : AVal) (h : Heap) : E tbl 20 [a0, a1] h = (S20 (E tbl) a0 a1 h).bind ansOf := (E_eq tbl 20 [a0, a1] h).trans (run20 (E tbl) a0 a1 h)
theorem c21 (a0 : AVal) (h : Heap) : E tbl 21 [a0] h = (S21 (E tbl) a0 h).bind ansOf := (E_eq tbl 21 [a0] h).trans (run21 (E tbl) a0 h)
theorem c22 (a0 : AVal) (h : Heap) : E tbl 22 [a0] h = (S22 (E tbl) a0 h).bind ansOf := (E_eq tbl 22 [a0] h).trans (run22 (E tbl) a0 h)
theorem c23 (a0 : AVal) (h : Heap) : E tbl 23 [a0] h = (S23 (E tbl) a0 h).bind ansOf := (E_eq tbl 23 [a0] h).trans (run23 (E tbl) a0 h)
theorem c24 (a0 : AVal) (h : Heap) : E tbl 24 [a0] h = (S24 (E tbl) a0 h).bind ansOf := (E_eq tbl 24 [a0] h).trans (run24 (E tbl) a0 h)
theorem c25 (a0 a1 : AVal) (h : Heap) : E tbl 25 [a0, a1] h = (S25 (E tbl) a0 a1 h).bind ansOf := (E_eq tbl 25 [a0, a1] h).trans (run25 (E tbl) a0 a1 h)
theorem c26 (a0 : AVal) (h : Heap) : E tbl 26 [a0] h = (S26 (E tbl) a0 h).bind ansOf := (E_eq tbl 26 [a0] h).trans (run26 (E tbl) a0 h)
theorem c27 (a0 : AVal) (h : Heap) : E tbl 27 [a0] h = (S27 (E tbl) a0 h).bind ansOf := (E_eq tbl 27 [a0] h).trans (run27 (E tbl) a0 h)
theorem c28 (a0 : AVal) (h : Heap) : E tbl 28 [a0] h = (S28 (E tbl) a0 h).bind ansOf := (E_eq tbl 28 [a0] h).trans (run28 (E tbl) a0 h)
theorem c29 (a0 : AVal) (h : Heap) : E tbl 29 [a0] h = (S29 (E tbl) a0 h).bind ansOf := (E_eq tbl 29 [a0] h).trans (run29 (E tbl) a0 h)
theorem c30 (a0 a1 : AVal) (h : Heap) : E tbl 30 [a0, a1] h = (S30 (E tbl) a0 a1 h).bind ansOf := (E_eq tbl 30 [a0, a1] h).trans (run30 (E tbl) a0 a1 h)
theorem tbl_ok : ∀ f a, tbl f = some a → FnOk Try.prog (drawOk Try.prog) f a := by
  intro f a h
  unfold tbl at h
  split at h
  · cases h; exact ⟨_, Try.func3, by decide +kernel, ok3⟩
  · cases h; exact ⟨_, Try.func4, by decide +kernel, ok4⟩
  · cases h; exact ⟨_, Try.func5, by decide +kernel, ok5⟩
  · cases h; exact ⟨_, Try.func6, by decide +kernel, ok6⟩
  · cases h; exact ⟨_, Try.func7, by decide +kernel, ok7⟩
  · cases h; exact ⟨_, Try.func8, by decide +kernel, ok8⟩
  · cases h; exact ⟨_, Try.func9, by decide +kernel, ok9⟩
  · cases h; exact ⟨_, Try.func10, by decide +kernel, ok10⟩
  · cases h; exact ⟨_, Try.func11, by decide +kernel, ok11⟩
  · cases h; exact ⟨_, Try.func12, by decide +kernel, ok12⟩
  · cases h; exact ⟨_, Try.func13, by decide +kernel, ok13⟩
  · cases h; exact ⟨_, Try.func14, by decide +kernel, ok14⟩
  · cases h; exact ⟨_, Try.func15, by decide +kernel, ok15⟩
  · cases h; exact ⟨_, Try.func16, by decide +kernel, ok16⟩
  · cases h; exact ⟨_, Try.func17, by decide +kernel, ok17⟩
  · cases h; exact ⟨_, Try.func18, by decide +kernel, ok18⟩
  · cases h; exact ⟨_, Try.func19, by decide +kernel, ok19⟩
  · cases h; exact ⟨_, Try.func20, by decide +kernel, ok20⟩
  · cases h; exact ⟨_, Try.func21, by decide +kernel, ok21⟩
  · cases h; exact ⟨_, Try.func22, by decide +kernel, ok22⟩
  · cases h; exact ⟨_, Try.func23, by decide +kernel, ok23⟩
  · cases h; exact ⟨_, Try.func24, by decide +kernel, ok24⟩
  · cases h; exact ⟨_, Try.func25, by decide +kernel, ok25⟩
  · cases h; exact ⟨_, Try.func26, by decide +kernel, ok26⟩
  · cases h; exact ⟨_, Try.func27, by decide +kernel, ok27⟩
  · cases h; exact ⟨_, Try.func28, by decide +kernel, ok28⟩
  · cases h; exact ⟨_, Try.func29, by decide +kernel, ok29⟩
  · cases h; exact ⟨_, Try.func30, by decide +kernel, ok30⟩
  · cases h
theorem prog_ok : CallOk Try.prog (E tbl) := E_ok tbl_ok
end Go.Proofs.Ytiilphbdddckdaa.Code
