import Derived.Test.YtdphaonogpaedaaProg
import Derived.Test.YtdphaonogpaedaaFwZc
import Derived.KernelRfl
namespace Go.Proofs.Ytdphaonogpaedaa.Code
open Go.Fw
/-- frankpledge/frankpledgelaw11.GuardNumbers -/
noncomputable def A3 : AFunc := ⟨0, (.seq (.region [.op 0 (.mov 0 (.const (.bool false)))] [])
 (.seq (.seq (.region [.op 0 (.mov 1 (.const (.int .i64 (-2))))] [])
 (.block 0 (.loop ⟨[1], []⟩ [((.exit 0), ⟨[], []⟩), (.ret, ⟨[0], []⟩)]
 (.seq (.seq (.region [.op 0 (.mov 6 (.tmp 1)),
 .op 1 (.bin 7 .lss .plain (.tmp 6) (.const (.int .i64 200)))] [])
 (.cond (.tmp 7)
 .skip
 (.exit 0)))
 (.seq (.block 1 (.seq (.seq (.region [.op 0 (.mov 10 (.tmp 1)),
 .op 1 (.call 11 7 [.tmp 10]),
 .op 2 (.mov 12 (.tmp 1)),
 .op 3 (.call 13 8 [.tmp 12]),
 .op 4 (.bin 14 .neq .plain (.tmp 11) (.tmp 13))] [])
 (.cond (.tmp 14)
 (.seq (.region [.op 0 (.mov 0 (.const (.bool false)))] [])
 .ret)
 .skip))
 (.seq (.region [.op 0 (.buildSl 15 [.int .i64 0] 1 7 [(0, .const (.int .i64 0)), (1, .const (.int .i64 0)), (2, .const (.int .i64 4)), (3, .const (.int .i64 0)), (4, .const (.int .i64 4)), (5, .const (.int .i64 0)), (6, .const (.int .i64 4))]),
 .op 1 (.mov 16 (.tmp 1)),
 .op 2 (.mov 17 (.tmp 1)),
 .op 3 (.bin 18 .mul .plain (.const (.int .i64 2)) (.tmp 17)),
 .op 4 (.mov 19 (.tmp 1)),
 .op 5 (.bin 20 .mul .plain (.const (.int .i64 3)) (.tmp 19)),
 .op 6 (.bin 21 .add .plain (.tmp 20) (.const (.int .i64 7))),
 .op 7 (.buildSl 22 [.int .i64 0] 1 7 [(0, .const (.int .i64 0)), (1, .const (.int .i64 0)), (2, .tmp 16), (3, .const (.int .i64 0)), (4, .tmp 18), (5, .const (.int .i64 0)), (6, .tmp 21)]),
 .op 8 (.call 23 9 [.const (.int .i64 3), .tmp 15, .tmp 22]),
 .op 9 (.un 24 .not (.tmp 23))] [])
 (.cond (.tmp 24)
 (.seq (.region [.op 0 (.mov 0 (.const (.bool false)))] [])
 .ret)
 .skip))))
 (.region [.op 0 (.mov 8 (.tmp 1)),
 .op 1 (.bin 9 .add .plain (.tmp 8) (.const (.int .i64 1))),
 .op 2 (.mov 1 (.tmp 9))] []))))))
 (.seq (.seq (.region [.op 0 (.buildSl 25 [.int .i64 0] 1 7 [(0, .const (.int .i64 (-9223372036854775808))), (1, .const (.int .i64 (-61))), (2, .const (.int .i64 (-1))), (3, .const (.int .i64 0)), (4, .const (.int .i64 1099511627776)), (5, .const (.int .i64 9223372036854775747)), (6, .const (.int .i64 9223372036854775807))]),
 .op 1 (.len 26 false (.tmp 25)),
 .op 2 (.mov 27 (.const (.int .i64 0)))] [])
 (.block 2 (.loop ⟨[25, 26, 27], []⟩ [((.exit 2), ⟨[], []⟩), (.ret, ⟨[0], []⟩)]
 (.seq (.region [.op 0 (.bin 28 .lss .plain (.tmp 27) (.tmp 26))] [])
 (.seq (.cond (.tmp 28)
 .skip
 (.exit 2))
 (.seq (.block 3 (.seq (.region [.op 0 (.iaddr 29 none 1 (.tmp 25) (.tmp 27)),
 .op 1 (.load 30 false 1 (.tmp 29)),
 .op 2 (.mov 3 (.tmp 30))] [])
 (.seq (.region [.op 0 (.mov 31 (.tmp 3)),
 .op 1 (.buildSl 32 [.int .i64 0] 1 7 [(0, .const (.int .i64 0)), (1, .const (.int .i64 4)), (2, .const (.int .i64 0)), (3, .const (.int .i64 4)), (4, .const (.int .i64 4)), (5, .const (.int .i64 0)), (6, .const (.int .i64 4))]),
 .op 2 (.mov 33 (.tmp 3)),
 .op 3 (.bin 34 .add .plain (.tmp 33) (.const (.int .i64 59))),
 .op 4 (.mov 35 (.tmp 3)),
 .op 5 (.bin 36 .add .plain (.tmp 35) (.const (.int .i64 60))),
 .op 6 (.mov 37 (.tmp 3)),
 .op 7 (.bin 38 .add .plain (.tmp 37) (.const (.int .i64 61))),
 .op 8 (.buildSl 39 [.int .i64 0] 1 7 [(0, .const (.int .i64 1)), (1, .tmp 34), (2, .const (.int .i64 2)), (3, .tmp 36), (4, .tmp 38), (5, .const (.int .i64 3)), (6, .const (.int .i64 9223372036854775807))]),
 .op 9 (.call 40 9 [.tmp 31, .tmp 32, .tmp 39]),
 .op 10 (.un 41 .not (.tmp 40)),
 .op 11 (.mov 42 (.tmp 41)),
 .guard 42 false [.op 12 (.mov 43 (.tmp 3)),
 .op 13 (.call 44 7 [.tmp 43]),
 .op 14 (.mov 45 (.tmp 3)),
 .op 15 (.call 46 8 [.tmp 45]),
 .op 16 (.bin 47 .neq .plain (.tmp 44) (.tmp 46))] [] [47],
 .op 17 (.pick 48 (.tmp 42) (.const (.bool true)) (.tmp 47))] [])
 (.cond (.tmp 48)
 (.seq (.region [.op 0 (.mov 0 (.const (.bool false)))] [])
 .ret)
 .skip))))
 (.region [.op 0 (.bin 49 .add .plain (.tmp 27) (.const (.int .i64 1))),
 .op 1 (.mov 27 (.tmp 49))] [])))))))
 (.seq (.region [.op 0 (.call 50 10 [.const (.int .i64 0)]),
 .op 1 (.mov 4 (.tmp 50))] [])
 (.seq (.seq (.region [.op 0 (.mov 5 (.const (.int .i64 0)))] [])
 (.block 4 (.loop ⟨[4, 5], []⟩ [((.exit 4), ⟨[4], []⟩)]
 (.seq (.seq (.region [.op 0 (.mov 51 (.tmp 5)),
 .op 1 (.bin 52 .lss .plain (.tmp 51) (.const (.int .i64 1048581))),
 .op 2 (.mov 53 (.tmp 52)),
 .guard 53 true [.op 3 (.mov 54 (.tmp 4)),
 .op 4 (.bin 55 .neq .ptr (.tmp 54) (.const (.nilPtr)))] [] [55],
 .op 5 (.pick 56 (.tmp 53) (.tmp 55) (.const (.bool false)))] [])
 (.cond (.tmp 56)
 .skip
 (.exit 4)))
 (.seq (.block 5 (.region [.op 0 (.mov 59 (.tmp 4)),
 .op 1 (.call 60 11 [.tmp 59])] []))
 (.region [.op 0 (.mov 57 (.tmp 5)),
 .op 1 (.bin 58 .add .plain (.tmp 57) (.const (.int .i64 1))),
 .op 2 (.mov 5 (.tmp 58))] []))))))
 (.seq (.region [.op 0 (.mov 61 (.tmp 4)),
 .op 1 (.bin 62 .neq .ptr (.tmp 61) (.const (.nilPtr))),
 .op 2 (.mov 63 (.tmp 62)),
 .guard 63 true [.op 3 (.mov 64 (.tmp 4)),
 .op 4 (.call 65 12 [.tmp 64]),
 .op 5 (.bin 66 .eql .plain (.tmp 65) (.const (.int .i64 1048576)))] [] [66],
 .op 6 (.pick 67 (.tmp 63) (.tmp 66) (.const (.bool false))),
 .op 7 (.mov 68 (.tmp 67)),
 .guard 68 true [.op 8 (.call 69 13 [])] [] [69],
 .op 9 (.pick 70 (.tmp 68) (.tmp 69) (.const (.bool false))),
 .op 10 (.mov 0 (.tmp 70))] [])
 .ret)))))),
 [.tmp 0]⟩
theorem ok3 : funcOk Try.prog (drawOk Try.prog) Try.f3 A3 = true := by kernel_rfl
/-- xs: t1 -/
noncomputable def L3_0 (call : Go.Fw.Call) (xs : List AVal) (h : Heap) : Option J :=
 (aBin .lss .plain (xs.getD 0 .undef) (.int .i64 200)).bind fun v1 =>
 condV v1
 ((call 7 [(xs.getD 0 .undef)] h).bind fun r2 =>
 (call 8 [(xs.getD 0 .undef)] r2.2).bind fun r3 =>
 (aBin .neq .plain r2.1 r3.1).bind fun v4 =>
 condV v4
 (some (2, [(.bool false)], r3.2))
 ((aFill (reps [.int .i64 0] 7) [(0, 1, (.int .i64 0)), (1, 1, (.int .i64 0)), (2, 1, (.int .i64 4)), (3, 1, (.int .i64 0)), (4, 1, (.int .i64 4)), (5, 1, (.int .i64 0)), (6, 1, (.int .i64 4))]).bind fun c5 =>
 (aBin .mul .plain (.int .i64 2) (xs.getD 0 .undef)).bind fun v6 =>
 (aBin .mul .plain (.int .i64 3) (xs.getD 0 .undef)).bind fun v7 =>
 (aBin .add .plain v7 (.int .i64 7)).bind fun v8 =>
 (aFill (reps [.int .i64 0] 7) [(0, 1, (.int .i64 0)), (1, 1, (.int .i64 0)), (2, 1, (xs.getD 0 .undef)), (3, 1, (.int .i64 0)), (4, 1, v6), (5, 1, (.int .i64 0)), (6, 1, v8)]).bind fun c9 =>
 (call 9 [(.int .i64 3), (.slice r3.2.next 0 7 7 1 true), (.slice (r3.2.alloc c5).next 0 7 7 1 true)] ((r3.2.alloc c5).alloc c9)).bind fun r10 =>
 (aUn .not r10.1).bind fun v11 =>
 condV v11
 (some (2, [(.bool false)], r10.2))
 ((aBin .add .plain (xs.getD 0 .undef) (.int .i64 1)).bind fun v12 =>
 some (0, [v12], r10.2))))
 (some (1, [], h))
/-- xs: t25, t26, t27 -/
noncomputable def L3_1 (call : Go.Fw.Call) (xs : List AVal) (h : Heap) : Option J :=
 (aBin .lss .plain (xs.getD 2 .undef) (xs.getD 1 .undef)).bind fun v16 =>
 condV v16
 ((aIaddr 1 (xs.getD 0 .undef) (xs.getD 2 .undef)).bind fun v17 =>
 (aLoad h 1 v17).bind fun c18 =>
 (fromCells false c18).bind fun v19 =>
 (aFill (reps [.int .i64 0] 7) [(0, 1, (.int .i64 0)), (1, 1, (.int .i64 4)), (2, 1, (.int .i64 0)), (3, 1, (.int .i64 4)), (4, 1, (.int .i64 4)), (5, 1, (.int .i64 0)), (6, 1, (.int .i64 4))]).bind fun c20 =>
 (aBin .add .plain v19 (.int .i64 59)).bind fun v21 =>
 (aBin .add .plain v19 (.int .i64 60)).bind fun v22 =>
 (aBin .add .plain v19 (.int .i64 61)).bind fun v23 =>
 (aFill (reps [.int .i64 0] 7) [(0, 1, (.int .i64 1)), (1, 1, v21), (2, 1, (.int .i64 2)), (3, 1, v22), (4, 1, v23), (5, 1, (.int .i64 3)), (6, 1, (.int .i64 9223372036854775807))]).bind fun c24 =>
 (call 9 [v19, (.slice h.next 0 7 7 1 true), (.slice (h.alloc c20).next 0 7 7 1 true)] ((h.alloc c20).alloc c24)).bind fun r25 =>
 (aUn .not r25.1).bind fun v26 =>
 (guardV v26 false
 ((call 7 [v19] r25.2).bind fun r27 =>
 (call 8 [v19] r27.2).bind fun r28 =>
 (aBin .neq .plain r27.1 r28.1).bind fun v29 =>
 some (0, [v29], r28.2))
 (some (0, [skipV], r25.2))).bind fun g30 =>
 (aPick v26 (.bool true) (g30.2.1.getD 0 .undef)).bind fun v31 =>
 condV v31
 (some (2, [(.bool false)], g30.2.2))
 ((aBin .add .plain (xs.getD 2 .undef) (.int .i64 1)).bind fun v32 =>
 some (0, [(xs.getD 0 .undef), (xs.getD 1 .undef), v32], g30.2.2)))
 (some (1, [], h))
/-- xs: t4, t5 -/
noncomputable def L3_2 (call : Go.Fw.Call) (xs : List AVal) (h : Heap) : Option J :=
 (aBin .lss .plain (xs.getD 1 .undef) (.int .i64 1048581)).bind fun v35 =>
 (guardV v35 true
 ((aBin .neq .ptr (xs.getD 0 .undef) (.nilPtr)).bind fun v36 =>
 some (0, [v36], h))
 (some (0, [skipV], h))).bind fun g37 =>
 (aPick v35 (g37.2.1.getD 0 .undef) (.bool false)).bind fun v38 =>
 condV v38
 ((call 11 [(xs.getD 0 .undef)] g37.2.2).bind fun r39 =>
 (aBin .add .plain (xs.getD 1 .undef) (.int .i64 1)).bind fun v40 =>
 some (0, [(xs.getD 0 .undef), v40], r39.2))
 (some (1, [(xs.getD 0 .undef)], g37.2.2))
noncomputable def S3 (call : Go.Fw.Call) (h : Heap) : Option J :=
 (loop (L3_0 call) [(.int .i64 (-2))] h).bind fun x13 =>
 bif Nat.beq x13.1 1 then (aFill (reps [.int .i64 0] 7) [(0, 1, (.int .i64 (-9223372036854775808))), (1, 1, (.int .i64 (-61))), (2, 1, (.int .i64 (-1))), (3, 1, (.int .i64 0)), (4, 1, (.int .i64 1099511627776)), (5, 1, (.int .i64 9223372036854775747)), (6, 1, (.int .i64 9223372036854775807))]).bind fun c14 =>
 (aLen false (.slice x13.2.2.next 0 7 7 1 true)).bind fun v15 =>
 (loop (L3_1 call) [(.slice x13.2.2.next 0 7 7 1 true), v15, (.int .i64 0)] (x13.2.2.alloc c14)).bind fun x33 =>
 bif Nat.beq x33.1 1 then (call 10 [(.int .i64 0)] x33.2.2).bind fun r34 =>
 (loop (L3_2 call) [r34.1, (.int .i64 0)] r34.2).bind fun x41 =>
 bif Nat.beq x41.1 1 then (aBin .neq .ptr (x41.2.1.getD 0 .undef) (.nilPtr)).bind fun v42 =>
 (guardV v42 true
 ((call 12 [(x41.2.1.getD 0 .undef)] x41.2.2).bind fun r43 =>
 (aBin .eql .plain r43.1 (.int .i64 1048576)).bind fun v44 =>
 some (0, [v44], r43.2))
 (some (0, [skipV], x41.2.2))).bind fun g45 =>
 (aPick v42 (g45.2.1.getD 0 .undef) (.bool false)).bind fun v46 =>
 (guardV v46 true
 ((call 13 [] g45.2.2).bind fun r47 =>
 some (0, [r47.1], r47.2))
 (some (0, [skipV], g45.2.2))).bind fun g48 =>
 (aPick v46 (g48.2.1.getD 0 .undef) (.bool false)).bind fun v49 =>
 some (0, [v49], g48.2.2) else
 none else
 bif Nat.beq x33.1 2 then some (0, [(x33.2.1.getD 0 .undef)], x33.2.2) else
 none else
 bif Nat.beq x13.1 2 then some (0, [(x13.2.1.getD 0 .undef)], x13.2.2) else
 none
theorem run3 (call : Go.Fw.Call) (h : Heap) : runFn call (.code A3) [] h = (S3 call  h).bind ansOf := by kernel_rfl

/-- frankpledge/frankpledgelaw11.GuardPlays -/
noncomputable def A4 : AFunc := ⟨3, (.seq (.region [.op 0 (.mov 6 (.const (.bool false)))] [])
 (.seq (.region [.op 0 (.mov 7 (.const (.nilSlice)))] [])
 (.seq (.region [.op 0 (.mov 10 (.tmp 0)),
 .op 1 (.bin 11 .and .plain (.tmp 10) (.const (.int .i64 255))),
 .op 2 (.mov 8 (.tmp 11))] [])
 (.seq (.seq (.region [.op 0 (.mov 12 (.tmp 2)),
 .op 1 (.len 13 false (.tmp 12)),
 .op 2 (.mov 14 (.const (.int .i64 0)))] [])
 (.block 0 (.loop ⟨[0, 1, 2, 7, 8, 13, 14], []⟩ [((.exit 0), ⟨[0, 1, 2, 7], []⟩)]
 (.seq (.region [.op 0 (.bin 15 .lss .plain (.tmp 14) (.tmp 13))] [])
 (.seq (.cond (.tmp 15)
 .skip
 (.exit 0))
 (.seq (.block 1 (.seq (.region [.op 0 (.mov 16 (.tmp 14)),
 .op 1 (.mov 9 (.tmp 16))] [])
 (.seq (.region [.op 0 (.mov 17 (.tmp 8)),
 .op 1 (.mov 18 (.tmp 2)),
 .op 2 (.mov 19 (.tmp 9)),
 .op 3 (.iaddr 20 none 1 (.tmp 18) (.tmp 19)),
 .op 4 (.load 21 false 1 (.tmp 20)),
 .op 5 (.bin 22 .and .plain (.tmp 21) (.const (.int .i64 63))),
 .op 6 (.bin 23 .add .plain (.tmp 17) (.tmp 22)),
 .op 7 (.mov 8 (.tmp 23))] [])
 (.region [.op 0 (.mov 24 (.tmp 7)),
 .op 1 (.mov 25 (.tmp 8)),
 .op 2 (.buildSl 26 [.int .i64 0] 1 1 [(0, .tmp 25)]),
 .op 3 (.append 27 1 8 [.int .i64 0] false (.tmp 24) (.tmp 26)),
 .op 4 (.mov 7 (.tmp 27))] []))))
 (.region [.op 0 (.bin 28 .add .plain (.tmp 14) (.const (.int .i64 1))),
 .op 1 (.mov 14 (.tmp 28))] [])))))))
 (.seq (.region [.op 0 (.mov 29 (.tmp 0)),
 .op 1 (.bin 30 .and .plain (.tmp 29) (.const (.int .i64 255))),
 .op 2 (.mov 31 (.tmp 1)),
 .op 3 (.mov 32 (.tmp 7)),
 .op 4 (.call 33 9 [.tmp 30, .tmp 31, .tmp 32]),
 .op 5 (.mov 34 (.tmp 33)),
 .guard 34 true [.op 6 (.mov 35 (.tmp 0)),
 .op 7 (.mov 36 (.tmp 1)),
 .op 8 (.mov 37 (.tmp 2)),
 .op 9 (.call 38 9 [.tmp 35, .tmp 36, .tmp 37])] [] [38],
 .op 10 (.pick 39 (.tmp 34) (.tmp 38) (.const (.bool false))),
 .op 11 (.mov 40 (.tmp 39)),
 .guard 40 true [.op 12 (.call 41 13 [])] [] [41],
 .op 13 (.pick 42 (.tmp 40) (.tmp 41) (.const (.bool false))),
 .op 14 (.mov 6 (.tmp 42))] [])
 .ret))))),
 [.tmp 6]⟩
theorem ok4 : funcOk Try.prog (drawOk Try.prog) Try.f4 A4 = true := by kernel_rfl
/-- xs: t0, t1, t2, t7, t8, t13, t14 -/
noncomputable def L4_0 (call : Go.Fw.Call) (xs : List AVal) (h : Heap) : Option J :=
 (aBin .lss .plain (xs.getD 6 .undef) (xs.getD 5 .undef)).bind fun v3 =>
 condV v3
 ((aIaddr 1 (xs.getD 2 .undef) (xs.getD 6 .undef)).bind fun v4 =>
 (aLoad h 1 v4).bind fun c5 =>
 (fromCells false c5).bind fun v6 =>
 (aBin .and .plain v6 (.int .i64 63)).bind fun v7 =>
 (aBin .add .plain (xs.getD 4 .undef) v7).bind fun v8 =>
 (aFill (reps [.int .i64 0] 1) [(0, 1, v8)]).bind fun c9 =>
 (aAppend 1 8 [.int .i64 0] false (xs.getD 3 .undef) (.slice h.next 0 1 1 1 true) (h.alloc c9)).bind fun r10 =>
 (aBin .add .plain (xs.getD 6 .undef) (.int .i64 1)).bind fun v11 =>
 some (0, [(xs.getD 0 .undef), (xs.getD 1 .undef), (xs.getD 2 .undef), r10.1, v8, (xs.getD 5 .undef), v11], r10.2))
 (some (1, [(xs.getD 0 .undef), (xs.getD 1 .undef), (xs.getD 2 .undef), (xs.getD 3 .undef)], h))
noncomputable def S4 (call : Go.Fw.Call) (a0 a1 a2 : AVal) (h : Heap) : Option J :=
 (aBin .and .plain a0 (.int .i64 255)).bind fun v1 =>
 (aLen false a2).bind fun v2 =>
 (loop (L4_0 call) [a0, a1, a2, (.nilSlice), v1, v2, (.int .i64 0)] h).bind fun x12 =>
 bif Nat.beq x12.1 1 then (aBin .and .plain (x12.2.1.getD 0 .undef) (.int .i64 255)).bind fun v13 =>
 (call 9 [v13, (x12.2.1.getD 1 .undef), (x12.2.1.getD 3 .undef)] x12.2.2).bind fun r14 =>
 (guardV r14.1 true
 ((call 9 [(x12.2.1.getD 0 .undef), (x12.2.1.getD 1 .undef), (x12.2.1.getD 2 .undef)] r14.2).bind fun r15 =>
 some (0, [r15.1], r15.2))
 (some (0, [skipV], r14.2))).bind fun g16 =>
 (aPick r14.1 (g16.2.1.getD 0 .undef) (.bool false)).bind fun v17 =>
 (guardV v17 true
 ((call 13 [] g16.2.2).bind fun r18 =>
 some (0, [r18.1], r18.2))
 (some (0, [skipV], g16.2.2))).bind fun g19 =>
 (aPick v17 (g19.2.1.getD 0 .undef) (.bool false)).bind fun v20 =>
 some (0, [v20], g19.2.2) else
 none
theorem run4 (call : Go.Fw.Call) (a0 a1 a2 : AVal) (h : Heap) : runFn call (.code A4) [a0, a1, a2] h = (S4 call a0 a1 a2 h).bind ansOf := by kernel_rfl

/-- frankpledge/frankpledgelaw11.GuardHolds -/
noncomputable def A5 : AFunc := ⟨2, (.seq (.region [.op 0 (.mov 4 (.const (.bool false)))] [])
 (.seq (.region [.op 0 (.mov 10 (.tmp 0)),
 .op 1 (.call 11 14 [.tmp 10, .const (.int .i64 1), .const (.int .i64 40)]),
 .op 2 (.mov 5 (.tmp 11))] [])
 (.seq (.region [.op 0 (.mov 12 (.tmp 1)),
 .op 1 (.bin 13 .and .plain (.tmp 12) (.const (.int .i64 65535))),
 .op 2 (.mov 6 (.tmp 13))] [])
 (.seq (.seq (.region [.op 0 (.mov 7 (.const (.int .i64 0)))] [])
 (.block 0 (.loop ⟨[5, 6, 7], []⟩ [((.exit 0), ⟨[], []⟩), (.ret, ⟨[4], []⟩)]
 (.seq (.seq (.region [.op 0 (.mov 14 (.tmp 7)),
 .op 1 (.bin 15 .lss .plain (.tmp 14) (.const (.int .i64 2)))] [])
 (.cond (.tmp 15)
 .skip
 (.exit 0)))
 (.seq (.block 1 (.seq (.region [.op 0 (.mov 18 (.tmp 6)),
 .op 1 (.call 19 10 [.tmp 18]),
 .op 2 (.mov 8 (.tmp 19))] [])
 (.seq (.seq (.region [.op 0 (.mov 20 (.tmp 8)),
 .op 1 (.bin 21 .eql .ptr (.tmp 20) (.const (.nilPtr))),
 .op 2 (.mov 22 (.tmp 21)),
 .guard 22 false [.op 3 (.mov 23 (.tmp 5)),
 .op 4 (.call 24 7 [.tmp 23]),
 .op 5 (.bin 25 .lss .plain (.tmp 24) (.const (.int .i64 1)))] [] [25],
 .op 6 (.pick 26 (.tmp 22) (.const (.bool true)) (.tmp 25))] [])
 (.cond (.tmp 26)
 (.seq (.region [.op 0 (.mov 4 (.const (.bool false)))] [])
 .ret)
 .skip))
 (.seq (.seq (.region [.op 0 (.mov 9 (.const (.int .i64 0)))] [])
 (.block 2 (.loop ⟨[5, 6, 7, 8, 9], []⟩ [((.exit 2), ⟨[5, 6, 7, 8], []⟩)]
 (.seq (.seq (.region [.op 0 (.mov 27 (.tmp 9)),
 .op 1 (.mov 28 (.tmp 5)),
 .op 2 (.call 29 7 [.tmp 28]),
 .op 3 (.mov 30 (.tmp 7)),
 .op 4 (.bin 31 .sub .plain (.tmp 29) (.tmp 30)),
 .op 5 (.bin 32 .lss .plain (.tmp 27) (.tmp 31))] [])
 (.cond (.tmp 32)
 .skip
 (.exit 2)))
 (.seq (.block 3 (.region [.op 0 (.mov 35 (.tmp 8)),
 .op 1 (.call 36 11 [.tmp 35])] []))
 (.region [.op 0 (.mov 33 (.tmp 9)),
 .op 1 (.bin 34 .add .plain (.tmp 33) (.const (.int .i64 1))),
 .op 2 (.mov 9 (.tmp 34))] []))))))
 (.seq (.region [.op 0 (.mov 37 (.tmp 8)),
 .op 1 (.mov 38 (.tmp 6)),
 .op 2 (.bin 39 .add .plain (.tmp 38) (.const (.int .i64 60))),
 .op 3 (.call 40 15 [.tmp 37, .tmp 39])] [])
 (.seq (.seq (.region [.op 0 (.mov 41 (.tmp 8)),
 .op 1 (.mov 42 (.tmp 5)),
 .op 2 (.call 43 16 [.tmp 41, .tmp 42]),
 .op 3 (.mov 44 (.tmp 7)),
 .op 4 (.bin 45 .gtr .plain (.tmp 44) (.const (.int .i64 0))),
 .op 5 (.bin 46 .neq .bool (.tmp 43) (.tmp 45))] [])
 (.cond (.tmp 46)
 (.seq (.region [.op 0 (.mov 4 (.const (.bool false)))] [])
 .ret)
 .skip))
 (.seq (.region [.op 0 (.mov 47 (.tmp 8)),
 .op 1 (.mov 48 (.tmp 6)),
 .op 2 (.bin 49 .add .plain (.tmp 48) (.const (.int .i64 120))),
 .op 3 (.call 50 15 [.tmp 47, .tmp 49])] [])
 (.seq (.region [.op 0 (.mov 51 (.tmp 8)),
 .op 1 (.mov 52 (.tmp 5)),
 .op 2 (.call 53 16 [.tmp 51, .tmp 52]),
 .op 3 (.un 54 .not (.tmp 53)),
 .op 4 (.mov 55 (.tmp 54)),
 .guard 55 false [.op 5 (.mov 56 (.tmp 8)),
 .op 6 (.call 57 17 [.tmp 56]),
 .op 7 (.bin 58 .neq .plain (.tmp 57) (.const (.int .i64 0)))] [] [58],
 .op 8 (.pick 59 (.tmp 55) (.const (.bool true)) (.tmp 58))] [])
 (.cond (.tmp 59)
 (.seq (.region [.op 0 (.mov 4 (.const (.bool false)))] [])
 .ret)
 .skip)))))))))
 (.region [.op 0 (.mov 16 (.tmp 7)),
 .op 1 (.bin 17 .add .plain (.tmp 16) (.const (.int .i64 1))),
 .op 2 (.mov 7 (.tmp 17))] []))))))
 (.seq (.region [.op 0 (.call 60 13 []),
 .op 1 (.mov 4 (.tmp 60))] [])
 .ret))))),
 [.tmp 4]⟩
theorem ok5 : funcOk Try.prog (drawOk Try.prog) Try.f5 A5 = true := by kernel_rfl
/-- xs: t5, t6, t7, t8, t9 -/
noncomputable def L5_1 (call : Go.Fw.Call) (xs : List AVal) (h : Heap) : Option J :=
 (call 7 [(xs.getD 0 .undef)] h).bind fun r10 =>
 (aBin .sub .plain r10.1 (xs.getD 2 .undef)).bind fun v11 =>
 (aBin .lss .plain (xs.getD 4 .undef) v11).bind fun v12 =>
 condV v12
 ((call 11 [(xs.getD 3 .undef)] r10.2).bind fun r13 =>
 (aBin .add .plain (xs.getD 4 .undef) (.int .i64 1)).bind fun v14 =>
 some (0, [(xs.getD 0 .undef), (xs.getD 1 .undef), (xs.getD 2 .undef), (xs.getD 3 .undef), v14], r13.2))
 (some (1, [(xs.getD 0 .undef), (xs.getD 1 .undef), (xs.getD 2 .undef), (xs.getD 3 .undef)], r10.2))
/-- xs: t5, t6, t7 -/
noncomputable def L5_0 (call : Go.Fw.Call) (xs : List AVal) (h : Heap) : Option J :=
 (aBin .lss .plain (xs.getD 2 .undef) (.int .i64 2)).bind fun v3 =>
 condV v3
 ((call 10 [(xs.getD 1 .undef)] h).bind fun r4 =>
 (aBin .eql .ptr r4.1 (.nilPtr)).bind fun v5 =>
 (guardV v5 false
 ((call 7 [(xs.getD 0 .undef)] r4.2).bind fun r6 =>
 (aBin .lss .plain r6.1 (.int .i64 1)).bind fun v7 =>
 some (0, [v7], r6.2))
 (some (0, [skipV], r4.2))).bind fun g8 =>
 (aPick v5 (.bool true) (g8.2.1.getD 0 .undef)).bind fun v9 =>
 condV v9
 (some (2, [(.bool false)], g8.2.2))
 ((loop (L5_1 call) [(xs.getD 0 .undef), (xs.getD 1 .undef), (xs.getD 2 .undef), r4.1, (.int .i64 0)] g8.2.2).bind fun x15 =>
 bif Nat.beq x15.1 1 then (aBin .add .plain (x15.2.1.getD 1 .undef) (.int .i64 60)).bind fun v16 =>
 (call 15 [(x15.2.1.getD 3 .undef), v16] x15.2.2).bind fun r17 =>
 (call 16 [(x15.2.1.getD 3 .undef), (x15.2.1.getD 0 .undef)] r17.2).bind fun r18 =>
 (aBin .gtr .plain (x15.2.1.getD 2 .undef) (.int .i64 0)).bind fun v19 =>
 (aBin .neq .bool r18.1 v19).bind fun v20 =>
 condV v20
 (some (2, [(.bool false)], r18.2))
 ((aBin .add .plain (x15.2.1.getD 1 .undef) (.int .i64 120)).bind fun v21 =>
 (call 15 [(x15.2.1.getD 3 .undef), v21] r18.2).bind fun r22 =>
 (call 16 [(x15.2.1.getD 3 .undef), (x15.2.1.getD 0 .undef)] r22.2).bind fun r23 =>
 (aUn .not r23.1).bind fun v24 =>
 (guardV v24 false
 ((call 17 [(x15.2.1.getD 3 .undef)] r23.2).bind fun r25 =>
 (aBin .neq .plain r25.1 (.int .i64 0)).bind fun v26 =>
 some (0, [v26], r25.2))
 (some (0, [skipV], r23.2))).bind fun g27 =>
 (aPick v24 (.bool true) (g27.2.1.getD 0 .undef)).bind fun v28 =>
 condV v28
 (some (2, [(.bool false)], g27.2.2))
 ((aBin .add .plain (x15.2.1.getD 2 .undef) (.int .i64 1)).bind fun v29 =>
 some (0, [(x15.2.1.getD 0 .undef), (x15.2.1.getD 1 .undef), v29], g27.2.2))) else
 none))
 (some (1, [], h))
noncomputable def S5 (call : Go.Fw.Call) (a0 a1 : AVal) (h : Heap) : Option J :=
 (call 14 [a0, (.int .i64 1), (.int .i64 40)] h).bind fun r1 =>
 (aBin .and .plain a1 (.int .i64 65535)).bind fun v2 =>
 (loop (L5_0 call) [r1.1, v2, (.int .i64 0)] r1.2).bind fun x30 =>
 bif Nat.beq x30.1 1 then (call 13 [] x30.2.2).bind fun r31 =>
 some (0, [r31.1], r31.2) else
 bif Nat.beq x30.1 2 then some (0, [(x30.2.1.getD 0 .undef)], x30.2.2) else
 none
theorem run5 (call : Go.Fw.Call) (a0 a1 : AVal) (h : Heap) : runFn call (.code A5) [a0, a1] h = (S5 call a0 a1 h).bind ansOf := by kernel_rfl

/-- frankpledge/frankpledgelaw11.GuardNeeds -/
noncomputable def A6 : AFunc := ⟨2, (.seq (.region [.op 0 (.mov 4 (.const (.bool false)))] [])
 (.seq (.region [.op 0 (.mov 7 (.tmp 0)),
 .op 1 (.call 8 14 [.tmp 7, .const (.int .i64 0), .const (.int .i64 5000)]),
 .op 2 (.mov 9 (.tmp 1)),
 .op 3 (.call 10 14 [.tmp 9, .const (.int .i64 0), .const (.int .i64 5000)]),
 .op 4 (.mov 5 (.tmp 8)),
 .op 5 (.mov 6 (.tmp 10))] [])
 (.seq (.region [.op 0 (.mov 11 (.tmp 5)),
 .op 1 (.call 12 7 [.tmp 11]),
 .op 2 (.mov 13 (.tmp 5)),
 .op 3 (.mov 14 (.tmp 6)),
 .op 4 (.bin 15 .add .plain (.tmp 13) (.tmp 14)),
 .op 5 (.call 16 7 [.tmp 15]),
 .op 6 (.bin 17 .leq .plain (.tmp 12) (.tmp 16)),
 .op 7 (.mov 18 (.tmp 17)),
 .guard 18 true [.op 8 (.mov 19 (.tmp 5)),
 .op 9 (.call 20 7 [.tmp 19]),
 .op 10 (.mov 21 (.tmp 6)),
 .op 11 (.call 22 7 [.tmp 21]),
 .op 12 (.bin 23 .add .plain (.tmp 20) (.tmp 22)),
 .op 13 (.mov 24 (.tmp 5)),
 .op 14 (.mov 25 (.tmp 6)),
 .op 15 (.bin 26 .add .plain (.tmp 24) (.tmp 25)),
 .op 16 (.call 27 7 [.tmp 26]),
 .op 17 (.bin 28 .leq .plain (.tmp 23) (.tmp 27))] [] [28],
 .op 18 (.pick 29 (.tmp 18) (.tmp 28) (.const (.bool false))),
 .op 19 (.mov 30 (.tmp 29)),
 .guard 30 true [.op 20 (.mov 31 (.tmp 5)),
 .op 21 (.call 32 7 [.tmp 31]),
 .op 22 (.mov 33 (.tmp 5)),
 .op 23 (.bin 34 .mul .plain (.tmp 33) (.const (.int .i64 6))),
 .op 24 (.bin 35 .leq .plain (.tmp 32) (.tmp 34))] [] [35],
 .op 25 (.pick 36 (.tmp 30) (.tmp 35) (.const (.bool false))),
 .op 26 (.mov 37 (.tmp 36)),
 .guard 37 true [.op 27 (.mov 38 (.tmp 5)),
 .op 28 (.bin 39 .eql .plain (.tmp 38) (.const (.int .i64 0))),
 .op 29 (.mov 40 (.tmp 39)),
 .guard 40 false [.op 30 (.mov 41 (.tmp 5)),
 .op 31 (.call 42 7 [.tmp 41]),
 .op 32 (.mov 43 (.tmp 5)),
 .op 33 (.bin 44 .mul .plain (.const (.int .i64 5)) (.tmp 43)),
 .op 34 (.bin 45 .geq .plain (.tmp 42) (.tmp 44))] [] [45],
 .op 35 (.pick 46 (.tmp 40) (.const (.bool true)) (.tmp 45))] [] [46],
 .op 36 (.pick 47 (.tmp 37) (.tmp 46) (.const (.bool false))),
 .op 37 (.mov 48 (.tmp 47)),
 .guard 48 true [.op 38 (.call 49 13 [])] [] [49],
 .op 39 (.pick 50 (.tmp 48) (.tmp 49) (.const (.bool false))),
 .op 40 (.mov 4 (.tmp 50))] [])
 .ret))),
 [.tmp 4]⟩
theorem ok6 : funcOk Try.prog (drawOk Try.prog) Try.f6 A6 = true := by kernel_rfl
noncomputable def S6 (call : Go.Fw.Call) (a0 a1 : AVal) (h : Heap) : Option J :=
 (call 14 [a0, (.int .i64 0), (.int .i64 5000)] h).bind fun r1 =>
 (call 14 [a1, (.int .i64 0), (.int .i64 5000)] r1.2).bind fun r2 =>
 (call 7 [r1.1] r2.2).bind fun r3 =>
 (aBin .add .plain r1.1 r2.1).bind fun v4 =>
 (call 7 [v4] r3.2).bind fun r5 =>
 (aBin .leq .plain r3.1 r5.1).bind fun v6 =>
 (guardV v6 true
 ((call 7 [r1.1] r5.2).bind fun r7 =>
 (call 7 [r2.1] r7.2).bind fun r8 =>
 (aBin .add .plain r7.1 r8.1).bind fun v9 =>
 (aBin .add .plain r1.1 r2.1).bind fun v10 =>
 (call 7 [v10] r8.2).bind fun r11 =>
 (aBin .leq .plain v9 r11.1).bind fun v12 =>
 some (0, [v12], r11.2))
 (some (0, [skipV], r5.2))).bind fun g13 =>
 (aPick v6 (g13.2.1.getD 0 .undef) (.bool false)).bind fun v14 =>
 (guardV v14 true
 ((call 7 [r1.1] g13.2.2).bind fun r15 =>
 (aBin .mul .plain r1.1 (.int .i64 6)).bind fun v16 =>
 (aBin .leq .plain r15.1 v16).bind fun v17 =>
 some (0, [v17], r15.2))
 (some (0, [skipV], g13.2.2))).bind fun g18 =>
 (aPick v14 (g18.2.1.getD 0 .undef) (.bool false)).bind fun v19 =>
 (guardV v19 true
 ((aBin .eql .plain r1.1 (.int .i64 0)).bind fun v20 =>
 (guardV v20 false
 ((call 7 [r1.1] g18.2.2).bind fun r21 =>
 (aBin .mul .plain (.int .i64 5) r1.1).bind fun v22 =>
 (aBin .geq .plain r21.1 v22).bind fun v23 =>
 some (0, [v23], r21.2))
 (some (0, [skipV], g18.2.2))).bind fun g24 =>
 (aPick v20 (.bool true) (g24.2.1.getD 0 .undef)).bind fun v25 =>
 some (0, [v25], g24.2.2))
 (some (0, [skipV], g18.2.2))).bind fun g26 =>
 (aPick v19 (g26.2.1.getD 0 .undef) (.bool false)).bind fun v27 =>
 (guardV v27 true
 ((call 13 [] g26.2.2).bind fun r28 =>
 some (0, [r28.1], r28.2))
 (some (0, [skipV], g26.2.2))).bind fun g29 =>
 (aPick v27 (g29.2.1.getD 0 .undef) (.bool false)).bind fun v30 =>
 some (0, [v30], g29.2.2)
theorem run6 (call : Go.Fw.Call) (a0 a1 : AVal) (h : Heap) : runFn call (.code A6) [a0, a1] h = (S6 call a0 a1 h).bind ansOf := by kernel_rfl

/-- frankpledge/guard.Need -/
noncomputable def A7 : AFunc := ⟨1, (.seq (.region [.op 0 (.mov 2 (.const (.int .i64 0)))] [])
 (.seq (.region [.op 0 (.mov 4 (.tmp 0)),
 .op 1 (.minmax 5 false [.tmp 4, .const (.int .i64 1048576)]),
 .op 2 (.minmax 6 true [.const (.int .i64 0), .tmp 5]),
 .op 3 (.mov 3 (.tmp 6))] [])
 (.seq (.region [.op 0 (.mov 7 (.tmp 3)),
 .op 1 (.bin 8 .mul .plain (.tmp 7) (.const (.int .i64 6))),
 .op 2 (.bin 9 .mul .plain (.tmp 8) (.const (.int .i64 85))),
 .op 3 (.bin 10 .quo .plain (.tmp 9) (.const (.int .i64 100))),
 .op 4 (.mov 2 (.tmp 10))] [])
 .ret))),
 [.tmp 2]⟩
theorem ok7 : funcOk Try.prog (drawOk Try.prog) Try.f7 A7 = true := by kernel_rfl
noncomputable def S7 (call : Go.Fw.Call) (a0 : AVal) (h : Heap) : Option J :=
 (aMinMaxL false [a0, (.int .i64 1048576)]).bind fun v1 =>
 (aMinMaxL true [(.int .i64 0), v1]).bind fun v2 =>
 (aBin .mul .plain v2 (.int .i64 6)).bind fun v3 =>
 (aBin .mul .plain v3 (.int .i64 85)).bind fun v4 =>
 (aBin .quo .plain v4 (.int .i64 100)).bind fun v5 =>
 some (0, [v5], h)
theorem run7 (call : Go.Fw.Call) (a0 : AVal) (h : Heap) : runFn call (.code A7) [a0] h = (S7 call a0 h).bind ansOf := by kernel_rfl

/-- frankpledge/frankpledgeref9.Need -/
noncomputable def A8 : AFunc := ⟨1, (.seq (.region [.op 0 (.mov 2 (.const (.int .i64 0)))] [])
 (.seq (.region [.op 0 (.mov 4 (.tmp 0)),
 .op 1 (.minmax 5 false [.tmp 4, .const (.int .i64 1048576)]),
 .op 2 (.minmax 6 true [.tmp 5, .const (.int .i64 0)]),
 .op 3 (.mov 3 (.tmp 6))] [])
 (.seq (.region [.op 0 (.mov 7 (.tmp 3)),
 .op 1 (.bin 8 .mul .plain (.tmp 7) (.const (.int .i64 6))),
 .op 2 (.bin 9 .mul .plain (.tmp 8) (.const (.int .i64 85))),
 .op 3 (.bin 10 .quo .plain (.tmp 9) (.const (.int .i64 100))),
 .op 4 (.mov 2 (.tmp 10))] [])
 .ret))),
 [.tmp 2]⟩
theorem ok8 : funcOk Try.prog (drawOk Try.prog) Try.f8 A8 = true := by kernel_rfl
noncomputable def S8 (call : Go.Fw.Call) (a0 : AVal) (h : Heap) : Option J :=
 (aMinMaxL false [a0, (.int .i64 1048576)]).bind fun v1 =>
 (aMinMaxL true [v1, (.int .i64 0)]).bind fun v2 =>
 (aBin .mul .plain v2 (.int .i64 6)).bind fun v3 =>
 (aBin .mul .plain v3 (.int .i64 85)).bind fun v4 =>
 (aBin .quo .plain v4 (.int .i64 100)).bind fun v5 =>
 some (0, [v5], h)
theorem run8 (call : Go.Fw.Call) (a0 : AVal) (h : Heap) : runFn call (.code A8) [a0] h = (S8 call a0 h).bind ansOf := by kernel_rfl

/-- frankpledge/frankpledgelaw11.play -/
noncomputable def A9 : AFunc := ⟨3, (.seq (.region [.op 0 (.mov 6 (.const (.bool false)))] [])
 (.seq (.region [.op 0 (.mov 11 (.tmp 0)),
 .op 1 (.call 12 10 [.tmp 11]),
 .op 2 (.mov 13 (.tmp 0)),
 .op 3 (.build 14 [.int .i64 0, .int .i64 0, .int .i64 0] [(0, 1, .tmp 13)]),
 .op 4 (.box 15 false (.tmp 14)),
 .op 5 (.mov 7 (.tmp 12)),
 .op 6 (.mov 8 (.tmp 15))] [])
 (.seq (.seq (.region [.op 0 (.mov 9 (.const (.int .i64 0)))] [])
 (.block 0 (.loop ⟨[1, 2, 7, 8, 9], []⟩ [((.exit 0), ⟨[7], []⟩), (.ret, ⟨[6], []⟩)]
 (.seq (.seq (.region [.op 0 (.mov 16 (.tmp 9)),
 .op 1 (.mov 17 (.tmp 1)),
 .op 2 (.len 18 false (.tmp 17)),
 .op 3 (.bin 19 .lss .plain (.tmp 16) (.tmp 18)),
 .op 4 (.mov 20 (.tmp 19)),
 .guard 20 true [.op 5 (.mov 21 (.tmp 9)),
 .op 6 (.mov 22 (.tmp 2)),
 .op 7 (.len 23 false (.tmp 22)),
 .op 8 (.bin 24 .lss .plain (.tmp 21) (.tmp 23))] [] [24],
 .op 9 (.pick 25 (.tmp 20) (.tmp 24) (.const (.bool false))),
 .op 10 (.mov 26 (.tmp 25)),
 .guard 26 true [.op 11 (.mov 27 (.tmp 9)),
 .op 12 (.bin 28 .lss .plain (.tmp 27) (.const (.int .i64 80)))] [] [28],
 .op 13 (.pick 29 (.tmp 26) (.tmp 28) (.const (.bool false)))] [])
 (.cond (.tmp 29)
 .skip
 (.exit 0)))
 (.seq (.block 1 (.seq (.seq (.region [.op 0 (.mov 32 (.tmp 7)),
 .op 1 (.bin 33 .eql .ptr (.tmp 32) (.const (.nilPtr)))] [])
 (.cond (.tmp 33)
 (.seq (.region [.op 0 (.mov 6 (.const (.bool false)))] [])
 .ret)
 .skip))
 (.seq (.seq (.region [.op 0 (.mov 34 (.tmp 1)),
 .op 1 (.mov 35 (.tmp 9)),
 .op 2 (.iaddr 36 none 1 (.tmp 34) (.tmp 35)),
 .op 3 (.load 37 false 1 (.tmp 36)),
 .op 4 (.call 38 14 [.tmp 37, .const (.int .i64 0), .const (.int .i64 4)]),
 .op 5 (.bin 39 .eql .plain (.tmp 38) (.const (.int .i64 4)))] [])
 (.join [(.normal, ⟨[1, 2, 7, 8, 9], []⟩)] (.cond (.tmp 39)
 (.seq (.region [.op 0 (.mov 40 (.tmp 7)),
 .op 1 (.mov 41 (.tmp 2)),
 .op 2 (.mov 42 (.tmp 9)),
 .op 3 (.iaddr 43 none 1 (.tmp 41) (.tmp 42)),
 .op 4 (.load 44 false 1 (.tmp 43)),
 .op 5 (.call 45 15 [.tmp 40, .tmp 44])] [])
 (.region [.op 0 (.mov 46 (.tmp 8)),
 .op 1 (.mov 47 (.tmp 2)),
 .op 2 (.mov 48 (.tmp 9)),
 .op 3 (.iaddr 49 none 1 (.tmp 47) (.tmp 48)),
 .op 4 (.load 50 false 1 (.tmp 49)),
 .op 5 (.call 51 18 [.tmp 46, .tmp 50])] []))
 (.seq (.region [.op 0 (.mov 52 (.tmp 7)),
 .op 1 (.call 53 11 [.tmp 52])] [])
 (.region [.op 0 (.mov 54 (.tmp 8)),
 .op 1 (.call 55 19 [.tmp 54])] [])))))
 (.seq (.region [.op 0 (.mov 56 (.tmp 2)),
 .op 1 (.mov 57 (.tmp 9)),
 .op 2 (.iaddr 58 none 1 (.tmp 56) (.tmp 57)),
 .op 3 (.load 59 false 1 (.tmp 58)),
 .op 4 (.mov 10 (.tmp 59))] [])
 (.seq (.region [.op 0 (.mov 60 (.tmp 7)),
 .op 1 (.call 61 17 [.tmp 60]),
 .op 2 (.mov 62 (.tmp 8)),
 .op 3 (.nilchk 63 (.tmp 62)),
 .op 4 (.faddr 64 1 (.tmp 63)),
 .op 5 (.load 65 false 1 (.tmp 64)),
 .op 6 (.bin 66 .neq .plain (.tmp 61) (.tmp 65)),
 .op 7 (.mov 67 (.tmp 66)),
 .guard 67 false [.op 8 (.mov 68 (.tmp 7)),
 .op 9 (.call 69 12 [.tmp 68]),
 .op 10 (.mov 70 (.tmp 8)),
 .op 11 (.nilchk 71 (.tmp 70)),
 .op 12 (.faddr 72 2 (.tmp 71)),
 .op 13 (.load 73 false 1 (.tmp 72)),
 .op 14 (.bin 74 .neq .plain (.tmp 69) (.tmp 73))] [(13, 9)] [74],
 .op 15 (.pick 75 (.tmp 67) (.const (.bool true)) (.tmp 74)),
 .op 16 (.mov 76 (.tmp 75)),
 .guard 76 false [.op 17 (.mov 77 (.tmp 7)),
 .op 18 (.mov 78 (.tmp 10)),
 .op 19 (.call 79 16 [.tmp 77, .tmp 78]),
 .op 20 (.mov 80 (.tmp 8)),
 .op 21 (.nilchk 81 (.tmp 80)),
 .op 22 (.faddr 82 1 (.tmp 81)),
 .op 23 (.load 83 false 1 (.tmp 82)),
 .op 24 (.mov 84 (.tmp 10)),
 .op 25 (.call 85 8 [.tmp 84]),
 .op 26 (.bin 86 .lss .plain (.tmp 83) (.tmp 85)),
 .op 27 (.bin 87 .neq .bool (.tmp 79) (.tmp 86))] [(23, 19), (23, 25)] [87],
 .op 28 (.pick 88 (.tmp 76) (.const (.bool true)) (.tmp 87)),
 .op 29 (.mov 89 (.tmp 88)),
 .guard 89 false [.op 30 (.mov 90 (.tmp 10)),
 .op 31 (.call 91 7 [.tmp 90]),
 .op 32 (.mov 92 (.tmp 10)),
 .op 33 (.call 93 8 [.tmp 92]),
 .op 34 (.bin 94 .neq .plain (.tmp 91) (.tmp 93))] [] [94],
 .op 35 (.pick 95 (.tmp 89) (.const (.bool true)) (.tmp 94))] [(5, 1)])
 (.cond (.tmp 95)
 (.seq (.region [.op 0 (.mov 6 (.const (.bool false)))] [])
 .ret)
 .skip))))))
 (.region [.op 0 (.mov 30 (.tmp 9)),
 .op 1 (.bin 31 .add .plain (.tmp 30) (.const (.int .i64 1))),
 .op 2 (.mov 9 (.tmp 31))] []))))))
 (.seq (.region [.op 0 (.mov 96 (.tmp 7)),
 .op 1 (.bin 97 .neq .ptr (.tmp 96) (.const (.nilPtr))),
 .op 2 (.mov 6 (.tmp 97))] [])
 .ret)))),
 [.tmp 6]⟩
theorem ok9 : funcOk Try.prog (drawOk Try.prog) Try.f9 A9 = true := by kernel_rfl
/-- xs: t1, t2, t7, t8, t9 -/
noncomputable def L9_0 (call : Go.Fw.Call) (xs : List AVal) (h : Heap) : Option J :=
 (aLen false (xs.getD 0 .undef)).bind fun v5 =>
 (aBin .lss .plain (xs.getD 4 .undef) v5).bind fun v6 =>
 (guardV v6 true
 ((aLen false (xs.getD 1 .undef)).bind fun v7 =>
 (aBin .lss .plain (xs.getD 4 .undef) v7).bind fun v8 =>
 some (0, [v8], h))
 (some (0, [skipV], h))).bind fun g9 =>
 (aPick v6 (g9.2.1.getD 0 .undef) (.bool false)).bind fun v10 =>
 (guardV v10 true
 ((aBin .lss .plain (xs.getD 4 .undef) (.int .i64 80)).bind fun v11 =>
 some (0, [v11], g9.2.2))
 (some (0, [skipV], g9.2.2))).bind fun g12 =>
 (aPick v10 (g12.2.1.getD 0 .undef) (.bool false)).bind fun v13 =>
 condV v13
 ((aBin .eql .ptr (xs.getD 2 .undef) (.nilPtr)).bind fun v14 =>
 condV v14
 (some (2, [(.bool false)], g12.2.2))
 ((aIaddr 1 (xs.getD 0 .undef) (xs.getD 4 .undef)).bind fun v15 =>
 (aLoad g12.2.2 1 v15).bind fun c16 =>
 (fromCells false c16).bind fun v17 =>
 (call 14 [v17, (.int .i64 0), (.int .i64 4)] g12.2.2).bind fun r18 =>
 (aBin .eql .plain r18.1 (.int .i64 4)).bind fun v19 =>
 (condV v19
 ((aIaddr 1 (xs.getD 1 .undef) (xs.getD 4 .undef)).bind fun v20 =>
 (aLoad r18.2 1 v20).bind fun c21 =>
 (fromCells false c21).bind fun v22 =>
 (call 15 [(xs.getD 2 .undef), v22] r18.2).bind fun r23 =>
 (aIaddr 1 (xs.getD 1 .undef) (xs.getD 4 .undef)).bind fun v24 =>
 (aLoad r23.2 1 v24).bind fun c25 =>
 (fromCells false c25).bind fun v26 =>
 (call 18 [(xs.getD 3 .undef), v26] r23.2).bind fun r27 =>
 some (0, [(xs.getD 0 .undef), (xs.getD 1 .undef), (xs.getD 2 .undef), (xs.getD 3 .undef), (xs.getD 4 .undef)], r27.2))
 ((call 11 [(xs.getD 2 .undef)] r18.2).bind fun r28 =>
 (call 19 [(xs.getD 3 .undef)] r28.2).bind fun r29 =>
 some (0, [(xs.getD 0 .undef), (xs.getD 1 .undef), (xs.getD 2 .undef), (xs.getD 3 .undef), (xs.getD 4 .undef)], r29.2))).bind fun x30 =>
 bif Nat.beq x30.1 0 then (aIaddr 1 (x30.2.1.getD 1 .undef) (x30.2.1.getD 4 .undef)).bind fun v31 =>
 (aLoad x30.2.2 1 v31).bind fun c32 =>
 (fromCells false c32).bind fun v33 =>
 (call 17 [(x30.2.1.getD 2 .undef)] x30.2.2).bind fun r34 =>
 (aNilchk (x30.2.1.getD 3 .undef)).bind fun v35 =>
 (aFaddr 1 v35).bind fun v36 =>
 (aLoad r34.2 1 v36).bind fun c37 =>
 (fromCells false c37).bind fun v38 =>
 (aBin .neq .plain r34.1 v38).bind fun v39 =>
 (guardV v39 false
 ((call 12 [(x30.2.1.getD 2 .undef)] r34.2).bind fun r40 =>
 (aNilchk (x30.2.1.getD 3 .undef)).bind fun v41 =>
 (aFaddr 2 v41).bind fun v42 =>
 (aLoad r40.2 1 v42).bind fun c43 =>
 (fromCells false c43).bind fun v44 =>
 (aBin .neq .plain r40.1 v44).bind fun v45 =>
 bif checkPairs [(13, logRd v42 1), (9, some (.ef [] r34.2 [] r40.2))] [(13, 9)] then some (0, [v45], r40.2) else none)
 (some (0, [skipV], r34.2))).bind fun g46 =>
 (aPick v39 (.bool true) (g46.2.1.getD 0 .undef)).bind fun v47 =>
 (guardV v47 false
 ((call 16 [(x30.2.1.getD 2 .undef), v33] g46.2.2).bind fun r48 =>
 (aNilchk (x30.2.1.getD 3 .undef)).bind fun v49 =>
 (aFaddr 1 v49).bind fun v50 =>
 (aLoad r48.2 1 v50).bind fun c51 =>
 (fromCells false c51).bind fun v52 =>
 (call 8 [v33] r48.2).bind fun r53 =>
 (aBin .lss .plain v52 r53.1).bind fun v54 =>
 (aBin .neq .bool r48.1 v54).bind fun v55 =>
 bif checkPairs [(25, some (.ef [] r48.2 [] r53.2)), (23, logRd v50 1), (19, some (.ef [] g46.2.2 [] r48.2))] [(23, 19), (23, 25)] then some (0, [v55], r53.2) else none)
 (some (0, [skipV], g46.2.2))).bind fun g56 =>
 (aPick v47 (.bool true) (g56.2.1.getD 0 .undef)).bind fun v57 =>
 (guardV v57 false
 ((call 7 [v33] g56.2.2).bind fun r58 =>
 (call 8 [v33] r58.2).bind fun r59 =>
 (aBin .neq .plain r58.1 r59.1).bind fun v60 =>
 some (0, [v60], r59.2))
 (some (0, [skipV], g56.2.2))).bind fun g61 =>
 (aPick v57 (.bool true) (g61.2.1.getD 0 .undef)).bind fun v62 =>
 bif checkPairs [(5, logRd v36 1), (1, some (.ef [] x30.2.2 [] r34.2))] [(5, 1)] then condV v62
 (some (2, [(.bool false)], g61.2.2))
 ((aBin .add .plain (x30.2.1.getD 4 .undef) (.int .i64 1)).bind fun v63 =>
 some (0, [(x30.2.1.getD 0 .undef), (x30.2.1.getD 1 .undef), (x30.2.1.getD 2 .undef), (x30.2.1.getD 3 .undef), v63], g61.2.2)) else none else
 none))
 (some (1, [(xs.getD 2 .undef)], g12.2.2))
noncomputable def S9 (call : Go.Fw.Call) (a0 a1 a2 : AVal) (h : Heap) : Option J :=
 (call 10 [a0] h).bind fun r1 =>
 (aFill [.int .i64 0, .int .i64 0, .int .i64 0] [(0, 1, a0)]).bind fun c2 =>
 (AVal.cells? (.agg c2)).bind fun c3 =>
 (loop (L9_0 call) [a1, a2, r1.1, (.ptr r1.2.next 0), (.int .i64 0)] (r1.2.alloc c3)).bind fun x64 =>
 bif Nat.beq x64.1 1 then (aBin .neq .ptr (x64.2.1.getD 0 .undef) (.nilPtr)).bind fun v65 =>
 some (0, [v65], x64.2.2) else
 bif Nat.beq x64.1 2 then some (0, [(x64.2.1.getD 0 .undef)], x64.2.2) else
 none
theorem run9 (call : Go.Fw.Call) (a0 a1 a2 : AVal) (h : Heap) : runFn call (.code A9) [a0, a1, a2] h = (S9 call a0 a1 a2 h).bind ansOf := by kernel_rfl

/-- frankpledge/guard.New -/
noncomputable def A10 : AFunc := ⟨1, (.seq (.region [.op 0 (.mov 2 (.const (.nilPtr)))] [])
 (.seq (.region [.op 0 (.mov 3 (.tmp 0)),
 .op 1 (.build 4 [.int .i64 0, .int .i64 0, .int .i64 0] [(0, 1, .tmp 3)]),
 .op 2 (.box 5 false (.tmp 4)),
 .op 3 (.mov 2 (.tmp 5))] [])
 .ret)),
 [.tmp 2]⟩
theorem ok10 : funcOk Try.prog (drawOk Try.prog) Try.f10 A10 = true := by kernel_rfl
noncomputable def S10 (call : Go.Fw.Call) (a0 : AVal) (h : Heap) : Option J :=
 (aFill [.int .i64 0, .int .i64 0, .int .i64 0] [(0, 1, a0)]).bind fun c1 =>
 (AVal.cells? (.agg c1)).bind fun c2 =>
 some (0, [(.ptr h.next 0)], (h.alloc c2))
theorem run10 (call : Go.Fw.Call) (a0 : AVal) (h : Heap) : runFn call (.code A10) [a0] h = (S10 call a0 h).bind ansOf := by kernel_rfl

/-- (*frankpledge/guard.Guard).Renew -/
noncomputable def A11 : AFunc := ⟨1, (.region [.op 0 (.mov 2 (.tmp 0)),
 .op 1 (.mov 3 (.tmp 0)),
 .op 2 (.nilchk 4 (.tmp 3)),
 .op 3 (.faddr 5 2 (.tmp 4)),
 .op 4 (.load 6 false 1 (.tmp 5)),
 .op 5 (.bin 7 .add .plain (.tmp 6) (.const (.int .i64 1))),
 .op 6 (.minmax 8 false [.tmp 7, .const (.int .i64 1048576)]),
 .op 7 (.nilchk 9 (.tmp 2)),
 .op 8 (.faddr 10 2 (.tmp 9)),
 .op 9 (.store false 1 (.tmp 10) (.tmp 8))] []),
 []⟩
theorem ok11 : funcOk Try.prog (drawOk Try.prog) Try.f11 A11 = true := by kernel_rfl
noncomputable def S11 (call : Go.Fw.Call) (a0 : AVal) (h : Heap) : Option J :=
 (aNilchk a0).bind fun v1 =>
 (aFaddr 2 v1).bind fun v2 =>
 (aLoad h 1 v2).bind fun c3 =>
 (fromCells false c3).bind fun v4 =>
 (aBin .add .plain v4 (.int .i64 1)).bind fun v5 =>
 (aMinMaxL false [v5, (.int .i64 1048576)]).bind fun v6 =>
 (aNilchk a0).bind fun v7 =>
 (aFaddr 2 v7).bind fun v8 =>
 (aCells 1 v6).bind fun c9 =>
 (aStore h v8 c9).bind fun h10 =>
 some (0, [.tuple []], h10)
theorem run11 (call : Go.Fw.Call) (a0 : AVal) (h : Heap) : runFn call (.code A11) [a0] h = (S11 call a0 h).bind ansOf := by kernel_rfl

/-- (*frankpledge/guard.Guard).This -/
noncomputable def A12 : AFunc := ⟨1, (.seq (.region [.op 0 (.mov 2 (.const (.int .i64 0)))] [])
 (.seq (.region [.op 0 (.mov 3 (.tmp 0)),
 .op 1 (.nilchk 4 (.tmp 3)),
 .op 2 (.faddr 5 2 (.tmp 4)),
 .op 3 (.load 6 false 1 (.tmp 5)),
 .op 4 (.mov 2 (.tmp 6))] [])
 .ret)),
 [.tmp 2]⟩
theorem ok12 : funcOk Try.prog (drawOk Try.prog) Try.f12 A12 = true := by kernel_rfl
noncomputable def S12 (call : Go.Fw.Call) (a0 : AVal) (h : Heap) : Option J :=
 (aNilchk a0).bind fun v1 =>
 (aFaddr 2 v1).bind fun v2 =>
 (aLoad h 1 v2).bind fun c3 =>
 (fromCells false c3).bind fun v4 =>
 some (0, [v4], h)
theorem run12 (call : Go.Fw.Call) (a0 : AVal) (h : Heap) : runFn call (.code A12) [a0] h = (S12 call a0 h).bind ansOf := by kernel_rfl

/-- frankpledge/frankpledgelaw11.known -/
noncomputable def A13 : AFunc := ⟨0, (.seq (.region [.op 0 (.mov 0 (.const (.bool false)))] [])
 (.seq (.region [.op 0 (.call 6 10 [.const (.int .i64 0)]),
 .op 1 (.mov 1 (.tmp 6))] [])
 (.seq (.seq (.region [.op 0 (.mov 7 (.tmp 1)),
 .op 1 (.bin 8 .eql .ptr (.tmp 7) (.const (.nilPtr)))] [])
 (.cond (.tmp 8)
 (.seq (.region [.op 0 (.mov 0 (.const (.bool false)))] [])
 .ret)
 .skip))
 (.seq (.region [.op 0 (.mov 9 (.tmp 1)),
 .op 1 (.call 10 16 [.tmp 9, .const (.int .i64 1)]),
 .op 2 (.mov 2 (.tmp 10))] [])
 (.seq (.seq (.region [.op 0 (.mov 3 (.const (.int .i64 0)))] [])
 (.block 0 (.loop ⟨[1, 2, 3], []⟩ [((.exit 0), ⟨[1, 2], []⟩)]
 (.seq (.seq (.region [.op 0 (.mov 11 (.tmp 3)),
 .op 1 (.bin 12 .lss .plain (.tmp 11) (.const (.int .i64 10)))] [])
 (.cond (.tmp 12)
 .skip
 (.exit 0)))
 (.seq (.block 1 (.region [.op 0 (.mov 15 (.tmp 1)),
 .op 1 (.call 16 11 [.tmp 15])] []))
 (.region [.op 0 (.mov 13 (.tmp 3)),
 .op 1 (.bin 14 .add .plain (.tmp 13) (.const (.int .i64 1))),
 .op 2 (.mov 3 (.tmp 14))] []))))))
 (.seq (.region [.op 0 (.mov 17 (.tmp 1)),
 .op 1 (.call 18 12 [.tmp 17]),
 .op 2 (.mov 4 (.tmp 18))] [])
 (.seq (.region [.op 0 (.mov 19 (.tmp 1)),
 .op 1 (.call 20 15 [.tmp 19, .const (.int .i64 59)])] [])
 (.seq (.region [.op 0 (.mov 21 (.tmp 1)),
 .op 1 (.call 22 17 [.tmp 21]),
 .op 2 (.mov 5 (.tmp 22))] [])
 (.seq (.region [.op 0 (.mov 23 (.tmp 1)),
 .op 1 (.call 24 15 [.tmp 23, .const (.int .i64 60)])] [])
 (.seq (.region [.op 0 (.call 25 7 [.const (.int .i64 2)]),
 .op 1 (.bin 26 .eql .plain (.tmp 25) (.const (.int .i64 10))),
 .op 2 (.mov 27 (.tmp 26)),
 .guard 27 true [.op 3 (.mov 28 (.tmp 2))] [] [28],
 .op 4 (.pick 29 (.tmp 27) (.tmp 28) (.const (.bool false))),
 .op 5 (.mov 30 (.tmp 29)),
 .guard 30 true [.op 6 (.mov 31 (.tmp 4)),
 .op 7 (.bin 32 .eql .plain (.tmp 31) (.const (.int .i64 10)))] [] [32],
 .op 8 (.pick 33 (.tmp 30) (.tmp 32) (.const (.bool false))),
 .op 9 (.mov 34 (.tmp 33)),
 .guard 34 true [.op 10 (.mov 35 (.tmp 5)),
 .op 11 (.bin 36 .eql .plain (.tmp 35) (.const (.int .i64 0)))] [] [36],
 .op 12 (.pick 37 (.tmp 34) (.tmp 36) (.const (.bool false))),
 .op 13 (.mov 38 (.tmp 37)),
 .guard 38 true [.op 14 (.mov 39 (.tmp 1)),
 .op 15 (.call 40 17 [.tmp 39]),
 .op 16 (.bin 41 .eql .plain (.tmp 40) (.const (.int .i64 10)))] [] [41],
 .op 17 (.pick 42 (.tmp 38) (.tmp 41) (.const (.bool false))),
 .op 18 (.mov 43 (.tmp 42)),
 .guard 43 true [.op 19 (.mov 44 (.tmp 1)),
 .op 20 (.call 45 12 [.tmp 44]),
 .op 21 (.bin 46 .eql .plain (.tmp 45) (.const (.int .i64 0)))] [] [46],
 .op 22 (.pick 47 (.tmp 43) (.tmp 46) (.const (.bool false))),
 .op 23 (.mov 48 (.tmp 47)),
 .guard 48 true [.op 24 (.mov 49 (.tmp 1)),
 .op 25 (.call 50 16 [.tmp 49, .const (.int .i64 2)]),
 .op 26 (.un 51 .not (.tmp 50))] [] [51],
 .op 27 (.pick 52 (.tmp 48) (.tmp 51) (.const (.bool false))),
 .op 28 (.mov 53 (.tmp 52)),
 .guard 53 true [.op 29 (.mov 54 (.tmp 1)),
 .op 30 (.call 55 16 [.tmp 54, .const (.int .i64 3)])] [] [55],
 .op 31 (.pick 56 (.tmp 53) (.tmp 55) (.const (.bool false))),
 .op 32 (.mov 57 (.tmp 56)),
 .guard 57 true [.op 33 (.mov 58 (.tmp 1)),
 .op 34 (.call 59 16 [.tmp 58, .const (.int .i64 0)]),
 .op 35 (.un 60 .not (.tmp 59))] [] [60],
 .op 36 (.pick 61 (.tmp 57) (.tmp 60) (.const (.bool false))),
 .op 37 (.mov 62 (.tmp 61)),
 .guard 62 true [.op 38 (.mov 63 (.tmp 1)),
 .op 39 (.call 64 16 [.tmp 63, .const (.int .i64 (-5))]),
 .op 40 (.un 65 .not (.tmp 64))] [] [65],
 .op 41 (.pick 66 (.tmp 62) (.tmp 65) (.const (.bool false))),
 .op 42 (.mov 0 (.tmp 66))] [])
 .ret)))))))))),
 [.tmp 0]⟩
theorem ok13 : funcOk Try.prog (drawOk Try.prog) Try.f13 A13 = true := by kernel_rfl
/-- xs: t1, t2, t3 -/
noncomputable def L13_0 (call : Go.Fw.Call) (xs : List AVal) (h : Heap) : Option J :=
 (aBin .lss .plain (xs.getD 2 .undef) (.int .i64 10)).bind fun v4 =>
 condV v4
 ((call 11 [(xs.getD 0 .undef)] h).bind fun r5 =>
 (aBin .add .plain (xs.getD 2 .undef) (.int .i64 1)).bind fun v6 =>
 some (0, [(xs.getD 0 .undef), (xs.getD 1 .undef), v6], r5.2))
 (some (1, [(xs.getD 0 .undef), (xs.getD 1 .undef)], h))
noncomputable def S13 (call : Go.Fw.Call) (h : Heap) : Option J :=
 (call 10 [(.int .i64 0)] h).bind fun r1 =>
 (aBin .eql .ptr r1.1 (.nilPtr)).bind fun v2 =>
 condV v2
 (some (0, [(.bool false)], r1.2))
 ((call 16 [r1.1, (.int .i64 1)] r1.2).bind fun r3 =>
 (loop (L13_0 call) [r1.1, r3.1, (.int .i64 0)] r3.2).bind fun x7 =>
 bif Nat.beq x7.1 1 then (call 12 [(x7.2.1.getD 0 .undef)] x7.2.2).bind fun r8 =>
 (call 15 [(x7.2.1.getD 0 .undef), (.int .i64 59)] r8.2).bind fun r9 =>
 (call 17 [(x7.2.1.getD 0 .undef)] r9.2).bind fun r10 =>
 (call 15 [(x7.2.1.getD 0 .undef), (.int .i64 60)] r10.2).bind fun r11 =>
 (call 7 [(.int .i64 2)] r11.2).bind fun r12 =>
 (aBin .eql .plain r12.1 (.int .i64 10)).bind fun v13 =>
 (guardV v13 true
 (some (0, [(x7.2.1.getD 1 .undef)], r12.2))
 (some (0, [skipV], r12.2))).bind fun g14 =>
 (aPick v13 (g14.2.1.getD 0 .undef) (.bool false)).bind fun v15 =>
 (guardV v15 true
 ((aBin .eql .plain r8.1 (.int .i64 10)).bind fun v16 =>
 some (0, [v16], g14.2.2))
 (some (0, [skipV], g14.2.2))).bind fun g17 =>
 (aPick v15 (g17.2.1.getD 0 .undef) (.bool false)).bind fun v18 =>
 (guardV v18 true
 ((aBin .eql .plain r10.1 (.int .i64 0)).bind fun v19 =>
 some (0, [v19], g17.2.2))
 (some (0, [skipV], g17.2.2))).bind fun g20 =>
 (aPick v18 (g20.2.1.getD 0 .undef) (.bool false)).bind fun v21 =>
 (guardV v21 true
 ((call 17 [(x7.2.1.getD 0 .undef)] g20.2.2).bind fun r22 =>
 (aBin .eql .plain r22.1 (.int .i64 10)).bind fun v23 =>
 some (0, [v23], r22.2))
 (some (0, [skipV], g20.2.2))).bind fun g24 =>
 (aPick v21 (g24.2.1.getD 0 .undef) (.bool false)).bind fun v25 =>
 (guardV v25 true
 ((call 12 [(x7.2.1.getD 0 .undef)] g24.2.2).bind fun r26 =>
 (aBin .eql .plain r26.1 (.int .i64 0)).bind fun v27 =>
 some (0, [v27], r26.2))
 (some (0, [skipV], g24.2.2))).bind fun g28 =>
 (aPick v25 (g28.2.1.getD 0 .undef) (.bool false)).bind fun v29 =>
 (guardV v29 true
 ((call 16 [(x7.2.1.getD 0 .undef), (.int .i64 2)] g28.2.2).bind fun r30 =>
 (aUn .not r30.1).bind fun v31 =>
 some (0, [v31], r30.2))
 (some (0, [skipV], g28.2.2))).bind fun g32 =>
 (aPick v29 (g32.2.1.getD 0 .undef) (.bool false)).bind fun v33 =>
 (guardV v33 true
 ((call 16 [(x7.2.1.getD 0 .undef), (.int .i64 3)] g32.2.2).bind fun r34 =>
 some (0, [r34.1], r34.2))
 (some (0, [skipV], g32.2.2))).bind fun g35 =>
 (aPick v33 (g35.2.1.getD 0 .undef) (.bool false)).bind fun v36 =>
 (guardV v36 true
 ((call 16 [(x7.2.1.getD 0 .undef), (.int .i64 0)] g35.2.2).bind fun r37 =>
 (aUn .not r37.1).bind fun v38 =>
 some (0, [v38], r37.2))
 (some (0, [skipV], g35.2.2))).bind fun g39 =>
 (aPick v36 (g39.2.1.getD 0 .undef) (.bool false)).bind fun v40 =>
 (guardV v40 true
 ((call 16 [(x7.2.1.getD 0 .undef), (.int .i64 (-5))] g39.2.2).bind fun r41 =>
 (aUn .not r41.1).bind fun v42 =>
 some (0, [v42], r41.2))
 (some (0, [skipV], g39.2.2))).bind fun g43 =>
 (aPick v40 (g43.2.1.getD 0 .undef) (.bool false)).bind fun v44 =>
 some (0, [v44], g43.2.2) else
 none)
theorem run13 (call : Go.Fw.Call) (h : Heap) : runFn call (.code A13) [] h = (S13 call  h).bind ansOf := by kernel_rfl

/-- frankpledge/frankpledgebook.Within -/
noncomputable def A14 : AFunc := ⟨3, (.seq (.region [.op 0 (.mov 6 (.const (.int .i64 0)))] [])
 (.seq (.seq (.region [.op 0 (.mov 7 (.tmp 0)),
 .op 1 (.mov 8 (.tmp 1)),
 .op 2 (.bin 9 .geq .plain (.tmp 7) (.tmp 8)),
 .op 3 (.mov 10 (.tmp 9)),
 .guard 10 true [.op 4 (.mov 11 (.tmp 0)),
 .op 5 (.mov 12 (.tmp 2)),
 .op 6 (.bin 13 .leq .plain (.tmp 11) (.tmp 12))] [] [13],
 .op 7 (.pick 14 (.tmp 10) (.tmp 13) (.const (.bool false)))] [])
 (.cond (.tmp 14)
 (.seq (.region [.op 0 (.mov 15 (.tmp 0)),
 .op 1 (.mov 6 (.tmp 15))] [])
 .ret)
 .skip))
 (.seq (.region [.op 0 (.mov 16 (.tmp 0)),
 .op 1 (.mov 17 (.tmp 2)),
 .op 2 (.mov 18 (.tmp 1)),
 .op 3 (.bin 19 .sub .plain (.tmp 17) (.tmp 18)),
 .op 4 (.bin 20 .add .plain (.tmp 19) (.const (.int .i64 1))),
 .op 5 (.bin 21 .rem .plain (.tmp 16) (.tmp 20)),
 .op 6 (.mov 0 (.tmp 21))] [])
 (.seq (.seq (.region [.op 0 (.mov 22 (.tmp 0)),
 .op 1 (.bin 23 .lss .plain (.tmp 22) (.const (.int .i64 0)))] [])
 (.join [(.normal, ⟨[0, 1], []⟩)] (.cond (.tmp 23)
 (.region [.op 0 (.mov 24 (.tmp 0)),
 .op 1 (.mov 25 (.tmp 2)),
 .op 2 (.bin 26 .add .plain (.tmp 24) (.tmp 25)),
 .op 3 (.mov 27 (.tmp 1)),
 .op 4 (.bin 28 .sub .plain (.tmp 26) (.tmp 27)),
 .op 5 (.bin 29 .add .plain (.tmp 28) (.const (.int .i64 1))),
 .op 6 (.mov 0 (.tmp 29))] [])
 .skip)))
 (.seq (.region [.op 0 (.mov 30 (.tmp 1)),
 .op 1 (.mov 31 (.tmp 0)),
 .op 2 (.bin 32 .add .plain (.tmp 30) (.tmp 31)),
 .op 3 (.mov 6 (.tmp 32))] [])
 .ret))))),
 [.tmp 6]⟩
theorem ok14 : funcOk Try.prog (drawOk Try.prog) Try.f14 A14 = true := by kernel_rfl
noncomputable def S14 (call : Go.Fw.Call) (a0 a1 a2 : AVal) (h : Heap) : Option J :=
 (aBin .geq .plain a0 a1).bind fun v1 =>
 (guardV v1 true
 ((aBin .leq .plain a0 a2).bind fun v2 =>
 some (0, [v2], h))
 (some (0, [skipV], h))).bind fun g3 =>
 (aPick v1 (g3.2.1.getD 0 .undef) (.bool false)).bind fun v4 =>
 condV v4
 (some (0, [a0], g3.2.2))
 ((aBin .sub .plain a2 a1).bind fun v5 =>
 (aBin .add .plain v5 (.int .i64 1)).bind fun v6 =>
 (aBin .rem .plain a0 v6).bind fun v7 =>
 (aBin .lss .plain v7 (.int .i64 0)).bind fun v8 =>
 (condV v8
 ((aBin .add .plain v7 a2).bind fun v9 =>
 (aBin .sub .plain v9 a1).bind fun v10 =>
 (aBin .add .plain v10 (.int .i64 1)).bind fun v11 =>
 some (0, [v11, a1], g3.2.2))
 (some (0, [v7, a1], g3.2.2))).bind fun x12 =>
 bif Nat.beq x12.1 0 then (aBin .add .plain (x12.2.1.getD 1 .undef) (x12.2.1.getD 0 .undef)).bind fun v13 =>
 some (0, [v13], x12.2.2) else
 none)
theorem run14 (call : Go.Fw.Call) (a0 a1 a2 : AVal) (h : Heap) : runFn call (.code A14) [a0, a1, a2] h = (S14 call a0 a1 a2 h).bind ansOf := by kernel_rfl

/-- (*frankpledge/guard.Guard).Tick -/
noncomputable def A15 : AFunc := ⟨2, (.seq (.seq (.region [.op 0 (.mov 5 (.tmp 1)),
 .op 1 (.mov 6 (.tmp 0)),
 .op 2 (.nilchk 7 (.tmp 6)),
 .op 3 (.faddr 8 0 (.tmp 7)),
 .op 4 (.load 9 false 1 (.tmp 8)),
 .op 5 (.bin 10 .lss .plain (.tmp 5) (.tmp 9))] [])
 (.cond (.tmp 10)
 .ret
 .skip))
 (.seq (.region [.op 0 (.mov 11 (.tmp 1)),
 .op 1 (.conv 12 (.toInt .u64) (.tmp 11)),
 .op 2 (.mov 13 (.tmp 0)),
 .op 3 (.nilchk 14 (.tmp 13)),
 .op 4 (.faddr 15 0 (.tmp 14)),
 .op 5 (.load 16 false 1 (.tmp 15)),
 .op 6 (.conv 17 (.toInt .u64) (.tmp 16)),
 .op 7 (.bin 18 .sub .plain (.tmp 12) (.tmp 17)),
 .op 8 (.bin 19 .quo .plain (.tmp 18) (.const (.int .u64 60))),
 .op 9 (.mov 4 (.tmp 19))] [])
 (.seq (.seq (.region [.op 0 (.mov 20 (.tmp 4))] [])
 (.block 0 (.seq (.region [.op 0 (.bin 25 .eql .plain (.tmp 20) (.const (.int .u64 0))),
 .op 1 (.mov 24 (.tmp 25))] [])
 (.cond (.tmp 24)
 .ret
 (.seq (.region [.op 0 (.bin 27 .eql .plain (.tmp 20) (.const (.int .u64 1))),
 .op 1 (.mov 26 (.tmp 27))] [])
 (.join [(.normal, ⟨[0, 4], []⟩)] (.cond (.tmp 26)
 (.region [.op 0 (.mov 28 (.tmp 0)),
 .op 1 (.mov 29 (.tmp 0)),
 .op 2 (.nilchk 30 (.tmp 29)),
 .op 3 (.faddr 31 2 (.tmp 30)),
 .op 4 (.load 32 false 1 (.tmp 31)),
 .op 5 (.nilchk 33 (.tmp 28)),
 .op 6 (.faddr 34 1 (.tmp 33)),
 .op 7 (.store false 1 (.tmp 34) (.tmp 32))] [])
 (.region [.op 0 (.mov 21 (.tmp 0)),
 .op 1 (.nilchk 22 (.tmp 21)),
 .op 2 (.faddr 23 1 (.tmp 22)),
 .op 3 (.store false 1 (.tmp 23) (.const (.int .i64 0)))] []))))))))
 (.seq (.region [.op 0 (.mov 35 (.tmp 0)),
 .op 1 (.nilchk 36 (.tmp 35)),
 .op 2 (.faddr 37 2 (.tmp 36)),
 .op 3 (.store false 1 (.tmp 37) (.const (.int .i64 0)))] [])
 (.region [.op 0 (.mov 38 (.tmp 0)),
 .op 1 (.mov 39 (.tmp 0)),
 .op 2 (.nilchk 40 (.tmp 39)),
 .op 3 (.faddr 41 0 (.tmp 40)),
 .op 4 (.load 42 false 1 (.tmp 41)),
 .op 5 (.conv 43 (.toInt .u64) (.tmp 42)),
 .op 6 (.mov 44 (.tmp 4)),
 .op 7 (.bin 45 .mul .plain (.tmp 44) (.const (.int .u64 60))),
 .op 8 (.bin 46 .add .plain (.tmp 43) (.tmp 45)),
 .op 9 (.conv 47 (.toInt .i64) (.tmp 46)),
 .op 10 (.nilchk 48 (.tmp 38)),
 .op 11 (.faddr 49 0 (.tmp 48)),
 .op 12 (.store false 1 (.tmp 49) (.tmp 47))] []))))),
 []⟩
theorem ok15 : funcOk Try.prog (drawOk Try.prog) Try.f15 A15 = true := by kernel_rfl
noncomputable def S15 (call : Go.Fw.Call) (a0 a1 : AVal) (h : Heap) : Option J :=
 (aNilchk a0).bind fun v1 =>
 (aFaddr 0 v1).bind fun v2 =>
 (aLoad h 1 v2).bind fun c3 =>
 (fromCells false c3).bind fun v4 =>
 (aBin .lss .plain a1 v4).bind fun v5 =>
 condV v5
 (some (0, [.tuple []], h))
 ((aConv (.toInt .u64) a1 h).bind fun r6 =>
 (aNilchk a0).bind fun v7 =>
 (aFaddr 0 v7).bind fun v8 =>
 (aLoad r6.2 1 v8).bind fun c9 =>
 (fromCells false c9).bind fun v10 =>
 (aConv (.toInt .u64) v10 r6.2).bind fun r11 =>
 (aBin .sub .plain r6.1 r11.1).bind fun v12 =>
 (aBin .quo .plain v12 (.int .u64 60)).bind fun v13 =>
 (aBin .eql .plain v13 (.int .u64 0)).bind fun v14 =>
 condV v14
 (some (0, [.tuple []], r11.2))
 ((aBin .eql .plain v13 (.int .u64 1)).bind fun v15 =>
 (condV v15
 ((aNilchk a0).bind fun v16 =>
 (aFaddr 2 v16).bind fun v17 =>
 (aLoad r11.2 1 v17).bind fun c18 =>
 (fromCells false c18).bind fun v19 =>
 (aNilchk a0).bind fun v20 =>
 (aFaddr 1 v20).bind fun v21 =>
 (aCells 1 v19).bind fun c22 =>
 (aStore r11.2 v21 c22).bind fun h23 =>
 some (0, [a0, v13], h23))
 ((aNilchk a0).bind fun v24 =>
 (aFaddr 1 v24).bind fun v25 =>
 (aCells 1 (.int .i64 0)).bind fun c26 =>
 (aStore r11.2 v25 c26).bind fun h27 =>
 some (0, [a0, v13], h27))).bind fun x28 =>
 bif Nat.beq x28.1 0 then (aNilchk (x28.2.1.getD 0 .undef)).bind fun v29 =>
 (aFaddr 2 v29).bind fun v30 =>
 (aCells 1 (.int .i64 0)).bind fun c31 =>
 (aStore x28.2.2 v30 c31).bind fun h32 =>
 (aNilchk (x28.2.1.getD 0 .undef)).bind fun v33 =>
 (aFaddr 0 v33).bind fun v34 =>
 (aLoad h32 1 v34).bind fun c35 =>
 (fromCells false c35).bind fun v36 =>
 (aConv (.toInt .u64) v36 h32).bind fun r37 =>
 (aBin .mul .plain (x28.2.1.getD 1 .undef) (.int .u64 60)).bind fun v38 =>
 (aBin .add .plain r37.1 v38).bind fun v39 =>
 (aConv (.toInt .i64) v39 r37.2).bind fun r40 =>
 (aNilchk (x28.2.1.getD 0 .undef)).bind fun v41 =>
 (aFaddr 0 v41).bind fun v42 =>
 (aCells 1 r40.1).bind fun c43 =>
 (aStore r40.2 v42 c43).bind fun h44 =>
 some (0, [.tuple []], h44) else
 none))
theorem run15 (call : Go.Fw.Call) (a0 a1 : AVal) (h : Heap) : runFn call (.code A15) [a0, a1] h = (S15 call a0 a1 h).bind ansOf := by kernel_rfl

/-- (*frankpledge/guard.Guard).Protects -/
noncomputable def A16 : AFunc := ⟨2, (.seq (.region [.op 0 (.mov 4 (.const (.bool false)))] [])
 (.seq (.region [.op 0 (.mov 5 (.tmp 0)),
 .op 1 (.nilchk 6 (.tmp 5)),
 .op 2 (.faddr 7 1 (.tmp 6)),
 .op 3 (.load 8 false 1 (.tmp 7)),
 .op 4 (.mov 9 (.tmp 1)),
 .op 5 (.call 10 7 [.tmp 9]),
 .op 6 (.bin 11 .lss .plain (.tmp 8) (.tmp 10)),
 .op 7 (.mov 4 (.tmp 11))] [(3, 5)])
 .ret)),
 [.tmp 4]⟩
theorem ok16 : funcOk Try.prog (drawOk Try.prog) Try.f16 A16 = true := by kernel_rfl
noncomputable def S16 (call : Go.Fw.Call) (a0 a1 : AVal) (h : Heap) : Option J :=
 (aNilchk a0).bind fun v1 =>
 (aFaddr 1 v1).bind fun v2 =>
 (aLoad h 1 v2).bind fun c3 =>
 (fromCells false c3).bind fun v4 =>
 (call 7 [a1] h).bind fun r5 =>
 (aBin .lss .plain v4 r5.1).bind fun v6 =>
 bif checkPairs [(5, some (.ef [] h [] r5.2)), (3, logRd v2 1)] [(3, 5)] then some (0, [v6], r5.2) else none
theorem run16 (call : Go.Fw.Call) (a0 a1 : AVal) (h : Heap) : runFn call (.code A16) [a0, a1] h = (S16 call a0 a1 h).bind ansOf := by kernel_rfl

/-- (*frankpledge/guard.Guard).Last -/
noncomputable def A17 : AFunc := ⟨1, (.seq (.region [.op 0 (.mov 2 (.const (.int .i64 0)))] [])
 (.seq (.region [.op 0 (.mov 3 (.tmp 0)),
 .op 1 (.nilchk 4 (.tmp 3)),
 .op 2 (.faddr 5 1 (.tmp 4)),
 .op 3 (.load 6 false 1 (.tmp 5)),
 .op 4 (.mov 2 (.tmp 6))] [])
 .ret)),
 [.tmp 2]⟩
theorem ok17 : funcOk Try.prog (drawOk Try.prog) Try.f17 A17 = true := by kernel_rfl
noncomputable def S17 (call : Go.Fw.Call) (a0 : AVal) (h : Heap) : Option J :=
 (aNilchk a0).bind fun v1 =>
 (aFaddr 1 v1).bind fun v2 =>
 (aLoad h 1 v2).bind fun c3 =>
 (fromCells false c3).bind fun v4 =>
 some (0, [v4], h)
theorem run17 (call : Go.Fw.Call) (a0 : AVal) (h : Heap) : runFn call (.code A17) [a0] h = (S17 call a0 h).bind ansOf := by kernel_rfl

/-- (*frankpledge/frankpledgeref9.Guard).Tick -/
noncomputable def A18 : AFunc := ⟨2, (.seq (.seq (.region [.op 0 (.mov 5 (.tmp 1)),
 .op 1 (.mov 6 (.tmp 0)),
 .op 2 (.nilchk 7 (.tmp 6)),
 .op 3 (.faddr 8 0 (.tmp 7)),
 .op 4 (.load 9 false 1 (.tmp 8)),
 .op 5 (.bin 10 .lss .plain (.tmp 5) (.tmp 9)),
 .op 6 (.mov 11 (.tmp 10)),
 .guard 11 false [.op 7 (.mov 12 (.tmp 1)),
 .op 8 (.conv 13 (.toInt .u64) (.tmp 12)),
 .op 9 (.mov 14 (.tmp 0)),
 .op 10 (.nilchk 15 (.tmp 14)),
 .op 11 (.faddr 16 0 (.tmp 15)),
 .op 12 (.load 17 false 1 (.tmp 16)),
 .op 13 (.conv 18 (.toInt .u64) (.tmp 17)),
 .op 14 (.bin 19 .sub .plain (.tmp 13) (.tmp 18)),
 .op 15 (.bin 20 .lss .plain (.tmp 19) (.const (.int .u64 60)))] [] [20],
 .op 16 (.pick 21 (.tmp 11) (.const (.bool true)) (.tmp 20))] [])
 (.cond (.tmp 21)
 .ret
 .skip))
 (.seq (.region [.op 0 (.mov 22 (.tmp 1)),
 .op 1 (.conv 23 (.toInt .u64) (.tmp 22)),
 .op 2 (.mov 24 (.tmp 0)),
 .op 3 (.nilchk 25 (.tmp 24)),
 .op 4 (.faddr 26 0 (.tmp 25)),
 .op 5 (.load 27 false 1 (.tmp 26)),
 .op 6 (.conv 28 (.toInt .u64) (.tmp 27)),
 .op 7 (.bin 29 .sub .plain (.tmp 23) (.tmp 28)),
 .op 8 (.bin 30 .quo .plain (.tmp 29) (.const (.int .u64 60))),
 .op 9 (.mov 4 (.tmp 30))] [])
 (.seq (.region [.op 0 (.mov 31 (.tmp 0)),
 .op 1 (.mov 32 (.tmp 0)),
 .op 2 (.nilchk 33 (.tmp 32)),
 .op 3 (.faddr 34 2 (.tmp 33)),
 .op 4 (.load 35 false 1 (.tmp 34)),
 .op 5 (.nilchk 36 (.tmp 31)),
 .op 6 (.faddr 37 1 (.tmp 36)),
 .op 7 (.store false 1 (.tmp 37) (.tmp 35))] [])
 (.seq (.seq (.region [.op 0 (.mov 38 (.tmp 4)),
 .op 1 (.bin 39 .geq .plain (.tmp 38) (.const (.int .u64 2)))] [])
 (.join [(.normal, ⟨[0, 4], []⟩)] (.cond (.tmp 39)
 (.region [.op 0 (.mov 40 (.tmp 0)),
 .op 1 (.nilchk 41 (.tmp 40)),
 .op 2 (.faddr 42 1 (.tmp 41)),
 .op 3 (.store false 1 (.tmp 42) (.const (.int .i64 0)))] [])
 .skip)))
 (.seq (.region [.op 0 (.mov 43 (.tmp 0)),
 .op 1 (.nilchk 44 (.tmp 43)),
 .op 2 (.faddr 45 2 (.tmp 44)),
 .op 3 (.store false 1 (.tmp 45) (.const (.int .i64 0)))] [])
 (.region [.op 0 (.mov 46 (.tmp 0)),
 .op 1 (.mov 47 (.tmp 0)),
 .op 2 (.nilchk 48 (.tmp 47)),
 .op 3 (.faddr 49 0 (.tmp 48)),
 .op 4 (.load 50 false 1 (.tmp 49)),
 .op 5 (.mov 51 (.tmp 4)),
 .op 6 (.bin 52 .mul .plain (.tmp 51) (.const (.int .u64 60))),
 .op 7 (.conv 53 (.toInt .i64) (.tmp 52)),
 .op 8 (.bin 54 .add .plain (.tmp 50) (.tmp 53)),
 .op 9 (.nilchk 55 (.tmp 46)),
 .op 10 (.faddr 56 0 (.tmp 55)),
 .op 11 (.store false 1 (.tmp 56) (.tmp 54))] [])))))),
 []⟩
theorem ok18 : funcOk Try.prog (drawOk Try.prog) Try.f18 A18 = true := by kernel_rfl
noncomputable def S18 (call : Go.Fw.Call) (a0 a1 : AVal) (h : Heap) : Option J :=
 (aNilchk a0).bind fun v1 =>
 (aFaddr 0 v1).bind fun v2 =>
 (aLoad h 1 v2).bind fun c3 =>
 (fromCells false c3).bind fun v4 =>
 (aBin .lss .plain a1 v4).bind fun v5 =>
 (guardV v5 false
 ((aConv (.toInt .u64) a1 h).bind fun r6 =>
 (aNilchk a0).bind fun v7 =>
 (aFaddr 0 v7).bind fun v8 =>
 (aLoad r6.2 1 v8).bind fun c9 =>
 (fromCells false c9).bind fun v10 =>
 (aConv (.toInt .u64) v10 r6.2).bind fun r11 =>
 (aBin .sub .plain r6.1 r11.1).bind fun v12 =>
 (aBin .lss .plain v12 (.int .u64 60)).bind fun v13 =>
 some (0, [v13], r11.2))
 (some (0, [skipV], h))).bind fun g14 =>
 (aPick v5 (.bool true) (g14.2.1.getD 0 .undef)).bind fun v15 =>
 condV v15
 (some (0, [.tuple []], g14.2.2))
 ((aConv (.toInt .u64) a1 g14.2.2).bind fun r16 =>
 (aNilchk a0).bind fun v17 =>
 (aFaddr 0 v17).bind fun v18 =>
 (aLoad r16.2 1 v18).bind fun c19 =>
 (fromCells false c19).bind fun v20 =>
 (aConv (.toInt .u64) v20 r16.2).bind fun r21 =>
 (aBin .sub .plain r16.1 r21.1).bind fun v22 =>
 (aBin .quo .plain v22 (.int .u64 60)).bind fun v23 =>
 (aNilchk a0).bind fun v24 =>
 (aFaddr 2 v24).bind fun v25 =>
 (aLoad r21.2 1 v25).bind fun c26 =>
 (fromCells false c26).bind fun v27 =>
 (aNilchk a0).bind fun v28 =>
 (aFaddr 1 v28).bind fun v29 =>
 (aCells 1 v27).bind fun c30 =>
 (aStore r21.2 v29 c30).bind fun h31 =>
 (aBin .geq .plain v23 (.int .u64 2)).bind fun v32 =>
 (condV v32
 ((aNilchk a0).bind fun v33 =>
 (aFaddr 1 v33).bind fun v34 =>
 (aCells 1 (.int .i64 0)).bind fun c35 =>
 (aStore h31 v34 c35).bind fun h36 =>
 some (0, [a0, v23], h36))
 (some (0, [a0, v23], h31))).bind fun x37 =>
 bif Nat.beq x37.1 0 then (aNilchk (x37.2.1.getD 0 .undef)).bind fun v38 =>
 (aFaddr 2 v38).bind fun v39 =>
 (aCells 1 (.int .i64 0)).bind fun c40 =>
 (aStore x37.2.2 v39 c40).bind fun h41 =>
 (aNilchk (x37.2.1.getD 0 .undef)).bind fun v42 =>
 (aFaddr 0 v42).bind fun v43 =>
 (aLoad h41 1 v43).bind fun c44 =>
 (fromCells false c44).bind fun v45 =>
 (aBin .mul .plain (x37.2.1.getD 1 .undef) (.int .u64 60)).bind fun v46 =>
 (aConv (.toInt .i64) v46 h41).bind fun r47 =>
 (aBin .add .plain v45 r47.1).bind fun v48 =>
 (aNilchk (x37.2.1.getD 0 .undef)).bind fun v49 =>
 (aFaddr 0 v49).bind fun v50 =>
 (aCells 1 v48).bind fun c51 =>
 (aStore r47.2 v50 c51).bind fun h52 =>
 some (0, [.tuple []], h52) else
 none)
theorem run18 (call : Go.Fw.Call) (a0 a1 : AVal) (h : Heap) : runFn call (.code A18) [a0, a1] h = (S18 call a0 a1 h).bind ansOf := by kernel_rfl

/-- (*frankpledge/frankpledgeref9.Guard).Renew -/
noncomputable def A19 : AFunc := ⟨1, (.region [.op 0 (.mov 2 (.tmp 0)),
 .op 1 (.mov 3 (.tmp 0)),
 .op 2 (.nilchk 4 (.tmp 3)),
 .op 3 (.faddr 5 2 (.tmp 4)),
 .op 4 (.load 6 false 1 (.tmp 5)),
 .op 5 (.bin 7 .add .plain (.tmp 6) (.const (.int .i64 1))),
 .op 6 (.minmax 8 false [.tmp 7, .const (.int .i64 1048576)]),
 .op 7 (.nilchk 9 (.tmp 2)),
 .op 8 (.faddr 10 2 (.tmp 9)),
 .op 9 (.store false 1 (.tmp 10) (.tmp 8))] []),
 []⟩
theorem ok19 : funcOk Try.prog (drawOk Try.prog) Try.f19 A19 = true := by kernel_rfl
noncomputable def S19 (call : Go.Fw.Call) (a0 : AVal) (h : Heap) : Option J :=
 (aNilchk a0).bind fun v1 =>
 (aFaddr 2 v1).bind fun v2 =>
 (aLoad h 1 v2).bind fun c3 =>
 (fromCells false c3).bind fun v4 =>
 (aBin .add .plain v4 (.int .i64 1)).bind fun v5 =>
 (aMinMaxL false [v5, (.int .i64 1048576)]).bind fun v6 =>
 (aNilchk a0).bind fun v7 =>
 (aFaddr 2 v7).bind fun v8 =>
 (aCells 1 v6).bind fun c9 =>
 (aStore h v8 c9).bind fun h10 =>
 some (0, [.tuple []], h10)
theorem run19 (call : Go.Fw.Call) (a0 : AVal) (h : Heap) : runFn call (.code A19) [a0] h = (S19 call a0 h).bind ansOf := by kernel_rfl

noncomputable def tbl (f : Nat) : Option AFn :=
 match f with
 | 3 => some (.code A3)
 | 4 => some (.code A4)
 | 5 => some (.code A5)
 | 6 => some (.code A6)
 | 7 => some (.code A7)
 | 8 => some (.code A8)
 | 9 => some (.code A9)
 | 10 => some (.code A10)
 | 11 => some (.code A11)
 | 12 => some (.code A12)
 | 13 => some (.code A13)
 | 14 => some (.code A14)
 | 15 => some (.code A15)
 | 16 => some (.code A16)
 | 17 => some (.code A17)
 | 18 => some (.code A18)
 | 19 => some (.code A19)
 | _ => none
theorem c3 (h : Heap) : E tbl 3 [] h = (S3 (E tbl)  h).bind ansOf := (E_eq tbl 3 [] h).trans (run3 (E tbl)  h)
theorem c4 (a0 a1 a2 : AVal) (h : Heap) : E tbl 4 [a0, a1, a2] h = (S4 (E tbl) a0 a1 a2 h).bind ansOf := (E_eq tbl 4 [a0, a1, a2] h).trans (run4 (E tbl) a0 a1 a2 h)
theorem c5 (a0 a1 : AVal) (h : Heap) : E tbl 5 [a0, a1] h = (S5 (E tbl) a0 a1 h).bind ansOf := (E_eq tbl 5 [a0, a1] h).trans (run5 (E tbl) a0 a1 h)
theorem c6 (a0 a1 : AVal) (h : Heap) : E tbl 6 [a0, a1] h = (S6 (E tbl) a0 a1 h).bind ansOf := (E_eq tbl 6 [a0, a1] h).trans (run6 (E tbl) a0 a1 h)
theorem c7 (a0 : AVal) (h : Heap) : E tbl 7 [a0] h = (S7 (E tbl) a0 h).bind ansOf := (E_eq tbl 7 [a0] h).trans (run7 (E tbl) a0 h)
theorem c8 (a0 : AVal) (h : Heap) : E tbl 8 [a0] h = (S8 (E tbl) a0 h).bind ansOf := (E_eq tbl 8 [a0] h).trans (run8 (E tbl) a0 h)
theorem c9 (a0 a1 a2 : AVal) (h : Heap) : E tbl 9 [a0, a1, a2] h = (S9 (E tbl) a0 a1 a2 h).bind ansOf := (E_eq tbl 9 [a0, a1, a2] h).trans (run9 (E tbl) a0 a1 a2 h)
theorem c10 (a0 : AVal) (h : Heap) : E tbl 10 [a0] h = (S10 (E tbl) a0 h).bind ansOf := (E_eq tbl 10 [a0] h).trans (run10 (E tbl) a0 h)
theorem c11 (a0 : AVal) (h : Heap) : E tbl 11 [a0] h = (S11 (E tbl) a0 h).bind ansOf := (E_eq tbl 11 [a0] h).trans (run11 (E tbl) a0 h)
theorem c12 (a0 : AVal) (h : Heap) : E tbl 12 [a0] h = (S12 (E tbl) a0 h).bind ansOf := (E_eq tbl 12 [a0] h).trans (run12 (E tbl) a0 h)
theorem c13 (h : Heap) : E tbl 13 [] h = (S13 (E tbl)  h).bind ansOf := (E_eq tbl 13 [] h).trans (run13 (E tbl)  h)
theorem c14 (a0 a1 a2 : AVal) (h : Heap) : E tbl 14 [a0, a1, a2] h = (S14 (E tbl) a0 a1 a2 h).bind ansOf := (E_eq tbl 14 [a0, a1, a2] h).trans (run14 (E tbl) a0 a1 a2 h)
theorem c15 (a0 a1 : AVal) (h : Heap) : E tbl 15 [a0, a1] h = (S15 (E tbl) a0 a1 h).bind ansOf := (E_eq tbl 15 [a0, a1] h).trans (run15 (E tbl) a0 a1 h)
theorem c16 (a0 a1 : AVal) (h : Heap) : E tbl 16 [a0, a1] h = (S16 (E tbl) a0 a1 h).bind ansOf := (E_eq tbl 16 [a0, a1] h).trans (run16 (E tbl) a0 a1 h)
theorem c17 (a0 : AVal) (h : Heap) : E tbl 17 [a0] h = (S17 (E tbl) a0 h).bind ansOf := (E_eq tbl 17 [a0] h).trans (run17 (E tbl) a0 h)
theorem c18 (a0 a1 : AVal) (h : Heap) : E tbl 18 [a0, a1] h = (S18 (E tbl) a0 a1 h).bind ansOf := (E_eq tbl 18 [a0, a1] h).trans (run18 (E tbl) a0 a1 h)
theorem c19 (a0 : AVal) (h : Heap) : E tbl 19 [a0] h = (S19 (E tbl) a0 h).bind ansOf := (E_eq tbl 19 [a0] h).trans (run19 (E tbl) a0 h)
theorem tbl_ok : ∀ f a, tbl f = some a → FnOk Try.prog (drawOk Try.prog) f a := by
  intro f a h
  unfold tbl at h
  split at h
  · cases h; exact ⟨_, Try.func3, by decide +kernel, ok3⟩
  · cases h; exact ⟨_, Try.func4, by decide +kernel, ok4⟩
  · cases h; exact ⟨_, Try.func5, by decide +kernel, ok5⟩
  · cases h; exact ⟨_, Try.func6, by decide +kernel, ok6⟩
  · cases h; exact ⟨_, Try.func7, by decide +kernel, ok7⟩
  · cases h; exact ⟨_, Try.func8, by decide +kernel, ok8⟩
  · cases h; exact ⟨_, Try.func9, by decide +kernel, ok9⟩
  · cases h; exact ⟨_, Try.func10, by decide +kernel, ok10⟩
  · cases h; exact ⟨_, Try.func11, by decide +kernel, ok11⟩
  · cases h; exact ⟨_, Try.func12, by decide +kernel, ok12⟩
  · cases h; exact ⟨_, Try.func13, by decide +kernel, ok13⟩
  · cases h; exact ⟨_, Try.func14, by decide +kernel, ok14⟩
  · cases h; exact ⟨_, Try.func15, by decide +kernel, ok15⟩
  · cases h; exact ⟨_, Try.func16, by decide +kernel, ok16⟩
  · cases h; exact ⟨_, Try.func17, by decide +kernel, ok17⟩
  · cases h; exact ⟨_, Try.func18, by decide +kernel, ok18⟩
  · cases h; exact ⟨_, Try.func19, by decide +kernel, ok19⟩
  · cases h
theorem prog_ok : CallOk Try.prog (E tbl) := E_ok tbl_ok
end Go.Proofs.Ytdphaonogpaedaa.Code
