import Derived.Test.YtdikkeicdofdiaaProg
import Derived.Test.YtdikkeicdofdiaaFwZc
import Derived.KernelRfl
namespace Go.Proofs.Ytdikkeicdofdiaa.Code
open Go.Fw
/-- frankpledge/frankpledgelaw7.ClockNumbers -/
noncomputable def A3 : AFunc := ⟨0, (.seq (.region [.op 0 (.mov 0 (.const (.bool false)))] [])
 (.seq (.seq (.region [.op 0 (.mov 1 (.const (.int .i64 (-1))))] [])
 (.block 0 (.loop ⟨[1], []⟩ [((.exit 0), ⟨[], []⟩), (.ret, ⟨[0], []⟩)]
 (.seq (.seq (.region [.op 0 (.mov 3 (.tmp 1)),
 .op 1 (.bin 4 .lss .plain (.tmp 3) (.const (.int .i64 9)))] [])
 (.cond (.tmp 4)
 .skip
 (.exit 0)))
 (.seq (.block 1 (.seq (.region [.op 0 (.mov 2 (.const (.int .i64 (-1))))] [])
 (.block 2 (.loop ⟨[1, 2], []⟩ [((.exit 2), ⟨[1], []⟩), (.ret, ⟨[0], []⟩)]
 (.seq (.seq (.region [.op 0 (.mov 7 (.tmp 2)),
 .op 1 (.bin 8 .lss .plain (.tmp 7) (.const (.int .i64 9)))] [])
 (.cond (.tmp 8)
 .skip
 (.exit 2)))
 (.seq (.block 3 (.seq (.region [.op 0 (.mov 11 (.tmp 1)),
 .op 1 (.mov 12 (.tmp 2)),
 .op 2 (.mov 13 (.tmp 2)),
 .op 3 (.mov 14 (.tmp 2)),
 .op 4 (.buildSl 15 [.int .i64 0] 1 5 [(0, .tmp 12), (1, .tmp 13), (2, .const (.int .i64 0)), (3, .tmp 14), (4, .const (.int .i64 1))]),
 .op 5 (.buildSl 16 [.int .i64 0] 1 5 [(0, .const (.int .i64 1)), (1, .const (.int .i64 1024)), (2, .const (.int .i64 7)), (3, .const (.int .i64 1025)), (4, .const (.int .i64 0))]),
 .op 6 (.call 17 7 [.tmp 11, .tmp 15, .tmp 16]),
 .op 7 (.un 18 .not (.tmp 17))] [])
 (.cond (.tmp 18)
 (.seq (.region [.op 0 (.mov 0 (.const (.bool false)))] [])
 .ret)
 .skip)))
 (.region [.op 0 (.mov 9 (.tmp 2)),
 .op 1 (.bin 10 .add .plain (.tmp 9) (.const (.int .i64 1))),
 .op 2 (.mov 2 (.tmp 10))] [])))))))
 (.region [.op 0 (.mov 5 (.tmp 1)),
 .op 1 (.bin 6 .add .plain (.tmp 5) (.const (.int .i64 1))),
 .op 2 (.mov 1 (.tmp 6))] []))))))
 (.seq (.region [.op 0 (.buildSl 19 [.int .i64 0] 1 4 [(0, .const (.int .i64 0)), (1, .const (.int .i64 1)), (2, .const (.int .i64 4611686018427387904)), (3, .const (.int .i64 (-9223372036854775808)))]),
 .op 1 (.buildSl 20 [.int .i64 0] 1 4 [(0, .const (.int .i64 (-9223372036854775808))), (1, .const (.int .i64 9223372036854775807)), (2, .const (.int .i64 1)), (3, .const (.int .i64 1))]),
 .op 2 (.call 21 7 [.const (.int .i64 3), .tmp 19, .tmp 20]),
 .op 3 (.mov 22 (.tmp 21)),
 .guard 22 true [.op 4 (.call 23 8 [])] [] [23],
 .op 5 (.pick 24 (.tmp 22) (.tmp 23) (.const (.bool false))),
 .op 6 (.mov 0 (.tmp 24))] [])
 .ret))),
 [.tmp 0]⟩
theorem ok3 : funcOk Try.prog (drawOk Try.prog) Try.f3 A3 = true := by kernel_rfl
/-- xs: t1, t2 -/
noncomputable def L3_1 (call : Go.Fw.Call) (xs : List AVal) (h : Heap) : Option J :=
 (aBin .lss .plain (xs.getD 1 .undef) (.int .i64 9)).bind fun v2 =>
 condV v2
 ((aFill (reps [.int .i64 0] 5) [(0, 1, (xs.getD 1 .undef)), (1, 1, (xs.getD 1 .undef)), (2, 1, (.int .i64 0)), (3, 1, (xs.getD 1 .undef)), (4, 1, (.int .i64 1))]).bind fun c3 =>
 (aFill (reps [.int .i64 0] 5) [(0, 1, (.int .i64 1)), (1, 1, (.int .i64 1024)), (2, 1, (.int .i64 7)), (3, 1, (.int .i64 1025)), (4, 1, (.int .i64 0))]).bind fun c4 =>
 (call 7 [(xs.getD 0 .undef), (.slice h.next 0 5 5 1 true), (.slice (h.alloc c3).next 0 5 5 1 true)] ((h.alloc c3).alloc c4)).bind fun r5 =>
 (aUn .not r5.1).bind fun v6 =>
 condV v6
 (some (2, [(.bool false)], r5.2))
 ((aBin .add .plain (xs.getD 1 .undef) (.int .i64 1)).bind fun v7 =>
 some (0, [(xs.getD 0 .undef), v7], r5.2)))
 (some (1, [(xs.getD 0 .undef)], h))
/-- xs: t1 -/
noncomputable def L3_0 (call : Go.Fw.Call) (xs : List AVal) (h : Heap) : Option J :=
 (aBin .lss .plain (xs.getD 0 .undef) (.int .i64 9)).bind fun v1 =>
 condV v1
 ((loop (L3_1 call) [(xs.getD 0 .undef), (.int .i64 (-1))] h).bind fun x8 =>
 bif Nat.beq x8.1 1 then (aBin .add .plain (x8.2.1.getD 0 .undef) (.int .i64 1)).bind fun v9 =>
 some (0, [v9], x8.2.2) else
 bif Nat.beq x8.1 2 then some (2, [(x8.2.1.getD 0 .undef)], x8.2.2) else
 none)
 (some (1, [], h))
noncomputable def S3 (call : Go.Fw.Call) (h : Heap) : Option J :=
 (loop (L3_0 call) [(.int .i64 (-1))] h).bind fun x10 =>
 bif Nat.beq x10.1 1 then (aFill (reps [.int .i64 0] 4) [(0, 1, (.int .i64 0)), (1, 1, (.int .i64 1)), (2, 1, (.int .i64 4611686018427387904)), (3, 1, (.int .i64 (-9223372036854775808)))]).bind fun c11 =>
 (aFill (reps [.int .i64 0] 4) [(0, 1, (.int .i64 (-9223372036854775808))), (1, 1, (.int .i64 9223372036854775807)), (2, 1, (.int .i64 1)), (3, 1, (.int .i64 1))]).bind fun c12 =>
 (call 7 [(.int .i64 3), (.slice x10.2.2.next 0 4 4 1 true), (.slice (x10.2.2.alloc c11).next 0 4 4 1 true)] ((x10.2.2.alloc c11).alloc c12)).bind fun r13 =>
 (guardV r13.1 true
 ((call 8 [] r13.2).bind fun r14 =>
 some (0, [r14.1], r14.2))
 (some (0, [skipV], r13.2))).bind fun g15 =>
 (aPick r13.1 (g15.2.1.getD 0 .undef) (.bool false)).bind fun v16 =>
 some (0, [v16], g15.2.2) else
 bif Nat.beq x10.1 2 then some (0, [(x10.2.1.getD 0 .undef)], x10.2.2) else
 none
theorem run3 (call : Go.Fw.Call) (h : Heap) : runFn call (.code A3) [] h = (S3 call  h).bind ansOf := by kernel_rfl

/-- frankpledge/frankpledgelaw7.ClockPlays -/
noncomputable def A4 : AFunc := ⟨3, (.seq (.region [.op 0 (.mov 6 (.const (.bool false)))] [])
 (.seq (.region [.op 0 (.mov 7 (.const (.nilSlice)))] [])
 (.seq (.region [.op 0 (.mov 8 (.const (.nilSlice)))] [])
 (.seq (.seq (.region [.op 0 (.mov 11 (.tmp 1)),
 .op 1 (.len 12 false (.tmp 11)),
 .op 2 (.mov 13 (.const (.int .i64 0)))] [])
 (.block 0 (.loop ⟨[0, 1, 2, 7, 8, 12, 13], []⟩ [((.exit 0), ⟨[0, 1, 2, 7, 8], []⟩)]
 (.seq (.region [.op 0 (.bin 14 .lss .plain (.tmp 13) (.tmp 12))] [])
 (.seq (.cond (.tmp 14)
 .skip
 (.exit 0))
 (.seq (.block 1 (.seq (.region [.op 0 (.mov 15 (.tmp 13)),
 .op 1 (.mov 9 (.tmp 15))] [])
 (.region [.op 0 (.mov 16 (.tmp 7)),
 .op 1 (.mov 17 (.tmp 1)),
 .op 2 (.mov 18 (.tmp 9)),
 .op 3 (.iaddr 19 none 1 (.tmp 17) (.tmp 18)),
 .op 4 (.load 20 false 1 (.tmp 19)),
 .op 5 (.call 21 9 [.tmp 20, .const (.int .i64 (-1)), .const (.int .i64 6)]),
 .op 6 (.buildSl 22 [.int .i64 0] 1 1 [(0, .tmp 21)]),
 .op 7 (.append 23 1 8 [.int .i64 0] false (.tmp 16) (.tmp 22)),
 .op 8 (.mov 7 (.tmp 23))] [])))
 (.region [.op 0 (.bin 24 .add .plain (.tmp 13) (.const (.int .i64 1))),
 .op 1 (.mov 13 (.tmp 24))] [])))))))
 (.seq (.seq (.region [.op 0 (.mov 25 (.tmp 2)),
 .op 1 (.len 26 false (.tmp 25)),
 .op 2 (.mov 27 (.const (.int .i64 0)))] [])
 (.block 2 (.loop ⟨[0, 1, 2, 7, 8, 26, 27], []⟩ [((.exit 2), ⟨[0, 1, 2, 7, 8], []⟩)]
 (.seq (.region [.op 0 (.bin 28 .lss .plain (.tmp 27) (.tmp 26))] [])
 (.seq (.cond (.tmp 28)
 .skip
 (.exit 2))
 (.seq (.block 3 (.seq (.region [.op 0 (.mov 29 (.tmp 27)),
 .op 1 (.mov 10 (.tmp 29))] [])
 (.region [.op 0 (.mov 30 (.tmp 8)),
 .op 1 (.mov 31 (.tmp 2)),
 .op 2 (.mov 32 (.tmp 10)),
 .op 3 (.iaddr 33 none 1 (.tmp 31) (.tmp 32)),
 .op 4 (.load 34 false 1 (.tmp 33)),
 .op 5 (.bin 35 .and .plain (.tmp 34) (.const (.int .i64 1023))),
 .op 6 (.buildSl 36 [.int .i64 0] 1 1 [(0, .tmp 35)]),
 .op 7 (.append 37 1 8 [.int .i64 0] false (.tmp 30) (.tmp 36)),
 .op 8 (.mov 8 (.tmp 37))] [])))
 (.region [.op 0 (.bin 38 .add .plain (.tmp 27) (.const (.int .i64 1))),
 .op 1 (.mov 27 (.tmp 38))] [])))))))
 (.seq (.region [.op 0 (.mov 39 (.tmp 0)),
 .op 1 (.bin 40 .and .plain (.tmp 39) (.const (.int .i64 7))),
 .op 2 (.bin 41 .add .plain (.const (.int .i64 1)) (.tmp 40)),
 .op 3 (.mov 42 (.tmp 7)),
 .op 4 (.mov 43 (.tmp 8)),
 .op 5 (.call 44 7 [.tmp 41, .tmp 42, .tmp 43]),
 .op 6 (.mov 45 (.tmp 44)),
 .guard 45 true [.op 7 (.mov 46 (.tmp 0)),
 .op 8 (.mov 47 (.tmp 1)),
 .op 9 (.mov 48 (.tmp 2)),
 .op 10 (.call 49 7 [.tmp 46, .tmp 47, .tmp 48])] [] [49],
 .op 11 (.pick 50 (.tmp 45) (.tmp 49) (.const (.bool false))),
 .op 12 (.mov 51 (.tmp 50)),
 .guard 51 true [.op 13 (.call 52 8 [])] [] [52],
 .op 14 (.pick 53 (.tmp 51) (.tmp 52) (.const (.bool false))),
 .op 15 (.mov 6 (.tmp 53))] [])
 .ret)))))),
 [.tmp 6]⟩
theorem ok4 : funcOk Try.prog (drawOk Try.prog) Try.f4 A4 = true := by kernel_rfl
/-- xs: t0, t1, t2, t7, t8, t12, t13 -/
noncomputable def L4_0 (call : Go.Fw.Call) (xs : List AVal) (h : Heap) : Option J :=
 (aBin .lss .plain (xs.getD 6 .undef) (xs.getD 5 .undef)).bind fun v2 =>
 condV v2
 ((aIaddr 1 (xs.getD 1 .undef) (xs.getD 6 .undef)).bind fun v3 =>
 (aLoad h 1 v3).bind fun c4 =>
 (fromCells false c4).bind fun v5 =>
 (call 9 [v5, (.int .i64 (-1)), (.int .i64 6)] h).bind fun r6 =>
 (aFill (reps [.int .i64 0] 1) [(0, 1, r6.1)]).bind fun c7 =>
 (aAppend 1 8 [.int .i64 0] false (xs.getD 3 .undef) (.slice r6.2.next 0 1 1 1 true) (r6.2.alloc c7)).bind fun r8 =>
 (aBin .add .plain (xs.getD 6 .undef) (.int .i64 1)).bind fun v9 =>
 some (0, [(xs.getD 0 .undef), (xs.getD 1 .undef), (xs.getD 2 .undef), r8.1, (xs.getD 4 .undef), (xs.getD 5 .undef), v9], r8.2))
 (some (1, [(xs.getD 0 .undef), (xs.getD 1 .undef), (xs.getD 2 .undef), (xs.getD 3 .undef), (xs.getD 4 .undef)], h))
/-- xs: t0, t1, t2, t7, t8, t26, t27 -/
noncomputable def L4_1 (call : Go.Fw.Call) (xs : List AVal) (h : Heap) : Option J :=
 (aBin .lss .plain (xs.getD 6 .undef) (xs.getD 5 .undef)).bind fun v12 =>
 condV v12
 ((aIaddr 1 (xs.getD 2 .undef) (xs.getD 6 .undef)).bind fun v13 =>
 (aLoad h 1 v13).bind fun c14 =>
 (fromCells false c14).bind fun v15 =>
 (aBin .and .plain v15 (.int .i64 1023)).bind fun v16 =>
 (aFill (reps [.int .i64 0] 1) [(0, 1, v16)]).bind fun c17 =>
 (aAppend 1 8 [.int .i64 0] false (xs.getD 4 .undef) (.slice h.next 0 1 1 1 true) (h.alloc c17)).bind fun r18 =>
 (aBin .add .plain (xs.getD 6 .undef) (.int .i64 1)).bind fun v19 =>
 some (0, [(xs.getD 0 .undef), (xs.getD 1 .undef), (xs.getD 2 .undef), (xs.getD 3 .undef), r18.1, (xs.getD 5 .undef), v19], r18.2))
 (some (1, [(xs.getD 0 .undef), (xs.getD 1 .undef), (xs.getD 2 .undef), (xs.getD 3 .undef), (xs.getD 4 .undef)], h))
noncomputable def S4 (call : Go.Fw.Call) (a0 a1 a2 : AVal) (h : Heap) : Option J :=
 (aLen false a1).bind fun v1 =>
 (loop (L4_0 call) [a0, a1, a2, (.nilSlice), (.nilSlice), v1, (.int .i64 0)] h).bind fun x10 =>
 bif Nat.beq x10.1 1 then (aLen false (x10.2.1.getD 2 .undef)).bind fun v11 =>
 (loop (L4_1 call) [(x10.2.1.getD 0 .undef), (x10.2.1.getD 1 .undef), (x10.2.1.getD 2 .undef), (x10.2.1.getD 3 .undef), (x10.2.1.getD 4 .undef), v11, (.int .i64 0)] x10.2.2).bind fun x20 =>
 bif Nat.beq x20.1 1 then (aBin .and .plain (x20.2.1.getD 0 .undef) (.int .i64 7)).bind fun v21 =>
 (aBin .add .plain (.int .i64 1) v21).bind fun v22 =>
 (call 7 [v22, (x20.2.1.getD 3 .undef), (x20.2.1.getD 4 .undef)] x20.2.2).bind fun r23 =>
 (guardV r23.1 true
 ((call 7 [(x20.2.1.getD 0 .undef), (x20.2.1.getD 1 .undef), (x20.2.1.getD 2 .undef)] r23.2).bind fun r24 =>
 some (0, [r24.1], r24.2))
 (some (0, [skipV], r23.2))).bind fun g25 =>
 (aPick r23.1 (g25.2.1.getD 0 .undef) (.bool false)).bind fun v26 =>
 (guardV v26 true
 ((call 8 [] g25.2.2).bind fun r27 =>
 some (0, [r27.1], r27.2))
 (some (0, [skipV], g25.2.2))).bind fun g28 =>
 (aPick v26 (g28.2.1.getD 0 .undef) (.bool false)).bind fun v29 =>
 some (0, [v29], g28.2.2) else
 none else
 none
theorem run4 (call : Go.Fw.Call) (a0 a1 a2 : AVal) (h : Heap) : runFn call (.code A4) [a0, a1, a2] h = (S4 call a0 a1 a2 h).bind ansOf := by kernel_rfl

/-- frankpledge/frankpledgelaw7.ClockSums -/
noncomputable def A5 : AFunc := ⟨2, (.seq (.region [.op 0 (.mov 4 (.const (.bool false)))] [])
 (.seq (.region [.op 0 (.call 11 10 [.const (.int .i64 4)]),
 .op 1 (.mov 5 (.tmp 11))] [])
 (.seq (.seq (.region [.op 0 (.mov 12 (.tmp 5)),
 .op 1 (.bin 13 .eql .ptr (.tmp 12) (.const (.nilPtr)))] [])
 (.cond (.tmp 13)
 (.seq (.region [.op 0 (.mov 4 (.const (.bool false)))] [])
 .ret)
 .skip))
 (.seq (.region [.op 0 (.alloc 6 true [.int .i64 0, .int .i64 0, .int .i64 0, .int .i64 0])] [])
 (.seq (.seq (.region [.op 0 (.mov 7 (.const (.int .i64 0)))] [])
 (.block 0 (.loop ⟨[0, 1, 5, 7], [6]⟩ [((.exit 0), ⟨[5], [6]⟩), (.ret, ⟨[4], []⟩)]
 (.seq (.seq (.region [.op 0 (.mov 14 (.tmp 7)),
 .op 1 (.mov 15 (.tmp 0)),
 .op 2 (.len 16 false (.tmp 15)),
 .op 3 (.bin 17 .lss .plain (.tmp 14) (.tmp 16)),
 .op 4 (.mov 18 (.tmp 17)),
 .guard 18 true [.op 5 (.mov 19 (.tmp 7)),
 .op 6 (.mov 20 (.tmp 1)),
 .op 7 (.len 21 false (.tmp 20)),
 .op 8 (.bin 22 .lss .plain (.tmp 19) (.tmp 21))] [] [22],
 .op 9 (.pick 23 (.tmp 18) (.tmp 22) (.const (.bool false))),
 .op 10 (.mov 24 (.tmp 23)),
 .guard 24 true [.op 11 (.mov 25 (.tmp 7)),
 .op 12 (.bin 26 .lss .plain (.tmp 25) (.const (.int .i64 50)))] [] [26],
 .op 13 (.pick 27 (.tmp 24) (.tmp 26) (.const (.bool false)))] [])
 (.cond (.tmp 27)
 .skip
 (.exit 0)))
 (.seq (.block 1 (.seq (.region [.op 0 (.mov 30 (.tmp 1)),
 .op 1 (.mov 31 (.tmp 7)),
 .op 2 (.iaddr 32 none 1 (.tmp 30) (.tmp 31)),
 .op 3 (.load 33 false 1 (.tmp 32)),
 .op 4 (.call 34 9 [.tmp 33, .const (.int .i64 0), .const (.int .i64 3)]),
 .op 5 (.mov 35 (.tmp 0)),
 .op 6 (.mov 36 (.tmp 7)),
 .op 7 (.iaddr 37 none 1 (.tmp 35) (.tmp 36)),
 .op 8 (.load 38 false 1 (.tmp 37)),
 .op 9 (.bin 39 .and .plain (.tmp 38) (.const (.int .i64 1023))),
 .op 10 (.bin 40 .add .plain (.const (.int .i64 1)) (.tmp 39)),
 .op 11 (.mov 8 (.tmp 34)),
 .op 12 (.mov 9 (.tmp 40))] [(8, 4)])
 (.seq (.seq (.region [.op 0 (.mov 41 (.tmp 5)),
 .op 1 (.mov 42 (.tmp 8)),
 .op 2 (.mov 43 (.tmp 9)),
 .op 3 (.call 44 11 [.tmp 41, .tmp 42, .tmp 43]),
 .op 4 (.bin 45 .neq .plain (.tmp 44) (.const (.int .i64 0)))] [])
 (.cond (.tmp 45)
 (.seq (.region [.op 0 (.mov 4 (.const (.bool false)))] [])
 .ret)
 .skip))
 (.region [.op 0 (.mov 46 (.tmp 8)),
 .op 1 (.mov 47 (.tmp 8)),
 .op 2 (.iaddr 48 (some 4) 1 (.tmp 6) (.tmp 47)),
 .op 3 (.load 49 false 1 (.tmp 48)),
 .op 4 (.mov 50 (.tmp 9)),
 .op 5 (.bin 51 .add .plain (.tmp 49) (.tmp 50)),
 .op 6 (.iaddr 52 (some 4) 1 (.tmp 6) (.tmp 46)),
 .op 7 (.store false 1 (.tmp 52) (.tmp 51))] []))))
 (.region [.op 0 (.mov 28 (.tmp 7)),
 .op 1 (.bin 29 .add .plain (.tmp 28) (.const (.int .i64 1))),
 .op 2 (.mov 7 (.tmp 29))] []))))))
 (.seq (.seq (.region [.op 0 (.mov 53 (.const (.int .i64 0)))] [])
 (.block 2 (.loop ⟨[5, 53], [6]⟩ [((.exit 2), ⟨[5], [6]⟩), (.ret, ⟨[4], []⟩)]
 (.seq (.region [.op 0 (.bin 54 .lss .plain (.tmp 53) (.const (.int .i64 4)))] [])
 (.seq (.cond (.tmp 54)
 .skip
 (.exit 2))
 (.seq (.block 3 (.seq (.region [.op 0 (.mov 55 (.tmp 53)),
 .op 1 (.mov 10 (.tmp 55))] [])
 (.seq (.region [.op 0 (.mov 56 (.tmp 5)),
 .op 1 (.mov 57 (.tmp 10)),
 .op 2 (.call 58 12 [.tmp 56, .tmp 57]),
 .op 3 (.mov 59 (.tmp 10)),
 .op 4 (.iaddr 60 (some 4) 1 (.tmp 6) (.tmp 59)),
 .op 5 (.load 61 false 1 (.tmp 60)),
 .op 6 (.bin 62 .neq .plain (.tmp 58) (.tmp 61))] [(5, 2)])
 (.cond (.tmp 62)
 (.seq (.region [.op 0 (.mov 4 (.const (.bool false)))] [])
 .ret)
 .skip))))
 (.region [.op 0 (.bin 63 .add .plain (.tmp 53) (.const (.int .i64 1))),
 .op 1 (.mov 53 (.tmp 63))] [])))))))
 (.seq (.region [.op 0 (.mov 64 (.tmp 5)),
 .op 1 (.call 65 13 [.tmp 64]),
 .op 2 (.iaddr 66 (some 4) 1 (.tmp 6) (.const (.int .i64 0))),
 .op 3 (.load 67 false 1 (.tmp 66)),
 .op 4 (.iaddr 68 (some 4) 1 (.tmp 6) (.const (.int .i64 1))),
 .op 5 (.load 69 false 1 (.tmp 68)),
 .op 6 (.iaddr 70 (some 4) 1 (.tmp 6) (.const (.int .i64 2))),
 .op 7 (.load 71 false 1 (.tmp 70)),
 .op 8 (.iaddr 72 (some 4) 1 (.tmp 6) (.const (.int .i64 3))),
 .op 9 (.load 73 false 1 (.tmp 72)),
 .op 10 (.minmax 74 true [.tmp 67, .tmp 69, .tmp 71, .tmp 73]),
 .op 11 (.iaddr 75 (some 4) 1 (.tmp 6) (.const (.int .i64 0))),
 .op 12 (.load 76 false 1 (.tmp 75)),
 .op 13 (.iaddr 77 (some 4) 1 (.tmp 6) (.const (.int .i64 1))),
 .op 14 (.load 78 false 1 (.tmp 77)),
 .op 15 (.iaddr 79 (some 4) 1 (.tmp 6) (.const (.int .i64 2))),
 .op 16 (.load 80 false 1 (.tmp 79)),
 .op 17 (.iaddr 81 (some 4) 1 (.tmp 6) (.const (.int .i64 3))),
 .op 18 (.load 82 false 1 (.tmp 81)),
 .op 19 (.minmax 83 false [.tmp 76, .tmp 78, .tmp 80, .tmp 82]),
 .op 20 (.bin 84 .sub .plain (.tmp 74) (.tmp 83)),
 .op 21 (.bin 85 .eql .plain (.tmp 65) (.tmp 84)),
 .op 22 (.mov 86 (.tmp 85)),
 .guard 86 true [.op 23 (.call 87 8 [])] [] [87],
 .op 24 (.pick 88 (.tmp 86) (.tmp 87) (.const (.bool false))),
 .op 25 (.mov 4 (.tmp 88))] [(3, 1), (5, 1), (7, 1), (9, 1), (12, 1), (14, 1), (16, 1), (18, 1)])
 .ret))))))),
 [.tmp 4]⟩
theorem ok5 : funcOk Try.prog (drawOk Try.prog) Try.f5 A5 = true := by kernel_rfl
/-- xs: t0, t1, t5, t7, cells of 6 -/
noncomputable def L5_0 (call : Go.Fw.Call) (xs : List AVal) (h : Heap) : Option J :=
 (aLen false (xs.getD 0 .undef)).bind fun v3 =>
 (aBin .lss .plain (xs.getD 3 .undef) v3).bind fun v4 =>
 (guardV v4 true
 ((aLen false (xs.getD 1 .undef)).bind fun v5 =>
 (aBin .lss .plain (xs.getD 3 .undef) v5).bind fun v6 =>
 some (0, [v6], h))
 (some (0, [skipV], h))).bind fun g7 =>
 (aPick v4 (g7.2.1.getD 0 .undef) (.bool false)).bind fun v8 =>
 (guardV v8 true
 ((aBin .lss .plain (xs.getD 3 .undef) (.int .i64 50)).bind fun v9 =>
 some (0, [v9], g7.2.2))
 (some (0, [skipV], g7.2.2))).bind fun g10 =>
 (aPick v8 (g10.2.1.getD 0 .undef) (.bool false)).bind fun v11 =>
 condV v11
 ((aIaddr 1 (xs.getD 1 .undef) (xs.getD 3 .undef)).bind fun v12 =>
 (aLoad g10.2.2 1 v12).bind fun c13 =>
 (fromCells false c13).bind fun v14 =>
 (call 9 [v14, (.int .i64 0), (.int .i64 3)] g10.2.2).bind fun r15 =>
 (aIaddr 1 (xs.getD 0 .undef) (xs.getD 3 .undef)).bind fun v16 =>
 (aLoad r15.2 1 v16).bind fun c17 =>
 (fromCells false c17).bind fun v18 =>
 (aBin .and .plain v18 (.int .i64 1023)).bind fun v19 =>
 (aBin .add .plain (.int .i64 1) v19).bind fun v20 =>
 bif checkPairs [(8, logRd v16 1), (4, some (.ef [(6, (AVal.aggCells (xs.getD 4 .undef)))] g10.2.2 [(6, (AVal.aggCells (xs.getD 4 .undef)))] r15.2))] [(8, 4)] then (call 11 [(xs.getD 2 .undef), r15.1, v20] r15.2).bind fun r21 =>
 (aBin .neq .plain r21.1 (.int .i64 0)).bind fun v22 =>
 condV v22
 (some (2, [(.bool false)], r21.2))
 ((aIdx 4 r15.1).bind fun j23 =>
 (rdL (AVal.aggCells (xs.getD 4 .undef)) ((0) + j23 * 1) 1).bind fun c24 =>
 (fromCells false c24).bind fun v25 =>
 (aBin .add .plain v25 v20).bind fun v26 =>
 (aIdx 4 r15.1).bind fun j27 =>
 (aCells 1 v26).bind fun c28 =>
 bif Nat.ble (((0) + j27 * 1) + 1) (List.length (AVal.aggCells (xs.getD 4 .undef))) then (aBin .add .plain (xs.getD 3 .undef) (.int .i64 1)).bind fun v29 =>
 some (0, [(xs.getD 0 .undef), (xs.getD 1 .undef), (xs.getD 2 .undef), v29, (.agg (splice (AVal.aggCells (xs.getD 4 .undef)) ((0) + j27 * 1) c28))], r21.2) else none) else none)
 (some (1, [(xs.getD 2 .undef), (.agg (AVal.aggCells (xs.getD 4 .undef)))], g10.2.2))
/-- xs: t5, t53, cells of 6 -/
noncomputable def L5_1 (call : Go.Fw.Call) (xs : List AVal) (h : Heap) : Option J :=
 (aBin .lss .plain (xs.getD 1 .undef) (.int .i64 4)).bind fun v31 =>
 condV v31
 ((call 12 [(xs.getD 0 .undef), (xs.getD 1 .undef)] h).bind fun r32 =>
 (aIdx 4 (xs.getD 1 .undef)).bind fun j33 =>
 (rdL (AVal.aggCells (xs.getD 2 .undef)) ((0) + j33 * 1) 1).bind fun c34 =>
 (fromCells false c34).bind fun v35 =>
 (aBin .neq .plain r32.1 v35).bind fun v36 =>
 bif checkPairs [(5, some (.lrd 6 ((0) + j33 * 1) 1)), (2, some (.ef [(6, (AVal.aggCells (xs.getD 2 .undef)))] h [(6, (AVal.aggCells (xs.getD 2 .undef)))] r32.2))] [(5, 2)] then condV v36
 (some (2, [(.bool false)], r32.2))
 ((aBin .add .plain (xs.getD 1 .undef) (.int .i64 1)).bind fun v37 =>
 some (0, [(xs.getD 0 .undef), v37, (.agg (AVal.aggCells (xs.getD 2 .undef)))], r32.2)) else none)
 (some (1, [(xs.getD 0 .undef), (.agg (AVal.aggCells (xs.getD 2 .undef)))], h))
noncomputable def S5 (call : Go.Fw.Call) (a0 a1 : AVal) (h : Heap) : Option J :=
 (call 10 [(.int .i64 4)] h).bind fun r1 =>
 (aBin .eql .ptr r1.1 (.nilPtr)).bind fun v2 =>
 condV v2
 (some (0, [(.bool false)], r1.2))
 ((loop (L5_0 call) [a0, a1, r1.1, (.int .i64 0), (.agg [.int .i64 0, .int .i64 0, .int .i64 0, .int .i64 0])] r1.2).bind fun x30 =>
 bif Nat.beq x30.1 1 then (loop (L5_1 call) [(x30.2.1.getD 0 .undef), (.int .i64 0), (.agg (AVal.aggCells (x30.2.1.getD 1 .undef)))] x30.2.2).bind fun x38 =>
 bif Nat.beq x38.1 1 then (call 13 [(x38.2.1.getD 0 .undef)] x38.2.2).bind fun r39 =>
 (aIdx 4 (.int .i64 0)).bind fun j40 =>
 (rdL (AVal.aggCells (x38.2.1.getD 1 .undef)) ((0) + j40 * 1) 1).bind fun c41 =>
 (fromCells false c41).bind fun v42 =>
 (aIdx 4 (.int .i64 1)).bind fun j43 =>
 (rdL (AVal.aggCells (x38.2.1.getD 1 .undef)) ((0) + j43 * 1) 1).bind fun c44 =>
 (fromCells false c44).bind fun v45 =>
 (aIdx 4 (.int .i64 2)).bind fun j46 =>
 (rdL (AVal.aggCells (x38.2.1.getD 1 .undef)) ((0) + j46 * 1) 1).bind fun c47 =>
 (fromCells false c47).bind fun v48 =>
 (aIdx 4 (.int .i64 3)).bind fun j49 =>
 (rdL (AVal.aggCells (x38.2.1.getD 1 .undef)) ((0) + j49 * 1) 1).bind fun c50 =>
 (fromCells false c50).bind fun v51 =>
 (aMinMaxL true [v42, v45, v48, v51]).bind fun v52 =>
 (aIdx 4 (.int .i64 0)).bind fun j53 =>
 (rdL (AVal.aggCells (x38.2.1.getD 1 .undef)) ((0) + j53 * 1) 1).bind fun c54 =>
 (fromCells false c54).bind fun v55 =>
 (aIdx 4 (.int .i64 1)).bind fun j56 =>
 (rdL (AVal.aggCells (x38.2.1.getD 1 .undef)) ((0) + j56 * 1) 1).bind fun c57 =>
 (fromCells false c57).bind fun v58 =>
 (aIdx 4 (.int .i64 2)).bind fun j59 =>
 (rdL (AVal.aggCells (x38.2.1.getD 1 .undef)) ((0) + j59 * 1) 1).bind fun c60 =>
 (fromCells false c60).bind fun v61 =>
 (aIdx 4 (.int .i64 3)).bind fun j62 =>
 (rdL (AVal.aggCells (x38.2.1.getD 1 .undef)) ((0) + j62 * 1) 1).bind fun c63 =>
 (fromCells false c63).bind fun v64 =>
 (aMinMaxL false [v55, v58, v61, v64]).bind fun v65 =>
 (aBin .sub .plain v52 v65).bind fun v66 =>
 (aBin .eql .plain r39.1 v66).bind fun v67 =>
 (guardV v67 true
 ((call 8 [] r39.2).bind fun r68 =>
 some (0, [r68.1], r68.2))
 (some (0, [skipV], r39.2))).bind fun g69 =>
 (aPick v67 (g69.2.1.getD 0 .undef) (.bool false)).bind fun v70 =>
 bif checkPairs [(18, some (.lrd 6 ((0) + j62 * 1) 1)), (16, some (.lrd 6 ((0) + j59 * 1) 1)), (14, some (.lrd 6 ((0) + j56 * 1) 1)), (12, some (.lrd 6 ((0) + j53 * 1) 1)), (9, some (.lrd 6 ((0) + j49 * 1) 1)), (7, some (.lrd 6 ((0) + j46 * 1) 1)), (5, some (.lrd 6 ((0) + j43 * 1) 1)), (3, some (.lrd 6 ((0) + j40 * 1) 1)), (1, some (.ef [(6, (AVal.aggCells (x38.2.1.getD 1 .undef)))] x38.2.2 [(6, (AVal.aggCells (x38.2.1.getD 1 .undef)))] r39.2))] [(3, 1), (5, 1), (7, 1), (9, 1), (12, 1), (14, 1), (16, 1), (18, 1)] then some (0, [v70], g69.2.2) else none else
 bif Nat.beq x38.1 2 then some (0, [(x38.2.1.getD 0 .undef)], x38.2.2) else
 none else
 bif Nat.beq x30.1 2 then some (0, [(x30.2.1.getD 0 .undef)], x30.2.2) else
 none)
theorem run5 (call : Go.Fw.Call) (a0 a1 : AVal) (h : Heap) : runFn call (.code A5) [a0, a1] h = (S5 call a0 a1 h).bind ansOf := by kernel_rfl

/-- frankpledge/frankpledgelaw7.ClockRefuses -/
noncomputable def A6 : AFunc := ⟨2, (.seq (.region [.op 0 (.mov 4 (.const (.bool false)))] [])
 (.seq (.region [.op 0 (.call 7 10 [.const (.int .i64 3)]),
 .op 1 (.mov 5 (.tmp 7))] [])
 (.seq (.seq (.region [.op 0 (.mov 8 (.tmp 5)),
 .op 1 (.bin 9 .eql .ptr (.tmp 8) (.const (.nilPtr))),
 .op 2 (.mov 10 (.tmp 9)),
 .guard 10 false [.op 3 (.mov 11 (.tmp 5)),
 .op 4 (.call 12 11 [.tmp 11, .const (.int .i64 1), .const (.int .i64 7)]),
 .op 5 (.bin 13 .neq .plain (.tmp 12) (.const (.int .i64 0)))] [] [13],
 .op 6 (.pick 14 (.tmp 10) (.const (.bool true)) (.tmp 13))] [])
 (.cond (.tmp 14)
 (.seq (.region [.op 0 (.mov 4 (.const (.bool false)))] [])
 .ret)
 .skip))
 (.seq (.seq (.region [.op 0 (.mov 15 (.tmp 0)),
 .op 1 (.bin 16 .geq .plain (.tmp 15) (.const (.int .i64 0))),
 .op 2 (.mov 17 (.tmp 16)),
 .guard 17 true [.op 3 (.mov 18 (.tmp 0)),
 .op 4 (.bin 19 .lss .plain (.tmp 18) (.const (.int .i64 3)))] [] [19],
 .op 5 (.pick 20 (.tmp 17) (.tmp 19) (.const (.bool false))),
 .op 6 (.mov 21 (.tmp 20)),
 .guard 21 true [.op 7 (.mov 22 (.tmp 1)),
 .op 8 (.bin 23 .geq .plain (.tmp 22) (.const (.int .i64 1)))] [] [23],
 .op 9 (.pick 24 (.tmp 21) (.tmp 23) (.const (.bool false))),
 .op 10 (.mov 25 (.tmp 24)),
 .guard 25 true [.op 11 (.mov 26 (.tmp 1)),
 .op 12 (.bin 27 .leq .plain (.tmp 26) (.const (.int .i64 1024)))] [] [27],
 .op 13 (.pick 28 (.tmp 25) (.tmp 27) (.const (.bool false)))] [])
 (.cond (.tmp 28)
 (.seq (.region [.op 0 (.mov 29 (.tmp 5)),
 .op 1 (.mov 30 (.tmp 0)),
 .op 2 (.mov 31 (.tmp 1)),
 .op 3 (.call 32 11 [.tmp 29, .tmp 30, .tmp 31]),
 .op 4 (.bin 33 .eql .plain (.tmp 32) (.const (.int .i64 0))),
 .op 5 (.mov 34 (.tmp 33)),
 .guard 34 true [.op 6 (.mov 35 (.tmp 5)),
 .op 7 (.mov 36 (.tmp 0)),
 .op 8 (.call 37 12 [.tmp 35, .tmp 36]),
 .op 9 (.mov 38 (.tmp 1)),
 .op 10 (.bin 39 .geq .plain (.tmp 37) (.tmp 38))] [] [39],
 .op 11 (.pick 40 (.tmp 34) (.tmp 39) (.const (.bool false))),
 .op 12 (.mov 41 (.tmp 40)),
 .guard 41 true [.op 13 (.call 42 8 [])] [] [42],
 .op 14 (.pick 43 (.tmp 41) (.tmp 42) (.const (.bool false))),
 .op 15 (.mov 4 (.tmp 43))] [])
 .ret)
 .skip))
 (.seq (.region [.op 0 (.mov 44 (.tmp 5)),
 .op 1 (.mov 45 (.tmp 0)),
 .op 2 (.mov 46 (.tmp 1)),
 .op 3 (.call 47 11 [.tmp 44, .tmp 45, .tmp 46]),
 .op 4 (.mov 6 (.tmp 47))] [])
 (.seq (.region [.op 0 (.mov 48 (.tmp 6)),
 .op 1 (.bin 49 .neq .plain (.tmp 48) (.const (.int .i64 0))),
 .op 2 (.mov 50 (.tmp 49)),
 .guard 50 true [.op 3 (.mov 51 (.tmp 5)),
 .op 4 (.call 52 12 [.tmp 51, .const (.int .i64 0)]),
 .op 5 (.bin 53 .eql .plain (.tmp 52) (.const (.int .i64 0)))] [] [53],
 .op 6 (.pick 54 (.tmp 50) (.tmp 53) (.const (.bool false))),
 .op 7 (.mov 55 (.tmp 54)),
 .guard 55 true [.op 8 (.mov 56 (.tmp 5)),
 .op 9 (.call 57 12 [.tmp 56, .const (.int .i64 1)]),
 .op 10 (.bin 58 .eql .plain (.tmp 57) (.const (.int .i64 7)))] [] [58],
 .op 11 (.pick 59 (.tmp 55) (.tmp 58) (.const (.bool false))),
 .op 12 (.mov 60 (.tmp 59)),
 .guard 60 true [.op 13 (.mov 61 (.tmp 5)),
 .op 14 (.call 62 12 [.tmp 61, .const (.int .i64 2)]),
 .op 15 (.bin 63 .eql .plain (.tmp 62) (.const (.int .i64 0)))] [] [63],
 .op 16 (.pick 64 (.tmp 60) (.tmp 63) (.const (.bool false))),
 .op 17 (.mov 65 (.tmp 64)),
 .guard 65 true [.op 18 (.mov 66 (.tmp 5)),
 .op 19 (.call 67 13 [.tmp 66]),
 .op 20 (.bin 68 .eql .plain (.tmp 67) (.const (.int .i64 7)))] [] [68],
 .op 21 (.pick 69 (.tmp 65) (.tmp 68) (.const (.bool false))),
 .op 22 (.mov 70 (.tmp 69)),
 .guard 70 true [.op 23 (.call 71 8 [])] [] [71],
 .op 24 (.pick 72 (.tmp 70) (.tmp 71) (.const (.bool false))),
 .op 25 (.mov 4 (.tmp 72))] [])
 .ret)))))),
 [.tmp 4]⟩
theorem ok6 : funcOk Try.prog (drawOk Try.prog) Try.f6 A6 = true := by kernel_rfl
noncomputable def S6 (call : Go.Fw.Call) (a0 a1 : AVal) (h : Heap) : Option J :=
 (call 10 [(.int .i64 3)] h).bind fun r1 =>
 (aBin .eql .ptr r1.1 (.nilPtr)).bind fun v2 =>
 (guardV v2 false
 ((call 11 [r1.1, (.int .i64 1), (.int .i64 7)] r1.2).bind fun r3 =>
 (aBin .neq .plain r3.1 (.int .i64 0)).bind fun v4 =>
 some (0, [v4], r3.2))
 (some (0, [skipV], r1.2))).bind fun g5 =>
 (aPick v2 (.bool true) (g5.2.1.getD 0 .undef)).bind fun v6 =>
 condV v6
 (some (0, [(.bool false)], g5.2.2))
 ((aBin .geq .plain a0 (.int .i64 0)).bind fun v7 =>
 (guardV v7 true
 ((aBin .lss .plain a0 (.int .i64 3)).bind fun v8 =>
 some (0, [v8], g5.2.2))
 (some (0, [skipV], g5.2.2))).bind fun g9 =>
 (aPick v7 (g9.2.1.getD 0 .undef) (.bool false)).bind fun v10 =>
 (guardV v10 true
 ((aBin .geq .plain a1 (.int .i64 1)).bind fun v11 =>
 some (0, [v11], g9.2.2))
 (some (0, [skipV], g9.2.2))).bind fun g12 =>
 (aPick v10 (g12.2.1.getD 0 .undef) (.bool false)).bind fun v13 =>
 (guardV v13 true
 ((aBin .leq .plain a1 (.int .i64 1024)).bind fun v14 =>
 some (0, [v14], g12.2.2))
 (some (0, [skipV], g12.2.2))).bind fun g15 =>
 (aPick v13 (g15.2.1.getD 0 .undef) (.bool false)).bind fun v16 =>
 condV v16
 ((call 11 [r1.1, a0, a1] g15.2.2).bind fun r17 =>
 (aBin .eql .plain r17.1 (.int .i64 0)).bind fun v18 =>
 (guardV v18 true
 ((call 12 [r1.1, a0] r17.2).bind fun r19 =>
 (aBin .geq .plain r19.1 a1).bind fun v20 =>
 some (0, [v20], r19.2))
 (some (0, [skipV], r17.2))).bind fun g21 =>
 (aPick v18 (g21.2.1.getD 0 .undef) (.bool false)).bind fun v22 =>
 (guardV v22 true
 ((call 8 [] g21.2.2).bind fun r23 =>
 some (0, [r23.1], r23.2))
 (some (0, [skipV], g21.2.2))).bind fun g24 =>
 (aPick v22 (g24.2.1.getD 0 .undef) (.bool false)).bind fun v25 =>
 some (0, [v25], g24.2.2))
 ((call 11 [r1.1, a0, a1] g15.2.2).bind fun r26 =>
 (aBin .neq .plain r26.1 (.int .i64 0)).bind fun v27 =>
 (guardV v27 true
 ((call 12 [r1.1, (.int .i64 0)] r26.2).bind fun r28 =>
 (aBin .eql .plain r28.1 (.int .i64 0)).bind fun v29 =>
 some (0, [v29], r28.2))
 (some (0, [skipV], r26.2))).bind fun g30 =>
 (aPick v27 (g30.2.1.getD 0 .undef) (.bool false)).bind fun v31 =>
 (guardV v31 true
 ((call 12 [r1.1, (.int .i64 1)] g30.2.2).bind fun r32 =>
 (aBin .eql .plain r32.1 (.int .i64 7)).bind fun v33 =>
 some (0, [v33], r32.2))
 (some (0, [skipV], g30.2.2))).bind fun g34 =>
 (aPick v31 (g34.2.1.getD 0 .undef) (.bool false)).bind fun v35 =>
 (guardV v35 true
 ((call 12 [r1.1, (.int .i64 2)] g34.2.2).bind fun r36 =>
 (aBin .eql .plain r36.1 (.int .i64 0)).bind fun v37 =>
 some (0, [v37], r36.2))
 (some (0, [skipV], g34.2.2))).bind fun g38 =>
 (aPick v35 (g38.2.1.getD 0 .undef) (.bool false)).bind fun v39 =>
 (guardV v39 true
 ((call 13 [r1.1] g38.2.2).bind fun r40 =>
 (aBin .eql .plain r40.1 (.int .i64 7)).bind fun v41 =>
 some (0, [v41], r40.2))
 (some (0, [skipV], g38.2.2))).bind fun g42 =>
 (aPick v39 (g42.2.1.getD 0 .undef) (.bool false)).bind fun v43 =>
 (guardV v43 true
 ((call 8 [] g42.2.2).bind fun r44 =>
 some (0, [r44.1], r44.2))
 (some (0, [skipV], g42.2.2))).bind fun g45 =>
 (aPick v43 (g45.2.1.getD 0 .undef) (.bool false)).bind fun v46 =>
 some (0, [v46], g45.2.2)))
theorem run6 (call : Go.Fw.Call) (a0 a1 : AVal) (h : Heap) : runFn call (.code A6) [a0, a1] h = (S6 call a0 a1 h).bind ansOf := by kernel_rfl

/-- frankpledge/frankpledgelaw7.play -/
noncomputable def A7 : AFunc := ⟨3, (.seq (.region [.op 0 (.mov 6 (.const (.bool false)))] [])
 (.seq (.region [.op 0 (.mov 14 (.tmp 0)),
 .op 1 (.call 15 10 [.tmp 14]),
 .op 2 (.mov 7 (.tmp 15))] [])
 (.seq (.seq (.region [.op 0 (.mov 16 (.tmp 7)),
 .op 1 (.bin 17 .eql .ptr (.tmp 16) (.const (.nilPtr))),
 .op 2 (.mov 18 (.tmp 0)),
 .op 3 (.bin 19 .lss .plain (.tmp 18) (.const (.int .i64 1))),
 .op 4 (.mov 20 (.tmp 19)),
 .guard 20 false [.op 5 (.mov 21 (.tmp 0)),
 .op 6 (.bin 22 .gtr .plain (.tmp 21) (.const (.int .i64 6)))] [] [22],
 .op 7 (.pick 23 (.tmp 20) (.const (.bool true)) (.tmp 22)),
 .op 8 (.bin 24 .neq .bool (.tmp 17) (.tmp 23))] [])
 (.cond (.tmp 24)
 (.seq (.region [.op 0 (.mov 6 (.const (.bool false)))] [])
 .ret)
 .skip))
 (.seq (.region [.op 0 (.alloc 8 true [.int .i64 0, .int .i64 0, .int .i64 0, .int .i64 0, .int .i64 0, .int .i64 0])] [])
 (.seq (.seq (.region [.op 0 (.mov 9 (.const (.int .i64 0)))] [])
 (.block 0 (.loop ⟨[0, 1, 2, 7, 9], [8]⟩ [((.exit 0), ⟨[], []⟩), (.ret, ⟨[6], []⟩)]
 (.seq (.seq (.region [.op 0 (.mov 25 (.tmp 9)),
 .op 1 (.mov 26 (.tmp 1)),
 .op 2 (.len 27 false (.tmp 26)),
 .op 3 (.bin 28 .lss .plain (.tmp 25) (.tmp 27)),
 .op 4 (.mov 29 (.tmp 28)),
 .guard 29 true [.op 5 (.mov 30 (.tmp 9)),
 .op 6 (.mov 31 (.tmp 2)),
 .op 7 (.len 32 false (.tmp 31)),
 .op 8 (.bin 33 .lss .plain (.tmp 30) (.tmp 32))] [] [33],
 .op 9 (.pick 34 (.tmp 29) (.tmp 33) (.const (.bool false))),
 .op 10 (.mov 35 (.tmp 34)),
 .guard 35 true [.op 11 (.mov 36 (.tmp 9)),
 .op 12 (.bin 37 .lss .plain (.tmp 36) (.const (.int .i64 60)))] [] [37],
 .op 13 (.pick 38 (.tmp 35) (.tmp 37) (.const (.bool false))),
 .op 14 (.mov 39 (.tmp 38)),
 .guard 39 true [.op 15 (.mov 40 (.tmp 7)),
 .op 16 (.bin 41 .neq .ptr (.tmp 40) (.const (.nilPtr)))] [] [41],
 .op 17 (.pick 42 (.tmp 39) (.tmp 41) (.const (.bool false)))] [])
 (.cond (.tmp 42)
 .skip
 (.exit 0)))
 (.seq (.block 1 (.seq (.region [.op 0 (.mov 10 (.const (.int .i64 0)))] [])
 (.seq (.block 2 (.seq (.region [.op 0 (.mov 62 (.tmp 1)),
 .op 1 (.mov 63 (.tmp 9)),
 .op 2 (.iaddr 64 none 1 (.tmp 62) (.tmp 63)),
 .op 3 (.load 65 false 1 (.tmp 64)),
 .op 4 (.bin 66 .lss .plain (.tmp 65) (.const (.int .i64 0))),
 .op 5 (.mov 67 (.tmp 66)),
 .guard 67 false [.op 6 (.mov 68 (.tmp 1)),
 .op 7 (.mov 69 (.tmp 9)),
 .op 8 (.iaddr 70 none 1 (.tmp 68) (.tmp 69)),
 .op 9 (.load 71 false 1 (.tmp 70)),
 .op 10 (.mov 72 (.tmp 0)),
 .op 11 (.bin 73 .geq .plain (.tmp 71) (.tmp 72))] [] [73],
 .op 12 (.pick 74 (.tmp 67) (.const (.bool true)) (.tmp 73)),
 .op 13 (.mov 61 (.tmp 74))] [])
 (.join [(.normal, ⟨[0, 1, 2, 7, 9, 10], [8]⟩)] (.cond (.tmp 61)
 (.region [.op 0 (.mov 10 (.const (.int .i64 23)))] [])
 (.seq (.region [.op 0 (.mov 76 (.tmp 2)),
 .op 1 (.mov 77 (.tmp 9)),
 .op 2 (.iaddr 78 none 1 (.tmp 76) (.tmp 77)),
 .op 3 (.load 79 false 1 (.tmp 78)),
 .op 4 (.bin 80 .lss .plain (.tmp 79) (.const (.int .i64 1))),
 .op 5 (.mov 81 (.tmp 80)),
 .guard 81 false [.op 6 (.mov 82 (.tmp 2)),
 .op 7 (.mov 83 (.tmp 9)),
 .op 8 (.iaddr 84 none 1 (.tmp 82) (.tmp 83)),
 .op 9 (.load 85 false 1 (.tmp 84)),
 .op 10 (.bin 86 .gtr .plain (.tmp 85) (.const (.int .i64 1024)))] [] [86],
 .op 11 (.pick 87 (.tmp 81) (.const (.bool true)) (.tmp 86)),
 .op 12 (.mov 75 (.tmp 87))] [])
 (.join [(.normal, ⟨[0, 1, 2, 7, 9, 10], [8]⟩)] (.cond (.tmp 75)
 (.region [.op 0 (.mov 10 (.const (.int .i64 1)))] [])
 (.region [.op 0 (.mov 45 (.tmp 1)),
 .op 1 (.mov 46 (.tmp 9)),
 .op 2 (.iaddr 47 none 1 (.tmp 45) (.tmp 46)),
 .op 3 (.load 48 false 1 (.tmp 47)),
 .op 4 (.mov 49 (.tmp 1)),
 .op 5 (.mov 50 (.tmp 9)),
 .op 6 (.iaddr 51 none 1 (.tmp 49) (.tmp 50)),
 .op 7 (.load 52 false 1 (.tmp 51)),
 .op 8 (.iaddr 53 (some 6) 1 (.tmp 8) (.tmp 52)),
 .op 9 (.load 54 false 1 (.tmp 53)),
 .op 10 (.mov 55 (.tmp 2)),
 .op 11 (.mov 56 (.tmp 9)),
 .op 12 (.iaddr 57 none 1 (.tmp 55) (.tmp 56)),
 .op 13 (.load 58 false 1 (.tmp 57)),
 .op 14 (.bin 59 .add .plain (.tmp 54) (.tmp 58)),
 .op 15 (.iaddr 60 (some 6) 1 (.tmp 8) (.tmp 48)),
 .op 16 (.store false 1 (.tmp 60) (.tmp 59))] []))))))))
 (.seq (.seq (.region [.op 0 (.mov 88 (.tmp 7)),
 .op 1 (.mov 89 (.tmp 1)),
 .op 2 (.mov 90 (.tmp 9)),
 .op 3 (.iaddr 91 none 1 (.tmp 89) (.tmp 90)),
 .op 4 (.load 92 false 1 (.tmp 91)),
 .op 5 (.mov 93 (.tmp 2)),
 .op 6 (.mov 94 (.tmp 9)),
 .op 7 (.iaddr 95 none 1 (.tmp 93) (.tmp 94)),
 .op 8 (.load 96 false 1 (.tmp 95)),
 .op 9 (.call 97 11 [.tmp 88, .tmp 92, .tmp 96]),
 .op 10 (.mov 98 (.tmp 10)),
 .op 11 (.bin 99 .neq .plain (.tmp 97) (.tmp 98))] [])
 (.cond (.tmp 99)
 (.seq (.region [.op 0 (.mov 6 (.const (.bool false)))] [])
 .ret)
 .skip))
 (.seq (.region [.op 0 (.iaddr 100 (some 6) 1 (.tmp 8) (.const (.int .i64 0))),
 .op 1 (.load 101 false 1 (.tmp 100)),
 .op 2 (.iaddr 102 (some 6) 1 (.tmp 8) (.const (.int .i64 0))),
 .op 3 (.load 103 false 1 (.tmp 102)),
 .op 4 (.mov 11 (.tmp 101)),
 .op 5 (.mov 12 (.tmp 103))] [])
 (.seq (.seq (.region [.op 0 (.mov 13 (.const (.int .i64 0)))] [])
 (.block 3 (.loop ⟨[0, 1, 2, 7, 9, 11, 12, 13], [8]⟩ [((.exit 3), ⟨[0, 1, 2, 7, 9, 11, 12], [8]⟩), (.ret, ⟨[6], []⟩)]
 (.seq (.seq (.region [.op 0 (.mov 104 (.tmp 13)),
 .op 1 (.mov 105 (.tmp 0)),
 .op 2 (.bin 106 .lss .plain (.tmp 104) (.tmp 105))] [])
 (.cond (.tmp 106)
 .skip
 (.exit 3)))
 (.seq (.block 4 (.seq (.region [.op 0 (.mov 109 (.tmp 11)),
 .op 1 (.mov 110 (.tmp 13)),
 .op 2 (.iaddr 111 (some 6) 1 (.tmp 8) (.tmp 110)),
 .op 3 (.load 112 false 1 (.tmp 111)),
 .op 4 (.minmax 113 false [.tmp 109, .tmp 112]),
 .op 5 (.mov 114 (.tmp 12)),
 .op 6 (.mov 115 (.tmp 13)),
 .op 7 (.iaddr 116 (some 6) 1 (.tmp 8) (.tmp 115)),
 .op 8 (.load 117 false 1 (.tmp 116)),
 .op 9 (.minmax 118 true [.tmp 114, .tmp 117]),
 .op 10 (.mov 11 (.tmp 113)),
 .op 11 (.mov 12 (.tmp 118))] [])
 (.seq (.region [.op 0 (.mov 119 (.tmp 7)),
 .op 1 (.mov 120 (.tmp 13)),
 .op 2 (.call 121 12 [.tmp 119, .tmp 120]),
 .op 3 (.mov 122 (.tmp 13)),
 .op 4 (.iaddr 123 (some 6) 1 (.tmp 8) (.tmp 122)),
 .op 5 (.load 124 false 1 (.tmp 123)),
 .op 6 (.bin 125 .neq .plain (.tmp 121) (.tmp 124))] [(5, 2)])
 (.cond (.tmp 125)
 (.seq (.region [.op 0 (.mov 6 (.const (.bool false)))] [])
 .ret)
 .skip))))
 (.region [.op 0 (.mov 107 (.tmp 13)),
 .op 1 (.bin 108 .add .plain (.tmp 107) (.const (.int .i64 1))),
 .op 2 (.mov 13 (.tmp 108))] []))))))
 (.seq (.region [.op 0 (.mov 126 (.tmp 7)),
 .op 1 (.call 127 13 [.tmp 126]),
 .op 2 (.mov 128 (.tmp 12)),
 .op 3 (.mov 129 (.tmp 11)),
 .op 4 (.bin 130 .sub .plain (.tmp 128) (.tmp 129)),
 .op 5 (.bin 131 .neq .plain (.tmp 127) (.tmp 130)),
 .op 6 (.mov 132 (.tmp 131)),
 .guard 132 false [.op 7 (.mov 133 (.tmp 7)),
 .op 8 (.mov 134 (.tmp 0)),
 .op 9 (.call 135 12 [.tmp 133, .tmp 134]),
 .op 10 (.bin 136 .neq .plain (.tmp 135) (.const (.int .i64 0)))] [] [136],
 .op 11 (.pick 137 (.tmp 132) (.const (.bool true)) (.tmp 136))] [])
 (.cond (.tmp 137)
 (.seq (.region [.op 0 (.mov 6 (.const (.bool false)))] [])
 .ret)
 .skip))))))))
 (.region [.op 0 (.mov 43 (.tmp 9)),
 .op 1 (.bin 44 .add .plain (.tmp 43) (.const (.int .i64 1))),
 .op 2 (.mov 9 (.tmp 44))] []))))))
 (.seq (.region [.op 0 (.mov 6 (.const (.bool true)))] [])
 .ret)))))),
 [.tmp 6]⟩
theorem ok7 : funcOk Try.prog (drawOk Try.prog) Try.f7 A7 = true := by kernel_rfl
/-- xs: t0, t1, t2, t7, t9, t11, t12, t13, cells of 8 -/
noncomputable def L7_1 (call : Go.Fw.Call) (xs : List AVal) (h : Heap) : Option J :=
 (aBin .lss .plain (xs.getD 7 .undef) (xs.getD 0 .undef)).bind fun v71 =>
 condV v71
 ((aIdx 6 (xs.getD 7 .undef)).bind fun j72 =>
 (rdL (AVal.aggCells (xs.getD 8 .undef)) ((0) + j72 * 1) 1).bind fun c73 =>
 (fromCells false c73).bind fun v74 =>
 (aMinMaxL false [(xs.getD 5 .undef), v74]).bind fun v75 =>
 (aIdx 6 (xs.getD 7 .undef)).bind fun j76 =>
 (rdL (AVal.aggCells (xs.getD 8 .undef)) ((0) + j76 * 1) 1).bind fun c77 =>
 (fromCells false c77).bind fun v78 =>
 (aMinMaxL true [(xs.getD 6 .undef), v78]).bind fun v79 =>
 (call 12 [(xs.getD 3 .undef), (xs.getD 7 .undef)] h).bind fun r80 =>
 (aIdx 6 (xs.getD 7 .undef)).bind fun j81 =>
 (rdL (AVal.aggCells (xs.getD 8 .undef)) ((0) + j81 * 1) 1).bind fun c82 =>
 (fromCells false c82).bind fun v83 =>
 (aBin .neq .plain r80.1 v83).bind fun v84 =>
 bif checkPairs [(5, some (.lrd 8 ((0) + j81 * 1) 1)), (2, some (.ef [(8, (AVal.aggCells (xs.getD 8 .undef)))] h [(8, (AVal.aggCells (xs.getD 8 .undef)))] r80.2))] [(5, 2)] then condV v84
 (some (2, [(.bool false)], r80.2))
 ((aBin .add .plain (xs.getD 7 .undef) (.int .i64 1)).bind fun v85 =>
 some (0, [(xs.getD 0 .undef), (xs.getD 1 .undef), (xs.getD 2 .undef), (xs.getD 3 .undef), (xs.getD 4 .undef), v75, v79, v85, (.agg (AVal.aggCells (xs.getD 8 .undef)))], r80.2)) else none)
 (some (1, [(xs.getD 0 .undef), (xs.getD 1 .undef), (xs.getD 2 .undef), (xs.getD 3 .undef), (xs.getD 4 .undef), (xs.getD 5 .undef), (xs.getD 6 .undef), (.agg (AVal.aggCells (xs.getD 8 .undef)))], h))
/-- xs: t0, t1, t2, t7, t9, cells of 8 -/
noncomputable def L7_0 (call : Go.Fw.Call) (xs : List AVal) (h : Heap) : Option J :=
 (aLen false (xs.getD 1 .undef)).bind fun v8 =>
 (aBin .lss .plain (xs.getD 4 .undef) v8).bind fun v9 =>
 (guardV v9 true
 ((aLen false (xs.getD 2 .undef)).bind fun v10 =>
 (aBin .lss .plain (xs.getD 4 .undef) v10).bind fun v11 =>
 some (0, [v11], h))
 (some (0, [skipV], h))).bind fun g12 =>
 (aPick v9 (g12.2.1.getD 0 .undef) (.bool false)).bind fun v13 =>
 (guardV v13 true
 ((aBin .lss .plain (xs.getD 4 .undef) (.int .i64 60)).bind fun v14 =>
 some (0, [v14], g12.2.2))
 (some (0, [skipV], g12.2.2))).bind fun g15 =>
 (aPick v13 (g15.2.1.getD 0 .undef) (.bool false)).bind fun v16 =>
 (guardV v16 true
 ((aBin .neq .ptr (xs.getD 3 .undef) (.nilPtr)).bind fun v17 =>
 some (0, [v17], g15.2.2))
 (some (0, [skipV], g15.2.2))).bind fun g18 =>
 (aPick v16 (g18.2.1.getD 0 .undef) (.bool false)).bind fun v19 =>
 condV v19
 ((aIaddr 1 (xs.getD 1 .undef) (xs.getD 4 .undef)).bind fun v20 =>
 (aLoad g18.2.2 1 v20).bind fun c21 =>
 (fromCells false c21).bind fun v22 =>
 (aBin .lss .plain v22 (.int .i64 0)).bind fun v23 =>
 (guardV v23 false
 ((aIaddr 1 (xs.getD 1 .undef) (xs.getD 4 .undef)).bind fun v24 =>
 (aLoad g18.2.2 1 v24).bind fun c25 =>
 (fromCells false c25).bind fun v26 =>
 (aBin .geq .plain v26 (xs.getD 0 .undef)).bind fun v27 =>
 some (0, [v27], g18.2.2))
 (some (0, [skipV], g18.2.2))).bind fun g28 =>
 (aPick v23 (.bool true) (g28.2.1.getD 0 .undef)).bind fun v29 =>
 (condV v29
 (some (0, [(xs.getD 0 .undef), (xs.getD 1 .undef), (xs.getD 2 .undef), (xs.getD 3 .undef), (xs.getD 4 .undef), (.int .i64 23), (.agg (AVal.aggCells (xs.getD 5 .undef)))], g28.2.2))
 ((aIaddr 1 (xs.getD 2 .undef) (xs.getD 4 .undef)).bind fun v30 =>
 (aLoad g28.2.2 1 v30).bind fun c31 =>
 (fromCells false c31).bind fun v32 =>
 (aBin .lss .plain v32 (.int .i64 1)).bind fun v33 =>
 (guardV v33 false
 ((aIaddr 1 (xs.getD 2 .undef) (xs.getD 4 .undef)).bind fun v34 =>
 (aLoad g28.2.2 1 v34).bind fun c35 =>
 (fromCells false c35).bind fun v36 =>
 (aBin .gtr .plain v36 (.int .i64 1024)).bind fun v37 =>
 some (0, [v37], g28.2.2))
 (some (0, [skipV], g28.2.2))).bind fun g38 =>
 (aPick v33 (.bool true) (g38.2.1.getD 0 .undef)).bind fun v39 =>
 (condV v39
 (some (0, [(xs.getD 0 .undef), (xs.getD 1 .undef), (xs.getD 2 .undef), (xs.getD 3 .undef), (xs.getD 4 .undef), (.int .i64 1), (.agg (AVal.aggCells (xs.getD 5 .undef)))], g38.2.2))
 ((aIaddr 1 (xs.getD 1 .undef) (xs.getD 4 .undef)).bind fun v40 =>
 (aLoad g38.2.2 1 v40).bind fun c41 =>
 (fromCells false c41).bind fun v42 =>
 (aIaddr 1 (xs.getD 1 .undef) (xs.getD 4 .undef)).bind fun v43 =>
 (aLoad g38.2.2 1 v43).bind fun c44 =>
 (fromCells false c44).bind fun v45 =>
 (aIdx 6 v45).bind fun j46 =>
 (rdL (AVal.aggCells (xs.getD 5 .undef)) ((0) + j46 * 1) 1).bind fun c47 =>
 (fromCells false c47).bind fun v48 =>
 (aIaddr 1 (xs.getD 2 .undef) (xs.getD 4 .undef)).bind fun v49 =>
 (aLoad g38.2.2 1 v49).bind fun c50 =>
 (fromCells false c50).bind fun v51 =>
 (aBin .add .plain v48 v51).bind fun v52 =>
 (aIdx 6 v42).bind fun j53 =>
 (aCells 1 v52).bind fun c54 =>
 bif Nat.ble (((0) + j53 * 1) + 1) (List.length (AVal.aggCells (xs.getD 5 .undef))) then some (0, [(xs.getD 0 .undef), (xs.getD 1 .undef), (xs.getD 2 .undef), (xs.getD 3 .undef), (xs.getD 4 .undef), (.int .i64 0), (.agg (splice (AVal.aggCells (xs.getD 5 .undef)) ((0) + j53 * 1) c54))], g38.2.2) else none)).bind fun x55 =>
 bif Nat.beq x55.1 0 then some (0, [(x55.2.1.getD 0 .undef), (x55.2.1.getD 1 .undef), (x55.2.1.getD 2 .undef), (x55.2.1.getD 3 .undef), (x55.2.1.getD 4 .undef), (x55.2.1.getD 5 .undef), (.agg (AVal.aggCells (x55.2.1.getD 6 .undef)))], x55.2.2) else
 none)).bind fun x56 =>
 bif Nat.beq x56.1 0 then (aIaddr 1 (x56.2.1.getD 1 .undef) (x56.2.1.getD 4 .undef)).bind fun v57 =>
 (aLoad x56.2.2 1 v57).bind fun c58 =>
 (fromCells false c58).bind fun v59 =>
 (aIaddr 1 (x56.2.1.getD 2 .undef) (x56.2.1.getD 4 .undef)).bind fun v60 =>
 (aLoad x56.2.2 1 v60).bind fun c61 =>
 (fromCells false c61).bind fun v62 =>
 (call 11 [(x56.2.1.getD 3 .undef), v59, v62] x56.2.2).bind fun r63 =>
 (aBin .neq .plain r63.1 (x56.2.1.getD 5 .undef)).bind fun v64 =>
 condV v64
 (some (2, [(.bool false)], r63.2))
 ((aIdx 6 (.int .i64 0)).bind fun j65 =>
 (rdL (AVal.aggCells (x56.2.1.getD 6 .undef)) ((0) + j65 * 1) 1).bind fun c66 =>
 (fromCells false c66).bind fun v67 =>
 (aIdx 6 (.int .i64 0)).bind fun j68 =>
 (rdL (AVal.aggCells (x56.2.1.getD 6 .undef)) ((0) + j68 * 1) 1).bind fun c69 =>
 (fromCells false c69).bind fun v70 =>
 (loop (L7_1 call) [(x56.2.1.getD 0 .undef), (x56.2.1.getD 1 .undef), (x56.2.1.getD 2 .undef), (x56.2.1.getD 3 .undef), (x56.2.1.getD 4 .undef), v67, v70, (.int .i64 0), (.agg (AVal.aggCells (x56.2.1.getD 6 .undef)))] r63.2).bind fun x86 =>
 bif Nat.beq x86.1 1 then (call 13 [(x86.2.1.getD 3 .undef)] x86.2.2).bind fun r87 =>
 (aBin .sub .plain (x86.2.1.getD 6 .undef) (x86.2.1.getD 5 .undef)).bind fun v88 =>
 (aBin .neq .plain r87.1 v88).bind fun v89 =>
 (guardV v89 false
 ((call 12 [(x86.2.1.getD 3 .undef), (x86.2.1.getD 0 .undef)] r87.2).bind fun r90 =>
 (aBin .neq .plain r90.1 (.int .i64 0)).bind fun v91 =>
 some (0, [v91], r90.2))
 (some (0, [skipV], r87.2))).bind fun g92 =>
 (aPick v89 (.bool true) (g92.2.1.getD 0 .undef)).bind fun v93 =>
 condV v93
 (some (2, [(.bool false)], g92.2.2))
 ((aBin .add .plain (x86.2.1.getD 4 .undef) (.int .i64 1)).bind fun v94 =>
 some (0, [(x86.2.1.getD 0 .undef), (x86.2.1.getD 1 .undef), (x86.2.1.getD 2 .undef), (x86.2.1.getD 3 .undef), v94, (.agg (AVal.aggCells (x86.2.1.getD 7 .undef)))], g92.2.2)) else
 bif Nat.beq x86.1 2 then some (2, [(x86.2.1.getD 0 .undef)], x86.2.2) else
 none) else
 none)
 (some (1, [], g18.2.2))
noncomputable def S7 (call : Go.Fw.Call) (a0 a1 a2 : AVal) (h : Heap) : Option J :=
 (call 10 [a0] h).bind fun r1 =>
 (aBin .eql .ptr r1.1 (.nilPtr)).bind fun v2 =>
 (aBin .lss .plain a0 (.int .i64 1)).bind fun v3 =>
 (guardV v3 false
 ((aBin .gtr .plain a0 (.int .i64 6)).bind fun v4 =>
 some (0, [v4], r1.2))
 (some (0, [skipV], r1.2))).bind fun g5 =>
 (aPick v3 (.bool true) (g5.2.1.getD 0 .undef)).bind fun v6 =>
 (aBin .neq .bool v2 v6).bind fun v7 =>
 condV v7
 (some (0, [(.bool false)], g5.2.2))
 ((loop (L7_0 call) [a0, a1, a2, r1.1, (.int .i64 0), (.agg [.int .i64 0, .int .i64 0, .int .i64 0, .int .i64 0, .int .i64 0, .int .i64 0])] g5.2.2).bind fun x95 =>
 bif Nat.beq x95.1 1 then some (0, [(.bool true)], x95.2.2) else
 bif Nat.beq x95.1 2 then some (0, [(x95.2.1.getD 0 .undef)], x95.2.2) else
 none)
theorem run7 (call : Go.Fw.Call) (a0 a1 a2 : AVal) (h : Heap) : runFn call (.code A7) [a0, a1, a2] h = (S7 call a0 a1 a2 h).bind ansOf := by kernel_rfl

/-- frankpledge/frankpledgelaw7.known -/
noncomputable def A8 : AFunc := ⟨0, (.seq (.region [.op 0 (.mov 0 (.const (.bool false)))] [])
 (.seq (.region [.op 0 (.call 5 10 [.const (.int .i64 2)]),
 .op 1 (.mov 1 (.tmp 5))] [])
 (.seq (.seq (.region [.op 0 (.mov 6 (.tmp 1)),
 .op 1 (.bin 7 .eql .ptr (.tmp 6) (.const (.nilPtr))),
 .op 2 (.mov 8 (.tmp 7)),
 .guard 8 false [.op 3 (.call 9 10 [.const (.int .i64 0)]),
 .op 4 (.bin 10 .neq .ptr (.tmp 9) (.const (.nilPtr)))] [] [10],
 .op 5 (.pick 11 (.tmp 8) (.const (.bool true)) (.tmp 10)),
 .op 6 (.mov 12 (.tmp 11)),
 .guard 12 false [.op 7 (.call 13 10 [.const (.int .i64 7)]),
 .op 8 (.bin 14 .neq .ptr (.tmp 13) (.const (.nilPtr)))] [] [14],
 .op 9 (.pick 15 (.tmp 12) (.const (.bool true)) (.tmp 14))] [])
 (.cond (.tmp 15)
 (.seq (.region [.op 0 (.mov 0 (.const (.bool false)))] [])
 .ret)
 .skip))
 (.seq (.region [.op 0 (.mov 16 (.tmp 1)),
 .op 1 (.call 17 11 [.tmp 16, .const (.int .i64 0), .const (.int .i64 5)]),
 .op 2 (.mov 18 (.tmp 1)),
 .op 3 (.call 19 11 [.tmp 18, .const (.int .i64 0), .const (.int .i64 0)]),
 .op 4 (.mov 20 (.tmp 1)),
 .op 5 (.call 21 11 [.tmp 20, .const (.int .i64 2), .const (.int .i64 1)]),
 .op 6 (.mov 2 (.tmp 17)),
 .op 7 (.mov 3 (.tmp 19)),
 .op 8 (.mov 4 (.tmp 21))] [])
 (.seq (.region [.op 0 (.mov 22 (.tmp 2)),
 .op 1 (.bin 23 .eql .plain (.tmp 22) (.const (.int .i64 0))),
 .op 2 (.mov 24 (.tmp 23)),
 .guard 24 true [.op 3 (.mov 25 (.tmp 3)),
 .op 4 (.bin 26 .eql .plain (.tmp 25) (.const (.int .i64 1)))] [] [26],
 .op 5 (.pick 27 (.tmp 24) (.tmp 26) (.const (.bool false))),
 .op 6 (.mov 28 (.tmp 27)),
 .guard 28 true [.op 7 (.mov 29 (.tmp 4)),
 .op 8 (.bin 30 .eql .plain (.tmp 29) (.const (.int .i64 23)))] [] [30],
 .op 9 (.pick 31 (.tmp 28) (.tmp 30) (.const (.bool false))),
 .op 10 (.mov 32 (.tmp 31)),
 .guard 32 true [.op 11 (.mov 33 (.tmp 1)),
 .op 12 (.call 34 13 [.tmp 33]),
 .op 13 (.bin 35 .eql .plain (.tmp 34) (.const (.int .i64 5)))] [] [35],
 .op 14 (.pick 36 (.tmp 32) (.tmp 35) (.const (.bool false))),
 .op 15 (.mov 37 (.tmp 36)),
 .guard 37 true [.op 16 (.mov 38 (.tmp 1)),
 .op 17 (.call 39 12 [.tmp 38, .const (.int .i64 0)]),
 .op 18 (.bin 40 .eql .plain (.tmp 39) (.const (.int .i64 5)))] [] [40],
 .op 19 (.pick 41 (.tmp 37) (.tmp 40) (.const (.bool false))),
 .op 20 (.mov 42 (.tmp 41)),
 .guard 42 true [.op 21 (.mov 43 (.tmp 1)),
 .op 22 (.call 44 12 [.tmp 43, .const (.int .i64 (-1))]),
 .op 23 (.bin 45 .eql .plain (.tmp 44) (.const (.int .i64 0)))] [] [45],
 .op 24 (.pick 46 (.tmp 42) (.tmp 45) (.const (.bool false))),
 .op 25 (.mov 0 (.tmp 46))] [])
 .ret))))),
 [.tmp 0]⟩
theorem ok8 : funcOk Try.prog (drawOk Try.prog) Try.f8 A8 = true := by kernel_rfl
noncomputable def S8 (call : Go.Fw.Call) (h : Heap) : Option J :=
 (call 10 [(.int .i64 2)] h).bind fun r1 =>
 (aBin .eql .ptr r1.1 (.nilPtr)).bind fun v2 =>
 (guardV v2 false
 ((call 10 [(.int .i64 0)] r1.2).bind fun r3 =>
 (aBin .neq .ptr r3.1 (.nilPtr)).bind fun v4 =>
 some (0, [v4], r3.2))
 (some (0, [skipV], r1.2))).bind fun g5 =>
 (aPick v2 (.bool true) (g5.2.1.getD 0 .undef)).bind fun v6 =>
 (guardV v6 false
 ((call 10 [(.int .i64 7)] g5.2.2).bind fun r7 =>
 (aBin .neq .ptr r7.1 (.nilPtr)).bind fun v8 =>
 some (0, [v8], r7.2))
 (some (0, [skipV], g5.2.2))).bind fun g9 =>
 (aPick v6 (.bool true) (g9.2.1.getD 0 .undef)).bind fun v10 =>
 condV v10
 (some (0, [(.bool false)], g9.2.2))
 ((call 11 [r1.1, (.int .i64 0), (.int .i64 5)] g9.2.2).bind fun r11 =>
 (call 11 [r1.1, (.int .i64 0), (.int .i64 0)] r11.2).bind fun r12 =>
 (call 11 [r1.1, (.int .i64 2), (.int .i64 1)] r12.2).bind fun r13 =>
 (aBin .eql .plain r11.1 (.int .i64 0)).bind fun v14 =>
 (guardV v14 true
 ((aBin .eql .plain r12.1 (.int .i64 1)).bind fun v15 =>
 some (0, [v15], r13.2))
 (some (0, [skipV], r13.2))).bind fun g16 =>
 (aPick v14 (g16.2.1.getD 0 .undef) (.bool false)).bind fun v17 =>
 (guardV v17 true
 ((aBin .eql .plain r13.1 (.int .i64 23)).bind fun v18 =>
 some (0, [v18], g16.2.2))
 (some (0, [skipV], g16.2.2))).bind fun g19 =>
 (aPick v17 (g19.2.1.getD 0 .undef) (.bool false)).bind fun v20 =>
 (guardV v20 true
 ((call 13 [r1.1] g19.2.2).bind fun r21 =>
 (aBin .eql .plain r21.1 (.int .i64 5)).bind fun v22 =>
 some (0, [v22], r21.2))
 (some (0, [skipV], g19.2.2))).bind fun g23 =>
 (aPick v20 (g23.2.1.getD 0 .undef) (.bool false)).bind fun v24 =>
 (guardV v24 true
 ((call 12 [r1.1, (.int .i64 0)] g23.2.2).bind fun r25 =>
 (aBin .eql .plain r25.1 (.int .i64 5)).bind fun v26 =>
 some (0, [v26], r25.2))
 (some (0, [skipV], g23.2.2))).bind fun g27 =>
 (aPick v24 (g27.2.1.getD 0 .undef) (.bool false)).bind fun v28 =>
 (guardV v28 true
 ((call 12 [r1.1, (.int .i64 (-1))] g27.2.2).bind fun r29 =>
 (aBin .eql .plain r29.1 (.int .i64 0)).bind fun v30 =>
 some (0, [v30], r29.2))
 (some (0, [skipV], g27.2.2))).bind fun g31 =>
 (aPick v28 (g31.2.1.getD 0 .undef) (.bool false)).bind fun v32 =>
 some (0, [v32], g31.2.2))
theorem run8 (call : Go.Fw.Call) (h : Heap) : runFn call (.code A8) [] h = (S8 call  h).bind ansOf := by kernel_rfl

/-- frankpledge/frankpledgebook.Within -/
noncomputable def A9 : AFunc := ⟨3, (.seq (.region [.op 0 (.mov 6 (.const (.int .i64 0)))] [])
 (.seq (.seq (.region [.op 0 (.mov 7 (.tmp 0)),
 .op 1 (.mov 8 (.tmp 1)),
 .op 2 (.bin 9 .geq .plain (.tmp 7) (.tmp 8)),
 .op 3 (.mov 10 (.tmp 9)),
 .guard 10 true [.op 4 (.mov 11 (.tmp 0)),
 .op 5 (.mov 12 (.tmp 2)),
 .op 6 (.bin 13 .leq .plain (.tmp 11) (.tmp 12))] [] [13],
 .op 7 (.pick 14 (.tmp 10) (.tmp 13) (.const (.bool false)))] [])
 (.cond (.tmp 14)
 (.seq (.region [.op 0 (.mov 15 (.tmp 0)),
 .op 1 (.mov 6 (.tmp 15))] [])
 .ret)
 .skip))
 (.seq (.region [.op 0 (.mov 16 (.tmp 0)),
 .op 1 (.mov 17 (.tmp 2)),
 .op 2 (.mov 18 (.tmp 1)),
 .op 3 (.bin 19 .sub .plain (.tmp 17) (.tmp 18)),
 .op 4 (.bin 20 .add .plain (.tmp 19) (.const (.int .i64 1))),
 .op 5 (.bin 21 .rem .plain (.tmp 16) (.tmp 20)),
 .op 6 (.mov 0 (.tmp 21))] [])
 (.seq (.seq (.region [.op 0 (.mov 22 (.tmp 0)),
 .op 1 (.bin 23 .lss .plain (.tmp 22) (.const (.int .i64 0)))] [])
 (.join [(.normal, ⟨[0, 1], []⟩)] (.cond (.tmp 23)
 (.region [.op 0 (.mov 24 (.tmp 0)),
 .op 1 (.mov 25 (.tmp 2)),
 .op 2 (.bin 26 .add .plain (.tmp 24) (.tmp 25)),
 .op 3 (.mov 27 (.tmp 1)),
 .op 4 (.bin 28 .sub .plain (.tmp 26) (.tmp 27)),
 .op 5 (.bin 29 .add .plain (.tmp 28) (.const (.int .i64 1))),
 .op 6 (.mov 0 (.tmp 29))] [])
 .skip)))
 (.seq (.region [.op 0 (.mov 30 (.tmp 1)),
 .op 1 (.mov 31 (.tmp 0)),
 .op 2 (.bin 32 .add .plain (.tmp 30) (.tmp 31)),
 .op 3 (.mov 6 (.tmp 32))] [])
 .ret))))),
 [.tmp 6]⟩
theorem ok9 : funcOk Try.prog (drawOk Try.prog) Try.f9 A9 = true := by kernel_rfl
noncomputable def S9 (call : Go.Fw.Call) (a0 a1 a2 : AVal) (h : Heap) : Option J :=
 (aBin .geq .plain a0 a1).bind fun v1 =>
 (guardV v1 true
 ((aBin .leq .plain a0 a2).bind fun v2 =>
 some (0, [v2], h))
 (some (0, [skipV], h))).bind fun g3 =>
 (aPick v1 (g3.2.1.getD 0 .undef) (.bool false)).bind fun v4 =>
 condV v4
 (some (0, [a0], g3.2.2))
 ((aBin .sub .plain a2 a1).bind fun v5 =>
 (aBin .add .plain v5 (.int .i64 1)).bind fun v6 =>
 (aBin .rem .plain a0 v6).bind fun v7 =>
 (aBin .lss .plain v7 (.int .i64 0)).bind fun v8 =>
 (condV v8
 ((aBin .add .plain v7 a2).bind fun v9 =>
 (aBin .sub .plain v9 a1).bind fun v10 =>
 (aBin .add .plain v10 (.int .i64 1)).bind fun v11 =>
 some (0, [v11, a1], g3.2.2))
 (some (0, [v7, a1], g3.2.2))).bind fun x12 =>
 bif Nat.beq x12.1 0 then (aBin .add .plain (x12.2.1.getD 1 .undef) (x12.2.1.getD 0 .undef)).bind fun v13 =>
 some (0, [v13], x12.2.2) else
 none)
theorem run9 (call : Go.Fw.Call) (a0 a1 a2 : AVal) (h : Heap) : runFn call (.code A9) [a0, a1, a2] h = (S9 call a0 a1 a2 h).bind ansOf := by kernel_rfl

/-- frankpledge/clock.New -/
noncomputable def A10 : AFunc := ⟨1, (.seq (.region [.op 0 (.mov 2 (.const (.nilPtr)))] [])
 (.seq (.seq (.region [.op 0 (.mov 3 (.tmp 0)),
 .op 1 (.bin 4 .lss .plain (.tmp 3) (.const (.int .i64 1))),
 .op 2 (.mov 5 (.tmp 4)),
 .guard 5 false [.op 3 (.mov 6 (.tmp 0)),
 .op 4 (.bin 7 .gtr .plain (.tmp 6) (.const (.int .i64 6)))] [] [7],
 .op 5 (.pick 8 (.tmp 5) (.const (.bool true)) (.tmp 7))] [])
 (.cond (.tmp 8)
 (.seq (.region [.op 0 (.mov 2 (.const (.nilPtr)))] [])
 .ret)
 .skip))
 (.seq (.region [.op 0 (.mov 9 (.tmp 0)),
 .op 1 (.mkSlice 10 1 8 [.int .i64 0] (.tmp 9) (.tmp 9)),
 .op 2 (.build 11 [.nilSlice] [(0, 1, .tmp 10)]),
 .op 3 (.box 12 false (.tmp 11)),
 .op 4 (.mov 2 (.tmp 12))] [])
 .ret))),
 [.tmp 2]⟩
theorem ok10 : funcOk Try.prog (drawOk Try.prog) Try.f10 A10 = true := by kernel_rfl
noncomputable def S10 (call : Go.Fw.Call) (a0 : AVal) (h : Heap) : Option J :=
 (aBin .lss .plain a0 (.int .i64 1)).bind fun v1 =>
 (guardV v1 false
 ((aBin .gtr .plain a0 (.int .i64 6)).bind fun v2 =>
 some (0, [v2], h))
 (some (0, [skipV], h))).bind fun g3 =>
 (aPick v1 (.bool true) (g3.2.1.getD 0 .undef)).bind fun v4 =>
 condV v4
 (some (0, [(.nilPtr)], g3.2.2))
 ((aMkSlice 1 8 [.int .i64 0] a0 a0 g3.2.2).bind fun r5 =>
 (aFill [.nilSlice] [(0, 1, r5.1)]).bind fun c6 =>
 (AVal.cells? (.agg c6)).bind fun c7 =>
 some (0, [(.ptr r5.2.next 0)], (r5.2.alloc c7)))
theorem run10 (call : Go.Fw.Call) (a0 : AVal) (h : Heap) : runFn call (.code A10) [a0] h = (S10 call a0 h).bind ansOf := by kernel_rfl

/-- (*frankpledge/clock.Clocks).Tick -/
noncomputable def A11 : AFunc := ⟨3, (.seq (.region [.op 0 (.mov 6 (.const (.int .i64 0)))] [])
 (.seq (.block 0 (.seq (.region [.op 0 (.mov 8 (.tmp 0)),
 .op 1 (.mov 9 (.tmp 1)),
 .op 2 (.call 10 14 [.tmp 8, .tmp 9]),
 .op 3 (.un 11 .not (.tmp 10)),
 .op 4 (.mov 7 (.tmp 11))] [])
 (.cond (.tmp 7)
 (.seq (.region [.op 0 (.mov 6 (.const (.int .i64 23)))] [])
 .ret)
 (.seq (.region [.op 0 (.mov 13 (.tmp 2)),
 .op 1 (.bin 14 .lss .plain (.tmp 13) (.const (.int .i64 1))),
 .op 2 (.mov 15 (.tmp 14)),
 .guard 15 false [.op 3 (.mov 16 (.tmp 2)),
 .op 4 (.bin 17 .gtr .plain (.tmp 16) (.const (.int .i64 1024)))] [] [17],
 .op 5 (.pick 18 (.tmp 15) (.const (.bool true)) (.tmp 17)),
 .op 6 (.mov 12 (.tmp 18))] [])
 (.cond (.tmp 12)
 (.seq (.region [.op 0 (.mov 6 (.const (.int .i64 1)))] [])
 .ret)
 .skip)))))
 (.seq (.region [.op 0 (.mov 19 (.tmp 0)),
 .op 1 (.nilchk 20 (.tmp 19)),
 .op 2 (.faddr 21 0 (.tmp 20)),
 .op 3 (.load 22 false 1 (.tmp 21)),
 .op 4 (.mov 23 (.tmp 1)),
 .op 5 (.iaddr 24 none 1 (.tmp 22) (.tmp 23)),
 .op 6 (.load 25 false 1 (.tmp 24)),
 .op 7 (.mov 26 (.tmp 2)),
 .op 8 (.bin 27 .add .plain (.tmp 25) (.tmp 26)),
 .op 9 (.iaddr 28 none 1 (.tmp 22) (.tmp 23)),
 .op 10 (.store false 1 (.tmp 28) (.tmp 27))] [])
 (.seq (.region [.op 0 (.mov 6 (.const (.int .i64 0)))] [])
 .ret)))),
 [.tmp 6]⟩
theorem ok11 : funcOk Try.prog (drawOk Try.prog) Try.f11 A11 = true := by kernel_rfl
noncomputable def S11 (call : Go.Fw.Call) (a0 a1 a2 : AVal) (h : Heap) : Option J :=
 (call 14 [a0, a1] h).bind fun r1 =>
 (aUn .not r1.1).bind fun v2 =>
 condV v2
 (some (0, [(.int .i64 23)], r1.2))
 ((aBin .lss .plain a2 (.int .i64 1)).bind fun v3 =>
 (guardV v3 false
 ((aBin .gtr .plain a2 (.int .i64 1024)).bind fun v4 =>
 some (0, [v4], r1.2))
 (some (0, [skipV], r1.2))).bind fun g5 =>
 (aPick v3 (.bool true) (g5.2.1.getD 0 .undef)).bind fun v6 =>
 condV v6
 (some (0, [(.int .i64 1)], g5.2.2))
 ((aNilchk a0).bind fun v7 =>
 (aFaddr 0 v7).bind fun v8 =>
 (aLoad g5.2.2 1 v8).bind fun c9 =>
 (fromCells false c9).bind fun v10 =>
 (aIaddr 1 v10 a1).bind fun v11 =>
 (aLoad g5.2.2 1 v11).bind fun c12 =>
 (fromCells false c12).bind fun v13 =>
 (aBin .add .plain v13 a2).bind fun v14 =>
 (aIaddr 1 v10 a1).bind fun v15 =>
 (aCells 1 v14).bind fun c16 =>
 (aStore g5.2.2 v15 c16).bind fun h17 =>
 some (0, [(.int .i64 0)], h17)))
theorem run11 (call : Go.Fw.Call) (a0 a1 a2 : AVal) (h : Heap) : runFn call (.code A11) [a0, a1, a2] h = (S11 call a0 a1 a2 h).bind ansOf := by kernel_rfl

/-- (*frankpledge/clock.Clocks).Now -/
noncomputable def A12 : AFunc := ⟨2, (.seq (.region [.op 0 (.mov 4 (.const (.int .i64 0)))] [])
 (.seq (.seq (.region [.op 0 (.mov 5 (.tmp 0)),
 .op 1 (.mov 6 (.tmp 1)),
 .op 2 (.call 7 14 [.tmp 5, .tmp 6]),
 .op 3 (.un 8 .not (.tmp 7))] [])
 (.cond (.tmp 8)
 (.seq (.region [.op 0 (.mov 4 (.const (.int .i64 0)))] [])
 .ret)
 .skip))
 (.seq (.region [.op 0 (.mov 9 (.tmp 0)),
 .op 1 (.nilchk 10 (.tmp 9)),
 .op 2 (.faddr 11 0 (.tmp 10)),
 .op 3 (.load 12 false 1 (.tmp 11)),
 .op 4 (.mov 13 (.tmp 1)),
 .op 5 (.iaddr 14 none 1 (.tmp 12) (.tmp 13)),
 .op 6 (.load 15 false 1 (.tmp 14)),
 .op 7 (.mov 4 (.tmp 15))] [])
 .ret))),
 [.tmp 4]⟩
theorem ok12 : funcOk Try.prog (drawOk Try.prog) Try.f12 A12 = true := by kernel_rfl
noncomputable def S12 (call : Go.Fw.Call) (a0 a1 : AVal) (h : Heap) : Option J :=
 (call 14 [a0, a1] h).bind fun r1 =>
 (aUn .not r1.1).bind fun v2 =>
 condV v2
 (some (0, [(.int .i64 0)], r1.2))
 ((aNilchk a0).bind fun v3 =>
 (aFaddr 0 v3).bind fun v4 =>
 (aLoad r1.2 1 v4).bind fun c5 =>
 (fromCells false c5).bind fun v6 =>
 (aIaddr 1 v6 a1).bind fun v7 =>
 (aLoad r1.2 1 v7).bind fun c8 =>
 (fromCells false c8).bind fun v9 =>
 some (0, [v9], r1.2))
theorem run12 (call : Go.Fw.Call) (a0 a1 : AVal) (h : Heap) : runFn call (.code A12) [a0, a1] h = (S12 call a0 a1 h).bind ansOf := by kernel_rfl

/-- (*frankpledge/clock.Clocks).Apart -/
noncomputable def A13 : AFunc := ⟨1, (.seq (.region [.op 0 (.mov 2 (.const (.int .i64 0)))] [])
 (.seq (.region [.op 0 (.mov 3 (.tmp 0)),
 .op 1 (.nilchk 4 (.tmp 3)),
 .op 2 (.faddr 5 0 (.tmp 4)),
 .op 3 (.load 6 false 1 (.tmp 5)),
 .op 4 (.call 7 15 [.tmp 6]),
 .op 5 (.mov 8 (.tmp 0)),
 .op 6 (.nilchk 9 (.tmp 8)),
 .op 7 (.faddr 10 0 (.tmp 9)),
 .op 8 (.load 11 false 1 (.tmp 10)),
 .op 9 (.call 12 16 [.tmp 11]),
 .op 10 (.bin 13 .sub .plain (.tmp 7) (.tmp 12)),
 .op 11 (.mov 2 (.tmp 13))] [(8, 4)])
 .ret)),
 [.tmp 2]⟩
theorem ok13 : funcOk Try.prog (drawOk Try.prog) Try.f13 A13 = true := by kernel_rfl
noncomputable def S13 (call : Go.Fw.Call) (a0 : AVal) (h : Heap) : Option J :=
 (aNilchk a0).bind fun v1 =>
 (aFaddr 0 v1).bind fun v2 =>
 (aLoad h 1 v2).bind fun c3 =>
 (fromCells false c3).bind fun v4 =>
 (call 15 [v4] h).bind fun r5 =>
 (aNilchk a0).bind fun v6 =>
 (aFaddr 0 v6).bind fun v7 =>
 (aLoad r5.2 1 v7).bind fun c8 =>
 (fromCells false c8).bind fun v9 =>
 (call 16 [v9] r5.2).bind fun r10 =>
 (aBin .sub .plain r5.1 r10.1).bind fun v11 =>
 bif checkPairs [(8, logRd v7 1), (4, some (.ef [] h [] r5.2))] [(8, 4)] then some (0, [v11], r10.2) else none
theorem run13 (call : Go.Fw.Call) (a0 : AVal) (h : Heap) : runFn call (.code A13) [a0] h = (S13 call a0 h).bind ansOf := by kernel_rfl

/-- (*frankpledge/clock.Clocks).there -/
noncomputable def A14 : AFunc := ⟨2, (.seq (.region [.op 0 (.mov 4 (.const (.bool false)))] [])
 (.seq (.region [.op 0 (.mov 5 (.tmp 1)),
 .op 1 (.bin 6 .geq .plain (.tmp 5) (.const (.int .i64 0))),
 .op 2 (.mov 7 (.tmp 6)),
 .guard 7 true [.op 3 (.mov 8 (.tmp 1)),
 .op 4 (.mov 9 (.tmp 0)),
 .op 5 (.nilchk 10 (.tmp 9)),
 .op 6 (.faddr 11 0 (.tmp 10)),
 .op 7 (.load 12 false 1 (.tmp 11)),
 .op 8 (.len 13 false (.tmp 12)),
 .op 9 (.bin 14 .lss .plain (.tmp 8) (.tmp 13))] [] [14],
 .op 10 (.pick 15 (.tmp 7) (.tmp 14) (.const (.bool false))),
 .op 11 (.mov 4 (.tmp 15))] [])
 .ret)),
 [.tmp 4]⟩
theorem ok14 : funcOk Try.prog (drawOk Try.prog) Try.f14 A14 = true := by kernel_rfl
noncomputable def S14 (call : Go.Fw.Call) (a0 a1 : AVal) (h : Heap) : Option J :=
 (aBin .geq .plain a1 (.int .i64 0)).bind fun v1 =>
 (guardV v1 true
 ((aNilchk a0).bind fun v2 =>
 (aFaddr 0 v2).bind fun v3 =>
 (aLoad h 1 v3).bind fun c4 =>
 (fromCells false c4).bind fun v5 =>
 (aLen false v5).bind fun v6 =>
 (aBin .lss .plain a1 v6).bind fun v7 =>
 some (0, [v7], h))
 (some (0, [skipV], h))).bind fun g8 =>
 (aPick v1 (g8.2.1.getD 0 .undef) (.bool false)).bind fun v9 =>
 some (0, [v9], g8.2.2)
theorem run14 (call : Go.Fw.Call) (a0 a1 : AVal) (h : Heap) : runFn call (.code A14) [a0, a1] h = (S14 call a0 a1 h).bind ansOf := by kernel_rfl

/-- slices.Max[[]int64,int64] -/
noncomputable def A15 : AFunc := ⟨1, (.seq (.region [.op 0 (.mov 2 (.const (.int .i64 0)))] [])
 (.seq (.seq (.region [.op 0 (.mov 5 (.tmp 0)),
 .op 1 (.len 6 false (.tmp 5)),
 .op 2 (.bin 7 .lss .plain (.tmp 6) (.const (.int .i64 1)))] [])
 (.cond (.tmp 7)
 .dead
 .skip))
 (.seq (.region [.op 0 (.mov 9 (.tmp 0)),
 .op 1 (.iaddr 10 none 1 (.tmp 9) (.const (.int .i64 0))),
 .op 2 (.load 11 false 1 (.tmp 10)),
 .op 3 (.mov 3 (.tmp 11))] [])
 (.seq (.seq (.region [.op 0 (.mov 4 (.const (.int .i64 1)))] [])
 (.block 0 (.loop ⟨[0, 3, 4], []⟩ [((.exit 0), ⟨[3], []⟩)]
 (.seq (.seq (.region [.op 0 (.mov 12 (.tmp 4)),
 .op 1 (.mov 13 (.tmp 0)),
 .op 2 (.len 14 false (.tmp 13)),
 .op 3 (.bin 15 .lss .plain (.tmp 12) (.tmp 14))] [])
 (.cond (.tmp 15)
 .skip
 (.exit 0)))
 (.seq (.block 1 (.region [.op 0 (.mov 18 (.tmp 3)),
 .op 1 (.mov 19 (.tmp 0)),
 .op 2 (.mov 20 (.tmp 4)),
 .op 3 (.iaddr 21 none 1 (.tmp 19) (.tmp 20)),
 .op 4 (.load 22 false 1 (.tmp 21)),
 .op 5 (.minmax 23 true [.tmp 18, .tmp 22]),
 .op 6 (.mov 3 (.tmp 23))] []))
 (.region [.op 0 (.mov 16 (.tmp 4)),
 .op 1 (.bin 17 .add .plain (.tmp 16) (.const (.int .i64 1))),
 .op 2 (.mov 4 (.tmp 17))] []))))))
 (.seq (.region [.op 0 (.mov 24 (.tmp 3)),
 .op 1 (.mov 2 (.tmp 24))] [])
 .ret))))),
 [.tmp 2]⟩
theorem ok15 : funcOk Try.prog (drawOk Try.prog) Try.f15 A15 = true := by kernel_rfl
/-- xs: t0, t3, t4 -/
noncomputable def L15_0 (call : Go.Fw.Call) (xs : List AVal) (h : Heap) : Option J :=
 (aLen false (xs.getD 0 .undef)).bind fun v6 =>
 (aBin .lss .plain (xs.getD 2 .undef) v6).bind fun v7 =>
 condV v7
 ((aIaddr 1 (xs.getD 0 .undef) (xs.getD 2 .undef)).bind fun v8 =>
 (aLoad h 1 v8).bind fun c9 =>
 (fromCells false c9).bind fun v10 =>
 (aMinMaxL true [(xs.getD 1 .undef), v10]).bind fun v11 =>
 (aBin .add .plain (xs.getD 2 .undef) (.int .i64 1)).bind fun v12 =>
 some (0, [(xs.getD 0 .undef), v11, v12], h))
 (some (1, [(xs.getD 1 .undef)], h))
noncomputable def S15 (call : Go.Fw.Call) (a0 : AVal) (h : Heap) : Option J :=
 (aLen false a0).bind fun v1 =>
 (aBin .lss .plain v1 (.int .i64 1)).bind fun v2 =>
 condV v2
 (none)
 ((aIaddr 1 a0 (.int .i64 0)).bind fun v3 =>
 (aLoad h 1 v3).bind fun c4 =>
 (fromCells false c4).bind fun v5 =>
 (loop (L15_0 call) [a0, v5, (.int .i64 1)] h).bind fun x13 =>
 bif Nat.beq x13.1 1 then some (0, [(x13.2.1.getD 0 .undef)], x13.2.2) else
 none)
theorem run15 (call : Go.Fw.Call) (a0 : AVal) (h : Heap) : runFn call (.code A15) [a0] h = (S15 call a0 h).bind ansOf := by kernel_rfl

/-- slices.Min[[]int64,int64] -/
noncomputable def A16 : AFunc := ⟨1, (.seq (.region [.op 0 (.mov 2 (.const (.int .i64 0)))] [])
 (.seq (.seq (.region [.op 0 (.mov 5 (.tmp 0)),
 .op 1 (.len 6 false (.tmp 5)),
 .op 2 (.bin 7 .lss .plain (.tmp 6) (.const (.int .i64 1)))] [])
 (.cond (.tmp 7)
 .dead
 .skip))
 (.seq (.region [.op 0 (.mov 9 (.tmp 0)),
 .op 1 (.iaddr 10 none 1 (.tmp 9) (.const (.int .i64 0))),
 .op 2 (.load 11 false 1 (.tmp 10)),
 .op 3 (.mov 3 (.tmp 11))] [])
 (.seq (.seq (.region [.op 0 (.mov 4 (.const (.int .i64 1)))] [])
 (.block 0 (.loop ⟨[0, 3, 4], []⟩ [((.exit 0), ⟨[3], []⟩)]
 (.seq (.seq (.region [.op 0 (.mov 12 (.tmp 4)),
 .op 1 (.mov 13 (.tmp 0)),
 .op 2 (.len 14 false (.tmp 13)),
 .op 3 (.bin 15 .lss .plain (.tmp 12) (.tmp 14))] [])
 (.cond (.tmp 15)
 .skip
 (.exit 0)))
 (.seq (.block 1 (.region [.op 0 (.mov 18 (.tmp 3)),
 .op 1 (.mov 19 (.tmp 0)),
 .op 2 (.mov 20 (.tmp 4)),
 .op 3 (.iaddr 21 none 1 (.tmp 19) (.tmp 20)),
 .op 4 (.load 22 false 1 (.tmp 21)),
 .op 5 (.minmax 23 false [.tmp 18, .tmp 22]),
 .op 6 (.mov 3 (.tmp 23))] []))
 (.region [.op 0 (.mov 16 (.tmp 4)),
 .op 1 (.bin 17 .add .plain (.tmp 16) (.const (.int .i64 1))),
 .op 2 (.mov 4 (.tmp 17))] []))))))
 (.seq (.region [.op 0 (.mov 24 (.tmp 3)),
 .op 1 (.mov 2 (.tmp 24))] [])
 .ret))))),
 [.tmp 2]⟩
theorem ok16 : funcOk Try.prog (drawOk Try.prog) Try.f16 A16 = true := by kernel_rfl
/-- xs: t0, t3, t4 -/
noncomputable def L16_0 (call : Go.Fw.Call) (xs : List AVal) (h : Heap) : Option J :=
 (aLen false (xs.getD 0 .undef)).bind fun v6 =>
 (aBin .lss .plain (xs.getD 2 .undef) v6).bind fun v7 =>
 condV v7
 ((aIaddr 1 (xs.getD 0 .undef) (xs.getD 2 .undef)).bind fun v8 =>
 (aLoad h 1 v8).bind fun c9 =>
 (fromCells false c9).bind fun v10 =>
 (aMinMaxL false [(xs.getD 1 .undef), v10]).bind fun v11 =>
 (aBin .add .plain (xs.getD 2 .undef) (.int .i64 1)).bind fun v12 =>
 some (0, [(xs.getD 0 .undef), v11, v12], h))
 (some (1, [(xs.getD 1 .undef)], h))
noncomputable def S16 (call : Go.Fw.Call) (a0 : AVal) (h : Heap) : Option J :=
 (aLen false a0).bind fun v1 =>
 (aBin .lss .plain v1 (.int .i64 1)).bind fun v2 =>
 condV v2
 (none)
 ((aIaddr 1 a0 (.int .i64 0)).bind fun v3 =>
 (aLoad h 1 v3).bind fun c4 =>
 (fromCells false c4).bind fun v5 =>
 (loop (L16_0 call) [a0, v5, (.int .i64 1)] h).bind fun x13 =>
 bif Nat.beq x13.1 1 then some (0, [(x13.2.1.getD 0 .undef)], x13.2.2) else
 none)
theorem run16 (call : Go.Fw.Call) (a0 : AVal) (h : Heap) : runFn call (.code A16) [a0] h = (S16 call a0 h).bind ansOf := by kernel_rfl

noncomputable def tbl (f : Nat) : Option AFn :=
 match f with
 | 3 => some (.code A3)
 | 4 => some (.code A4)
 | 5 => some (.code A5)
 | 6 => some (.code A6)
 | 7 => some (.code A7)
 | 8 => some (.code A8)
 | 9 => some (.code A9)
 | 10 => some (.code A10)
 | 11 => some (.code A11)
 | 12 => some (.code A12)
 | 13 => some (.code A13)
 | 14 => some (.code A14)
 | 15 => some (.code A15)
 | 16 => some (.code A16)
 | _ => none
theorem c3 (h : Heap) : E tbl 3 [] h = (S3 (E tbl)  h).bind ansOf := (E_eq tbl 3 [] h).trans (run3 (E tbl)  h)
theorem c4 (a0 a1 a2 : AVal) (h : Heap) : E tbl 4 [a0, a1, a2] h = (S4 (E tbl) a0 a1 a2 h).bind ansOf := (E_eq tbl 4 [a0, a1, a2] h).trans (run4 (E tbl) a0 a1 a2 h)
theorem c5 (a0 a1 : AVal) (h : Heap) : E tbl 5 [a0, a1] h = (S5 (E tbl) a0 a1 h).bind ansOf := (E_eq tbl 5 [a0, a1] h).trans (run5 (E tbl) a0 a1 h)
theorem c6 (a0 a1 : AVal) (h : Heap) : E tbl 6 [a0, a1] h = (S6 (E tbl) a0 a1 h).bind ansOf := (E_eq tbl 6 [a0, a1] h).trans (run6 (E tbl) a0 a1 h)
theorem c7 (a0 a1 a2 : AVal) (h : Heap) : E tbl 7 [a0, a1, a2] h = (S7 (E tbl) a0 a1 a2 h).bind ansOf := (E_eq tbl 7 [a0, a1, a2] h).trans (run7 (E tbl) a0 a1 a2 h)
theorem c8 (h : Heap) : E tbl 8 [] h = (S8 (E tbl)  h).bind ansOf := (E_eq tbl 8 [] h).trans (run8 (E tbl)  h)
theorem c9 (a0 a1 a2 : AVal) (h : Heap) : E tbl 9 [a0, a1, a2] h = (S9 (E tbl) a0 a1 a2 h).bind ansOf := (E_eq tbl 9 [a0, a1, a2] h).trans (run9 (E tbl) a0 a1 a2 h)
theorem c10 (a0 : AVal) (h : Heap) : E tbl 10 [a0] h = (S10 (E tbl) a0 h).bind ansOf := (E_eq tbl 10 [a0] h).trans (run10 (E tbl) a0 h)
theorem c11 (a0 a1 a2 : AVal) (h : Heap) : E tbl 11 [a0, a1, a2] h = (S11 (E tbl) a0 a1 a2 h).bind ansOf := (E_eq tbl 11 [a0, a1, a2] h).trans (run11 (E tbl) a0 a1 a2 h)
theorem c12 (a0 a1 : AVal) (h : Heap) : E tbl 12 [a0, a1] h = (S12 (E tbl) a0 a1 h).bind ansOf := (E_eq tbl 12 [a0, a1] h).trans (run12 (E tbl) a0 a1 h)
theorem c13 (a0 : AVal) (h : Heap) : E tbl 13 [a0] h = (S13 (E tbl) a0 h).bind ansOf := (E_eq tbl 13 [a0] h).trans (run13 (E tbl) a0 h)
theorem c14 (a0 a1 : AVal) (h : Heap) : E tbl 14 [a0, a1] h = (S14 (E tbl) a0 a1 h).bind ansOf := (E_eq tbl 14 [a0, a1] h).trans (run14 (E tbl) a0 a1 h)
theorem c15 (a0 : AVal) (h : Heap) : E tbl 15 [a0] h = (S15 (E tbl) a0 h).bind ansOf := (E_eq tbl 15 [a0] h).trans (run15 (E tbl) a0 h)
theorem c16 (a0 : AVal) (h : Heap) : E tbl 16 [a0] h = (S16 (E tbl) a0 h).bind ansOf := (E_eq tbl 16 [a0] h).trans (run16 (E tbl) a0 h)
theorem tbl_ok : ∀ f a, tbl f = some a → FnOk Try.prog (drawOk Try.prog) f a := by
  intro f a h
  unfold tbl at h
  split at h
  · cases h; exact ⟨_, Try.func3, by decide +kernel, ok3⟩
  · cases h; exact ⟨_, Try.func4, by decide +kernel, ok4⟩
  · cases h; exact ⟨_, Try.func5, by decide +kernel, ok5⟩
  · cases h; exact ⟨_, Try.func6, by decide +kernel, ok6⟩
  · cases h; exact ⟨_, Try.func7, by decide +kernel, ok7⟩
  · cases h; exact ⟨_, Try.func8, by decide +kernel, ok8⟩
  · cases h; exact ⟨_, Try.func9, by decide +kernel, ok9⟩
  · cases h; exact ⟨_, Try.func10, by decide +kernel, ok10⟩
  · cases h; exact ⟨_, Try.func11, by decide +kernel, ok11⟩
  · cases h; exact ⟨_, Try.func12, by decide +kernel, ok12⟩
  · cases h; exact ⟨_, Try.func13, by decide +kernel, ok13⟩
  · cases h; exact ⟨_, Try.func14, by decide +kernel, ok14⟩
  · cases h; exact ⟨_, Try.func15, by decide +kernel, ok15⟩
  · cases h; exact ⟨_, Try.func16, by decide +kernel, ok16⟩
  · cases h
theorem prog_ok : CallOk Try.prog (E tbl) := E_ok tbl_ok
end Go.Proofs.Ytdikkeicdofdiaa.Code
