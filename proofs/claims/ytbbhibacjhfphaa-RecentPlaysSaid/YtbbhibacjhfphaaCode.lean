import Derived.Test.YtbbhibacjhfphaaProg
import Derived.Test.YtbbhibacjhfphaaFwZc
import Derived.KernelRfl
namespace Go.Proofs.Ytbbhibacjhfphaa.Code
set_option linter.unusedSimpArgs false
set_option linter.unusedVariables false
open Go.Fw
/-- frankpledge/frankpledgelaw13.RecentNumbers -/
noncomputable def A3 : AFunc := ⟨0, (.seq (.region [.op 0 (.mov 0 (.const (.bool false)))] [])
 (.seq (.seq (.region [.op 0 (.mov 1 (.const (.int .i64 0)))] [])
 (.block 0 (.loop ⟨[1], []⟩ [((.exit 0), ⟨[], []⟩), (.ret, ⟨[0], []⟩)]
 (.seq (.seq (.region [.op 0 (.mov 5 (.tmp 1)),
 .op 1 (.bin 6 .lss .plain (.tmp 5) (.const (.int .i64 20)))] [])
 (.cond (.tmp 6)
 .skip
 (.exit 0)))
 (.seq (.block 1 (.seq (.region [.op 0 (.mov 2 (.const (.nilSlice)))] [])
 (.seq (.seq (.region [.op 0 (.mov 3 (.const (.int .i64 0)))] [])
 (.block 2 (.loop ⟨[1, 2, 3], []⟩ [((.exit 2), ⟨[1, 2], []⟩)]
 (.seq (.seq (.region [.op 0 (.mov 9 (.tmp 3)),
 .op 1 (.bin 10 .lss .plain (.tmp 9) (.const (.int .i64 90)))] [])
 (.cond (.tmp 10)
 .skip
 (.exit 2)))
 (.seq (.block 3 (.region [.op 0 (.mov 13 (.tmp 2)),
 .op 1 (.mov 14 (.tmp 3)),
 .op 2 (.mov 15 (.tmp 3)),
 .op 3 (.bin 16 .mul .plain (.tmp 14) (.tmp 15)),
 .op 4 (.bin 17 .mul .plain (.tmp 16) (.const (.int .i64 7))),
 .op 5 (.mov 18 (.tmp 1)),
 .op 6 (.bin 19 .mul .plain (.tmp 18) (.const (.int .i64 37))),
 .op 7 (.bin 20 .add .plain (.tmp 17) (.tmp 19)),
 .op 8 (.mov 21 (.tmp 3)),
 .op 9 (.mov 22 (.tmp 1)),
 .op 10 (.bin 23 .mul .plain (.tmp 21) (.tmp 22)),
 .op 11 (.bin 24 .add .plain (.tmp 20) (.tmp 23)),
 .op 12 (.bin 25 .rem .plain (.tmp 24) (.const (.int .i64 211))),
 .op 13 (.buildSl 26 [.int .i64 0] 1 1 [(0, .tmp 25)]),
 .op 14 (.append 27 1 8 [.int .i64 0] false (.tmp 13) (.tmp 26)),
 .op 15 (.mov 2 (.tmp 27))] []))
 (.region [.op 0 (.mov 11 (.tmp 3)),
 .op 1 (.bin 12 .add .plain (.tmp 11) (.const (.int .i64 1))),
 .op 2 (.mov 3 (.tmp 12))] []))))))
 (.seq (.region [.op 0 (.mov 4 (.const (.int .i64 (-2))))] [])
 (.block 4 (.loop ⟨[1, 2, 4], []⟩ [((.exit 4), ⟨[1], []⟩), (.ret, ⟨[0], []⟩)]
 (.seq (.seq (.region [.op 0 (.mov 28 (.tmp 4)),
 .op 1 (.bin 29 .lss .plain (.tmp 28) (.const (.int .i64 50)))] [])
 (.cond (.tmp 29)
 .skip
 (.exit 4)))
 (.seq (.block 5 (.seq (.region [.op 0 (.mov 32 (.tmp 2)),
 .op 1 (.call 33 8 [.tmp 32]),
 .op 2 (.mov 34 (.tmp 4)),
 .op 3 (.mov 35 (.tmp 4)),
 .op 4 (.bin 36 .add .plain (.tmp 35) (.const (.int .i64 1))),
 .op 5 (.mov 37 (.tmp 4)),
 .op 6 (.bin 38 .add .plain (.tmp 37) (.const (.int .i64 2))),
 .op 7 (.mov 39 (.tmp 4)),
 .op 8 (.bin 40 .add .plain (.tmp 39) (.const (.int .i64 3))),
 .op 9 (.mov 41 (.tmp 4)),
 .op 10 (.bin 42 .add .plain (.tmp 41) (.const (.int .i64 4))),
 .op 11 (.mov 43 (.tmp 4)),
 .op 12 (.bin 44 .add .plain (.tmp 43) (.const (.int .i64 5))),
 .op 13 (.buildSl 45 [.int .i64 0] 1 8 [(0, .tmp 34), (1, .tmp 36), (2, .tmp 38), (3, .tmp 40), (4, .tmp 42), (5, .tmp 44), (6, .const (.int .i64 (-9223372036854775808))), (7, .const (.int .i64 9223372036854775807))]),
 .op 14 (.call 46 7 [.tmp 33, .tmp 45]),
 .op 15 (.un 47 .not (.tmp 46))] [])
 (.cond (.tmp 47)
 (.seq (.region [.op 0 (.mov 0 (.const (.bool false)))] [])
 .ret)
 .skip)))
 (.region [.op 0 (.mov 30 (.tmp 4)),
 .op 1 (.bin 31 .add .plain (.tmp 30) (.const (.int .i64 6))),
 .op 2 (.mov 4 (.tmp 31))] [])))))))))
 (.region [.op 0 (.mov 7 (.tmp 1)),
 .op 1 (.bin 8 .add .plain (.tmp 7) (.const (.int .i64 1))),
 .op 2 (.mov 1 (.tmp 8))] []))))))
 (.seq (.region [.op 0 (.call 48 9 []),
 .op 1 (.mov 0 (.tmp 48))] [])
 .ret))),
 [.tmp 0]⟩
theorem ok3 : funcOk Try.prog (drawOk Try.prog) Try.f3 A3 = true := by kernel_rfl
/-- xs: t1, t2, t3 -/
noncomputable def L3_1 (call : Go.Fw.Call) (xs : List AVal) (h : Heap) : Option J :=
 (aBin .lss .plain (xs.getD 2 .undef) (.int .i64 90)).bind fun v2 =>
 condV v2
 ((aBin .mul .plain (xs.getD 2 .undef) (xs.getD 2 .undef)).bind fun v3 =>
 (aBin .mul .plain v3 (.int .i64 7)).bind fun v4 =>
 (aBin .mul .plain (xs.getD 0 .undef) (.int .i64 37)).bind fun v5 =>
 (aBin .add .plain v4 v5).bind fun v6 =>
 (aBin .mul .plain (xs.getD 2 .undef) (xs.getD 0 .undef)).bind fun v7 =>
 (aBin .add .plain v6 v7).bind fun v8 =>
 (aBin .rem .plain v8 (.int .i64 211)).bind fun v9 =>
 (aFill (reps [.int .i64 0] 1) [(0, 1, v9)]).bind fun c10 =>
 (aAppend 1 8 [.int .i64 0] false (xs.getD 1 .undef) (.slice h.next 0 1 1 1 true) (h.alloc c10)).bind fun r11 =>
 (aBin .add .plain (xs.getD 2 .undef) (.int .i64 1)).bind fun v12 =>
 some (0, [(xs.getD 0 .undef), r11.1, v12], r11.2))
 (some (1, [(xs.getD 0 .undef), (xs.getD 1 .undef)], h))
/-- xs: t1, t2, t4 -/
noncomputable def L3_2 (call : Go.Fw.Call) (xs : List AVal) (h : Heap) : Option J :=
 (aBin .lss .plain (xs.getD 2 .undef) (.int .i64 50)).bind fun v14 =>
 condV v14
 ((call 8 [(xs.getD 1 .undef)] h).bind fun r15 =>
 (aBin .add .plain (xs.getD 2 .undef) (.int .i64 1)).bind fun v16 =>
 (aBin .add .plain (xs.getD 2 .undef) (.int .i64 2)).bind fun v17 =>
 (aBin .add .plain (xs.getD 2 .undef) (.int .i64 3)).bind fun v18 =>
 (aBin .add .plain (xs.getD 2 .undef) (.int .i64 4)).bind fun v19 =>
 (aBin .add .plain (xs.getD 2 .undef) (.int .i64 5)).bind fun v20 =>
 (aFill (reps [.int .i64 0] 8) [(0, 1, (xs.getD 2 .undef)), (1, 1, v16), (2, 1, v17), (3, 1, v18), (4, 1, v19), (5, 1, v20), (6, 1, (.int .i64 (-9223372036854775808))), (7, 1, (.int .i64 9223372036854775807))]).bind fun c21 =>
 (call 7 [r15.1, (.slice r15.2.next 0 8 8 1 true)] (r15.2.alloc c21)).bind fun r22 =>
 (aUn .not r22.1).bind fun v23 =>
 condV v23
 (some (2, [(.bool false)], r22.2))
 ((aBin .add .plain (xs.getD 2 .undef) (.int .i64 6)).bind fun v24 =>
 some (0, [(xs.getD 0 .undef), (xs.getD 1 .undef), v24], r22.2)))
 (some (1, [(xs.getD 0 .undef)], h))
/-- xs: t1 -/
noncomputable def L3_0 (call : Go.Fw.Call) (xs : List AVal) (h : Heap) : Option J :=
 (aBin .lss .plain (xs.getD 0 .undef) (.int .i64 20)).bind fun v1 =>
 condV v1
 ((loop (L3_1 call) [(xs.getD 0 .undef), (.nilSlice), (.int .i64 0)] h).bind fun x13 =>
 bif Nat.beq x13.1 1 then (loop (L3_2 call) [(x13.2.1.getD 0 .undef), (x13.2.1.getD 1 .undef), (.int .i64 (-2))] x13.2.2).bind fun x25 =>
 bif Nat.beq x25.1 1 then (aBin .add .plain (x25.2.1.getD 0 .undef) (.int .i64 1)).bind fun v26 =>
 some (0, [v26], x25.2.2) else
 bif Nat.beq x25.1 2 then some (2, [(x25.2.1.getD 0 .undef)], x25.2.2) else
 none else
 none)
 (some (1, [], h))
noncomputable def S3 (call : Go.Fw.Call) (h : Heap) : Option J :=
 (loop (L3_0 call) [(.int .i64 0)] h).bind fun x27 =>
 bif Nat.beq x27.1 1 then (call 9 [] x27.2.2).bind fun r28 =>
 some (0, [r28.1], r28.2) else
 bif Nat.beq x27.1 2 then some (0, [(x27.2.1.getD 0 .undef)], x27.2.2) else
 none
theorem run3 (call : Go.Fw.Call) (h : Heap) : runFn call (.code A3) [] h = (S3 call  h).bind ansOf := by kernel_rfl

/-- frankpledge/frankpledgelaw13.RecentPlays -/
noncomputable def A4 : AFunc := ⟨3, (.seq (.region [.op 0 (.mov 6 (.const (.bool false)))] [])
 (.seq (.region [.op 0 (.mov 7 (.const (.nilSlice)))] [])
 (.seq (.seq (.region [.op 0 (.mov 9 (.tmp 2)),
 .op 1 (.len 10 false (.tmp 9)),
 .op 2 (.mov 11 (.const (.int .i64 0)))] [])
 (.block 0 (.loop ⟨[0, 1, 2, 7, 10, 11], []⟩ [((.exit 0), ⟨[0, 1, 2, 7], []⟩)]
 (.seq (.region [.op 0 (.bin 12 .lss .plain (.tmp 11) (.tmp 10))] [])
 (.seq (.cond (.tmp 12)
 .skip
 (.exit 0))
 (.seq (.block 1 (.seq (.region [.op 0 (.mov 13 (.tmp 11)),
 .op 1 (.mov 8 (.tmp 13))] [])
 (.region [.op 0 (.mov 14 (.tmp 7)),
 .op 1 (.mov 15 (.tmp 2)),
 .op 2 (.mov 16 (.tmp 8)),
 .op 3 (.iaddr 17 none 1 (.tmp 15) (.tmp 16)),
 .op 4 (.load 18 false 1 (.tmp 17)),
 .op 5 (.call 19 10 [.tmp 18, .const (.int .i64 (-1)), .const (.int .i64 45)]),
 .op 6 (.buildSl 20 [.int .i64 0] 1 1 [(0, .tmp 19)]),
 .op 7 (.append 21 1 8 [.int .i64 0] false (.tmp 14) (.tmp 20)),
 .op 8 (.mov 7 (.tmp 21))] [])))
 (.region [.op 0 (.bin 22 .add .plain (.tmp 11) (.const (.int .i64 1))),
 .op 1 (.mov 11 (.tmp 22))] [])))))))
 (.seq (.region [.op 0 (.mov 23 (.tmp 0)),
 .op 1 (.call 24 8 [.tmp 23]),
 .op 2 (.mov 25 (.tmp 7)),
 .op 3 (.call 26 7 [.tmp 24, .tmp 25]),
 .op 4 (.mov 27 (.tmp 26)),
 .guard 27 true [.op 5 (.mov 28 (.tmp 1)),
 .op 6 (.mov 29 (.tmp 2)),
 .op 7 (.call 30 7 [.tmp 28, .tmp 29])] [] [30],
 .op 8 (.pick 31 (.tmp 27) (.tmp 30) (.const (.bool false))),
 .op 9 (.mov 32 (.tmp 31)),
 .guard 32 true [.op 10 (.mov 33 (.tmp 0)),
 .op 11 (.call 34 8 [.tmp 33]),
 .op 12 (.mov 35 (.tmp 2)),
 .op 13 (.call 36 7 [.tmp 34, .tmp 35])] [] [36],
 .op 14 (.pick 37 (.tmp 32) (.tmp 36) (.const (.bool false))),
 .op 15 (.mov 38 (.tmp 37)),
 .guard 38 true [.op 16 (.call 39 9 [])] [] [39],
 .op 17 (.pick 40 (.tmp 38) (.tmp 39) (.const (.bool false))),
 .op 18 (.mov 6 (.tmp 40))] [])
 .ret)))),
 [.tmp 6]⟩
theorem ok4 : funcOk Try.prog (drawOk Try.prog) Try.f4 A4 = true := by kernel_rfl
/-- xs: t0, t1, t2, t7, t10, t11 -/
noncomputable def L4_0 (call : Go.Fw.Call) (xs : List AVal) (h : Heap) : Option J :=
 (aBin .lss .plain (xs.getD 5 .undef) (xs.getD 4 .undef)).bind fun v2 =>
 condV v2
 ((aIaddr 1 (xs.getD 2 .undef) (xs.getD 5 .undef)).bind fun v3 =>
 (aLoad h 1 v3).bind fun c4 =>
 (fromCells false c4).bind fun v5 =>
 (call 10 [v5, (.int .i64 (-1)), (.int .i64 45)] h).bind fun r6 =>
 (aFill (reps [.int .i64 0] 1) [(0, 1, r6.1)]).bind fun c7 =>
 (aAppend 1 8 [.int .i64 0] false (xs.getD 3 .undef) (.slice r6.2.next 0 1 1 1 true) (r6.2.alloc c7)).bind fun r8 =>
 (aBin .add .plain (xs.getD 5 .undef) (.int .i64 1)).bind fun v9 =>
 some (0, [(xs.getD 0 .undef), (xs.getD 1 .undef), (xs.getD 2 .undef), r8.1, (xs.getD 4 .undef), v9], r8.2))
 (some (1, [(xs.getD 0 .undef), (xs.getD 1 .undef), (xs.getD 2 .undef), (xs.getD 3 .undef)], h))
noncomputable def S4 (call : Go.Fw.Call) (a0 a1 a2 : AVal) (h : Heap) : Option J :=
 (aLen false a2).bind fun v1 =>
 (loop (L4_0 call) [a0, a1, a2, (.nilSlice), v1, (.int .i64 0)] h).bind fun x10 =>
 bif Nat.beq x10.1 1 then (call 8 [(x10.2.1.getD 0 .undef)] x10.2.2).bind fun r11 =>
 (call 7 [r11.1, (x10.2.1.getD 3 .undef)] r11.2).bind fun r12 =>
 (guardV r12.1 true
 ((call 7 [(x10.2.1.getD 1 .undef), (x10.2.1.getD 2 .undef)] r12.2).bind fun r13 =>
 some (0, [r13.1], r13.2))
 (some (0, [skipV], r12.2))).bind fun g14 =>
 (aPick r12.1 (g14.2.1.getD 0 .undef) (.bool false)).bind fun v15 =>
 (guardV v15 true
 ((call 8 [(x10.2.1.getD 0 .undef)] g14.2.2).bind fun r16 =>
 (call 7 [r16.1, (x10.2.1.getD 2 .undef)] r16.2).bind fun r17 =>
 some (0, [r17.1], r17.2))
 (some (0, [skipV], g14.2.2))).bind fun g18 =>
 (aPick v15 (g18.2.1.getD 0 .undef) (.bool false)).bind fun v19 =>
 (guardV v19 true
 ((call 9 [] g18.2.2).bind fun r20 =>
 some (0, [r20.1], r20.2))
 (some (0, [skipV], g18.2.2))).bind fun g21 =>
 (aPick v19 (g21.2.1.getD 0 .undef) (.bool false)).bind fun v22 =>
 some (0, [v22], g21.2.2) else
 none
theorem run4 (call : Go.Fw.Call) (a0 a1 a2 : AVal) (h : Heap) : runFn call (.code A4) [a0, a1, a2] h = (S4 call a0 a1 a2 h).bind ansOf := by kernel_rfl

/-- frankpledge/frankpledgelaw13.RecentEach -/
noncomputable def A5 : AFunc := ⟨2, (.seq (.region [.op 0 (.mov 4 (.const (.bool false)))] [])
 (.seq (.region [.op 0 (.mov 16 (.tmp 0)),
 .op 1 (.call 17 8 [.tmp 16]),
 .op 2 (.mov 5 (.tmp 17))] [])
 (.seq (.region [.op 0 (.call 18 11 []),
 .op 1 (.mov 6 (.tmp 18))] [])
 (.seq (.seq (.region [.op 0 (.mov 19 (.tmp 6)),
 .op 1 (.bin 20 .eql .ptr (.tmp 19) (.const (.nilPtr)))] [])
 (.cond (.tmp 20)
 (.seq (.region [.op 0 (.mov 4 (.const (.bool false)))] [])
 .ret)
 .skip))
 (.seq (.seq (.region [.op 0 (.mov 21 (.tmp 5)),
 .op 1 (.len 22 false (.tmp 21)),
 .op 2 (.mov 23 (.const (.int .i64 0)))] [])
 (.block 0 (.loop ⟨[1, 5, 6, 22, 23], []⟩ [((.exit 0), ⟨[1, 5, 6], []⟩)]
 (.seq (.region [.op 0 (.bin 24 .lss .plain (.tmp 23) (.tmp 22))] [])
 (.seq (.cond (.tmp 24)
 .skip
 (.exit 0))
 (.seq (.block 1 (.seq (.region [.op 0 (.mov 25 (.tmp 23)),
 .op 1 (.mov 7 (.tmp 25))] [])
 (.region [.op 0 (.mov 26 (.tmp 6)),
 .op 1 (.mov 27 (.tmp 5)),
 .op 2 (.mov 28 (.tmp 7)),
 .op 3 (.iaddr 29 none 2 (.tmp 27) (.tmp 28)),
 .op 4 (.load 30 true 2 (.tmp 29)),
 .op 5 (.call 31 12 [.tmp 26, .tmp 30])] [])))
 (.region [.op 0 (.bin 32 .add .plain (.tmp 23) (.const (.int .i64 1))),
 .op 1 (.mov 23 (.tmp 32))] [])))))))
 (.seq (.region [.op 0 (.mov 33 (.tmp 1)),
 .op 1 (.mov 34 (.tmp 5)),
 .op 2 (.len 35 false (.tmp 34)),
 .op 3 (.call 36 10 [.tmp 33, .const (.int .i64 0), .tmp 35]),
 .op 4 (.mov 8 (.tmp 36))] [])
 (.seq (.region [.op 0 (.mov 38 (.tmp 6)),
 .op 1 (.mov 39 (.tmp 8)),
 .op 2 (.call 40 13 [.tmp 38, .tmp 39]),
 .op 3 (.mov 37 (.tmp 40)),
 .op 4 (.extract 41 (.tmp 37) 0),
 .op 5 (.extract 42 (.tmp 37) 1),
 .op 6 (.mov 9 (.tmp 41)),
 .op 7 (.mov 10 (.tmp 42))] [])
 (.seq (.seq (.region [.op 0 (.mov 43 (.tmp 10)),
 .op 1 (.un 44 .not (.tmp 43))] [])
 (.cond (.tmp 44)
 (.seq (.region [.op 0 (.mov 45 (.tmp 5)),
 .op 1 (.len 46 false (.tmp 45)),
 .op 2 (.mov 47 (.tmp 8)),
 .op 3 (.bin 48 .sub .plain (.tmp 46) (.tmp 47)),
 .op 4 (.bin 49 .gtr .plain (.tmp 48) (.const (.int .i64 16))),
 .op 5 (.mov 50 (.tmp 49)),
 .guard 50 true [.op 6 (.mov 51 (.tmp 9)),
 .op 7 (.len 52 false (.tmp 51)),
 .op 8 (.bin 53 .eql .plain (.tmp 52) (.const (.int .i64 0)))] [] [53],
 .op 9 (.pick 54 (.tmp 50) (.tmp 53) (.const (.bool false))),
 .op 10 (.mov 55 (.tmp 54)),
 .guard 55 true [.op 11 (.call 56 9 [])] [] [56],
 .op 12 (.pick 57 (.tmp 55) (.tmp 56) (.const (.bool false))),
 .op 13 (.mov 4 (.tmp 57))] [])
 .ret)
 .skip))
 (.seq (.seq (.region [.op 0 (.mov 58 (.tmp 5)),
 .op 1 (.mov 59 (.tmp 8)),
 .op 2 (.slice 60 (.sl 2) (.tmp 58) (some (.tmp 59)) none none),
 .op 3 (.len 61 false (.tmp 60)),
 .op 4 (.mov 62 (.const (.int .i64 0)))] [])
 (.block 2 (.loop ⟨[5, 8, 9, 60, 61, 62], []⟩ [((.exit 2), ⟨[5, 8, 9], []⟩), (.ret, ⟨[4], []⟩)]
 (.seq (.region [.op 0 (.bin 63 .lss .plain (.tmp 62) (.tmp 61))] [])
 (.seq (.cond (.tmp 63)
 .skip
 (.exit 2))
 (.seq (.block 3 (.seq (.region [.op 0 (.iaddr 64 none 2 (.tmp 60) (.tmp 62)),
 .op 1 (.load 65 true 2 (.tmp 64)),
 .op 2 (.alloc 12 true [.str [], .str []]),
 .op 3 (.store true 2 (.tmp 12) (.tmp 65))] [])
 (.seq (.region [.op 0 (.mov 13 (.const (.int .i64 0)))] [])
 (.seq (.seq (.region [.op 0 (.mov 66 (.tmp 9)),
 .op 1 (.len 67 false (.tmp 66)),
 .op 2 (.mov 68 (.const (.int .i64 0)))] [])
 (.block 4 (.loop ⟨[5, 8, 9, 13, 60, 61, 62, 66, 67, 68], [12]⟩ [((.exit 4), ⟨[5, 8, 9, 13, 60, 61, 62], []⟩)]
 (.seq (.region [.op 0 (.bin 69 .lss .plain (.tmp 68) (.tmp 67))] [])
 (.seq (.cond (.tmp 69)
 .skip
 (.exit 4))
 (.seq (.block 5 (.seq (.region [.op 0 (.iaddr 70 none 2 (.tmp 66) (.tmp 68)),
 .op 1 (.load 71 true 2 (.tmp 70)),
 .op 2 (.alloc 15 true [.str [], .str []]),
 .op 3 (.store true 2 (.tmp 15) (.tmp 71))] [])
 (.seq (.region [.op 0 (.load 72 true 2 (.tmp 12)),
 .op 1 (.load 73 true 2 (.tmp 15)),
 .op 2 (.bin 74 .eql (.cells [2, 2]) (.tmp 72) (.tmp 73))] [])
 (.join [(.normal, ⟨[5, 8, 9, 13, 60, 61, 62, 66, 67, 68], [12]⟩)] (.cond (.tmp 74)
 (.region [.op 0 (.mov 75 (.tmp 13)),
 .op 1 (.bin 76 .add .plain (.tmp 75) (.const (.int .i64 1))),
 .op 2 (.mov 13 (.tmp 76))] [])
 .skip)))))
 (.region [.op 0 (.bin 77 .add .plain (.tmp 68) (.const (.int .i64 1))),
 .op 1 (.mov 68 (.tmp 77))] [])))))))
 (.seq (.region [.op 0 (.mov 78 (.tmp 13)),
 .op 1 (.bin 79 .neq .plain (.tmp 78) (.const (.int .i64 1)))] [])
 (.cond (.tmp 79)
 (.seq (.region [.op 0 (.mov 4 (.const (.bool false)))] [])
 .ret)
 .skip))))))
 (.region [.op 0 (.bin 80 .add .plain (.tmp 62) (.const (.int .i64 1))),
 .op 1 (.mov 62 (.tmp 80))] [])))))))
 (.seq (.region [.op 0 (.mov 81 (.tmp 9)),
 .op 1 (.len 82 false (.tmp 81)),
 .op 2 (.mov 83 (.tmp 5)),
 .op 3 (.len 84 false (.tmp 83)),
 .op 4 (.mov 85 (.tmp 8)),
 .op 5 (.bin 86 .sub .plain (.tmp 84) (.tmp 85)),
 .op 6 (.bin 87 .leq .plain (.tmp 82) (.tmp 86)),
 .op 7 (.mov 88 (.tmp 87)),
 .guard 88 true [.op 8 (.mov 89 (.tmp 5)),
 .op 9 (.len 90 false (.tmp 89)),
 .op 10 (.mov 91 (.tmp 8)),
 .op 11 (.bin 92 .sub .plain (.tmp 90) (.tmp 91)),
 .op 12 (.bin 93 .leq .plain (.tmp 92) (.const (.int .i64 16)))] [] [93],
 .op 13 (.pick 94 (.tmp 88) (.tmp 93) (.const (.bool false))),
 .op 14 (.mov 95 (.tmp 94)),
 .guard 95 true [.op 15 (.call 96 9 [])] [] [96],
 .op 16 (.pick 97 (.tmp 95) (.tmp 96) (.const (.bool false))),
 .op 17 (.mov 4 (.tmp 97))] [])
 .ret)))))))))),
 [.tmp 4]⟩
theorem ok5 : funcOk Try.prog (drawOk Try.prog) Try.f5 A5 = true := by kernel_rfl
/-- xs: t1, t5, t6, t22, t23 -/
noncomputable def L5_0 (call : Go.Fw.Call) (xs : List AVal) (h : Heap) : Option J :=
 (aBin .lss .plain (xs.getD 4 .undef) (xs.getD 3 .undef)).bind fun v5 =>
 condV v5
 ((aIaddr 2 (xs.getD 1 .undef) (xs.getD 4 .undef)).bind fun v6 =>
 (aLoad h 2 v6).bind fun c7 =>
 (fromCells true c7).bind fun v8 =>
 (call 12 [(xs.getD 2 .undef), v8] h).bind fun r9 =>
 (aBin .add .plain (xs.getD 4 .undef) (.int .i64 1)).bind fun v10 =>
 some (0, [(xs.getD 0 .undef), (xs.getD 1 .undef), (xs.getD 2 .undef), (xs.getD 3 .undef), v10], r9.2))
 (some (1, [(xs.getD 0 .undef), (xs.getD 1 .undef), (xs.getD 2 .undef)], h))
/-- xs: t5, t8, t9, t13, t60, t61, t62, t66, t67, t68, cells of 12 -/
noncomputable def L5_2 (call : Go.Fw.Call) (xs : List AVal) (h : Heap) : Option J :=
 (aBin .lss .plain (xs.getD 9 .undef) (xs.getD 8 .undef)).bind fun v36 =>
 condV v36
 ((aIaddr 2 (xs.getD 7 .undef) (xs.getD 9 .undef)).bind fun v37 =>
 (aLoad h 2 v37).bind fun c38 =>
 (fromCells true c38).bind fun v39 =>
 (aCells 2 v39).bind fun c40 =>
 bif Nat.ble ((0) + 2) (List.length (α := AVal) [.str [], .str []]) then (rdL (AVal.aggCells (xs.getD 10 .undef)) 0 2).bind fun c41 =>
 (fromCells true c41).bind fun v42 =>
 (rdL (splice [.str [], .str []] (0) c40) 0 2).bind fun c43 =>
 (fromCells true c43).bind fun v44 =>
 (aBin .eql (.cells [2, 2]) v42 v44).bind fun v45 =>
 (condV v45
 ((aBin .add .plain (xs.getD 3 .undef) (.int .i64 1)).bind fun v46 =>
 some (0, [(xs.getD 0 .undef), (xs.getD 1 .undef), (xs.getD 2 .undef), v46, (xs.getD 4 .undef), (xs.getD 5 .undef), (xs.getD 6 .undef), (xs.getD 7 .undef), (xs.getD 8 .undef), (xs.getD 9 .undef), (.agg (AVal.aggCells (xs.getD 10 .undef)))], h))
 (some (0, [(xs.getD 0 .undef), (xs.getD 1 .undef), (xs.getD 2 .undef), (xs.getD 3 .undef), (xs.getD 4 .undef), (xs.getD 5 .undef), (xs.getD 6 .undef), (xs.getD 7 .undef), (xs.getD 8 .undef), (xs.getD 9 .undef), (.agg (AVal.aggCells (xs.getD 10 .undef)))], h))).bind fun x47 =>
 bif Nat.beq x47.1 0 then (aBin .add .plain (x47.2.1.getD 9 .undef) (.int .i64 1)).bind fun v48 =>
 some (0, [(x47.2.1.getD 0 .undef), (x47.2.1.getD 1 .undef), (x47.2.1.getD 2 .undef), (x47.2.1.getD 3 .undef), (x47.2.1.getD 4 .undef), (x47.2.1.getD 5 .undef), (x47.2.1.getD 6 .undef), (x47.2.1.getD 7 .undef), (x47.2.1.getD 8 .undef), v48, (.agg (AVal.aggCells (x47.2.1.getD 10 .undef)))], x47.2.2) else
 none else none)
 (some (1, [(xs.getD 0 .undef), (xs.getD 1 .undef), (xs.getD 2 .undef), (xs.getD 3 .undef), (xs.getD 4 .undef), (xs.getD 5 .undef), (xs.getD 6 .undef)], h))
/-- xs: t5, t8, t9, t60, t61, t62 -/
noncomputable def L5_1 (call : Go.Fw.Call) (xs : List AVal) (h : Heap) : Option J :=
 (aBin .lss .plain (xs.getD 5 .undef) (xs.getD 4 .undef)).bind fun v30 =>
 condV v30
 ((aIaddr 2 (xs.getD 3 .undef) (xs.getD 5 .undef)).bind fun v31 =>
 (aLoad h 2 v31).bind fun c32 =>
 (fromCells true c32).bind fun v33 =>
 (aCells 2 v33).bind fun c34 =>
 bif Nat.ble ((0) + 2) (List.length (α := AVal) [.str [], .str []]) then (aLen false (xs.getD 2 .undef)).bind fun v35 =>
 (loop (L5_2 call) [(xs.getD 0 .undef), (xs.getD 1 .undef), (xs.getD 2 .undef), (.int .i64 0), (xs.getD 3 .undef), (xs.getD 4 .undef), (xs.getD 5 .undef), (xs.getD 2 .undef), v35, (.int .i64 0), (.agg (splice [.str [], .str []] (0) c34))] h).bind fun x49 =>
 bif Nat.beq x49.1 1 then (aBin .neq .plain (x49.2.1.getD 3 .undef) (.int .i64 1)).bind fun v50 =>
 condV v50
 (some (2, [(.bool false)], x49.2.2))
 ((aBin .add .plain (x49.2.1.getD 6 .undef) (.int .i64 1)).bind fun v51 =>
 some (0, [(x49.2.1.getD 0 .undef), (x49.2.1.getD 1 .undef), (x49.2.1.getD 2 .undef), (x49.2.1.getD 4 .undef), (x49.2.1.getD 5 .undef), v51], x49.2.2)) else
 none else none)
 (some (1, [(xs.getD 0 .undef), (xs.getD 1 .undef), (xs.getD 2 .undef)], h))
noncomputable def S5 (call : Go.Fw.Call) (a0 a1 : AVal) (h : Heap) : Option J :=
 (call 8 [a0] h).bind fun r1 =>
 (call 11 [] r1.2).bind fun r2 =>
 (aBin .eql .ptr r2.1 (.nilPtr)).bind fun v3 =>
 condV v3
 (some (0, [(.bool false)], r2.2))
 ((aLen false r1.1).bind fun v4 =>
 (loop (L5_0 call) [a1, r1.1, r2.1, v4, (.int .i64 0)] r2.2).bind fun x11 =>
 bif Nat.beq x11.1 1 then (aLen false (x11.2.1.getD 1 .undef)).bind fun v12 =>
 (call 10 [(x11.2.1.getD 0 .undef), (.int .i64 0), v12] x11.2.2).bind fun r13 =>
 (call 13 [(x11.2.1.getD 2 .undef), r13.1] r13.2).bind fun r14 =>
 (aExtract 0 r14.1).bind fun v15 =>
 (aExtract 1 r14.1).bind fun v16 =>
 (aUn .not v16).bind fun v17 =>
 condV v17
 ((aLen false (x11.2.1.getD 1 .undef)).bind fun v18 =>
 (aBin .sub .plain v18 r13.1).bind fun v19 =>
 (aBin .gtr .plain v19 (.int .i64 16)).bind fun v20 =>
 (guardV v20 true
 ((aLen false v15).bind fun v21 =>
 (aBin .eql .plain v21 (.int .i64 0)).bind fun v22 =>
 some (0, [v22], r14.2))
 (some (0, [skipV], r14.2))).bind fun g23 =>
 (aPick v20 (g23.2.1.getD 0 .undef) (.bool false)).bind fun v24 =>
 (guardV v24 true
 ((call 9 [] g23.2.2).bind fun r25 =>
 some (0, [r25.1], r25.2))
 (some (0, [skipV], g23.2.2))).bind fun g26 =>
 (aPick v24 (g26.2.1.getD 0 .undef) (.bool false)).bind fun v27 =>
 some (0, [v27], g26.2.2))
 ((aSliceSl 2 (x11.2.1.getD 1 .undef) (some r13.1) none none).bind fun v28 =>
 (aLen false v28).bind fun v29 =>
 (loop (L5_1 call) [(x11.2.1.getD 1 .undef), r13.1, v15, v28, v29, (.int .i64 0)] r14.2).bind fun x52 =>
 bif Nat.beq x52.1 1 then (aLen false (x52.2.1.getD 2 .undef)).bind fun v53 =>
 (aLen false (x52.2.1.getD 0 .undef)).bind fun v54 =>
 (aBin .sub .plain v54 (x52.2.1.getD 1 .undef)).bind fun v55 =>
 (aBin .leq .plain v53 v55).bind fun v56 =>
 (guardV v56 true
 ((aLen false (x52.2.1.getD 0 .undef)).bind fun v57 =>
 (aBin .sub .plain v57 (x52.2.1.getD 1 .undef)).bind fun v58 =>
 (aBin .leq .plain v58 (.int .i64 16)).bind fun v59 =>
 some (0, [v59], x52.2.2))
 (some (0, [skipV], x52.2.2))).bind fun g60 =>
 (aPick v56 (g60.2.1.getD 0 .undef) (.bool false)).bind fun v61 =>
 (guardV v61 true
 ((call 9 [] g60.2.2).bind fun r62 =>
 some (0, [r62.1], r62.2))
 (some (0, [skipV], g60.2.2))).bind fun g63 =>
 (aPick v61 (g63.2.1.getD 0 .undef) (.bool false)).bind fun v64 =>
 some (0, [v64], g63.2.2) else
 bif Nat.beq x52.1 2 then some (0, [(x52.2.1.getD 0 .undef)], x52.2.2) else
 none) else
 none)
theorem run5 (call : Go.Fw.Call) (a0 a1 : AVal) (h : Heap) : runFn call (.code A5) [a0, a1] h = (S5 call a0 a1 h).bind ansOf := by kernel_rfl

/-- frankpledge/frankpledgelaw13.RecentNow -/
noncomputable def A6 : AFunc := ⟨1, (.seq (.region [.op 0 (.mov 2 (.const (.bool false)))] [])
 (.seq (.region [.op 0 (.mov 15 (.tmp 0)),
 .op 1 (.call 16 8 [.tmp 15]),
 .op 2 (.mov 3 (.tmp 16))] [])
 (.seq (.region [.op 0 (.call 17 11 []),
 .op 1 (.mov 4 (.tmp 17))] [])
 (.seq (.seq (.region [.op 0 (.mov 18 (.tmp 4)),
 .op 1 (.bin 19 .eql .ptr (.tmp 18) (.const (.nilPtr)))] [])
 (.cond (.tmp 19)
 (.seq (.region [.op 0 (.mov 2 (.const (.bool false)))] [])
 .ret)
 .skip))
 (.seq (.seq (.region [.op 0 (.mov 20 (.tmp 3)),
 .op 1 (.len 21 false (.tmp 20)),
 .op 2 (.mov 22 (.const (.int .i64 0)))] [])
 (.block 0 (.loop ⟨[3, 4, 21, 22], []⟩ [((.exit 0), ⟨[3, 4], []⟩), (.ret, ⟨[2], []⟩)]
 (.seq (.region [.op 0 (.bin 23 .lss .plain (.tmp 22) (.tmp 21))] [])
 (.seq (.cond (.tmp 23)
 .skip
 (.exit 0))
 (.seq (.block 1 (.seq (.region [.op 0 (.mov 24 (.tmp 22)),
 .op 1 (.mov 5 (.tmp 24))] [])
 (.seq (.region [.op 0 (.mov 25 (.tmp 4)),
 .op 1 (.mov 26 (.tmp 3)),
 .op 2 (.mov 27 (.tmp 5)),
 .op 3 (.iaddr 28 none 2 (.tmp 26) (.tmp 27)),
 .op 4 (.load 29 true 2 (.tmp 28)),
 .op 5 (.call 30 12 [.tmp 25, .tmp 29]),
 .op 6 (.mov 6 (.tmp 30))] [])
 (.seq (.region [.op 0 (.mov 32 (.tmp 4)),
 .op 1 (.mov 33 (.tmp 6)),
 .op 2 (.call 34 13 [.tmp 32, .tmp 33]),
 .op 3 (.mov 31 (.tmp 34)),
 .op 4 (.extract 35 (.tmp 31) 0),
 .op 5 (.extract 36 (.tmp 31) 1),
 .op 6 (.mov 7 (.tmp 35)),
 .op 7 (.mov 8 (.tmp 36))] [])
 (.seq (.region [.op 0 (.mov 38 (.tmp 4)),
 .op 1 (.mov 39 (.tmp 6)),
 .op 2 (.bin 40 .sub .plain (.tmp 39) (.const (.int .i64 1))),
 .op 3 (.call 41 13 [.tmp 38, .tmp 40]),
 .op 4 (.mov 37 (.tmp 41)),
 .op 5 (.extract 42 (.tmp 37) 0),
 .op 6 (.extract 43 (.tmp 37) 1),
 .op 7 (.mov 9 (.tmp 42)),
 .op 8 (.mov 10 (.tmp 43))] [])
 (.seq (.region [.op 0 (.mov 45 (.tmp 4)),
 .op 1 (.mov 46 (.tmp 6)),
 .op 2 (.bin 47 .add .plain (.tmp 46) (.const (.int .i64 1))),
 .op 3 (.call 48 13 [.tmp 45, .tmp 47]),
 .op 4 (.mov 44 (.tmp 48)),
 .op 5 (.extract 49 (.tmp 44) 0),
 .op 6 (.extract 50 (.tmp 44) 1),
 .op 7 (.mov 11 (.tmp 49)),
 .op 8 (.mov 12 (.tmp 50))] [])
 (.seq (.region [.op 0 (.mov 51 (.tmp 6)),
 .op 1 (.mov 52 (.tmp 5)),
 .op 2 (.bin 53 .add .plain (.tmp 52) (.const (.int .i64 1))),
 .op 3 (.bin 54 .neq .plain (.tmp 51) (.tmp 53)),
 .op 4 (.mov 55 (.tmp 54)),
 .guard 55 false [.op 5 (.mov 56 (.tmp 8)),
 .op 6 (.un 57 .not (.tmp 56))] [] [57],
 .op 7 (.pick 58 (.tmp 55) (.const (.bool true)) (.tmp 57)),
 .op 8 (.mov 59 (.tmp 58)),
 .guard 59 false [.op 9 (.mov 60 (.tmp 7)),
 .op 10 (.len 61 false (.tmp 60)),
 .op 11 (.bin 62 .neq .plain (.tmp 61) (.const (.int .i64 0)))] [] [62],
 .op 12 (.pick 63 (.tmp 59) (.const (.bool true)) (.tmp 62)),
 .op 13 (.mov 64 (.tmp 63)),
 .guard 64 false [.op 14 (.mov 65 (.tmp 10)),
 .op 15 (.un 66 .not (.tmp 65))] [] [66],
 .op 16 (.pick 67 (.tmp 64) (.const (.bool true)) (.tmp 66)),
 .op 17 (.mov 68 (.tmp 67)),
 .guard 68 false [.op 18 (.mov 69 (.tmp 9)),
 .op 19 (.len 70 false (.tmp 69)),
 .op 20 (.bin 71 .neq .plain (.tmp 70) (.const (.int .i64 1)))] [] [71],
 .op 21 (.pick 72 (.tmp 68) (.const (.bool true)) (.tmp 71)),
 .op 22 (.mov 73 (.tmp 72)),
 .guard 73 false [.op 23 (.mov 74 (.tmp 9)),
 .op 24 (.iaddr 75 none 2 (.tmp 74) (.const (.int .i64 0))),
 .op 25 (.load 76 true 2 (.tmp 75)),
 .op 26 (.mov 77 (.tmp 3)),
 .op 27 (.mov 78 (.tmp 5)),
 .op 28 (.iaddr 79 none 2 (.tmp 77) (.tmp 78)),
 .op 29 (.load 80 true 2 (.tmp 79)),
 .op 30 (.bin 81 .neq (.cells [2, 2]) (.tmp 76) (.tmp 80))] [] [81],
 .op 31 (.pick 82 (.tmp 73) (.const (.bool true)) (.tmp 81)),
 .op 32 (.mov 83 (.tmp 82)),
 .guard 83 false [.op 33 (.mov 84 (.tmp 12))] [] [84],
 .op 34 (.pick 85 (.tmp 83) (.const (.bool true)) (.tmp 84))] [])
 (.cond (.tmp 85)
 (.seq (.region [.op 0 (.mov 2 (.const (.bool false)))] [])
 .ret)
 .skip))))))))
 (.region [.op 0 (.bin 86 .add .plain (.tmp 22) (.const (.int .i64 1))),
 .op 1 (.mov 22 (.tmp 86))] [])))))))
 (.seq (.region [.op 0 (.mov 88 (.tmp 4)),
 .op 1 (.call 89 13 [.tmp 88, .const (.int .i64 0)]),
 .op 2 (.mov 87 (.tmp 89)),
 .op 3 (.extract 90 (.tmp 87) 0),
 .op 4 (.extract 91 (.tmp 87) 1),
 .op 5 (.mov 13 (.tmp 90)),
 .op 6 (.mov 14 (.tmp 91))] [])
 (.seq (.region [.op 0 (.mov 92 (.tmp 14)),
 .op 1 (.mov 93 (.tmp 3)),
 .op 2 (.len 94 false (.tmp 93)),
 .op 3 (.bin 95 .leq .plain (.tmp 94) (.const (.int .i64 16))),
 .op 4 (.bin 96 .eql .bool (.tmp 92) (.tmp 95)),
 .op 5 (.mov 97 (.tmp 96)),
 .guard 97 true [.op 6 (.mov 98 (.tmp 4)),
 .op 7 (.call 99 14 [.tmp 98]),
 .op 8 (.mov 100 (.tmp 3)),
 .op 9 (.len 101 false (.tmp 100)),
 .op 10 (.bin 102 .eql .plain (.tmp 99) (.tmp 101))] [] [102],
 .op 11 (.pick 103 (.tmp 97) (.tmp 102) (.const (.bool false))),
 .op 12 (.mov 104 (.tmp 103)),
 .guard 104 true [.op 13 (.call 105 9 [])] [] [105],
 .op 14 (.pick 106 (.tmp 104) (.tmp 105) (.const (.bool false))),
 .op 15 (.mov 2 (.tmp 106))] [])
 .ret))))))),
 [.tmp 2]⟩
theorem ok6 : funcOk Try.prog (drawOk Try.prog) Try.f6 A6 = true := by kernel_rfl
/-- xs: t3, t4, t21, t22 -/
noncomputable def L6_0 (call : Go.Fw.Call) (xs : List AVal) (h : Heap) : Option J :=
 (aBin .lss .plain (xs.getD 3 .undef) (xs.getD 2 .undef)).bind fun v5 =>
 condV v5
 ((aIaddr 2 (xs.getD 0 .undef) (xs.getD 3 .undef)).bind fun v6 =>
 (aLoad h 2 v6).bind fun c7 =>
 (fromCells true c7).bind fun v8 =>
 (call 12 [(xs.getD 1 .undef), v8] h).bind fun r9 =>
 (call 13 [(xs.getD 1 .undef), r9.1] r9.2).bind fun r10 =>
 (aExtract 0 r10.1).bind fun v11 =>
 (aExtract 1 r10.1).bind fun v12 =>
 (aBin .sub .plain r9.1 (.int .i64 1)).bind fun v13 =>
 (call 13 [(xs.getD 1 .undef), v13] r10.2).bind fun r14 =>
 (aExtract 0 r14.1).bind fun v15 =>
 (aExtract 1 r14.1).bind fun v16 =>
 (aBin .add .plain r9.1 (.int .i64 1)).bind fun v17 =>
 (call 13 [(xs.getD 1 .undef), v17] r14.2).bind fun r18 =>
 (aExtract 0 r18.1).bind fun v19 =>
 (aExtract 1 r18.1).bind fun v20 =>
 (aBin .add .plain (xs.getD 3 .undef) (.int .i64 1)).bind fun v21 =>
 (aBin .neq .plain r9.1 v21).bind fun v22 =>
 (guardV v22 false
 ((aUn .not v12).bind fun v23 =>
 some (0, [v23], r18.2))
 (some (0, [skipV], r18.2))).bind fun g24 =>
 (aPick v22 (.bool true) (g24.2.1.getD 0 .undef)).bind fun v25 =>
 (guardV v25 false
 ((aLen false v11).bind fun v26 =>
 (aBin .neq .plain v26 (.int .i64 0)).bind fun v27 =>
 some (0, [v27], g24.2.2))
 (some (0, [skipV], g24.2.2))).bind fun g28 =>
 (aPick v25 (.bool true) (g28.2.1.getD 0 .undef)).bind fun v29 =>
 (guardV v29 false
 ((aUn .not v16).bind fun v30 =>
 some (0, [v30], g28.2.2))
 (some (0, [skipV], g28.2.2))).bind fun g31 =>
 (aPick v29 (.bool true) (g31.2.1.getD 0 .undef)).bind fun v32 =>
 (guardV v32 false
 ((aLen false v15).bind fun v33 =>
 (aBin .neq .plain v33 (.int .i64 1)).bind fun v34 =>
 some (0, [v34], g31.2.2))
 (some (0, [skipV], g31.2.2))).bind fun g35 =>
 (aPick v32 (.bool true) (g35.2.1.getD 0 .undef)).bind fun v36 =>
 (guardV v36 false
 ((aIaddr 2 v15 (.int .i64 0)).bind fun v37 =>
 (aLoad g35.2.2 2 v37).bind fun c38 =>
 (fromCells true c38).bind fun v39 =>
 (aIaddr 2 (xs.getD 0 .undef) (xs.getD 3 .undef)).bind fun v40 =>
 (aLoad g35.2.2 2 v40).bind fun c41 =>
 (fromCells true c41).bind fun v42 =>
 (aBin .neq (.cells [2, 2]) v39 v42).bind fun v43 =>
 some (0, [v43], g35.2.2))
 (some (0, [skipV], g35.2.2))).bind fun g44 =>
 (aPick v36 (.bool true) (g44.2.1.getD 0 .undef)).bind fun v45 =>
 (guardV v45 false
 (some (0, [v20], g44.2.2))
 (some (0, [skipV], g44.2.2))).bind fun g46 =>
 (aPick v45 (.bool true) (g46.2.1.getD 0 .undef)).bind fun v47 =>
 condV v47
 (some (2, [(.bool false)], g46.2.2))
 ((aBin .add .plain (xs.getD 3 .undef) (.int .i64 1)).bind fun v48 =>
 some (0, [(xs.getD 0 .undef), (xs.getD 1 .undef), (xs.getD 2 .undef), v48], g46.2.2)))
 (some (1, [(xs.getD 0 .undef), (xs.getD 1 .undef)], h))
noncomputable def S6 (call : Go.Fw.Call) (a0 : AVal) (h : Heap) : Option J :=
 (call 8 [a0] h).bind fun r1 =>
 (call 11 [] r1.2).bind fun r2 =>
 (aBin .eql .ptr r2.1 (.nilPtr)).bind fun v3 =>
 condV v3
 (some (0, [(.bool false)], r2.2))
 ((aLen false r1.1).bind fun v4 =>
 (loop (L6_0 call) [r1.1, r2.1, v4, (.int .i64 0)] r2.2).bind fun x49 =>
 bif Nat.beq x49.1 1 then (call 13 [(x49.2.1.getD 1 .undef), (.int .i64 0)] x49.2.2).bind fun r50 =>
 (aExtract 0 r50.1).bind fun v51 =>
 (aExtract 1 r50.1).bind fun v52 =>
 (aLen false (x49.2.1.getD 0 .undef)).bind fun v53 =>
 (aBin .leq .plain v53 (.int .i64 16)).bind fun v54 =>
 (aBin .eql .bool v52 v54).bind fun v55 =>
 (guardV v55 true
 ((call 14 [(x49.2.1.getD 1 .undef)] r50.2).bind fun r56 =>
 (aLen false (x49.2.1.getD 0 .undef)).bind fun v57 =>
 (aBin .eql .plain r56.1 v57).bind fun v58 =>
 some (0, [v58], r56.2))
 (some (0, [skipV], r50.2))).bind fun g59 =>
 (aPick v55 (g59.2.1.getD 0 .undef) (.bool false)).bind fun v60 =>
 (guardV v60 true
 ((call 9 [] g59.2.2).bind fun r61 =>
 some (0, [r61.1], r61.2))
 (some (0, [skipV], g59.2.2))).bind fun g62 =>
 (aPick v60 (g62.2.1.getD 0 .undef) (.bool false)).bind fun v63 =>
 some (0, [v63], g62.2.2) else
 bif Nat.beq x49.1 2 then some (0, [(x49.2.1.getD 0 .undef)], x49.2.2) else
 none)
theorem run6 (call : Go.Fw.Call) (a0 : AVal) (h : Heap) : runFn call (.code A6) [a0] h = (S6 call a0 h).bind ansOf := by kernel_rfl

/-- frankpledge/frankpledgelaw13.play -/
noncomputable def A7 : AFunc := ⟨2, (.seq (.region [.op 0 (.mov 4 (.const (.bool false)))] [])
 (.seq (.region [.op 0 (.call 13 11 []),
 .op 1 (.build 14 [.nilSlice] []),
 .op 2 (.box 15 false (.tmp 14)),
 .op 3 (.mov 5 (.tmp 13)),
 .op 4 (.mov 6 (.tmp 15))] [])
 (.seq (.seq (.region [.op 0 (.mov 7 (.const (.int .i64 0)))] [])
 (.block 0 (.loop ⟨[0, 1, 5, 6, 7], []⟩ [((.exit 0), ⟨[5], []⟩), (.ret, ⟨[4], []⟩)]
 (.seq (.seq (.region [.op 0 (.mov 16 (.tmp 7)),
 .op 1 (.mov 17 (.tmp 0)),
 .op 2 (.len 18 false (.tmp 17)),
 .op 3 (.bin 19 .lss .plain (.tmp 16) (.tmp 18)),
 .op 4 (.mov 20 (.tmp 19)),
 .guard 20 true [.op 5 (.mov 21 (.tmp 7)),
 .op 6 (.bin 22 .lss .plain (.tmp 21) (.const (.int .i64 60)))] [] [22],
 .op 7 (.pick 23 (.tmp 20) (.tmp 22) (.const (.bool false)))] [])
 (.cond (.tmp 23)
 .skip
 (.exit 0)))
 (.seq (.block 1 (.seq (.seq (.region [.op 0 (.mov 26 (.tmp 5)),
 .op 1 (.bin 27 .eql .ptr (.tmp 26) (.const (.nilPtr))),
 .op 2 (.mov 28 (.tmp 27)),
 .guard 28 false [.op 3 (.mov 29 (.tmp 5)),
 .op 4 (.mov 30 (.tmp 0)),
 .op 5 (.mov 31 (.tmp 7)),
 .op 6 (.iaddr 32 none 2 (.tmp 30) (.tmp 31)),
 .op 7 (.load 33 true 2 (.tmp 32)),
 .op 8 (.call 34 12 [.tmp 29, .tmp 33]),
 .op 9 (.mov 35 (.tmp 6)),
 .op 10 (.mov 36 (.tmp 0)),
 .op 11 (.mov 37 (.tmp 7)),
 .op 12 (.iaddr 38 none 2 (.tmp 36) (.tmp 37)),
 .op 13 (.load 39 true 2 (.tmp 38)),
 .op 14 (.call 40 15 [.tmp 35, .tmp 39]),
 .op 15 (.bin 41 .neq .plain (.tmp 34) (.tmp 40))] [(13, 8)] [41],
 .op 16 (.pick 42 (.tmp 28) (.const (.bool true)) (.tmp 41)),
 .op 17 (.mov 43 (.tmp 42)),
 .guard 43 false [.op 18 (.mov 44 (.tmp 5)),
 .op 19 (.call 45 14 [.tmp 44]),
 .op 20 (.mov 46 (.tmp 6)),
 .op 21 (.nilchk 47 (.tmp 46)),
 .op 22 (.faddr 48 0 (.tmp 47)),
 .op 23 (.load 49 false 1 (.tmp 48)),
 .op 24 (.len 50 false (.tmp 49)),
 .op 25 (.bin 51 .neq .plain (.tmp 45) (.tmp 50))] [(23, 19)] [51],
 .op 26 (.pick 52 (.tmp 43) (.const (.bool true)) (.tmp 51))] [])
 (.cond (.tmp 52)
 (.seq (.region [.op 0 (.mov 4 (.const (.bool false)))] [])
 .ret)
 .skip))
 (.seq (.region [.op 0 (.mov 8 (.const (.int .i64 0)))] [])
 (.block 2 (.loop ⟨[0, 1, 5, 6, 7, 8], []⟩ [((.exit 2), ⟨[0, 1, 5, 6, 7], []⟩), (.ret, ⟨[4], []⟩)]
 (.seq (.seq (.region [.op 0 (.mov 53 (.tmp 8)),
 .op 1 (.mov 54 (.tmp 1)),
 .op 2 (.len 55 false (.tmp 54)),
 .op 3 (.bin 56 .lss .plain (.tmp 53) (.tmp 55)),
 .op 4 (.mov 57 (.tmp 56)),
 .guard 57 true [.op 5 (.mov 58 (.tmp 8)),
 .op 6 (.bin 59 .lss .plain (.tmp 58) (.const (.int .i64 12)))] [] [59],
 .op 7 (.pick 60 (.tmp 57) (.tmp 59) (.const (.bool false)))] [])
 (.cond (.tmp 60)
 .skip
 (.exit 2)))
 (.seq (.block 3 (.seq (.region [.op 0 (.mov 64 (.tmp 5)),
 .op 1 (.mov 65 (.tmp 1)),
 .op 2 (.mov 66 (.tmp 8)),
 .op 3 (.iaddr 67 none 1 (.tmp 65) (.tmp 66)),
 .op 4 (.load 68 false 1 (.tmp 67)),
 .op 5 (.call 69 13 [.tmp 64, .tmp 68]),
 .op 6 (.mov 63 (.tmp 69)),
 .op 7 (.extract 70 (.tmp 63) 0),
 .op 8 (.extract 71 (.tmp 63) 1),
 .op 9 (.mov 9 (.tmp 70)),
 .op 10 (.mov 10 (.tmp 71))] [])
 (.seq (.region [.op 0 (.mov 73 (.tmp 6)),
 .op 1 (.mov 74 (.tmp 1)),
 .op 2 (.mov 75 (.tmp 8)),
 .op 3 (.iaddr 76 none 1 (.tmp 74) (.tmp 75)),
 .op 4 (.load 77 false 1 (.tmp 76)),
 .op 5 (.call 78 16 [.tmp 73, .tmp 77]),
 .op 6 (.mov 72 (.tmp 78)),
 .op 7 (.extract 79 (.tmp 72) 0),
 .op 8 (.extract 80 (.tmp 72) 1),
 .op 9 (.mov 11 (.tmp 79)),
 .op 10 (.mov 12 (.tmp 80))] [])
 (.seq (.region [.op 0 (.mov 81 (.tmp 10)),
 .op 1 (.mov 82 (.tmp 12)),
 .op 2 (.bin 83 .neq .bool (.tmp 81) (.tmp 82)),
 .op 3 (.mov 84 (.tmp 83)),
 .guard 84 false [.op 4 (.mov 85 (.tmp 9)),
 .op 5 (.mov 86 (.tmp 11)),
 .op 6 (.call 87 17 [.tmp 85, .tmp 86]),
 .op 7 (.un 88 .not (.tmp 87))] [] [88],
 .op 8 (.pick 89 (.tmp 84) (.const (.bool true)) (.tmp 88))] [])
 (.cond (.tmp 89)
 (.seq (.region [.op 0 (.mov 4 (.const (.bool false)))] [])
 .ret)
 .skip)))))
 (.region [.op 0 (.mov 61 (.tmp 8)),
 .op 1 (.bin 62 .add .plain (.tmp 61) (.const (.int .i64 1))),
 .op 2 (.mov 8 (.tmp 62))] []))))))))
 (.region [.op 0 (.mov 24 (.tmp 7)),
 .op 1 (.bin 25 .add .plain (.tmp 24) (.const (.int .i64 1))),
 .op 2 (.mov 7 (.tmp 25))] []))))))
 (.seq (.region [.op 0 (.mov 90 (.tmp 5)),
 .op 1 (.bin 91 .neq .ptr (.tmp 90) (.const (.nilPtr))),
 .op 2 (.mov 4 (.tmp 91))] [])
 .ret)))),
 [.tmp 4]⟩
theorem ok7 : funcOk Try.prog (drawOk Try.prog) Try.f7 A7 = true := by kernel_rfl
/-- xs: t0, t1, t5, t6, t7, t8 -/
noncomputable def L7_1 (call : Go.Fw.Call) (xs : List AVal) (h : Heap) : Option J :=
 (aLen false (xs.getD 1 .undef)).bind fun v31 =>
 (aBin .lss .plain (xs.getD 5 .undef) v31).bind fun v32 =>
 (guardV v32 true
 ((aBin .lss .plain (xs.getD 5 .undef) (.int .i64 12)).bind fun v33 =>
 some (0, [v33], h))
 (some (0, [skipV], h))).bind fun g34 =>
 (aPick v32 (g34.2.1.getD 0 .undef) (.bool false)).bind fun v35 =>
 condV v35
 ((aIaddr 1 (xs.getD 1 .undef) (xs.getD 5 .undef)).bind fun v36 =>
 (aLoad g34.2.2 1 v36).bind fun c37 =>
 (fromCells false c37).bind fun v38 =>
 (call 13 [(xs.getD 2 .undef), v38] g34.2.2).bind fun r39 =>
 (aExtract 0 r39.1).bind fun v40 =>
 (aExtract 1 r39.1).bind fun v41 =>
 (aIaddr 1 (xs.getD 1 .undef) (xs.getD 5 .undef)).bind fun v42 =>
 (aLoad r39.2 1 v42).bind fun c43 =>
 (fromCells false c43).bind fun v44 =>
 (call 16 [(xs.getD 3 .undef), v44] r39.2).bind fun r45 =>
 (aExtract 0 r45.1).bind fun v46 =>
 (aExtract 1 r45.1).bind fun v47 =>
 (aBin .neq .bool v41 v47).bind fun v48 =>
 (guardV v48 false
 ((call 17 [v40, v46] r45.2).bind fun r49 =>
 (aUn .not r49.1).bind fun v50 =>
 some (0, [v50], r49.2))
 (some (0, [skipV], r45.2))).bind fun g51 =>
 (aPick v48 (.bool true) (g51.2.1.getD 0 .undef)).bind fun v52 =>
 condV v52
 (some (2, [(.bool false)], g51.2.2))
 ((aBin .add .plain (xs.getD 5 .undef) (.int .i64 1)).bind fun v53 =>
 some (0, [(xs.getD 0 .undef), (xs.getD 1 .undef), (xs.getD 2 .undef), (xs.getD 3 .undef), (xs.getD 4 .undef), v53], g51.2.2)))
 (some (1, [(xs.getD 0 .undef), (xs.getD 1 .undef), (xs.getD 2 .undef), (xs.getD 3 .undef), (xs.getD 4 .undef)], g34.2.2))
/-- xs: t0, t1, t5, t6, t7 -/
noncomputable def L7_0 (call : Go.Fw.Call) (xs : List AVal) (h : Heap) : Option J :=
 (aLen false (xs.getD 0 .undef)).bind fun v5 =>
 (aBin .lss .plain (xs.getD 4 .undef) v5).bind fun v6 =>
 (guardV v6 true
 ((aBin .lss .plain (xs.getD 4 .undef) (.int .i64 60)).bind fun v7 =>
 some (0, [v7], h))
 (some (0, [skipV], h))).bind fun g8 =>
 (aPick v6 (g8.2.1.getD 0 .undef) (.bool false)).bind fun v9 =>
 condV v9
 ((aBin .eql .ptr (xs.getD 2 .undef) (.nilPtr)).bind fun v10 =>
 (guardV v10 false
 ((aIaddr 2 (xs.getD 0 .undef) (xs.getD 4 .undef)).bind fun v11 =>
 (aLoad g8.2.2 2 v11).bind fun c12 =>
 (fromCells true c12).bind fun v13 =>
 (call 12 [(xs.getD 2 .undef), v13] g8.2.2).bind fun r14 =>
 (aIaddr 2 (xs.getD 0 .undef) (xs.getD 4 .undef)).bind fun v15 =>
 (aLoad r14.2 2 v15).bind fun c16 =>
 (fromCells true c16).bind fun v17 =>
 (call 15 [(xs.getD 3 .undef), v17] r14.2).bind fun r18 =>
 (aBin .neq .plain r14.1 r18.1).bind fun v19 =>
 bif checkPairs [(13, logRd v15 2), (8, some (.ef [] g8.2.2 [] r14.2))] [(13, 8)] then some (0, [v19], r18.2) else none)
 (some (0, [skipV], g8.2.2))).bind fun g20 =>
 (aPick v10 (.bool true) (g20.2.1.getD 0 .undef)).bind fun v21 =>
 (guardV v21 false
 ((call 14 [(xs.getD 2 .undef)] g20.2.2).bind fun r22 =>
 (aNilchk (xs.getD 3 .undef)).bind fun v23 =>
 (aFaddr 0 v23).bind fun v24 =>
 (aLoad r22.2 1 v24).bind fun c25 =>
 (fromCells false c25).bind fun v26 =>
 (aLen false v26).bind fun v27 =>
 (aBin .neq .plain r22.1 v27).bind fun v28 =>
 bif checkPairs [(23, logRd v24 1), (19, some (.ef [] g20.2.2 [] r22.2))] [(23, 19)] then some (0, [v28], r22.2) else none)
 (some (0, [skipV], g20.2.2))).bind fun g29 =>
 (aPick v21 (.bool true) (g29.2.1.getD 0 .undef)).bind fun v30 =>
 condV v30
 (some (2, [(.bool false)], g29.2.2))
 ((loop (L7_1 call) [(xs.getD 0 .undef), (xs.getD 1 .undef), (xs.getD 2 .undef), (xs.getD 3 .undef), (xs.getD 4 .undef), (.int .i64 0)] g29.2.2).bind fun x54 =>
 bif Nat.beq x54.1 1 then (aBin .add .plain (x54.2.1.getD 4 .undef) (.int .i64 1)).bind fun v55 =>
 some (0, [(x54.2.1.getD 0 .undef), (x54.2.1.getD 1 .undef), (x54.2.1.getD 2 .undef), (x54.2.1.getD 3 .undef), v55], x54.2.2) else
 bif Nat.beq x54.1 2 then some (2, [(x54.2.1.getD 0 .undef)], x54.2.2) else
 none))
 (some (1, [(xs.getD 2 .undef)], g8.2.2))
noncomputable def S7 (call : Go.Fw.Call) (a0 a1 : AVal) (h : Heap) : Option J :=
 (call 11 [] h).bind fun r1 =>
 (aFill [.nilSlice] []).bind fun c2 =>
 (AVal.cells? (.agg c2)).bind fun c3 =>
 (loop (L7_0 call) [a0, a1, r1.1, (.ptr r1.2.next 0), (.int .i64 0)] (r1.2.alloc c3)).bind fun x56 =>
 bif Nat.beq x56.1 1 then (aBin .neq .ptr (x56.2.1.getD 0 .undef) (.nilPtr)).bind fun v57 =>
 some (0, [v57], x56.2.2) else
 bif Nat.beq x56.1 2 then some (0, [(x56.2.1.getD 0 .undef)], x56.2.2) else
 none
theorem run7 (call : Go.Fw.Call) (a0 a1 : AVal) (h : Heap) : runFn call (.code A7) [a0, a1] h = (S7 call a0 a1 h).bind ansOf := by kernel_rfl

/-- frankpledge/frankpledgelaw13.keys -/
noncomputable def A8 : AFunc := ⟨1, (.seq (.region [.op 0 (.mov 2 (.const (.nilSlice)))] [])
 (.seq (.region [.op 0 (.mov 5 (.tmp 0)),
 .op 1 (.build 6 [.nilSlice, .int .i64 0] [(0, 1, .tmp 5)]),
 .op 2 (.box 7 false (.tmp 6)),
 .op 3 (.mov 3 (.tmp 7))] [])
 (.seq (.region [.op 0 (.mov 4 (.const (.nilSlice)))] [])
 (.seq (.block 0 (.loop ⟨[0, 3, 4], []⟩ [((.exit 0), ⟨[4], []⟩)]
 (.seq (.seq (.region [.op 0 (.mov 8 (.tmp 4)),
 .op 1 (.len 9 false (.tmp 8)),
 .op 2 (.bin 10 .lss .plain (.tmp 9) (.const (.int .i64 50))),
 .op 3 (.mov 11 (.tmp 10)),
 .guard 11 true [.op 4 (.mov 12 (.tmp 3)),
 .op 5 (.nilchk 13 (.tmp 12)),
 .op 6 (.faddr 14 1 (.tmp 13)),
 .op 7 (.load 15 false 1 (.tmp 14)),
 .op 8 (.mov 16 (.tmp 0)),
 .op 9 (.len 17 false (.tmp 16)),
 .op 10 (.bin 18 .lss .plain (.tmp 15) (.tmp 17))] [] [18],
 .op 11 (.pick 19 (.tmp 11) (.tmp 18) (.const (.bool false)))] [])
 (.cond (.tmp 19)
 .skip
 (.exit 0)))
 (.block 1 (.region [.op 0 (.mov 20 (.tmp 4)),
 .op 1 (.mov 21 (.tmp 3)),
 .op 2 (.call 22 18 [.tmp 21]),
 .op 3 (.buildSl 23 [.str [], .str []] 2 1 [(0, .tmp 22)]),
 .op 4 (.append 24 2 32 [.str [], .str []] false (.tmp 20) (.tmp 23)),
 .op 5 (.mov 4 (.tmp 24))] [])))))
 (.seq (.region [.op 0 (.mov 25 (.tmp 4)),
 .op 1 (.mov 2 (.tmp 25))] [])
 .ret))))),
 [.tmp 2]⟩
theorem ok8 : funcOk Try.prog (drawOk Try.prog) Try.f8 A8 = true := by kernel_rfl
/-- xs: t0, t3, t4 -/
noncomputable def L8_0 (call : Go.Fw.Call) (xs : List AVal) (h : Heap) : Option J :=
 (aLen false (xs.getD 2 .undef)).bind fun v4 =>
 (aBin .lss .plain v4 (.int .i64 50)).bind fun v5 =>
 (guardV v5 true
 ((aNilchk (xs.getD 1 .undef)).bind fun v6 =>
 (aFaddr 1 v6).bind fun v7 =>
 (aLoad h 1 v7).bind fun c8 =>
 (fromCells false c8).bind fun v9 =>
 (aLen false (xs.getD 0 .undef)).bind fun v10 =>
 (aBin .lss .plain v9 v10).bind fun v11 =>
 some (0, [v11], h))
 (some (0, [skipV], h))).bind fun g12 =>
 (aPick v5 (g12.2.1.getD 0 .undef) (.bool false)).bind fun v13 =>
 condV v13
 ((call 18 [(xs.getD 1 .undef)] g12.2.2).bind fun r14 =>
 (aFill (reps [.str [], .str []] 1) [(0, 2, r14.1)]).bind fun c15 =>
 (aAppend 2 32 [.str [], .str []] false (xs.getD 2 .undef) (.slice r14.2.next 0 1 1 2 true) (r14.2.alloc c15)).bind fun r16 =>
 some (0, [(xs.getD 0 .undef), (xs.getD 1 .undef), r16.1], r16.2))
 (some (1, [(xs.getD 2 .undef)], g12.2.2))
noncomputable def S8 (call : Go.Fw.Call) (a0 : AVal) (h : Heap) : Option J :=
 (aFill [.nilSlice, .int .i64 0] [(0, 1, a0)]).bind fun c1 =>
 (AVal.cells? (.agg c1)).bind fun c2 =>
 (loop (L8_0 call) [a0, (.ptr h.next 0), (.nilSlice)] (h.alloc c2)).bind fun x17 =>
 bif Nat.beq x17.1 1 then some (0, [(x17.2.1.getD 0 .undef)], x17.2.2) else
 none
theorem run8 (call : Go.Fw.Call) (a0 : AVal) (h : Heap) : runFn call (.code A8) [a0] h = (S8 call a0 h).bind ansOf := by kernel_rfl

/-- frankpledge/frankpledgelaw13.known -/
noncomputable def A9 : AFunc := ⟨0, (.seq (.region [.op 0 (.mov 0 (.const (.bool false)))] [])
 (.seq (.region [.op 0 (.call 13 11 []),
 .op 1 (.mov 1 (.tmp 13))] [])
 (.seq (.seq (.region [.op 0 (.mov 14 (.tmp 1)),
 .op 1 (.bin 15 .eql .ptr (.tmp 14) (.const (.nilPtr)))] [])
 (.cond (.tmp 15)
 (.seq (.region [.op 0 (.mov 0 (.const (.bool false)))] [])
 .ret)
 .skip))
 (.seq (.region [.op 0 (.build 16 [.str [], .str []] [(0, 1, .const (.str [97]))]),
 .op 1 (.build 17 [.str [], .str []] [(0, 1, .const (.str [98]))]),
 .op 2 (.alloc 2 true [.str [], .str []]),
 .op 3 (.alloc 3 true [.str [], .str []]),
 .op 4 (.store true 2 (.tmp 2) (.tmp 16)),
 .op 5 (.store true 2 (.tmp 3) (.tmp 17))] [])
 (.seq (.region [.op 0 (.mov 18 (.tmp 1)),
 .op 1 (.load 19 true 2 (.tmp 2)),
 .op 2 (.call 20 12 [.tmp 18, .tmp 19]),
 .op 3 (.mov 21 (.tmp 1)),
 .op 4 (.load 22 true 2 (.tmp 3)),
 .op 5 (.call 23 12 [.tmp 21, .tmp 22]),
 .op 6 (.mov 24 (.tmp 1)),
 .op 7 (.load 25 true 2 (.tmp 2)),
 .op 8 (.call 26 12 [.tmp 24, .tmp 25]),
 .op 9 (.mov 4 (.tmp 20)),
 .op 10 (.mov 5 (.tmp 23)),
 .op 11 (.mov 6 (.tmp 26))] [(4, 2), (7, 2), (7, 5)])
 (.seq (.region [.op 0 (.mov 28 (.tmp 1)),
 .op 1 (.call 29 13 [.tmp 28, .const (.int .i64 0)]),
 .op 2 (.mov 27 (.tmp 29)),
 .op 3 (.extract 30 (.tmp 27) 0),
 .op 4 (.extract 31 (.tmp 27) 1),
 .op 5 (.mov 7 (.tmp 30)),
 .op 6 (.mov 8 (.tmp 31))] [])
 (.seq (.region [.op 0 (.mov 33 (.tmp 1)),
 .op 1 (.call 34 13 [.tmp 33, .const (.int .i64 3)]),
 .op 2 (.mov 32 (.tmp 34)),
 .op 3 (.extract 35 (.tmp 32) 0),
 .op 4 (.extract 36 (.tmp 32) 1),
 .op 5 (.mov 9 (.tmp 35)),
 .op 6 (.mov 10 (.tmp 36))] [])
 (.seq (.region [.op 0 (.mov 38 (.tmp 1)),
 .op 1 (.call 39 13 [.tmp 38, .const (.int .i64 4)]),
 .op 2 (.mov 37 (.tmp 39)),
 .op 3 (.extract 40 (.tmp 37) 0),
 .op 4 (.extract 41 (.tmp 37) 1),
 .op 5 (.mov 11 (.tmp 40)),
 .op 6 (.mov 12 (.tmp 41))] [])
 (.seq (.region [.op 0 (.mov 42 (.tmp 4)),
 .op 1 (.bin 43 .eql .plain (.tmp 42) (.const (.int .i64 1))),
 .op 2 (.mov 44 (.tmp 43)),
 .guard 44 true [.op 3 (.mov 45 (.tmp 5)),
 .op 4 (.bin 46 .eql .plain (.tmp 45) (.const (.int .i64 2)))] [] [46],
 .op 5 (.pick 47 (.tmp 44) (.tmp 46) (.const (.bool false))),
 .op 6 (.mov 48 (.tmp 47)),
 .guard 48 true [.op 7 (.mov 49 (.tmp 6)),
 .op 8 (.bin 50 .eql .plain (.tmp 49) (.const (.int .i64 3)))] [] [50],
 .op 9 (.pick 51 (.tmp 48) (.tmp 50) (.const (.bool false))),
 .op 10 (.mov 52 (.tmp 51)),
 .guard 52 true [.op 11 (.mov 53 (.tmp 1)),
 .op 12 (.call 54 14 [.tmp 53]),
 .op 13 (.bin 55 .eql .plain (.tmp 54) (.const (.int .i64 3)))] [] [55],
 .op 14 (.pick 56 (.tmp 52) (.tmp 55) (.const (.bool false))),
 .op 15 (.mov 57 (.tmp 56)),
 .guard 57 true [.op 16 (.mov 58 (.tmp 8))] [] [58],
 .op 17 (.pick 59 (.tmp 57) (.tmp 58) (.const (.bool false))),
 .op 18 (.mov 60 (.tmp 59)),
 .guard 60 true [.op 19 (.mov 61 (.tmp 7)),
 .op 20 (.len 62 false (.tmp 61)),
 .op 21 (.bin 63 .eql .plain (.tmp 62) (.const (.int .i64 2)))] [] [63],
 .op 22 (.pick 64 (.tmp 60) (.tmp 63) (.const (.bool false))),
 .op 23 (.mov 65 (.tmp 64)),
 .guard 65 true [.op 24 (.mov 66 (.tmp 7)),
 .op 25 (.iaddr 67 none 2 (.tmp 66) (.const (.int .i64 0))),
 .op 26 (.load 68 true 2 (.tmp 67)),
 .op 27 (.load 69 true 2 (.tmp 3)),
 .op 28 (.bin 70 .eql (.cells [2, 2]) (.tmp 68) (.tmp 69))] [] [70],
 .op 29 (.pick 71 (.tmp 65) (.tmp 70) (.const (.bool false))),
 .op 30 (.mov 72 (.tmp 71)),
 .guard 72 true [.op 31 (.mov 73 (.tmp 7)),
 .op 32 (.iaddr 74 none 2 (.tmp 73) (.const (.int .i64 1))),
 .op 33 (.load 75 true 2 (.tmp 74)),
 .op 34 (.load 76 true 2 (.tmp 2)),
 .op 35 (.bin 77 .eql (.cells [2, 2]) (.tmp 75) (.tmp 76))] [] [77],
 .op 36 (.pick 78 (.tmp 72) (.tmp 77) (.const (.bool false))),
 .op 37 (.mov 79 (.tmp 78)),
 .guard 79 true [.op 38 (.mov 80 (.tmp 10))] [] [80],
 .op 39 (.pick 81 (.tmp 79) (.tmp 80) (.const (.bool false))),
 .op 40 (.mov 82 (.tmp 81)),
 .guard 82 true [.op 41 (.mov 83 (.tmp 9)),
 .op 42 (.len 84 false (.tmp 83)),
 .op 43 (.bin 85 .eql .plain (.tmp 84) (.const (.int .i64 0)))] [] [85],
 .op 44 (.pick 86 (.tmp 82) (.tmp 85) (.const (.bool false))),
 .op 45 (.mov 87 (.tmp 86)),
 .guard 87 true [.op 46 (.mov 88 (.tmp 12)),
 .op 47 (.un 89 .not (.tmp 88))] [] [89],
 .op 48 (.pick 90 (.tmp 87) (.tmp 89) (.const (.bool false))),
 .op 49 (.mov 0 (.tmp 90))] [])
 .ret))))))))),
 [.tmp 0]⟩
theorem ok9 : funcOk Try.prog (drawOk Try.prog) Try.f9 A9 = true := by kernel_rfl
noncomputable def S9 (call : Go.Fw.Call) (h : Heap) : Option J :=
 (call 11 [] h).bind fun r1 =>
 (aBin .eql .ptr r1.1 (.nilPtr)).bind fun v2 =>
 condV v2
 (some (0, [(.bool false)], r1.2))
 ((aFill [.str [], .str []] [(0, 1, (.str [97]))]).bind fun c3 =>
 (aFill [.str [], .str []] [(0, 1, (.str [98]))]).bind fun c4 =>
 (aCells 2 (.agg c3)).bind fun c5 =>
 bif Nat.ble ((0) + 2) (List.length (α := AVal) [.str [], .str []]) then (aCells 2 (.agg c4)).bind fun c6 =>
 bif Nat.ble ((0) + 2) (List.length (α := AVal) [.str [], .str []]) then (rdL (splice [.str [], .str []] (0) c5) 0 2).bind fun c7 =>
 (fromCells true c7).bind fun v8 =>
 (call 12 [r1.1, v8] r1.2).bind fun r9 =>
 (rdL (splice [.str [], .str []] (0) c6) 0 2).bind fun c10 =>
 (fromCells true c10).bind fun v11 =>
 (call 12 [r1.1, v11] r9.2).bind fun r12 =>
 (rdL (splice [.str [], .str []] (0) c5) 0 2).bind fun c13 =>
 (fromCells true c13).bind fun v14 =>
 (call 12 [r1.1, v14] r12.2).bind fun r15 =>
 bif checkPairs [(7, some (.lrd 2 (0) 2)), (5, some (.ef [(3, (splice [.str [], .str []] (0) c6)), (2, (splice [.str [], .str []] (0) c5))] r9.2 [(3, (splice [.str [], .str []] (0) c6)), (2, (splice [.str [], .str []] (0) c5))] r12.2)), (4, some (.lrd 3 (0) 2)), (2, some (.ef [(3, (splice [.str [], .str []] (0) c6)), (2, (splice [.str [], .str []] (0) c5))] r1.2 [(3, (splice [.str [], .str []] (0) c6)), (2, (splice [.str [], .str []] (0) c5))] r9.2))] [(4, 2), (7, 2), (7, 5)] then (call 13 [r1.1, (.int .i64 0)] r15.2).bind fun r16 =>
 (aExtract 0 r16.1).bind fun v17 =>
 (aExtract 1 r16.1).bind fun v18 =>
 (call 13 [r1.1, (.int .i64 3)] r16.2).bind fun r19 =>
 (aExtract 0 r19.1).bind fun v20 =>
 (aExtract 1 r19.1).bind fun v21 =>
 (call 13 [r1.1, (.int .i64 4)] r19.2).bind fun r22 =>
 (aExtract 0 r22.1).bind fun v23 =>
 (aExtract 1 r22.1).bind fun v24 =>
 (aBin .eql .plain r9.1 (.int .i64 1)).bind fun v25 =>
 (guardV v25 true
 ((aBin .eql .plain r12.1 (.int .i64 2)).bind fun v26 =>
 some (0, [v26], r22.2))
 (some (0, [skipV], r22.2))).bind fun g27 =>
 (aPick v25 (g27.2.1.getD 0 .undef) (.bool false)).bind fun v28 =>
 (guardV v28 true
 ((aBin .eql .plain r15.1 (.int .i64 3)).bind fun v29 =>
 some (0, [v29], g27.2.2))
 (some (0, [skipV], g27.2.2))).bind fun g30 =>
 (aPick v28 (g30.2.1.getD 0 .undef) (.bool false)).bind fun v31 =>
 (guardV v31 true
 ((call 14 [r1.1] g30.2.2).bind fun r32 =>
 (aBin .eql .plain r32.1 (.int .i64 3)).bind fun v33 =>
 some (0, [v33], r32.2))
 (some (0, [skipV], g30.2.2))).bind fun g34 =>
 (aPick v31 (g34.2.1.getD 0 .undef) (.bool false)).bind fun v35 =>
 (guardV v35 true
 (some (0, [v18], g34.2.2))
 (some (0, [skipV], g34.2.2))).bind fun g36 =>
 (aPick v35 (g36.2.1.getD 0 .undef) (.bool false)).bind fun v37 =>
 (guardV v37 true
 ((aLen false v17).bind fun v38 =>
 (aBin .eql .plain v38 (.int .i64 2)).bind fun v39 =>
 some (0, [v39], g36.2.2))
 (some (0, [skipV], g36.2.2))).bind fun g40 =>
 (aPick v37 (g40.2.1.getD 0 .undef) (.bool false)).bind fun v41 =>
 (guardV v41 true
 ((aIaddr 2 v17 (.int .i64 0)).bind fun v42 =>
 (aLoad g40.2.2 2 v42).bind fun c43 =>
 (fromCells true c43).bind fun v44 =>
 (rdL (splice [.str [], .str []] (0) c6) 0 2).bind fun c45 =>
 (fromCells true c45).bind fun v46 =>
 (aBin .eql (.cells [2, 2]) v44 v46).bind fun v47 =>
 some (0, [v47], g40.2.2))
 (some (0, [skipV], g40.2.2))).bind fun g48 =>
 (aPick v41 (g48.2.1.getD 0 .undef) (.bool false)).bind fun v49 =>
 (guardV v49 true
 ((aIaddr 2 v17 (.int .i64 1)).bind fun v50 =>
 (aLoad g48.2.2 2 v50).bind fun c51 =>
 (fromCells true c51).bind fun v52 =>
 (rdL (splice [.str [], .str []] (0) c5) 0 2).bind fun c53 =>
 (fromCells true c53).bind fun v54 =>
 (aBin .eql (.cells [2, 2]) v52 v54).bind fun v55 =>
 some (0, [v55], g48.2.2))
 (some (0, [skipV], g48.2.2))).bind fun g56 =>
 (aPick v49 (g56.2.1.getD 0 .undef) (.bool false)).bind fun v57 =>
 (guardV v57 true
 (some (0, [v21], g56.2.2))
 (some (0, [skipV], g56.2.2))).bind fun g58 =>
 (aPick v57 (g58.2.1.getD 0 .undef) (.bool false)).bind fun v59 =>
 (guardV v59 true
 ((aLen false v20).bind fun v60 =>
 (aBin .eql .plain v60 (.int .i64 0)).bind fun v61 =>
 some (0, [v61], g58.2.2))
 (some (0, [skipV], g58.2.2))).bind fun g62 =>
 (aPick v59 (g62.2.1.getD 0 .undef) (.bool false)).bind fun v63 =>
 (guardV v63 true
 ((aUn .not v24).bind fun v64 =>
 some (0, [v64], g62.2.2))
 (some (0, [skipV], g62.2.2))).bind fun g65 =>
 (aPick v63 (g65.2.1.getD 0 .undef) (.bool false)).bind fun v66 =>
 some (0, [v66], g65.2.2) else none else none else none)
theorem run9 (call : Go.Fw.Call) (h : Heap) : runFn call (.code A9) [] h = (S9 call  h).bind ansOf := by kernel_rfl

/-- frankpledge/frankpledgebook.Within -/
noncomputable def A10 : AFunc := ⟨3, (.seq (.region [.op 0 (.mov 6 (.const (.int .i64 0)))] [])
 (.seq (.seq (.region [.op 0 (.mov 7 (.tmp 0)),
 .op 1 (.mov 8 (.tmp 1)),
 .op 2 (.bin 9 .geq .plain (.tmp 7) (.tmp 8)),
 .op 3 (.mov 10 (.tmp 9)),
 .guard 10 true [.op 4 (.mov 11 (.tmp 0)),
 .op 5 (.mov 12 (.tmp 2)),
 .op 6 (.bin 13 .leq .plain (.tmp 11) (.tmp 12))] [] [13],
 .op 7 (.pick 14 (.tmp 10) (.tmp 13) (.const (.bool false)))] [])
 (.cond (.tmp 14)
 (.seq (.region [.op 0 (.mov 15 (.tmp 0)),
 .op 1 (.mov 6 (.tmp 15))] [])
 .ret)
 .skip))
 (.seq (.region [.op 0 (.mov 16 (.tmp 0)),
 .op 1 (.mov 17 (.tmp 2)),
 .op 2 (.mov 18 (.tmp 1)),
 .op 3 (.bin 19 .sub .plain (.tmp 17) (.tmp 18)),
 .op 4 (.bin 20 .add .plain (.tmp 19) (.const (.int .i64 1))),
 .op 5 (.bin 21 .rem .plain (.tmp 16) (.tmp 20)),
 .op 6 (.mov 0 (.tmp 21))] [])
 (.seq (.seq (.region [.op 0 (.mov 22 (.tmp 0)),
 .op 1 (.bin 23 .lss .plain (.tmp 22) (.const (.int .i64 0)))] [])
 (.join [(.normal, ⟨[0, 1], []⟩)] (.cond (.tmp 23)
 (.region [.op 0 (.mov 24 (.tmp 0)),
 .op 1 (.mov 25 (.tmp 2)),
 .op 2 (.bin 26 .add .plain (.tmp 24) (.tmp 25)),
 .op 3 (.mov 27 (.tmp 1)),
 .op 4 (.bin 28 .sub .plain (.tmp 26) (.tmp 27)),
 .op 5 (.bin 29 .add .plain (.tmp 28) (.const (.int .i64 1))),
 .op 6 (.mov 0 (.tmp 29))] [])
 .skip)))
 (.seq (.region [.op 0 (.mov 30 (.tmp 1)),
 .op 1 (.mov 31 (.tmp 0)),
 .op 2 (.bin 32 .add .plain (.tmp 30) (.tmp 31)),
 .op 3 (.mov 6 (.tmp 32))] [])
 .ret))))),
 [.tmp 6]⟩
theorem ok10 : funcOk Try.prog (drawOk Try.prog) Try.f10 A10 = true := by kernel_rfl
noncomputable def S10 (call : Go.Fw.Call) (a0 a1 a2 : AVal) (h : Heap) : Option J :=
 (aBin .geq .plain a0 a1).bind fun v1 =>
 (guardV v1 true
 ((aBin .leq .plain a0 a2).bind fun v2 =>
 some (0, [v2], h))
 (some (0, [skipV], h))).bind fun g3 =>
 (aPick v1 (g3.2.1.getD 0 .undef) (.bool false)).bind fun v4 =>
 condV v4
 (some (0, [a0], g3.2.2))
 ((aBin .sub .plain a2 a1).bind fun v5 =>
 (aBin .add .plain v5 (.int .i64 1)).bind fun v6 =>
 (aBin .rem .plain a0 v6).bind fun v7 =>
 (aBin .lss .plain v7 (.int .i64 0)).bind fun v8 =>
 (condV v8
 ((aBin .add .plain v7 a2).bind fun v9 =>
 (aBin .sub .plain v9 a1).bind fun v10 =>
 (aBin .add .plain v10 (.int .i64 1)).bind fun v11 =>
 some (0, [v11, a1], g3.2.2))
 (some (0, [v7, a1], g3.2.2))).bind fun x12 =>
 bif Nat.beq x12.1 0 then (aBin .add .plain (x12.2.1.getD 1 .undef) (x12.2.1.getD 0 .undef)).bind fun v13 =>
 some (0, [v13], x12.2.2) else
 none)
theorem run10 (call : Go.Fw.Call) (a0 a1 a2 : AVal) (h : Heap) : runFn call (.code A10) [a0, a1, a2] h = (S10 call a0 a1 a2 h).bind ansOf := by kernel_rfl

/-- frankpledge/recent.New -/
noncomputable def A11 : AFunc := ⟨0, (.seq (.region [.op 0 (.mov 0 (.const (.nilPtr)))] [])
 (.seq (.region [.op 0 (.build 1 [.int .i64 0, .nilSlice] []),
 .op 1 (.box 2 false (.tmp 1)),
 .op 2 (.mov 0 (.tmp 2))] [])
 .ret)),
 [.tmp 0]⟩
theorem ok11 : funcOk Try.prog (drawOk Try.prog) Try.f11 A11 = true := by kernel_rfl
noncomputable def S11 (call : Go.Fw.Call) (h : Heap) : Option J :=
 (aFill [.int .i64 0, .nilSlice] []).bind fun c1 =>
 (AVal.cells? (.agg c1)).bind fun c2 =>
 some (0, [(.ptr h.next 0)], (h.alloc c2))
theorem run11 (call : Go.Fw.Call) (h : Heap) : runFn call (.code A11) [] h = (S11 call  h).bind ansOf := by kernel_rfl

/-- (*frankpledge/recent.Row).Add -/
noncomputable def A12 : AFunc := ⟨2, (.seq (.region [.op 0 (.box 3 true (.tmp 1)),
 .op 1 (.mov 4 (.const (.int .i64 0)))] [])
 (.seq (.region [.op 0 (.mov 5 (.tmp 0)),
 .op 1 (.nilchk 6 (.tmp 5)),
 .op 2 (.faddr 7 0 (.tmp 6)),
 .op 3 (.load 8 false 1 (.tmp 7)),
 .op 4 (.bin 9 .add .plain (.tmp 8) (.const (.int .i64 1))),
 .op 5 (.nilchk 10 (.tmp 5)),
 .op 6 (.faddr 11 0 (.tmp 10)),
 .op 7 (.store false 1 (.tmp 11) (.tmp 9))] [])
 (.seq (.region [.op 0 (.mov 12 (.tmp 0)),
 .op 1 (.mov 13 (.tmp 0)),
 .op 2 (.nilchk 14 (.tmp 13)),
 .op 3 (.faddr 15 1 (.tmp 14)),
 .op 4 (.load 16 false 1 (.tmp 15)),
 .op 5 (.load 17 true 2 (.tmp 3)),
 .op 6 (.buildSl 18 [.str [], .str []] 2 1 [(0, .tmp 17)]),
 .op 7 (.append 19 2 32 [.str [], .str []] false (.tmp 16) (.tmp 18)),
 .op 8 (.nilchk 20 (.tmp 12)),
 .op 9 (.faddr 21 1 (.tmp 20)),
 .op 10 (.store false 1 (.tmp 21) (.tmp 19))] [(4, 6)])
 (.seq (.region [.op 0 (.mov 22 (.tmp 0)),
 .op 1 (.mov 23 (.tmp 0)),
 .op 2 (.nilchk 24 (.tmp 23)),
 .op 3 (.faddr 25 1 (.tmp 24)),
 .op 4 (.load 26 false 1 (.tmp 25)),
 .op 5 (.mov 27 (.tmp 0)),
 .op 6 (.nilchk 28 (.tmp 27)),
 .op 7 (.faddr 29 1 (.tmp 28)),
 .op 8 (.load 30 false 1 (.tmp 29)),
 .op 9 (.len 31 false (.tmp 30)),
 .op 10 (.bin 32 .sub .plain (.tmp 31) (.const (.int .i64 16))),
 .op 11 (.minmax 33 true [.const (.int .i64 0), .tmp 32]),
 .op 12 (.slice 34 (.sl 2) (.tmp 26) (some (.tmp 33)) none none),
 .op 13 (.call 35 19 [.tmp 34]),
 .op 14 (.nilchk 36 (.tmp 22)),
 .op 15 (.faddr 37 1 (.tmp 36)),
 .op 16 (.store false 1 (.tmp 37) (.tmp 35))] [])
 (.seq (.region [.op 0 (.mov 38 (.tmp 0)),
 .op 1 (.nilchk 39 (.tmp 38)),
 .op 2 (.faddr 40 0 (.tmp 39)),
 .op 3 (.load 41 false 1 (.tmp 40)),
 .op 4 (.mov 4 (.tmp 41))] [])
 .ret))))),
 [.tmp 4]⟩
theorem ok12 : funcOk Try.prog (drawOk Try.prog) Try.f12 A12 = true := by kernel_rfl
noncomputable def S12 (call : Go.Fw.Call) (a0 a1 : AVal) (h : Heap) : Option J :=
 (AVal.cells? a1).bind fun c1 =>
 (aNilchk a0).bind fun v2 =>
 (aFaddr 0 v2).bind fun v3 =>
 (aLoad h 1 v3).bind fun c4 =>
 (fromCells false c4).bind fun v5 =>
 (aBin .add .plain v5 (.int .i64 1)).bind fun v6 =>
 (aNilchk a0).bind fun v7 =>
 (aFaddr 0 v7).bind fun v8 =>
 (aCells 1 v6).bind fun c9 =>
 (aStore h v8 c9).bind fun h10 =>
 (aNilchk a0).bind fun v11 =>
 (aFaddr 1 v11).bind fun v12 =>
 (aLoad h10 1 v12).bind fun c13 =>
 (fromCells false c13).bind fun v14 =>
 (rdL c1 0 2).bind fun c15 =>
 (fromCells true c15).bind fun v16 =>
 (aFill (reps [.str [], .str []] 1) [(0, 2, v16)]).bind fun c17 =>
 (aAppend 2 32 [.str [], .str []] false v14 (.slice h10.next 0 1 1 2 true) (h10.alloc c17)).bind fun r18 =>
 (aNilchk a0).bind fun v19 =>
 (aFaddr 1 v19).bind fun v20 =>
 (aCells 1 r18.1).bind fun c21 =>
 (aStore r18.2 v20 c21).bind fun h22 =>
 bif checkPairs [(6, some (.al h10.next)), (4, logRd v12 1)] [(4, 6)] then (aNilchk a0).bind fun v23 =>
 (aFaddr 1 v23).bind fun v24 =>
 (aLoad h22 1 v24).bind fun c25 =>
 (fromCells false c25).bind fun v26 =>
 (aNilchk a0).bind fun v27 =>
 (aFaddr 1 v27).bind fun v28 =>
 (aLoad h22 1 v28).bind fun c29 =>
 (fromCells false c29).bind fun v30 =>
 (aLen false v30).bind fun v31 =>
 (aBin .sub .plain v31 (.int .i64 16)).bind fun v32 =>
 (aMinMaxL true [(.int .i64 0), v32]).bind fun v33 =>
 (aSliceSl 2 v26 (some v33) none none).bind fun v34 =>
 (call 19 [v34] h22).bind fun r35 =>
 (aNilchk a0).bind fun v36 =>
 (aFaddr 1 v36).bind fun v37 =>
 (aCells 1 r35.1).bind fun c38 =>
 (aStore r35.2 v37 c38).bind fun h39 =>
 (aNilchk a0).bind fun v40 =>
 (aFaddr 0 v40).bind fun v41 =>
 (aLoad h39 1 v41).bind fun c42 =>
 (fromCells false c42).bind fun v43 =>
 some (0, [v43], h39) else none
theorem run12 (call : Go.Fw.Call) (a0 a1 : AVal) (h : Heap) : runFn call (.code A12) [a0, a1] h = (S12 call a0 a1 h).bind ansOf := by kernel_rfl

/-- (*frankpledge/recent.Row).Since -/
noncomputable def A13 : AFunc := ⟨2, (.seq (.region [.op 0 (.mov 4 (.const (.nilSlice))),
 .op 1 (.mov 5 (.const (.bool false)))] [])
 (.seq (.seq (.region [.op 0 (.mov 10 (.tmp 1)),
 .op 1 (.bin 11 .lss .plain (.tmp 10) (.const (.int .i64 0))),
 .op 2 (.mov 12 (.tmp 11)),
 .guard 12 false [.op 3 (.mov 13 (.tmp 1)),
 .op 4 (.mov 14 (.tmp 0)),
 .op 5 (.nilchk 15 (.tmp 14)),
 .op 6 (.faddr 16 0 (.tmp 15)),
 .op 7 (.load 17 false 1 (.tmp 16)),
 .op 8 (.bin 18 .gtr .plain (.tmp 13) (.tmp 17))] [] [18],
 .op 9 (.pick 19 (.tmp 12) (.const (.bool true)) (.tmp 18)),
 .op 10 (.mov 20 (.tmp 19)),
 .guard 20 false [.op 11 (.mov 21 (.tmp 0)),
 .op 12 (.nilchk 22 (.tmp 21)),
 .op 13 (.faddr 23 0 (.tmp 22)),
 .op 14 (.load 24 false 1 (.tmp 23)),
 .op 15 (.mov 25 (.tmp 1)),
 .op 16 (.bin 26 .sub .plain (.tmp 24) (.tmp 25)),
 .op 17 (.bin 27 .gtr .plain (.tmp 26) (.const (.int .i64 16)))] [] [27],
 .op 18 (.pick 28 (.tmp 20) (.const (.bool true)) (.tmp 27))] [])
 (.cond (.tmp 28)
 (.seq (.region [.op 0 (.mov 4 (.const (.nilSlice))),
 .op 1 (.mov 5 (.const (.bool false)))] [])
 .ret)
 .skip))
 (.seq (.region [.op 0 (.mov 29 (.tmp 0)),
 .op 1 (.nilchk 30 (.tmp 29)),
 .op 2 (.faddr 31 1 (.tmp 30)),
 .op 3 (.load 32 false 1 (.tmp 31)),
 .op 4 (.mov 33 (.tmp 0)),
 .op 5 (.nilchk 34 (.tmp 33)),
 .op 6 (.faddr 35 1 (.tmp 34)),
 .op 7 (.load 36 false 1 (.tmp 35)),
 .op 8 (.len 37 false (.tmp 36)),
 .op 9 (.mov 38 (.tmp 0)),
 .op 10 (.nilchk 39 (.tmp 38)),
 .op 11 (.faddr 40 0 (.tmp 39)),
 .op 12 (.load 41 false 1 (.tmp 40)),
 .op 13 (.mov 42 (.tmp 1)),
 .op 14 (.bin 43 .sub .plain (.tmp 41) (.tmp 42)),
 .op 15 (.bin 44 .sub .plain (.tmp 37) (.tmp 43)),
 .op 16 (.slice 45 (.sl 2) (.tmp 32) (some (.tmp 44)) none none),
 .op 17 (.mov 6 (.tmp 45))] [])
 (.seq (.region [.op 0 (.mov 7 (.const (.nilSlice)))] [])
 (.seq (.seq (.region [.op 0 (.mov 46 (.tmp 6)),
 .op 1 (.len 47 false (.tmp 46)),
 .op 2 (.mov 48 (.const (.int .i64 0)))] [])
 (.block 0 (.loop ⟨[6, 7, 46, 47, 48], []⟩ [((.exit 0), ⟨[7], []⟩)]
 (.seq (.region [.op 0 (.bin 49 .lss .plain (.tmp 48) (.tmp 47))] [])
 (.seq (.cond (.tmp 49)
 .skip
 (.exit 0))
 (.seq (.block 1 (.seq (.region [.op 0 (.mov 50 (.tmp 48)),
 .op 1 (.iaddr 51 none 2 (.tmp 46) (.tmp 48)),
 .op 2 (.load 52 true 2 (.tmp 51)),
 .op 3 (.alloc 9 true [.str [], .str []]),
 .op 4 (.mov 8 (.tmp 50)),
 .op 5 (.store true 2 (.tmp 9) (.tmp 52))] [])
 (.seq (.region [.op 0 (.mov 53 (.tmp 6)),
 .op 1 (.mov 54 (.tmp 8)),
 .op 2 (.bin 55 .add .plain (.tmp 54) (.const (.int .i64 1))),
 .op 3 (.slice 56 (.sl 2) (.tmp 53) (some (.tmp 55)) none none),
 .op 4 (.load 57 true 2 (.tmp 9)),
 .op 5 (.call 58 20 [.tmp 56, .tmp 57]),
 .op 6 (.un 59 .not (.tmp 58))] [])
 (.join [(.normal, ⟨[6, 7, 46, 47, 48], []⟩)] (.cond (.tmp 59)
 (.region [.op 0 (.mov 60 (.tmp 7)),
 .op 1 (.load 61 true 2 (.tmp 9)),
 .op 2 (.buildSl 62 [.str [], .str []] 2 1 [(0, .tmp 61)]),
 .op 3 (.append 63 2 32 [.str [], .str []] false (.tmp 60) (.tmp 62)),
 .op 4 (.mov 7 (.tmp 63))] [])
 .skip)))))
 (.region [.op 0 (.bin 64 .add .plain (.tmp 48) (.const (.int .i64 1))),
 .op 1 (.mov 48 (.tmp 64))] [])))))))
 (.seq (.region [.op 0 (.mov 65 (.tmp 7)),
 .op 1 (.mov 4 (.tmp 65)),
 .op 2 (.mov 5 (.const (.bool true)))] [])
 .ret)))))),
 [.tmp 4, .tmp 5]⟩
theorem ok13 : funcOk Try.prog (drawOk Try.prog) Try.f13 A13 = true := by kernel_rfl
/-- xs: t6, t7, t46, t47, t48 -/
noncomputable def L13_0 (call : Go.Fw.Call) (xs : List AVal) (h : Heap) : Option J :=
 (aBin .lss .plain (xs.getD 4 .undef) (xs.getD 3 .undef)).bind fun v34 =>
 condV v34
 ((aIaddr 2 (xs.getD 2 .undef) (xs.getD 4 .undef)).bind fun v35 =>
 (aLoad h 2 v35).bind fun c36 =>
 (fromCells true c36).bind fun v37 =>
 (aCells 2 v37).bind fun c38 =>
 bif Nat.ble ((0) + 2) (List.length (α := AVal) [.str [], .str []]) then (aBin .add .plain (xs.getD 4 .undef) (.int .i64 1)).bind fun v39 =>
 (aSliceSl 2 (xs.getD 0 .undef) (some v39) none none).bind fun v40 =>
 (rdL (splice [.str [], .str []] (0) c38) 0 2).bind fun c41 =>
 (fromCells true c41).bind fun v42 =>
 (call 20 [v40, v42] h).bind fun r43 =>
 (aUn .not r43.1).bind fun v44 =>
 (condV v44
 ((rdL (splice [.str [], .str []] (0) c38) 0 2).bind fun c45 =>
 (fromCells true c45).bind fun v46 =>
 (aFill (reps [.str [], .str []] 1) [(0, 2, v46)]).bind fun c47 =>
 (aAppend 2 32 [.str [], .str []] false (xs.getD 1 .undef) (.slice r43.2.next 0 1 1 2 true) (r43.2.alloc c47)).bind fun r48 =>
 some (0, [(xs.getD 0 .undef), r48.1, (xs.getD 2 .undef), (xs.getD 3 .undef), (xs.getD 4 .undef)], r48.2))
 (some (0, [(xs.getD 0 .undef), (xs.getD 1 .undef), (xs.getD 2 .undef), (xs.getD 3 .undef), (xs.getD 4 .undef)], r43.2))).bind fun x49 =>
 bif Nat.beq x49.1 0 then (aBin .add .plain (x49.2.1.getD 4 .undef) (.int .i64 1)).bind fun v50 =>
 some (0, [(x49.2.1.getD 0 .undef), (x49.2.1.getD 1 .undef), (x49.2.1.getD 2 .undef), (x49.2.1.getD 3 .undef), v50], x49.2.2) else
 none else none)
 (some (1, [(xs.getD 1 .undef)], h))
noncomputable def S13 (call : Go.Fw.Call) (a0 a1 : AVal) (h : Heap) : Option J :=
 (aBin .lss .plain a1 (.int .i64 0)).bind fun v1 =>
 (guardV v1 false
 ((aNilchk a0).bind fun v2 =>
 (aFaddr 0 v2).bind fun v3 =>
 (aLoad h 1 v3).bind fun c4 =>
 (fromCells false c4).bind fun v5 =>
 (aBin .gtr .plain a1 v5).bind fun v6 =>
 some (0, [v6], h))
 (some (0, [skipV], h))).bind fun g7 =>
 (aPick v1 (.bool true) (g7.2.1.getD 0 .undef)).bind fun v8 =>
 (guardV v8 false
 ((aNilchk a0).bind fun v9 =>
 (aFaddr 0 v9).bind fun v10 =>
 (aLoad g7.2.2 1 v10).bind fun c11 =>
 (fromCells false c11).bind fun v12 =>
 (aBin .sub .plain v12 a1).bind fun v13 =>
 (aBin .gtr .plain v13 (.int .i64 16)).bind fun v14 =>
 some (0, [v14], g7.2.2))
 (some (0, [skipV], g7.2.2))).bind fun g15 =>
 (aPick v8 (.bool true) (g15.2.1.getD 0 .undef)).bind fun v16 =>
 condV v16
 (some (0, [.tuple [(.nilSlice), (.bool false)]], g15.2.2))
 ((aNilchk a0).bind fun v17 =>
 (aFaddr 1 v17).bind fun v18 =>
 (aLoad g15.2.2 1 v18).bind fun c19 =>
 (fromCells false c19).bind fun v20 =>
 (aNilchk a0).bind fun v21 =>
 (aFaddr 1 v21).bind fun v22 =>
 (aLoad g15.2.2 1 v22).bind fun c23 =>
 (fromCells false c23).bind fun v24 =>
 (aLen false v24).bind fun v25 =>
 (aNilchk a0).bind fun v26 =>
 (aFaddr 0 v26).bind fun v27 =>
 (aLoad g15.2.2 1 v27).bind fun c28 =>
 (fromCells false c28).bind fun v29 =>
 (aBin .sub .plain v29 a1).bind fun v30 =>
 (aBin .sub .plain v25 v30).bind fun v31 =>
 (aSliceSl 2 v20 (some v31) none none).bind fun v32 =>
 (aLen false v32).bind fun v33 =>
 (loop (L13_0 call) [v32, (.nilSlice), v32, v33, (.int .i64 0)] g15.2.2).bind fun x51 =>
 bif Nat.beq x51.1 1 then some (0, [.tuple [(x51.2.1.getD 0 .undef), (.bool true)]], x51.2.2) else
 none)
theorem run13 (call : Go.Fw.Call) (a0 a1 : AVal) (h : Heap) : runFn call (.code A13) [a0, a1] h = (S13 call a0 a1 h).bind ansOf := by kernel_rfl

/-- (*frankpledge/recent.Row).Seq -/
noncomputable def A14 : AFunc := ⟨1, (.seq (.region [.op 0 (.mov 2 (.const (.int .i64 0)))] [])
 (.seq (.region [.op 0 (.mov 3 (.tmp 0)),
 .op 1 (.nilchk 4 (.tmp 3)),
 .op 2 (.faddr 5 0 (.tmp 4)),
 .op 3 (.load 6 false 1 (.tmp 5)),
 .op 4 (.mov 2 (.tmp 6))] [])
 .ret)),
 [.tmp 2]⟩
theorem ok14 : funcOk Try.prog (drawOk Try.prog) Try.f14 A14 = true := by kernel_rfl
noncomputable def S14 (call : Go.Fw.Call) (a0 : AVal) (h : Heap) : Option J :=
 (aNilchk a0).bind fun v1 =>
 (aFaddr 0 v1).bind fun v2 =>
 (aLoad h 1 v2).bind fun c3 =>
 (fromCells false c3).bind fun v4 =>
 some (0, [v4], h)
theorem run14 (call : Go.Fw.Call) (a0 : AVal) (h : Heap) : runFn call (.code A14) [a0] h = (S14 call a0 h).bind ansOf := by kernel_rfl

/-- (*frankpledge/frankpledgeref9.Row).Add -/
noncomputable def A15 : AFunc := ⟨2, (.seq (.region [.op 0 (.box 3 true (.tmp 1)),
 .op 1 (.mov 4 (.const (.int .i64 0)))] [])
 (.seq (.regionF 2 [.op 0 (.mov 5 (.tmp 0)),
 .op 1 (.fl 6 0 (some (2, 0)) [.str [], .str []] []),
 .op 2 (.mov 7 (.tmp 0)),
 .op 3 (.nilchk 8 (.tmp 7)),
 .op 4 (.faddr 9 0 (.tmp 8)),
 .op 5 (.load 10 false 1 (.tmp 9)),
 .op 6 (.append 11 2 32 [.str [], .str []] false (.tmp 6) (.tmp 10)),
 .op 7 (.load 12 true 2 (.tmp 3)),
 .op 8 (.fl 13 1 (some (2, 1)) [.str [], .str []] [(0, .tmp 12)]),
 .op 9 (.append 14 2 32 [.str [], .str []] false (.tmp 11) (.tmp 13)),
 .op 10 (.nilchk 15 (.tmp 5)),
 .op 11 (.faddr 16 0 (.tmp 15)),
 .op 12 (.store false 1 (.tmp 16) (.tmp 14))] [(7, 6)])
 (.seq (.region [.op 0 (.mov 17 (.tmp 0)),
 .op 1 (.nilchk 18 (.tmp 17)),
 .op 2 (.faddr 19 0 (.tmp 18)),
 .op 3 (.load 20 false 1 (.tmp 19)),
 .op 4 (.len 21 false (.tmp 20)),
 .op 5 (.mov 4 (.tmp 21))] [])
 .ret))),
 [.tmp 4]⟩
theorem ok15 : funcOk Try.prog (drawOk Try.prog) Try.f15 A15 = true := by kernel_rfl
noncomputable def S15 (call : Go.Fw.Call) (a0 a1 : AVal) (h : Heap) : Option J :=
 (AVal.cells? a1).bind fun c1 =>
 (aFill (reps [.str [], .str []] 0) []).bind fun c2 =>
 (aNilchk a0).bind fun v3 =>
 (aFaddr 0 v3).bind fun v4 =>
 (aLoad ((h.res 2).setBlk (h.next + 0) (some ⟨c2, true⟩)) 1 v4).bind fun c5 =>
 (fromCells false c5).bind fun v6 =>
 (aAppend 2 32 [.str [], .str []] false (.slice (h.next + 0) 0 0 0 2 true) v6 ((h.res 2).setBlk (h.next + 0) (some ⟨c2, true⟩))).bind fun r7 =>
 (rdL c1 0 2).bind fun c8 =>
 (fromCells true c8).bind fun v9 =>
 (aFill (reps [.str [], .str []] 1) [(0, 2, v9)]).bind fun c10 =>
 (aAppend 2 32 [.str [], .str []] false r7.1 (.slice (h.next + 1) 0 1 1 2 true) (r7.2.setBlk (h.next + 1) (some ⟨c10, true⟩))).bind fun r11 =>
 (aNilchk a0).bind fun v12 =>
 (aFaddr 0 v12).bind fun v13 =>
 (aCells 1 r11.1).bind fun c14 =>
 (aStore r11.2 v13 c14).bind fun h15 =>
 bif checkPairs [(7, some (.lrd 3 (0) 2)), (6, some (.ef [(3, c1)] ((h.res 2).setBlk (h.next + 0) (some ⟨c2, true⟩)) [(3, c1)] r7.2))] [(7, 6)] then (aNilchk a0).bind fun v16 =>
 (aFaddr 0 v16).bind fun v17 =>
 (aLoad h15 1 v17).bind fun c18 =>
 (fromCells false c18).bind fun v19 =>
 (aLen false v19).bind fun v20 =>
 some (0, [v20], h15) else none
theorem run15 (call : Go.Fw.Call) (a0 a1 : AVal) (h : Heap) : runFn call (.code A15) [a0, a1] h = (S15 call a0 a1 h).bind ansOf := by kernel_rfl

/-- (*frankpledge/frankpledgeref9.Row).Since -/
noncomputable def A16 : AFunc := ⟨2, (.seq (.region [.op 0 (.mov 4 (.const (.nilSlice))),
 .op 1 (.mov 5 (.const (.bool false)))] [])
 (.seq (.region [.op 0 (.mov 11 (.tmp 0)),
 .op 1 (.nilchk 12 (.tmp 11)),
 .op 2 (.faddr 13 0 (.tmp 12)),
 .op 3 (.load 14 false 1 (.tmp 13)),
 .op 4 (.len 15 false (.tmp 14)),
 .op 5 (.mov 6 (.tmp 15))] [])
 (.seq (.seq (.region [.op 0 (.mov 16 (.tmp 1)),
 .op 1 (.bin 17 .lss .plain (.tmp 16) (.const (.int .i64 0))),
 .op 2 (.mov 18 (.tmp 17)),
 .guard 18 false [.op 3 (.mov 19 (.tmp 1)),
 .op 4 (.mov 20 (.tmp 6)),
 .op 5 (.bin 21 .gtr .plain (.tmp 19) (.tmp 20))] [] [21],
 .op 6 (.pick 22 (.tmp 18) (.const (.bool true)) (.tmp 21)),
 .op 7 (.mov 23 (.tmp 22)),
 .guard 23 false [.op 8 (.mov 24 (.tmp 1)),
 .op 9 (.mov 25 (.tmp 6)),
 .op 10 (.bin 26 .sub .plain (.tmp 25) (.const (.int .i64 16))),
 .op 11 (.bin 27 .lss .plain (.tmp 24) (.tmp 26))] [] [27],
 .op 12 (.pick 28 (.tmp 23) (.const (.bool true)) (.tmp 27))] [])
 (.cond (.tmp 28)
 (.seq (.region [.op 0 (.mov 4 (.const (.nilSlice))),
 .op 1 (.mov 5 (.const (.bool false)))] [])
 .ret)
 .skip))
 (.seq (.region [.op 0 (.mov 7 (.const (.nilSlice)))] [])
 (.seq (.seq (.region [.op 0 (.mov 29 (.tmp 1)),
 .op 1 (.mov 8 (.tmp 29))] [])
 (.block 0 (.loop ⟨[0, 6, 7, 8], []⟩ [((.exit 0), ⟨[7], []⟩)]
 (.seq (.seq (.region [.op 0 (.mov 30 (.tmp 8)),
 .op 1 (.mov 31 (.tmp 6)),
 .op 2 (.bin 32 .lss .plain (.tmp 30) (.tmp 31))] [])
 (.cond (.tmp 32)
 .skip
 (.exit 0)))
 (.seq (.block 1 (.seq (.region [.op 0 (.mov 9 (.const (.bool true)))] [])
 (.seq (.seq (.region [.op 0 (.mov 35 (.tmp 8)),
 .op 1 (.bin 36 .add .plain (.tmp 35) (.const (.int .i64 1))),
 .op 2 (.mov 10 (.tmp 36))] [])
 (.block 2 (.loop ⟨[0, 6, 7, 8, 9, 10], []⟩ [((.exit 2), ⟨[0, 6, 7, 8, 9], []⟩)]
 (.seq (.seq (.region [.op 0 (.mov 37 (.tmp 10)),
 .op 1 (.mov 38 (.tmp 6)),
 .op 2 (.bin 39 .lss .plain (.tmp 37) (.tmp 38))] [])
 (.cond (.tmp 39)
 .skip
 (.exit 2)))
 (.seq (.block 3 (.region [.op 0 (.mov 42 (.tmp 9)),
 .op 1 (.mov 43 (.tmp 42)),
 .guard 43 true [.op 2 (.mov 44 (.tmp 0)),
 .op 3 (.nilchk 45 (.tmp 44)),
 .op 4 (.faddr 46 0 (.tmp 45)),
 .op 5 (.load 47 false 1 (.tmp 46)),
 .op 6 (.mov 48 (.tmp 10)),
 .op 7 (.iaddr 49 none 2 (.tmp 47) (.tmp 48)),
 .op 8 (.load 50 true 2 (.tmp 49)),
 .op 9 (.mov 51 (.tmp 0)),
 .op 10 (.nilchk 52 (.tmp 51)),
 .op 11 (.faddr 53 0 (.tmp 52)),
 .op 12 (.load 54 false 1 (.tmp 53)),
 .op 13 (.mov 55 (.tmp 8)),
 .op 14 (.iaddr 56 none 2 (.tmp 54) (.tmp 55)),
 .op 15 (.load 57 true 2 (.tmp 56)),
 .op 16 (.bin 58 .neq (.cells [2, 2]) (.tmp 50) (.tmp 57))] [] [58],
 .op 17 (.pick 59 (.tmp 43) (.tmp 58) (.const (.bool false))),
 .op 18 (.mov 9 (.tmp 59))] []))
 (.region [.op 0 (.mov 40 (.tmp 10)),
 .op 1 (.bin 41 .add .plain (.tmp 40) (.const (.int .i64 1))),
 .op 2 (.mov 10 (.tmp 41))] []))))))
 (.seq (.region [.op 0 (.mov 60 (.tmp 9))] [])
 (.join [(.normal, ⟨[0, 6, 7, 8], []⟩)] (.cond (.tmp 60)
 (.region [.op 0 (.mov 61 (.tmp 7)),
 .op 1 (.mov 62 (.tmp 0)),
 .op 2 (.nilchk 63 (.tmp 62)),
 .op 3 (.faddr 64 0 (.tmp 63)),
 .op 4 (.load 65 false 1 (.tmp 64)),
 .op 5 (.mov 66 (.tmp 8)),
 .op 6 (.iaddr 67 none 2 (.tmp 65) (.tmp 66)),
 .op 7 (.load 68 true 2 (.tmp 67)),
 .op 8 (.buildSl 69 [.str [], .str []] 2 1 [(0, .tmp 68)]),
 .op 9 (.append 70 2 32 [.str [], .str []] false (.tmp 61) (.tmp 69)),
 .op 10 (.mov 7 (.tmp 70))] [])
 .skip))))))
 (.region [.op 0 (.mov 33 (.tmp 8)),
 .op 1 (.bin 34 .add .plain (.tmp 33) (.const (.int .i64 1))),
 .op 2 (.mov 8 (.tmp 34))] []))))))
 (.seq (.region [.op 0 (.mov 71 (.tmp 7)),
 .op 1 (.mov 4 (.tmp 71)),
 .op 2 (.mov 5 (.const (.bool true)))] [])
 .ret)))))),
 [.tmp 4, .tmp 5]⟩
theorem ok16 : funcOk Try.prog (drawOk Try.prog) Try.f16 A16 = true := by kernel_rfl
/-- xs: t0, t6, t7, t8, t9, t10 -/
noncomputable def L16_1 (call : Go.Fw.Call) (xs : List AVal) (h : Heap) : Option J :=
 (aBin .lss .plain (xs.getD 5 .undef) (xs.getD 1 .undef)).bind fun v16 =>
 condV v16
 ((guardV (xs.getD 4 .undef) true
 ((aNilchk (xs.getD 0 .undef)).bind fun v17 =>
 (aFaddr 0 v17).bind fun v18 =>
 (aLoad h 1 v18).bind fun c19 =>
 (fromCells false c19).bind fun v20 =>
 (aIaddr 2 v20 (xs.getD 5 .undef)).bind fun v21 =>
 (aLoad h 2 v21).bind fun c22 =>
 (fromCells true c22).bind fun v23 =>
 (aNilchk (xs.getD 0 .undef)).bind fun v24 =>
 (aFaddr 0 v24).bind fun v25 =>
 (aLoad h 1 v25).bind fun c26 =>
 (fromCells false c26).bind fun v27 =>
 (aIaddr 2 v27 (xs.getD 3 .undef)).bind fun v28 =>
 (aLoad h 2 v28).bind fun c29 =>
 (fromCells true c29).bind fun v30 =>
 (aBin .neq (.cells [2, 2]) v23 v30).bind fun v31 =>
 some (0, [v31], h))
 (some (0, [skipV], h))).bind fun g32 =>
 (aPick (xs.getD 4 .undef) (g32.2.1.getD 0 .undef) (.bool false)).bind fun v33 =>
 (aBin .add .plain (xs.getD 5 .undef) (.int .i64 1)).bind fun v34 =>
 some (0, [(xs.getD 0 .undef), (xs.getD 1 .undef), (xs.getD 2 .undef), (xs.getD 3 .undef), v33, v34], g32.2.2))
 (some (1, [(xs.getD 0 .undef), (xs.getD 1 .undef), (xs.getD 2 .undef), (xs.getD 3 .undef), (xs.getD 4 .undef)], h))
/-- xs: t0, t6, t7, t8 -/
noncomputable def L16_0 (call : Go.Fw.Call) (xs : List AVal) (h : Heap) : Option J :=
 (aBin .lss .plain (xs.getD 3 .undef) (xs.getD 1 .undef)).bind fun v14 =>
 condV v14
 ((aBin .add .plain (xs.getD 3 .undef) (.int .i64 1)).bind fun v15 =>
 (loop (L16_1 call) [(xs.getD 0 .undef), (xs.getD 1 .undef), (xs.getD 2 .undef), (xs.getD 3 .undef), (.bool true), v15] h).bind fun x35 =>
 bif Nat.beq x35.1 1 then (condV (x35.2.1.getD 4 .undef)
 ((aNilchk (x35.2.1.getD 0 .undef)).bind fun v36 =>
 (aFaddr 0 v36).bind fun v37 =>
 (aLoad x35.2.2 1 v37).bind fun c38 =>
 (fromCells false c38).bind fun v39 =>
 (aIaddr 2 v39 (x35.2.1.getD 3 .undef)).bind fun v40 =>
 (aLoad x35.2.2 2 v40).bind fun c41 =>
 (fromCells true c41).bind fun v42 =>
 (aFill (reps [.str [], .str []] 1) [(0, 2, v42)]).bind fun c43 =>
 (aAppend 2 32 [.str [], .str []] false (x35.2.1.getD 2 .undef) (.slice x35.2.2.next 0 1 1 2 true) (x35.2.2.alloc c43)).bind fun r44 =>
 some (0, [(x35.2.1.getD 0 .undef), (x35.2.1.getD 1 .undef), r44.1, (x35.2.1.getD 3 .undef)], r44.2))
 (some (0, [(x35.2.1.getD 0 .undef), (x35.2.1.getD 1 .undef), (x35.2.1.getD 2 .undef), (x35.2.1.getD 3 .undef)], x35.2.2))).bind fun x45 =>
 bif Nat.beq x45.1 0 then (aBin .add .plain (x45.2.1.getD 3 .undef) (.int .i64 1)).bind fun v46 =>
 some (0, [(x45.2.1.getD 0 .undef), (x45.2.1.getD 1 .undef), (x45.2.1.getD 2 .undef), v46], x45.2.2) else
 none else
 none)
 (some (1, [(xs.getD 2 .undef)], h))
noncomputable def S16 (call : Go.Fw.Call) (a0 a1 : AVal) (h : Heap) : Option J :=
 (aNilchk a0).bind fun v1 =>
 (aFaddr 0 v1).bind fun v2 =>
 (aLoad h 1 v2).bind fun c3 =>
 (fromCells false c3).bind fun v4 =>
 (aLen false v4).bind fun v5 =>
 (aBin .lss .plain a1 (.int .i64 0)).bind fun v6 =>
 (guardV v6 false
 ((aBin .gtr .plain a1 v5).bind fun v7 =>
 some (0, [v7], h))
 (some (0, [skipV], h))).bind fun g8 =>
 (aPick v6 (.bool true) (g8.2.1.getD 0 .undef)).bind fun v9 =>
 (guardV v9 false
 ((aBin .sub .plain v5 (.int .i64 16)).bind fun v10 =>
 (aBin .lss .plain a1 v10).bind fun v11 =>
 some (0, [v11], g8.2.2))
 (some (0, [skipV], g8.2.2))).bind fun g12 =>
 (aPick v9 (.bool true) (g12.2.1.getD 0 .undef)).bind fun v13 =>
 condV v13
 (some (0, [.tuple [(.nilSlice), (.bool false)]], g12.2.2))
 ((loop (L16_0 call) [a0, v5, (.nilSlice), a1] g12.2.2).bind fun x47 =>
 bif Nat.beq x47.1 1 then some (0, [.tuple [(x47.2.1.getD 0 .undef), (.bool true)]], x47.2.2) else
 none)
theorem run16 (call : Go.Fw.Call) (a0 a1 : AVal) (h : Heap) : runFn call (.code A16) [a0, a1] h = (S16 call a0 a1 h).bind ansOf := by kernel_rfl

/-- frankpledge/frankpledgeref5.Keys -/
noncomputable def A17 : AFunc := ⟨2, (.seq (.region [.op 0 (.mov 4 (.const (.bool false)))] [])
 (.seq (.seq (.region [.op 0 (.mov 6 (.tmp 0)),
 .op 1 (.len 7 false (.tmp 6)),
 .op 2 (.mov 8 (.tmp 1)),
 .op 3 (.len 9 false (.tmp 8)),
 .op 4 (.bin 10 .neq .plain (.tmp 7) (.tmp 9))] [])
 (.cond (.tmp 10)
 (.seq (.region [.op 0 (.mov 4 (.const (.bool false)))] [])
 .ret)
 .skip))
 (.seq (.seq (.region [.op 0 (.mov 11 (.tmp 0)),
 .op 1 (.len 12 false (.tmp 11)),
 .op 2 (.mov 13 (.const (.int .i64 0)))] [])
 (.block 0 (.loop ⟨[0, 1, 12, 13], []⟩ [((.exit 0), ⟨[], []⟩), (.ret, ⟨[4], []⟩)]
 (.seq (.region [.op 0 (.bin 14 .lss .plain (.tmp 13) (.tmp 12))] [])
 (.seq (.cond (.tmp 14)
 .skip
 (.exit 0))
 (.seq (.block 1 (.seq (.region [.op 0 (.mov 15 (.tmp 13)),
 .op 1 (.mov 5 (.tmp 15))] [])
 (.seq (.region [.op 0 (.mov 16 (.tmp 0)),
 .op 1 (.mov 17 (.tmp 5)),
 .op 2 (.iaddr 18 none 2 (.tmp 16) (.tmp 17)),
 .op 3 (.load 19 true 2 (.tmp 18)),
 .op 4 (.mov 20 (.tmp 1)),
 .op 5 (.mov 21 (.tmp 5)),
 .op 6 (.iaddr 22 none 2 (.tmp 20) (.tmp 21)),
 .op 7 (.load 23 true 2 (.tmp 22)),
 .op 8 (.bin 24 .neq (.cells [2, 2]) (.tmp 19) (.tmp 23))] [])
 (.cond (.tmp 24)
 (.seq (.region [.op 0 (.mov 4 (.const (.bool false)))] [])
 .ret)
 .skip))))
 (.region [.op 0 (.bin 25 .add .plain (.tmp 13) (.const (.int .i64 1))),
 .op 1 (.mov 13 (.tmp 25))] [])))))))
 (.seq (.region [.op 0 (.mov 4 (.const (.bool true)))] [])
 .ret)))),
 [.tmp 4]⟩
theorem ok17 : funcOk Try.prog (drawOk Try.prog) Try.f17 A17 = true := by kernel_rfl
/-- xs: t0, t1, t12, t13 -/
noncomputable def L17_0 (call : Go.Fw.Call) (xs : List AVal) (h : Heap) : Option J :=
 (aBin .lss .plain (xs.getD 3 .undef) (xs.getD 2 .undef)).bind fun v5 =>
 condV v5
 ((aIaddr 2 (xs.getD 0 .undef) (xs.getD 3 .undef)).bind fun v6 =>
 (aLoad h 2 v6).bind fun c7 =>
 (fromCells true c7).bind fun v8 =>
 (aIaddr 2 (xs.getD 1 .undef) (xs.getD 3 .undef)).bind fun v9 =>
 (aLoad h 2 v9).bind fun c10 =>
 (fromCells true c10).bind fun v11 =>
 (aBin .neq (.cells [2, 2]) v8 v11).bind fun v12 =>
 condV v12
 (some (2, [(.bool false)], h))
 ((aBin .add .plain (xs.getD 3 .undef) (.int .i64 1)).bind fun v13 =>
 some (0, [(xs.getD 0 .undef), (xs.getD 1 .undef), (xs.getD 2 .undef), v13], h)))
 (some (1, [], h))
noncomputable def S17 (call : Go.Fw.Call) (a0 a1 : AVal) (h : Heap) : Option J :=
 (aLen false a0).bind fun v1 =>
 (aLen false a1).bind fun v2 =>
 (aBin .neq .plain v1 v2).bind fun v3 =>
 condV v3
 (some (0, [(.bool false)], h))
 ((aLen false a0).bind fun v4 =>
 (loop (L17_0 call) [a0, a1, v4, (.int .i64 0)] h).bind fun x14 =>
 bif Nat.beq x14.1 1 then some (0, [(.bool true)], x14.2.2) else
 bif Nat.beq x14.1 2 then some (0, [(x14.2.1.getD 0 .undef)], x14.2.2) else
 none)
theorem run17 (call : Go.Fw.Call) (a0 a1 : AVal) (h : Heap) : runFn call (.code A17) [a0, a1] h = (S17 call a0 a1 h).bind ansOf := by kernel_rfl

/-- (*frankpledge/frankpledgekeep.Tape).Key -/
noncomputable def A18 : AFunc := ⟨1, (.seq (.region [.op 0 (.alloc 2 true [.str [], .str []])] [])
 (.seq (.regionF 2 [.op 0 (.fl 3 0 (some (1, 4)) [.str []] [(0, .const (.str [97, 112, 112])), (1, .const (.str [98])), (2, .const (.str [97, 112, 112, 49])), (3, .const (.str [122, 57]))]),
 .op 1 (.mov 4 (.tmp 0)),
 .op 2 (.call 5 21 [.tmp 4, .const (.int .i64 4)]),
 .op 3 (.iaddr 6 none 1 (.tmp 3) (.tmp 5)),
 .op 4 (.load 7 false 1 (.tmp 6)),
 .op 5 (.fl 8 1 (some (1, 5)) [.str []] [(0, .const (.str [105, 100])), (1, .const (.str [97])), (2, .const (.str [105, 100, 50])), (3, .const (.str [120, 48])), (4, .const (.str [109]))]),
 .op 6 (.mov 9 (.tmp 0)),
 .op 7 (.call 10 21 [.tmp 9, .const (.int .i64 5)]),
 .op 8 (.iaddr 11 none 1 (.tmp 8) (.tmp 10)),
 .op 9 (.load 12 false 1 (.tmp 11)),
 .op 10 (.build 13 [.str [], .str []] [(0, 1, .tmp 7), (1, 1, .tmp 12)]),
 .op 11 (.store true 2 (.tmp 2) (.tmp 13))] [(4, 7)])
 .ret)),
 [.cell 2 true 2]⟩
theorem ok18 : funcOk Try.prog (drawOk Try.prog) Try.f18 A18 = true := by kernel_rfl
noncomputable def S18 (call : Go.Fw.Call) (a0 : AVal) (h : Heap) : Option J :=
 (aFill (reps [.str []] 4) [(0, 1, (.str [97, 112, 112])), (1, 1, (.str [98])), (2, 1, (.str [97, 112, 112, 49])), (3, 1, (.str [122, 57]))]).bind fun c1 =>
 (call 21 [a0, (.int .i64 4)] ((h.res 2).setBlk (h.next + 0) (some ⟨c1, true⟩))).bind fun r2 =>
 (aIaddr 1 (.slice (h.next + 0) 0 4 4 1 true) r2.1).bind fun v3 =>
 (aLoad r2.2 1 v3).bind fun c4 =>
 (fromCells false c4).bind fun v5 =>
 (aFill (reps [.str []] 5) [(0, 1, (.str [105, 100])), (1, 1, (.str [97])), (2, 1, (.str [105, 100, 50])), (3, 1, (.str [120, 48])), (4, 1, (.str [109]))]).bind fun c6 =>
 (call 21 [a0, (.int .i64 5)] (r2.2.setBlk (h.next + 1) (some ⟨c6, true⟩))).bind fun r7 =>
 (aIaddr 1 (.slice (h.next + 1) 0 5 5 1 true) r7.1).bind fun v8 =>
 (aLoad r7.2 1 v8).bind fun c9 =>
 (fromCells false c9).bind fun v10 =>
 (aFill [.str [], .str []] [(0, 1, v5), (1, 1, v10)]).bind fun c11 =>
 (aCells 2 (.agg c11)).bind fun c12 =>
 bif Nat.ble ((0) + 2) (List.length (α := AVal) [.str [], .str []]) then bif checkPairs [(7, some (.ef [(2, [.str [], .str []])] (r2.2.setBlk (h.next + 1) (some ⟨c6, true⟩)) [(2, [.str [], .str []])] r7.2)), (4, logRd v3 1)] [(4, 7)] then (((rdL (splice [.str [], .str []] (0) c12) (0) 2).bind fun cs => fromCells true cs).bind fun v => (some []).bind fun vs => some (v :: vs)).bind fun vs => some (0, [oneOr vs], r7.2) else none else none
theorem run18 (call : Go.Fw.Call) (a0 : AVal) (h : Heap) : runFn call (.code A18) [a0] h = (S18 call a0 h).bind ansOf := by kernel_rfl

/-- slices.Clone[[]frankpledge/api.Key,frankpledge/api.Key] -/
noncomputable def A19 : AFunc := ⟨1, (.seq (.region [.op 0 (.mov 2 (.const (.nilSlice)))] [])
 (.seq (.seq (.region [.op 0 (.mov 3 (.tmp 0)),
 .op 1 (.bin 4 .eql .slice (.tmp 3) (.const (.nilSlice)))] [])
 (.cond (.tmp 4)
 (.seq (.region [.op 0 (.mov 2 (.const (.nilSlice)))] [])
 .ret)
 .skip))
 (.seq (.region [.op 0 (.buildSl 5 [.str [], .str []] 2 0 []),
 .op 1 (.mov 6 (.tmp 0)),
 .op 2 (.append 7 2 32 [.str [], .str []] false (.tmp 5) (.tmp 6)),
 .op 3 (.mov 2 (.tmp 7))] [])
 .ret))),
 [.tmp 2]⟩
theorem ok19 : funcOk Try.prog (drawOk Try.prog) Try.f19 A19 = true := by kernel_rfl
noncomputable def S19 (call : Go.Fw.Call) (a0 : AVal) (h : Heap) : Option J :=
 (aBin .eql .slice a0 (.nilSlice)).bind fun v1 =>
 condV v1
 (some (0, [(.nilSlice)], h))
 ((aFill (reps [.str [], .str []] 0) []).bind fun c2 =>
 (aAppend 2 32 [.str [], .str []] false (.slice h.next 0 0 0 2 true) a0 (h.alloc c2)).bind fun r3 =>
 some (0, [r3.1], r3.2))
theorem run19 (call : Go.Fw.Call) (a0 : AVal) (h : Heap) : runFn call (.code A19) [a0] h = (S19 call a0 h).bind ansOf := by kernel_rfl

/-- slices.Contains[[]frankpledge/api.Key,frankpledge/api.Key] -/
noncomputable def A20 : AFunc := ⟨2, (.seq (.region [.op 0 (.box 3 true (.tmp 1)),
 .op 1 (.mov 4 (.const (.bool false)))] [])
 (.seq (.region [.op 0 (.mov 5 (.tmp 0)),
 .op 1 (.load 6 true 2 (.tmp 3)),
 .op 2 (.call 7 22 [.tmp 5, .tmp 6]),
 .op 3 (.bin 8 .geq .plain (.tmp 7) (.const (.int .i64 0))),
 .op 4 (.mov 4 (.tmp 8))] [])
 .ret)),
 [.tmp 4]⟩
theorem ok20 : funcOk Try.prog (drawOk Try.prog) Try.f20 A20 = true := by kernel_rfl
noncomputable def S20 (call : Go.Fw.Call) (a0 a1 : AVal) (h : Heap) : Option J :=
 (AVal.cells? a1).bind fun c1 =>
 (rdL c1 0 2).bind fun c2 =>
 (fromCells true c2).bind fun v3 =>
 (call 22 [a0, v3] h).bind fun r4 =>
 (aBin .geq .plain r4.1 (.int .i64 0)).bind fun v5 =>
 some (0, [v5], r4.2)
theorem run20 (call : Go.Fw.Call) (a0 a1 : AVal) (h : Heap) : runFn call (.code A20) [a0, a1] h = (S20 call a0 a1 h).bind ansOf := by kernel_rfl

/-- (*frankpledge/frankpledgekeep.Tape).Next -/
noncomputable def A21 : AFunc := ⟨2, (.seq (.region [.op 0 (.mov 4 (.const (.int .i64 0)))] [])
 (.seq (.seq (.region [.op 0 (.mov 5 (.tmp 0)),
 .op 1 (.nilchk 6 (.tmp 5)),
 .op 2 (.faddr 7 1 (.tmp 6)),
 .op 3 (.load 8 false 1 (.tmp 7)),
 .op 4 (.mov 9 (.tmp 0)),
 .op 5 (.nilchk 10 (.tmp 9)),
 .op 6 (.faddr 11 0 (.tmp 10)),
 .op 7 (.load 12 false 1 (.tmp 11)),
 .op 8 (.len 13 false (.tmp 12)),
 .op 9 (.bin 14 .geq .plain (.tmp 8) (.tmp 13)),
 .op 10 (.mov 15 (.tmp 14)),
 .guard 15 false [.op 11 (.mov 16 (.tmp 1)),
 .op 12 (.bin 17 .lss .plain (.tmp 16) (.const (.int .i64 1)))] [] [17],
 .op 13 (.pick 18 (.tmp 15) (.const (.bool true)) (.tmp 17))] [])
 (.cond (.tmp 18)
 (.seq (.region [.op 0 (.mov 4 (.const (.int .i64 0)))] [])
 .ret)
 .skip))
 (.seq (.region [.op 0 (.mov 19 (.tmp 0)),
 .op 1 (.nilchk 20 (.tmp 19)),
 .op 2 (.faddr 21 1 (.tmp 20)),
 .op 3 (.load 22 false 1 (.tmp 21)),
 .op 4 (.bin 23 .add .plain (.tmp 22) (.const (.int .i64 1))),
 .op 5 (.nilchk 24 (.tmp 19)),
 .op 6 (.faddr 25 1 (.tmp 24)),
 .op 7 (.store false 1 (.tmp 25) (.tmp 23))] [])
 (.seq (.region [.op 0 (.mov 26 (.tmp 0)),
 .op 1 (.nilchk 27 (.tmp 26)),
 .op 2 (.faddr 28 0 (.tmp 27)),
 .op 3 (.load 29 false 1 (.tmp 28)),
 .op 4 (.mov 30 (.tmp 0)),
 .op 5 (.nilchk 31 (.tmp 30)),
 .op 6 (.faddr 32 1 (.tmp 31)),
 .op 7 (.load 33 false 1 (.tmp 32)),
 .op 8 (.bin 34 .sub .plain (.tmp 33) (.const (.int .i64 1))),
 .op 9 (.iaddr 35 none 1 (.tmp 29) (.tmp 34)),
 .op 10 (.load 36 false 1 (.tmp 35)),
 .op 11 (.call 37 10 [.tmp 36, .const (.int .i64 0), .const (.int .i64 1073741824)]),
 .op 12 (.mov 38 (.tmp 1)),
 .op 13 (.bin 39 .rem .plain (.tmp 37) (.tmp 38)),
 .op 14 (.mov 4 (.tmp 39))] [])
 .ret)))),
 [.tmp 4]⟩
theorem ok21 : funcOk Try.prog (drawOk Try.prog) Try.f21 A21 = true := by kernel_rfl
noncomputable def S21 (call : Go.Fw.Call) (a0 a1 : AVal) (h : Heap) : Option J :=
 (aNilchk a0).bind fun v1 =>
 (aFaddr 1 v1).bind fun v2 =>
 (aLoad h 1 v2).bind fun c3 =>
 (fromCells false c3).bind fun v4 =>
 (aNilchk a0).bind fun v5 =>
 (aFaddr 0 v5).bind fun v6 =>
 (aLoad h 1 v6).bind fun c7 =>
 (fromCells false c7).bind fun v8 =>
 (aLen false v8).bind fun v9 =>
 (aBin .geq .plain v4 v9).bind fun v10 =>
 (guardV v10 false
 ((aBin .lss .plain a1 (.int .i64 1)).bind fun v11 =>
 some (0, [v11], h))
 (some (0, [skipV], h))).bind fun g12 =>
 (aPick v10 (.bool true) (g12.2.1.getD 0 .undef)).bind fun v13 =>
 condV v13
 (some (0, [(.int .i64 0)], g12.2.2))
 ((aNilchk a0).bind fun v14 =>
 (aFaddr 1 v14).bind fun v15 =>
 (aLoad g12.2.2 1 v15).bind fun c16 =>
 (fromCells false c16).bind fun v17 =>
 (aBin .add .plain v17 (.int .i64 1)).bind fun v18 =>
 (aNilchk a0).bind fun v19 =>
 (aFaddr 1 v19).bind fun v20 =>
 (aCells 1 v18).bind fun c21 =>
 (aStore g12.2.2 v20 c21).bind fun h22 =>
 (aNilchk a0).bind fun v23 =>
 (aFaddr 0 v23).bind fun v24 =>
 (aLoad h22 1 v24).bind fun c25 =>
 (fromCells false c25).bind fun v26 =>
 (aNilchk a0).bind fun v27 =>
 (aFaddr 1 v27).bind fun v28 =>
 (aLoad h22 1 v28).bind fun c29 =>
 (fromCells false c29).bind fun v30 =>
 (aBin .sub .plain v30 (.int .i64 1)).bind fun v31 =>
 (aIaddr 1 v26 v31).bind fun v32 =>
 (aLoad h22 1 v32).bind fun c33 =>
 (fromCells false c33).bind fun v34 =>
 (call 10 [v34, (.int .i64 0), (.int .i64 1073741824)] h22).bind fun r35 =>
 (aBin .rem .plain r35.1 a1).bind fun v36 =>
 some (0, [v36], r35.2))
theorem run21 (call : Go.Fw.Call) (a0 a1 : AVal) (h : Heap) : runFn call (.code A21) [a0, a1] h = (S21 call a0 a1 h).bind ansOf := by kernel_rfl

/-- slices.Index[[]frankpledge/api.Key,frankpledge/api.Key] -/
noncomputable def A22 : AFunc := ⟨2, (.seq (.region [.op 0 (.box 3 true (.tmp 1)),
 .op 1 (.mov 4 (.const (.int .i64 0)))] [])
 (.seq (.seq (.region [.op 0 (.mov 6 (.tmp 0)),
 .op 1 (.len 7 false (.tmp 6)),
 .op 2 (.mov 8 (.const (.int .i64 0)))] [])
 (.block 0 (.loop ⟨[0, 7, 8], [3]⟩ [((.exit 0), ⟨[], []⟩), (.ret, ⟨[4], []⟩)]
 (.seq (.region [.op 0 (.bin 9 .lss .plain (.tmp 8) (.tmp 7))] [])
 (.seq (.cond (.tmp 9)
 .skip
 (.exit 0))
 (.seq (.block 1 (.seq (.region [.op 0 (.mov 10 (.tmp 8)),
 .op 1 (.mov 5 (.tmp 10))] [])
 (.seq (.region [.op 0 (.load 11 true 2 (.tmp 3)),
 .op 1 (.mov 12 (.tmp 0)),
 .op 2 (.mov 13 (.tmp 5)),
 .op 3 (.iaddr 14 none 2 (.tmp 12) (.tmp 13)),
 .op 4 (.load 15 true 2 (.tmp 14)),
 .op 5 (.bin 16 .eql (.cells [2, 2]) (.tmp 11) (.tmp 15))] [])
 (.cond (.tmp 16)
 (.seq (.region [.op 0 (.mov 17 (.tmp 5)),
 .op 1 (.mov 4 (.tmp 17))] [])
 .ret)
 .skip))))
 (.region [.op 0 (.bin 18 .add .plain (.tmp 8) (.const (.int .i64 1))),
 .op 1 (.mov 8 (.tmp 18))] [])))))))
 (.seq (.region [.op 0 (.mov 4 (.const (.int .i64 (-1))))] [])
 .ret))),
 [.tmp 4]⟩
theorem ok22 : funcOk Try.prog (drawOk Try.prog) Try.f22 A22 = true := by kernel_rfl
/-- xs: t0, t7, t8, cells of 3 -/
noncomputable def L22_0 (call : Go.Fw.Call) (xs : List AVal) (h : Heap) : Option J :=
 (aBin .lss .plain (xs.getD 2 .undef) (xs.getD 1 .undef)).bind fun v3 =>
 condV v3
 ((rdL (AVal.aggCells (xs.getD 3 .undef)) 0 2).bind fun c4 =>
 (fromCells true c4).bind fun v5 =>
 (aIaddr 2 (xs.getD 0 .undef) (xs.getD 2 .undef)).bind fun v6 =>
 (aLoad h 2 v6).bind fun c7 =>
 (fromCells true c7).bind fun v8 =>
 (aBin .eql (.cells [2, 2]) v5 v8).bind fun v9 =>
 condV v9
 (some (2, [(xs.getD 2 .undef)], h))
 ((aBin .add .plain (xs.getD 2 .undef) (.int .i64 1)).bind fun v10 =>
 some (0, [(xs.getD 0 .undef), (xs.getD 1 .undef), v10, (.agg (AVal.aggCells (xs.getD 3 .undef)))], h)))
 (some (1, [], h))
noncomputable def S22 (call : Go.Fw.Call) (a0 a1 : AVal) (h : Heap) : Option J :=
 (AVal.cells? a1).bind fun c1 =>
 (aLen false a0).bind fun v2 =>
 (loop (L22_0 call) [a0, v2, (.int .i64 0), (.agg c1)] h).bind fun x11 =>
 bif Nat.beq x11.1 1 then some (0, [(.int .i64 (-1))], x11.2.2) else
 bif Nat.beq x11.1 2 then some (0, [(x11.2.1.getD 0 .undef)], x11.2.2) else
 none
theorem run22 (call : Go.Fw.Call) (a0 a1 : AVal) (h : Heap) : runFn call (.code A22) [a0, a1] h = (S22 call a0 a1 h).bind ansOf := by kernel_rfl

noncomputable def tbl (f : Nat) : Option AFn :=
 match f with
 | 3 => some (.code A3)
 | 4 => some (.code A4)
 | 5 => some (.code A5)
 | 6 => some (.code A6)
 | 7 => some (.code A7)
 | 8 => some (.code A8)
 | 9 => some (.code A9)
 | 10 => some (.code A10)
 | 11 => some (.code A11)
 | 12 => some (.code A12)
 | 13 => some (.code A13)
 | 14 => some (.code A14)
 | 15 => some (.code A15)
 | 16 => some (.code A16)
 | 17 => some (.code A17)
 | 18 => some (.code A18)
 | 19 => some (.code A19)
 | 20 => some (.code A20)
 | 21 => some (.code A21)
 | 22 => some (.code A22)
 | _ => none
theorem c3 (h : Heap) : E tbl 3 [] h = (S3 (E tbl)  h).bind ansOf := (E_eq tbl 3 [] h).trans (run3 (E tbl)  h)
theorem c4 (a0 a1 a2 : AVal) (h : Heap) : E tbl 4 [a0, a1, a2] h = (S4 (E tbl) a0 a1 a2 h).bind ansOf := (E_eq tbl 4 [a0, a1, a2] h).trans (run4 (E tbl) a0 a1 a2 h)
theorem c5 (a0 a1 : AVal) (h : Heap) : E tbl 5 [a0, a1] h = (S5 (E tbl) a0 a1 h).bind ansOf := (E_eq tbl 5 [a0, a1] h).trans (run5 (E tbl) a0 a1 h)
theorem c6 (a0 : AVal) (h : Heap) : E tbl 6 [a0] h = (S6 (E tbl) a0 h).bind ansOf := (E_eq tbl 6 [a0] h).trans (run6 (E tbl) a0 h)
theorem c7 (a0 a1 : AVal) (h : Heap) : E tbl 7 [a0, a1] h = (S7 (E tbl) a0 a1 h).bind ansOf := (E_eq tbl 7 [a0, a1] h).trans (run7 (E tbl) a0 a1 h)
theorem c8 (a0 : AVal) (h : Heap) : E tbl 8 [a0] h = (S8 (E tbl) a0 h).bind ansOf := (E_eq tbl 8 [a0] h).trans (run8 (E tbl) a0 h)
theorem c9 (h : Heap) : E tbl 9 [] h = (S9 (E tbl)  h).bind ansOf := (E_eq tbl 9 [] h).trans (run9 (E tbl)  h)
theorem c10 (a0 a1 a2 : AVal) (h : Heap) : E tbl 10 [a0, a1, a2] h = (S10 (E tbl) a0 a1 a2 h).bind ansOf := (E_eq tbl 10 [a0, a1, a2] h).trans (run10 (E tbl) a0 a1 a2 h)
theorem c11 (h : Heap) : E tbl 11 [] h = (S11 (E tbl)  h).bind ansOf := (E_eq tbl 11 [] h).trans (run11 (E tbl)  h)
theorem c12 (a0 a1 : AVal) (h : Heap) : E tbl 12 [a0, a1] h = (S12 (E tbl) a0 a1 h).bind ansOf := (E_eq tbl 12 [a0, a1] h).trans (run12 (E tbl) a0 a1 h)
theorem c13 (a0 a1 : AVal) (h : Heap) : E tbl 13 [a0, a1] h = (S13 (E tbl) a0 a1 h).bind ansOf := (E_eq tbl 13 [a0, a1] h).trans (run13 (E tbl) a0 a1 h)
theorem c14 (a0 : AVal) (h : Heap) : E tbl 14 [a0] h = (S14 (E tbl) a0 h).bind ansOf := (E_eq tbl 14 [a0] h).trans (run14 (E tbl) a0 h)
theorem c15 (a0 a1 : AVal) (h : Heap) : E tbl 15 [a0, a1] h = (S15 (E tbl) a0 a1 h).bind ansOf := (E_eq tbl 15 [a0, a1] h).trans (run15 (E tbl) a0 a1 h)
theorem c16 (a0 a1 : AVal) (h : Heap) : E tbl 16 [a0, a1] h = (S16 (E tbl) a0 a1 h).bind ansOf := (E_eq tbl 16 [a0, a1] h).trans (run16 (E tbl) a0 a1 h)
theorem c17 (a0 a1 : AVal) (h : Heap) : E tbl 17 [a0, a1] h = (S17 (E tbl) a0 a1 h).bind ansOf := (E_eq tbl 17 [a0, a1] h).trans (run17 (E tbl) a0 a1 h)
theorem c18 (a0 : AVal) (h : Heap) : E tbl 18 [a0] h = (S18 (E tbl) a0 h).bind ansOf := (E_eq tbl 18 [a0] h).trans (run18 (E tbl) a0 h)
theorem c19 (a0 : AVal) (h : Heap) : E tbl 19 [a0] h = (S19 (E tbl) a0 h).bind ansOf := (E_eq tbl 19 [a0] h).trans (run19 (E tbl) a0 h)
theorem c20 (a0 a1 : AVal) (h : Heap) : E tbl 20 [a0, a1] h = (S20 (E tbl) a0 a1 h).bind ansOf := (E_eq tbl 20 [a0, a1] h).trans (run20 (E tbl) a0 a1 h)
theorem c21 (a0 a1 : AVal) (h : Heap) : E tbl 21 [a0, a1] h = (S21 (E tbl) a0 a1 h).bind ansOf := (E_eq tbl 21 [a0, a1] h).trans (run21 (E tbl) a0 a1 h)
theorem c22 (a0 a1 : AVal) (h : Heap) : E tbl 22 [a0, a1] h = (S22 (E tbl) a0 a1 h).bind ansOf := (E_eq tbl 22 [a0, a1] h).trans (run22 (E tbl) a0 a1 h)
theorem tbl_ok : ∀ f a, tbl f = some a → FnOk Try.prog (drawOk Try.prog) f a := by
  intro f a h
  unfold tbl at h
  split at h
  · cases h; exact ⟨_, Try.func3, by decide +kernel, ok3⟩
  · cases h; exact ⟨_, Try.func4, by decide +kernel, ok4⟩
  · cases h; exact ⟨_, Try.func5, by decide +kernel, ok5⟩
  · cases h; exact ⟨_, Try.func6, by decide +kernel, ok6⟩
  · cases h; exact ⟨_, Try.func7, by decide +kernel, ok7⟩
  · cases h; exact ⟨_, Try.func8, by decide +kernel, ok8⟩
  · cases h; exact ⟨_, Try.func9, by decide +kernel, ok9⟩
  · cases h; exact ⟨_, Try.func10, by decide +kernel, ok10⟩
  · cases h; exact ⟨_, Try.func11, by decide +kernel, ok11⟩
  · cases h; exact ⟨_, Try.func12, by decide +kernel, ok12⟩
  · cases h; exact ⟨_, Try.func13, by decide +kernel, ok13⟩
  · cases h; exact ⟨_, Try.func14, by decide +kernel, ok14⟩
  · cases h; exact ⟨_, Try.func15, by decide +kernel, ok15⟩
  · cases h; exact ⟨_, Try.func16, by decide +kernel, ok16⟩
  · cases h; exact ⟨_, Try.func17, by decide +kernel, ok17⟩
  · cases h; exact ⟨_, Try.func18, by decide +kernel, ok18⟩
  · cases h; exact ⟨_, Try.func19, by decide +kernel, ok19⟩
  · cases h; exact ⟨_, Try.func20, by decide +kernel, ok20⟩
  · cases h; exact ⟨_, Try.func21, by decide +kernel, ok21⟩
  · cases h; exact ⟨_, Try.func22, by decide +kernel, ok22⟩
  · cases h
theorem prog_ok : CallOk Try.prog (E tbl) := E_ok tbl_ok
end Go.Proofs.Ytbbhibacjhfphaa.Code
