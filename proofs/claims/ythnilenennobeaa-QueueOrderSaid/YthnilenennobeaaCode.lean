import Derived.Test.YthnilenennobeaaProg
import Derived.Test.YthnilenennobeaaFwZb
import Derived.KernelRfl
namespace Go.Proofs.Ythnilenennobeaa.Code
set_option linter.unusedSimpArgs false
set_option linter.unusedVariables false
open Go.Fw
/-- frankpledge/frankpledgelaw17.QueueNumbers -/
noncomputable def A3 : AFunc := ⟨0, (.seq (.region [.op 0 (.mov 0 (.const (.bool false)))] [])
 (.seq (.seq (.region [.op 0 (.mov 1 (.const (.int .i64 0)))] [])
 (.block 0 (.loop ⟨[1], []⟩ [((.exit 0), ⟨[], []⟩), (.ret, ⟨[0], []⟩)]
 (.seq (.seq (.region [.op 0 (.mov 4 (.tmp 1)),
 .op 1 (.bin 5 .lss .plain (.tmp 4) (.const (.int .i64 30)))] [])
 (.cond (.tmp 5)
 .skip
 (.exit 0)))
 (.seq (.block 1 (.seq (.region [.op 0 (.mov 2 (.const (.nilSlice)))] [])
 (.seq (.seq (.region [.op 0 (.mov 3 (.const (.int .i64 0)))] [])
 (.block 2 (.loop ⟨[1, 2, 3], []⟩ [((.exit 2), ⟨[1, 2], []⟩)]
 (.seq (.seq (.region [.op 0 (.mov 8 (.tmp 3)),
 .op 1 (.bin 9 .lss .plain (.tmp 8) (.const (.int .i64 900)))] [])
 (.cond (.tmp 9)
 .skip
 (.exit 2)))
 (.seq (.block 3 (.region [.op 0 (.mov 12 (.tmp 2)),
 .op 1 (.mov 13 (.tmp 3)),
 .op 2 (.mov 14 (.tmp 3)),
 .op 3 (.bin 15 .mul .plain (.tmp 13) (.tmp 14)),
 .op 4 (.bin 16 .mul .plain (.tmp 15) (.const (.int .i64 7))),
 .op 5 (.mov 17 (.tmp 1)),
 .op 6 (.bin 18 .mul .plain (.tmp 17) (.const (.int .i64 53))),
 .op 7 (.bin 19 .add .plain (.tmp 16) (.tmp 18)),
 .op 8 (.mov 20 (.tmp 3)),
 .op 9 (.mov 21 (.tmp 1)),
 .op 10 (.bin 22 .mul .plain (.tmp 20) (.tmp 21)),
 .op 11 (.bin 23 .add .plain (.tmp 19) (.tmp 22)),
 .op 12 (.bin 24 .rem .plain (.tmp 23) (.const (.int .i64 211))),
 .op 13 (.buildSl 25 [.int .i64 0] 1 1 [(0, .tmp 24)]),
 .op 14 (.append 26 1 8 [.int .i64 0] false (.tmp 12) (.tmp 25)),
 .op 15 (.mov 2 (.tmp 26))] []))
 (.region [.op 0 (.mov 10 (.tmp 3)),
 .op 1 (.bin 11 .add .plain (.tmp 10) (.const (.int .i64 1))),
 .op 2 (.mov 3 (.tmp 11))] []))))))
 (.seq (.region [.op 0 (.buildSl 27 [.int .i64 0] 1 9 [(0, .const (.int .i64 0)), (1, .const (.int .i64 1)), (2, .const (.int .i64 2)), (3, .const (.int .i64 1)), (4, .const (.int .i64 3)), (5, .const (.int .i64 4)), (6, .const (.int .i64 5)), (7, .const (.int .i64 6)), (8, .const (.int .i64 7))]),
 .op 1 (.mov 28 (.tmp 1)),
 .op 2 (.bin 29 .rem .plain (.tmp 28) (.const (.int .i64 10))),
 .op 3 (.slice 30 (.sl 1) (.tmp 27) none (some (.tmp 29)) none),
 .op 4 (.mov 31 (.tmp 2)),
 .op 5 (.call 32 8 [.tmp 30, .tmp 31, .const (.nilSlice)]),
 .op 6 (.un 33 .not (.tmp 32))] [])
 (.cond (.tmp 33)
 (.seq (.region [.op 0 (.mov 0 (.const (.bool false)))] [])
 .ret)
 .skip)))))
 (.region [.op 0 (.mov 6 (.tmp 1)),
 .op 1 (.bin 7 .add .plain (.tmp 6) (.const (.int .i64 1))),
 .op 2 (.mov 1 (.tmp 7))] []))))))
 (.seq (.region [.op 0 (.call 34 9 []),
 .op 1 (.mov 0 (.tmp 34))] [])
 .ret))),
 [.tmp 0]⟩
theorem ok3 : funcOk Try.prog (drawOk Try.prog) Try.f3 A3 = true := by kernel_rfl
/-- xs: t1, t2, t3 -/
noncomputable def L3_1 (call : Go.Fw.Call) (xs : List AVal) (h : Heap) : Option J :=
 (aBin .lss .plain (xs.getD 2 .undef) (.int .i64 900)).bind fun v2 =>
 condV v2
 ((aBin .mul .plain (xs.getD 2 .undef) (xs.getD 2 .undef)).bind fun v3 =>
 (aBin .mul .plain v3 (.int .i64 7)).bind fun v4 =>
 (aBin .mul .plain (xs.getD 0 .undef) (.int .i64 53)).bind fun v5 =>
 (aBin .add .plain v4 v5).bind fun v6 =>
 (aBin .mul .plain (xs.getD 2 .undef) (xs.getD 0 .undef)).bind fun v7 =>
 (aBin .add .plain v6 v7).bind fun v8 =>
 (aBin .rem .plain v8 (.int .i64 211)).bind fun v9 =>
 (aFill (reps [.int .i64 0] 1) [(0, 1, v9)]).bind fun c10 =>
 (aAppend 1 8 [.int .i64 0] false (xs.getD 1 .undef) (.slice h.next 0 1 1 1 true) (h.alloc c10)).bind fun r11 =>
 (aBin .add .plain (xs.getD 2 .undef) (.int .i64 1)).bind fun v12 =>
 some (0, [(xs.getD 0 .undef), r11.1, v12], r11.2))
 (some (1, [(xs.getD 0 .undef), (xs.getD 1 .undef)], h))
/-- xs: t1 -/
noncomputable def L3_0 (call : Go.Fw.Call) (xs : List AVal) (h : Heap) : Option J :=
 (aBin .lss .plain (xs.getD 0 .undef) (.int .i64 30)).bind fun v1 =>
 condV v1
 ((loop (L3_1 call) [(xs.getD 0 .undef), (.nilSlice), (.int .i64 0)] h).bind fun x13 =>
 bif Nat.beq x13.1 1 then (aFill (reps [.int .i64 0] 9) [(0, 1, (.int .i64 0)), (1, 1, (.int .i64 1)), (2, 1, (.int .i64 2)), (3, 1, (.int .i64 1)), (4, 1, (.int .i64 3)), (5, 1, (.int .i64 4)), (6, 1, (.int .i64 5)), (7, 1, (.int .i64 6)), (8, 1, (.int .i64 7))]).bind fun c14 =>
 (aBin .rem .plain (x13.2.1.getD 0 .undef) (.int .i64 10)).bind fun v15 =>
 (aSliceSl 1 (.slice x13.2.2.next 0 9 9 1 true) none (some v15) none).bind fun v16 =>
 (call 8 [v16, (x13.2.1.getD 1 .undef), (.nilSlice)] (x13.2.2.alloc c14)).bind fun r17 =>
 (aUn .not r17.1).bind fun v18 =>
 condV v18
 (some (2, [(.bool false)], r17.2))
 ((aBin .add .plain (x13.2.1.getD 0 .undef) (.int .i64 1)).bind fun v19 =>
 some (0, [v19], r17.2)) else
 none)
 (some (1, [], h))
noncomputable def S3 (call : Go.Fw.Call) (h : Heap) : Option J :=
 (loop (L3_0 call) [(.int .i64 0)] h).bind fun x20 =>
 bif Nat.beq x20.1 1 then (call 9 [] x20.2.2).bind fun r21 =>
 some (0, [r21.1], r21.2) else
 bif Nat.beq x20.1 2 then some (0, [(x20.2.1.getD 0 .undef)], x20.2.2) else
 none
theorem run3 (call : Go.Fw.Call) (h : Heap) : runFn call (.code A3) [] h = (S3 call  h).bind ansOf := by kernel_rfl

/-- frankpledge/frankpledgelaw17.QueuePlays -/
noncomputable def A4 : AFunc := ⟨3, (.seq (.region [.op 0 (.mov 6 (.const (.bool false)))] [])
 (.seq (.region [.op 0 (.mov 7 (.const (.nilSlice)))] [])
 (.seq (.seq (.region [.op 0 (.mov 9 (.tmp 0)),
 .op 1 (.len 10 false (.tmp 9)),
 .op 2 (.mov 11 (.const (.int .i64 0)))] [])
 (.block 0 (.loop ⟨[0, 1, 2, 7, 10, 11], []⟩ [((.exit 0), ⟨[0, 1, 2, 7], []⟩)]
 (.seq (.region [.op 0 (.bin 12 .lss .plain (.tmp 11) (.tmp 10))] [])
 (.seq (.cond (.tmp 12)
 .skip
 (.exit 0))
 (.seq (.block 1 (.seq (.region [.op 0 (.mov 13 (.tmp 11)),
 .op 1 (.mov 8 (.tmp 13))] [])
 (.region [.op 0 (.mov 14 (.tmp 7)),
 .op 1 (.mov 15 (.tmp 0)),
 .op 2 (.mov 16 (.tmp 8)),
 .op 3 (.iaddr 17 none 1 (.tmp 15) (.tmp 16)),
 .op 4 (.load 18 false 1 (.tmp 17)),
 .op 5 (.call 19 10 [.tmp 18, .const (.int .i64 0), .const (.int .i64 6)]),
 .op 6 (.buildSl 20 [.int .i64 0] 1 1 [(0, .tmp 19)]),
 .op 7 (.append 21 1 8 [.int .i64 0] false (.tmp 14) (.tmp 20)),
 .op 8 (.mov 7 (.tmp 21))] [])))
 (.region [.op 0 (.bin 22 .add .plain (.tmp 11) (.const (.int .i64 1))),
 .op 1 (.mov 11 (.tmp 22))] [])))))))
 (.seq (.seq (.region [.op 0 (.mov 23 (.tmp 0)),
 .op 1 (.len 24 false (.tmp 23)),
 .op 2 (.bin 25 .gtr .plain (.tmp 24) (.const (.int .i64 12)))] [])
 (.join [(.normal, ⟨[0, 1, 2, 7], []⟩)] (.cond (.tmp 25)
 (.region [.op 0 (.mov 26 (.tmp 0)),
 .op 1 (.slice 27 (.sl 1) (.tmp 26) none (some (.const (.int .i64 12))) none),
 .op 2 (.mov 0 (.tmp 27))] [])
 .skip)))
 (.seq (.region [.op 0 (.mov 28 (.tmp 7)),
 .op 1 (.mov 29 (.tmp 1)),
 .op 2 (.call 30 8 [.tmp 28, .tmp 29, .const (.nilSlice)]),
 .op 3 (.mov 31 (.tmp 30)),
 .guard 31 true [.op 4 (.mov 32 (.tmp 0)),
 .op 5 (.mov 33 (.tmp 1)),
 .op 6 (.mov 34 (.tmp 2)),
 .op 7 (.call 35 8 [.tmp 32, .tmp 33, .tmp 34])] [] [35],
 .op 8 (.pick 36 (.tmp 31) (.tmp 35) (.const (.bool false))),
 .op 9 (.mov 37 (.tmp 36)),
 .guard 37 true [.op 10 (.buildSl 38 [.int .i64 0] 1 2 [(0, .const (.int .i64 0)), (1, .const (.int .i64 1))]),
 .op 11 (.mov 39 (.tmp 1)),
 .op 12 (.mov 40 (.tmp 2)),
 .op 13 (.call 41 8 [.tmp 38, .tmp 39, .tmp 40])] [] [41],
 .op 14 (.pick 42 (.tmp 37) (.tmp 41) (.const (.bool false))),
 .op 15 (.mov 43 (.tmp 42)),
 .guard 43 true [.op 16 (.call 44 9 [])] [] [44],
 .op 17 (.pick 45 (.tmp 43) (.tmp 44) (.const (.bool false))),
 .op 18 (.mov 6 (.tmp 45))] [])
 .ret))))),
 [.tmp 6]⟩
theorem ok4 : funcOk Try.prog (drawOk Try.prog) Try.f4 A4 = true := by kernel_rfl
/-- xs: t0, t1, t2, t7, t10, t11 -/
noncomputable def L4_0 (call : Go.Fw.Call) (xs : List AVal) (h : Heap) : Option J :=
 (aBin .lss .plain (xs.getD 5 .undef) (xs.getD 4 .undef)).bind fun v2 =>
 condV v2
 ((aIaddr 1 (xs.getD 0 .undef) (xs.getD 5 .undef)).bind fun v3 =>
 (aLoad h 1 v3).bind fun c4 =>
 (fromCells false c4).bind fun v5 =>
 (call 10 [v5, (.int .i64 0), (.int .i64 6)] h).bind fun r6 =>
 (aFill (reps [.int .i64 0] 1) [(0, 1, r6.1)]).bind fun c7 =>
 (aAppend 1 8 [.int .i64 0] false (xs.getD 3 .undef) (.slice r6.2.next 0 1 1 1 true) (r6.2.alloc c7)).bind fun r8 =>
 (aBin .add .plain (xs.getD 5 .undef) (.int .i64 1)).bind fun v9 =>
 some (0, [(xs.getD 0 .undef), (xs.getD 1 .undef), (xs.getD 2 .undef), r8.1, (xs.getD 4 .undef), v9], r8.2))
 (some (1, [(xs.getD 0 .undef), (xs.getD 1 .undef), (xs.getD 2 .undef), (xs.getD 3 .undef)], h))
noncomputable def S4 (call : Go.Fw.Call) (a0 a1 a2 : AVal) (h : Heap) : Option J :=
 (aLen false a0).bind fun v1 =>
 (loop (L4_0 call) [a0, a1, a2, (.nilSlice), v1, (.int .i64 0)] h).bind fun x10 =>
 bif Nat.beq x10.1 1 then (aLen false (x10.2.1.getD 0 .undef)).bind fun v11 =>
 (aBin .gtr .plain v11 (.int .i64 12)).bind fun v12 =>
 (condV v12
 ((aSliceSl 1 (x10.2.1.getD 0 .undef) none (some (.int .i64 12)) none).bind fun v13 =>
 some (0, [v13, (x10.2.1.getD 1 .undef), (x10.2.1.getD 2 .undef), (x10.2.1.getD 3 .undef)], x10.2.2))
 (some (0, [(x10.2.1.getD 0 .undef), (x10.2.1.getD 1 .undef), (x10.2.1.getD 2 .undef), (x10.2.1.getD 3 .undef)], x10.2.2))).bind fun x14 =>
 bif Nat.beq x14.1 0 then (call 8 [(x14.2.1.getD 3 .undef), (x14.2.1.getD 1 .undef), (.nilSlice)] x14.2.2).bind fun r15 =>
 (guardV r15.1 true
 ((call 8 [(x14.2.1.getD 0 .undef), (x14.2.1.getD 1 .undef), (x14.2.1.getD 2 .undef)] r15.2).bind fun r16 =>
 some (0, [r16.1], r16.2))
 (some (0, [skipV], r15.2))).bind fun g17 =>
 (aPick r15.1 (g17.2.1.getD 0 .undef) (.bool false)).bind fun v18 =>
 (guardV v18 true
 ((aFill (reps [.int .i64 0] 2) [(0, 1, (.int .i64 0)), (1, 1, (.int .i64 1))]).bind fun c19 =>
 (call 8 [(.slice g17.2.2.next 0 2 2 1 true), (x14.2.1.getD 1 .undef), (x14.2.1.getD 2 .undef)] (g17.2.2.alloc c19)).bind fun r20 =>
 some (0, [r20.1], r20.2))
 (some (0, [skipV], g17.2.2))).bind fun g21 =>
 (aPick v18 (g21.2.1.getD 0 .undef) (.bool false)).bind fun v22 =>
 (guardV v22 true
 ((call 9 [] g21.2.2).bind fun r23 =>
 some (0, [r23.1], r23.2))
 (some (0, [skipV], g21.2.2))).bind fun g24 =>
 (aPick v22 (g24.2.1.getD 0 .undef) (.bool false)).bind fun v25 =>
 some (0, [v25], g24.2.2) else
 none else
 none
theorem run4 (call : Go.Fw.Call) (a0 a1 a2 : AVal) (h : Heap) : runFn call (.code A4) [a0, a1, a2] h = (S4 call a0 a1 a2 h).bind ansOf := by kernel_rfl

/-- frankpledge/frankpledgelaw17.QueueOrder -/
noncomputable def A5 : AFunc := ⟨1, (.seq (.region [.op 0 (.mov 2 (.const (.bool false)))] [])
 (.seq (.region [.op 0 (.mov 13 (.tmp 0)),
 .op 1 (.build 14 [.nilSlice, .int .i64 0] [(0, 1, .tmp 13)]),
 .op 2 (.box 15 false (.tmp 14)),
 .op 3 (.mov 3 (.tmp 15))] [])
 (.seq (.region [.op 0 (.mov 16 (.tmp 3)),
 .op 1 (.call 17 11 [.tmp 16, .const (.int .i64 14)]),
 .op 2 (.mov 4 (.tmp 17))] [])
 (.seq (.region [.op 0 (.buildSl 18 [.int .i64 0] 1 1 [(0, .const (.int .i64 1))]),
 .op 1 (.call 19 12 [.tmp 18]),
 .op 2 (.mov 5 (.tmp 19))] [])
 (.seq (.seq (.region [.op 0 (.mov 20 (.tmp 5)),
 .op 1 (.bin 21 .eql .ptr (.tmp 20) (.const (.nilPtr)))] [])
 (.cond (.tmp 21)
 (.seq (.region [.op 0 (.mov 2 (.const (.bool false)))] [])
 .ret)
 .skip))
 (.seq (.region [.op 0 (.mov 22 (.tmp 5)),
 .op 1 (.mov 23 (.tmp 4)),
 .op 2 (.call 24 13 [.tmp 22, .tmp 23])] [])
 (.seq (.region [.op 0 (.mov 6 (.const (.nilSlice)))] [])
 (.seq (.seq (.region [.op 0 (.mov 7 (.const (.int .i64 0)))] [])
 (.block 0 (.loop ⟨[4, 5, 6, 7], []⟩ [((.exit 0), ⟨[4, 5, 6], []⟩), (.ret, ⟨[2], []⟩)]
 (.seq (.seq (.region [.op 0 (.mov 25 (.tmp 7)),
 .op 1 (.bin 26 .lss .plain (.tmp 25) (.const (.int .i64 6)))] [])
 (.cond (.tmp 26)
 .skip
 (.exit 0)))
 (.seq (.block 1 (.seq (.region [.op 0 (.mov 29 (.tmp 5)),
 .op 1 (.call 30 14 [.tmp 29, .const (.int .i64 1)]),
 .op 2 (.mov 8 (.tmp 30))] [])
 (.seq (.seq (.region [.op 0 (.mov 31 (.tmp 8)),
 .op 1 (.len 32 false (.tmp 31)),
 .op 2 (.bin 33 .gtr .plain (.tmp 32) (.const (.int .i64 4)))] [])
 (.cond (.tmp 33)
 (.seq (.region [.op 0 (.mov 2 (.const (.bool false)))] [])
 .ret)
 .skip))
 (.region [.op 0 (.mov 34 (.tmp 6)),
 .op 1 (.mov 35 (.tmp 8)),
 .op 2 (.append 36 9 88 [.str [], .str [], .int .i64 0, .int .i64 0, .int .i64 0, .int .i64 0, .int .i64 0, .int .i64 0, .bool false] false (.tmp 34) (.tmp 35)),
 .op 3 (.mov 6 (.tmp 36))] []))))
 (.region [.op 0 (.mov 27 (.tmp 7)),
 .op 1 (.bin 28 .add .plain (.tmp 27) (.const (.int .i64 1))),
 .op 2 (.mov 7 (.tmp 28))] []))))))
 (.seq (.region [.op 0 (.mov 9 (.const (.nilSlice)))] [])
 (.seq (.seq (.region [.op 0 (.mov 37 (.tmp 4)),
 .op 1 (.len 38 false (.tmp 37)),
 .op 2 (.mov 39 (.const (.int .i64 0)))] [])
 (.block 2 (.loop ⟨[4, 5, 6, 9, 38, 39], []⟩ [((.exit 2), ⟨[5, 6, 9], []⟩)]
 (.seq (.region [.op 0 (.bin 40 .lss .plain (.tmp 39) (.tmp 38))] [])
 (.seq (.cond (.tmp 40)
 .skip
 (.exit 2))
 (.seq (.block 3 (.seq (.region [.op 0 (.mov 41 (.tmp 39)),
 .op 1 (.mov 10 (.tmp 41))] [])
 (.seq (.region [.op 0 (.mov 11 (.const (.bool true)))] [])
 (.seq (.seq (.region [.op 0 (.mov 42 (.tmp 10)),
 .op 1 (.bin 43 .add .plain (.tmp 42) (.const (.int .i64 1))),
 .op 2 (.mov 12 (.tmp 43))] [])
 (.block 4 (.loop ⟨[4, 5, 6, 9, 10, 11, 12, 38, 39], []⟩ [((.exit 4), ⟨[4, 5, 6, 9, 10, 11, 38, 39], []⟩)]
 (.seq (.seq (.region [.op 0 (.mov 44 (.tmp 12)),
 .op 1 (.mov 45 (.tmp 4)),
 .op 2 (.len 46 false (.tmp 45)),
 .op 3 (.bin 47 .lss .plain (.tmp 44) (.tmp 46))] [])
 (.cond (.tmp 47)
 .skip
 (.exit 4)))
 (.seq (.block 5 (.region [.op 0 (.mov 50 (.tmp 11)),
 .op 1 (.mov 51 (.tmp 50)),
 .guard 51 true [.op 2 (.mov 52 (.tmp 4)),
 .op 3 (.mov 53 (.tmp 12)),
 .op 4 (.iaddr 54 none 9 (.tmp 52) (.tmp 53)),
 .op 5 (.faddr 55 0 (.tmp 54)),
 .op 6 (.load 56 true 2 (.tmp 55)),
 .op 7 (.mov 57 (.tmp 4)),
 .op 8 (.mov 58 (.tmp 10)),
 .op 9 (.iaddr 59 none 9 (.tmp 57) (.tmp 58)),
 .op 10 (.faddr 60 0 (.tmp 59)),
 .op 11 (.load 61 true 2 (.tmp 60)),
 .op 12 (.bin 62 .neq (.cells [2, 2]) (.tmp 56) (.tmp 61))] [] [62],
 .op 13 (.pick 63 (.tmp 51) (.tmp 62) (.const (.bool false))),
 .op 14 (.mov 11 (.tmp 63))] []))
 (.region [.op 0 (.mov 48 (.tmp 12)),
 .op 1 (.bin 49 .add .plain (.tmp 48) (.const (.int .i64 1))),
 .op 2 (.mov 12 (.tmp 49))] []))))))
 (.seq (.region [.op 0 (.mov 64 (.tmp 11))] [])
 (.join [(.normal, ⟨[4, 5, 6, 9, 38, 39], []⟩)] (.cond (.tmp 64)
 (.region [.op 0 (.mov 65 (.tmp 9)),
 .op 1 (.mov 66 (.tmp 4)),
 .op 2 (.mov 67 (.tmp 10)),
 .op 3 (.iaddr 68 none 9 (.tmp 66) (.tmp 67)),
 .op 4 (.load 69 true 9 (.tmp 68)),
 .op 5 (.buildSl 70 [.str [], .str [], .int .i64 0, .int .i64 0, .int .i64 0, .int .i64 0, .int .i64 0, .int .i64 0, .bool false] 9 1 [(0, .tmp 69)]),
 .op 6 (.append 71 9 88 [.str [], .str [], .int .i64 0, .int .i64 0, .int .i64 0, .int .i64 0, .int .i64 0, .int .i64 0, .bool false] false (.tmp 65) (.tmp 70)),
 .op 7 (.mov 9 (.tmp 71))] [])
 .skip)))))))
 (.region [.op 0 (.bin 72 .add .plain (.tmp 39) (.const (.int .i64 1))),
 .op 1 (.mov 39 (.tmp 72))] [])))))))
 (.seq (.region [.op 0 (.mov 73 (.tmp 6)),
 .op 1 (.mov 74 (.tmp 9)),
 .op 2 (.call 75 15 [.tmp 73, .tmp 74]),
 .op 3 (.mov 76 (.tmp 75)),
 .guard 76 true [.op 4 (.mov 77 (.tmp 5)),
 .op 5 (.call 78 16 [.tmp 77]),
 .op 6 (.bin 79 .eql .plain (.tmp 78) (.const (.int .i64 0)))] [] [79],
 .op 7 (.pick 80 (.tmp 76) (.tmp 79) (.const (.bool false))),
 .op 8 (.mov 81 (.tmp 80)),
 .guard 81 true [.op 9 (.mov 82 (.tmp 5)),
 .op 10 (.call 83 17 [.tmp 82, .const (.int .i64 1)]),
 .op 11 (.bin 84 .eql .plain (.tmp 83) (.const (.int .i64 0)))] [] [84],
 .op 12 (.pick 85 (.tmp 81) (.tmp 84) (.const (.bool false))),
 .op 13 (.mov 86 (.tmp 85)),
 .guard 86 true [.op 14 (.call 87 9 [])] [] [87],
 .op 15 (.pick 88 (.tmp 86) (.tmp 87) (.const (.bool false))),
 .op 16 (.mov 2 (.tmp 88))] [])
 .ret))))))))))),
 [.tmp 2]⟩
theorem ok5 : funcOk Try.prog (drawOk Try.prog) Try.f5 A5 = true := by kernel_rfl
/-- xs: t4, t5, t6, t7 -/
noncomputable def L5_0 (call : Go.Fw.Call) (xs : List AVal) (h : Heap) : Option J :=
 (aBin .lss .plain (xs.getD 3 .undef) (.int .i64 6)).bind fun v9 =>
 condV v9
 ((call 14 [(xs.getD 1 .undef), (.int .i64 1)] h).bind fun r10 =>
 (aLen false r10.1).bind fun v11 =>
 (aBin .gtr .plain v11 (.int .i64 4)).bind fun v12 =>
 condV v12
 (some (2, [(.bool false)], r10.2))
 ((aAppend 9 88 [.str [], .str [], .int .i64 0, .int .i64 0, .int .i64 0, .int .i64 0, .int .i64 0, .int .i64 0, .bool false] false (xs.getD 2 .undef) r10.1 r10.2).bind fun r13 =>
 (aBin .add .plain (xs.getD 3 .undef) (.int .i64 1)).bind fun v14 =>
 some (0, [(xs.getD 0 .undef), (xs.getD 1 .undef), r13.1, v14], r13.2)))
 (some (1, [(xs.getD 0 .undef), (xs.getD 1 .undef), (xs.getD 2 .undef)], h))
/-- xs: t4, t5, t6, t9, t10, t11, t12, t38, t39 -/
noncomputable def L5_2 (call : Go.Fw.Call) (xs : List AVal) (h : Heap) : Option J :=
 (aLen false (xs.getD 0 .undef)).bind fun v19 =>
 (aBin .lss .plain (xs.getD 6 .undef) v19).bind fun v20 =>
 condV v20
 ((guardV (xs.getD 5 .undef) true
 ((aIaddr 9 (xs.getD 0 .undef) (xs.getD 6 .undef)).bind fun v21 =>
 (aFaddr 0 v21).bind fun v22 =>
 (aLoad h 2 v22).bind fun c23 =>
 (fromCells true c23).bind fun v24 =>
 (aIaddr 9 (xs.getD 0 .undef) (xs.getD 4 .undef)).bind fun v25 =>
 (aFaddr 0 v25).bind fun v26 =>
 (aLoad h 2 v26).bind fun c27 =>
 (fromCells true c27).bind fun v28 =>
 (aBin .neq (.cells [2, 2]) v24 v28).bind fun v29 =>
 some (0, [v29], h))
 (some (0, [skipV], h))).bind fun g30 =>
 (aPick (xs.getD 5 .undef) (g30.2.1.getD 0 .undef) (.bool false)).bind fun v31 =>
 (aBin .add .plain (xs.getD 6 .undef) (.int .i64 1)).bind fun v32 =>
 some (0, [(xs.getD 0 .undef), (xs.getD 1 .undef), (xs.getD 2 .undef), (xs.getD 3 .undef), (xs.getD 4 .undef), v31, v32, (xs.getD 7 .undef), (xs.getD 8 .undef)], g30.2.2))
 (some (1, [(xs.getD 0 .undef), (xs.getD 1 .undef), (xs.getD 2 .undef), (xs.getD 3 .undef), (xs.getD 4 .undef), (xs.getD 5 .undef), (xs.getD 7 .undef), (xs.getD 8 .undef)], h))
/-- xs: t4, t5, t6, t9, t38, t39 -/
noncomputable def L5_1 (call : Go.Fw.Call) (xs : List AVal) (h : Heap) : Option J :=
 (aBin .lss .plain (xs.getD 5 .undef) (xs.getD 4 .undef)).bind fun v17 =>
 condV v17
 ((aBin .add .plain (xs.getD 5 .undef) (.int .i64 1)).bind fun v18 =>
 (loop (L5_2 call) [(xs.getD 0 .undef), (xs.getD 1 .undef), (xs.getD 2 .undef), (xs.getD 3 .undef), (xs.getD 5 .undef), (.bool true), v18, (xs.getD 4 .undef), (xs.getD 5 .undef)] h).bind fun x33 =>
 bif Nat.beq x33.1 1 then (condV (x33.2.1.getD 5 .undef)
 ((aIaddr 9 (x33.2.1.getD 0 .undef) (x33.2.1.getD 4 .undef)).bind fun v34 =>
 (aLoad x33.2.2 9 v34).bind fun c35 =>
 (fromCells true c35).bind fun v36 =>
 (aFill (reps [.str [], .str [], .int .i64 0, .int .i64 0, .int .i64 0, .int .i64 0, .int .i64 0, .int .i64 0, .bool false] 1) [(0, 9, v36)]).bind fun c37 =>
 (aAppend 9 88 [.str [], .str [], .int .i64 0, .int .i64 0, .int .i64 0, .int .i64 0, .int .i64 0, .int .i64 0, .bool false] false (x33.2.1.getD 3 .undef) (.slice x33.2.2.next 0 1 1 9 true) (x33.2.2.alloc c37)).bind fun r38 =>
 some (0, [(x33.2.1.getD 0 .undef), (x33.2.1.getD 1 .undef), (x33.2.1.getD 2 .undef), r38.1, (x33.2.1.getD 6 .undef), (x33.2.1.getD 7 .undef)], r38.2))
 (some (0, [(x33.2.1.getD 0 .undef), (x33.2.1.getD 1 .undef), (x33.2.1.getD 2 .undef), (x33.2.1.getD 3 .undef), (x33.2.1.getD 6 .undef), (x33.2.1.getD 7 .undef)], x33.2.2))).bind fun x39 =>
 bif Nat.beq x39.1 0 then (aBin .add .plain (x39.2.1.getD 5 .undef) (.int .i64 1)).bind fun v40 =>
 some (0, [(x39.2.1.getD 0 .undef), (x39.2.1.getD 1 .undef), (x39.2.1.getD 2 .undef), (x39.2.1.getD 3 .undef), (x39.2.1.getD 4 .undef), v40], x39.2.2) else
 none else
 none)
 (some (1, [(xs.getD 1 .undef), (xs.getD 2 .undef), (xs.getD 3 .undef)], h))
noncomputable def S5 (call : Go.Fw.Call) (a0 : AVal) (h : Heap) : Option J :=
 (aFill [.nilSlice, .int .i64 0] [(0, 1, a0)]).bind fun c1 =>
 (AVal.cells? (.agg c1)).bind fun c2 =>
 (call 11 [(.ptr h.next 0), (.int .i64 14)] (h.alloc c2)).bind fun r4 =>
 (aFill (reps [.int .i64 0] 1) [(0, 1, (.int .i64 1))]).bind fun c5 =>
 (call 12 [(.slice r4.2.next 0 1 1 1 true)] (r4.2.alloc c5)).bind fun r6 =>
 (aBin .eql .ptr r6.1 (.nilPtr)).bind fun v7 =>
 condV v7
 (some (0, [(.bool false)], r6.2))
 ((call 13 [r6.1, r4.1] r6.2).bind fun r8 =>
 (loop (L5_0 call) [r4.1, r6.1, (.nilSlice), (.int .i64 0)] r8.2).bind fun x15 =>
 bif Nat.beq x15.1 1 then (aLen false (x15.2.1.getD 0 .undef)).bind fun v16 =>
 (loop (L5_1 call) [(x15.2.1.getD 0 .undef), (x15.2.1.getD 1 .undef), (x15.2.1.getD 2 .undef), (.nilSlice), v16, (.int .i64 0)] x15.2.2).bind fun x41 =>
 bif Nat.beq x41.1 1 then (call 15 [(x41.2.1.getD 1 .undef), (x41.2.1.getD 2 .undef)] x41.2.2).bind fun r42 =>
 (guardV r42.1 true
 ((call 16 [(x41.2.1.getD 0 .undef)] r42.2).bind fun r43 =>
 (aBin .eql .plain r43.1 (.int .i64 0)).bind fun v44 =>
 some (0, [v44], r43.2))
 (some (0, [skipV], r42.2))).bind fun g45 =>
 (aPick r42.1 (g45.2.1.getD 0 .undef) (.bool false)).bind fun v46 =>
 (guardV v46 true
 ((call 17 [(x41.2.1.getD 0 .undef), (.int .i64 1)] g45.2.2).bind fun r47 =>
 (aBin .eql .plain r47.1 (.int .i64 0)).bind fun v48 =>
 some (0, [v48], r47.2))
 (some (0, [skipV], g45.2.2))).bind fun g49 =>
 (aPick v46 (g49.2.1.getD 0 .undef) (.bool false)).bind fun v50 =>
 (guardV v50 true
 ((call 9 [] g49.2.2).bind fun r51 =>
 some (0, [r51.1], r51.2))
 (some (0, [skipV], g49.2.2))).bind fun g52 =>
 (aPick v50 (g52.2.1.getD 0 .undef) (.bool false)).bind fun v53 =>
 some (0, [v53], g52.2.2) else
 none else
 bif Nat.beq x15.1 2 then some (0, [(x15.2.1.getD 0 .undef)], x15.2.2) else
 none)
theorem run5 (call : Go.Fw.Call) (a0 : AVal) (h : Heap) : runFn call (.code A5) [a0] h = (S5 call a0 h).bind ansOf := by kernel_rfl

/-- frankpledge/frankpledgelaw17.QueueRows -/
noncomputable def A6 : AFunc := ⟨2, (.seq (.region [.op 0 (.mov 4 (.const (.bool false)))] [])
 (.seq (.region [.op 0 (.mov 11 (.tmp 0)),
 .op 1 (.build 12 [.nilSlice, .int .i64 0] [(0, 1, .tmp 11)]),
 .op 2 (.box 13 false (.tmp 12)),
 .op 3 (.mov 5 (.tmp 13))] [])
 (.seq (.region [.op 0 (.buildSl 14 [.int .i64 0] 1 2 [(0, .const (.int .i64 1)), (1, .const (.int .i64 2))]),
 .op 1 (.call 15 12 [.tmp 14]),
 .op 2 (.buildSl 16 [.int .i64 0] 1 1 [(0, .const (.int .i64 2))]),
 .op 3 (.call 17 12 [.tmp 16]),
 .op 4 (.mov 6 (.tmp 15)),
 .op 5 (.mov 7 (.tmp 17))] [])
 (.seq (.seq (.region [.op 0 (.mov 18 (.tmp 6)),
 .op 1 (.bin 19 .eql .ptr (.tmp 18) (.const (.nilPtr))),
 .op 2 (.mov 20 (.tmp 19)),
 .guard 20 false [.op 3 (.mov 21 (.tmp 7)),
 .op 4 (.bin 22 .eql .ptr (.tmp 21) (.const (.nilPtr)))] [] [22],
 .op 5 (.pick 23 (.tmp 20) (.const (.bool true)) (.tmp 22))] [])
 (.cond (.tmp 23)
 (.seq (.region [.op 0 (.mov 4 (.const (.bool false)))] [])
 .ret)
 .skip))
 (.seq (.region [.op 0 (.mov 24 (.tmp 5)),
 .op 1 (.call 25 11 [.tmp 24, .const (.int .i64 12)]),
 .op 2 (.mov 8 (.tmp 25))] [])
 (.seq (.region [.op 0 (.mov 26 (.tmp 6)),
 .op 1 (.mov 27 (.tmp 8)),
 .op 2 (.call 28 13 [.tmp 26, .tmp 27])] [])
 (.seq (.region [.op 0 (.mov 29 (.tmp 7)),
 .op 1 (.mov 30 (.tmp 8)),
 .op 2 (.call 31 13 [.tmp 29, .tmp 30])] [])
 (.seq (.seq (.region [.op 0 (.mov 9 (.const (.int .i64 0)))] [])
 (.block 0 (.loop ⟨[1, 6, 7, 9], []⟩ [((.exit 0), ⟨[6, 7], []⟩)]
 (.seq (.seq (.region [.op 0 (.mov 32 (.tmp 9)),
 .op 1 (.mov 33 (.tmp 1)),
 .op 2 (.call 34 10 [.tmp 33, .const (.int .i64 0), .const (.int .i64 5)]),
 .op 3 (.bin 35 .lss .plain (.tmp 32) (.tmp 34))] [])
 (.cond (.tmp 35)
 .skip
 (.exit 0)))
 (.seq (.block 1 (.region [.op 0 (.mov 38 (.tmp 6)),
 .op 1 (.call 39 14 [.tmp 38, .const (.int .i64 1)])] []))
 (.region [.op 0 (.mov 36 (.tmp 9)),
 .op 1 (.bin 37 .add .plain (.tmp 36) (.const (.int .i64 1))),
 .op 2 (.mov 9 (.tmp 37))] []))))))
 (.seq (.seq (.region [.op 0 (.mov 10 (.const (.int .i64 0)))] [])
 (.block 2 (.loop ⟨[6, 7, 10], []⟩ [((.exit 2), ⟨[6], []⟩), (.ret, ⟨[4], []⟩)]
 (.seq (.seq (.region [.op 0 (.mov 40 (.tmp 10)),
 .op 1 (.bin 41 .lss .plain (.tmp 40) (.const (.int .i64 5)))] [])
 (.cond (.tmp 41)
 .skip
 (.exit 2)))
 (.seq (.block 3 (.seq (.region [.op 0 (.mov 44 (.tmp 6)),
 .op 1 (.call 45 17 [.tmp 44, .const (.int .i64 2)]),
 .op 2 (.mov 46 (.tmp 7)),
 .op 3 (.call 47 17 [.tmp 46, .const (.int .i64 2)]),
 .op 4 (.bin 48 .neq .plain (.tmp 45) (.tmp 47)),
 .op 5 (.mov 49 (.tmp 48)),
 .guard 49 false [.op 6 (.mov 50 (.tmp 6)),
 .op 7 (.call 51 14 [.tmp 50, .const (.int .i64 2)]),
 .op 8 (.mov 52 (.tmp 7)),
 .op 9 (.call 53 14 [.tmp 52, .const (.int .i64 2)]),
 .op 10 (.call 54 15 [.tmp 51, .tmp 53]),
 .op 11 (.un 55 .not (.tmp 54))] [] [55],
 .op 12 (.pick 56 (.tmp 49) (.const (.bool true)) (.tmp 55))] [])
 (.cond (.tmp 56)
 (.seq (.region [.op 0 (.mov 4 (.const (.bool false)))] [])
 .ret)
 .skip)))
 (.region [.op 0 (.mov 42 (.tmp 10)),
 .op 1 (.bin 43 .add .plain (.tmp 42) (.const (.int .i64 1))),
 .op 2 (.mov 10 (.tmp 43))] []))))))
 (.seq (.region [.op 0 (.mov 57 (.tmp 6)),
 .op 1 (.call 58 17 [.tmp 57, .const (.int .i64 2)]),
 .op 2 (.bin 59 .eql .plain (.tmp 58) (.const (.int .i64 0))),
 .op 3 (.mov 60 (.tmp 59)),
 .guard 60 true [.op 4 (.call 61 9 [])] [] [61],
 .op 5 (.pick 62 (.tmp 60) (.tmp 61) (.const (.bool false))),
 .op 6 (.mov 4 (.tmp 62))] [])
 .ret)))))))))),
 [.tmp 4]⟩
theorem ok6 : funcOk Try.prog (drawOk Try.prog) Try.f6 A6 = true := by kernel_rfl
/-- xs: t1, t6, t7, t9 -/
noncomputable def L6_0 (call : Go.Fw.Call) (xs : List AVal) (h : Heap) : Option J :=
 (call 10 [(xs.getD 0 .undef), (.int .i64 0), (.int .i64 5)] h).bind fun r15 =>
 (aBin .lss .plain (xs.getD 3 .undef) r15.1).bind fun v16 =>
 condV v16
 ((call 14 [(xs.getD 1 .undef), (.int .i64 1)] r15.2).bind fun r17 =>
 (aBin .add .plain (xs.getD 3 .undef) (.int .i64 1)).bind fun v18 =>
 some (0, [(xs.getD 0 .undef), (xs.getD 1 .undef), (xs.getD 2 .undef), v18], r17.2))
 (some (1, [(xs.getD 1 .undef), (xs.getD 2 .undef)], r15.2))
/-- xs: t6, t7, t10 -/
noncomputable def L6_1 (call : Go.Fw.Call) (xs : List AVal) (h : Heap) : Option J :=
 (aBin .lss .plain (xs.getD 2 .undef) (.int .i64 5)).bind fun v20 =>
 condV v20
 ((call 17 [(xs.getD 0 .undef), (.int .i64 2)] h).bind fun r21 =>
 (call 17 [(xs.getD 1 .undef), (.int .i64 2)] r21.2).bind fun r22 =>
 (aBin .neq .plain r21.1 r22.1).bind fun v23 =>
 (guardV v23 false
 ((call 14 [(xs.getD 0 .undef), (.int .i64 2)] r22.2).bind fun r24 =>
 (call 14 [(xs.getD 1 .undef), (.int .i64 2)] r24.2).bind fun r25 =>
 (call 15 [r24.1, r25.1] r25.2).bind fun r26 =>
 (aUn .not r26.1).bind fun v27 =>
 some (0, [v27], r26.2))
 (some (0, [skipV], r22.2))).bind fun g28 =>
 (aPick v23 (.bool true) (g28.2.1.getD 0 .undef)).bind fun v29 =>
 condV v29
 (some (2, [(.bool false)], g28.2.2))
 ((aBin .add .plain (xs.getD 2 .undef) (.int .i64 1)).bind fun v30 =>
 some (0, [(xs.getD 0 .undef), (xs.getD 1 .undef), v30], g28.2.2)))
 (some (1, [(xs.getD 0 .undef)], h))
noncomputable def S6 (call : Go.Fw.Call) (a0 a1 : AVal) (h : Heap) : Option J :=
 (aFill [.nilSlice, .int .i64 0] [(0, 1, a0)]).bind fun c1 =>
 (AVal.cells? (.agg c1)).bind fun c2 =>
 (aFill (reps [.int .i64 0] 2) [(0, 1, (.int .i64 1)), (1, 1, (.int .i64 2))]).bind fun c4 =>
 (call 12 [(.slice (h.alloc c2).next 0 2 2 1 true)] ((h.alloc c2).alloc c4)).bind fun r5 =>
 (aFill (reps [.int .i64 0] 1) [(0, 1, (.int .i64 2))]).bind fun c6 =>
 (call 12 [(.slice r5.2.next 0 1 1 1 true)] (r5.2.alloc c6)).bind fun r7 =>
 (aBin .eql .ptr r5.1 (.nilPtr)).bind fun v8 =>
 (guardV v8 false
 ((aBin .eql .ptr r7.1 (.nilPtr)).bind fun v9 =>
 some (0, [v9], r7.2))
 (some (0, [skipV], r7.2))).bind fun g10 =>
 (aPick v8 (.bool true) (g10.2.1.getD 0 .undef)).bind fun v11 =>
 condV v11
 (some (0, [(.bool false)], g10.2.2))
 ((call 11 [(.ptr h.next 0), (.int .i64 12)] g10.2.2).bind fun r12 =>
 (call 13 [r5.1, r12.1] r12.2).bind fun r13 =>
 (call 13 [r7.1, r12.1] r13.2).bind fun r14 =>
 (loop (L6_0 call) [a1, r5.1, r7.1, (.int .i64 0)] r14.2).bind fun x19 =>
 bif Nat.beq x19.1 1 then (loop (L6_1 call) [(x19.2.1.getD 0 .undef), (x19.2.1.getD 1 .undef), (.int .i64 0)] x19.2.2).bind fun x31 =>
 bif Nat.beq x31.1 1 then (call 17 [(x31.2.1.getD 0 .undef), (.int .i64 2)] x31.2.2).bind fun r32 =>
 (aBin .eql .plain r32.1 (.int .i64 0)).bind fun v33 =>
 (guardV v33 true
 ((call 9 [] r32.2).bind fun r34 =>
 some (0, [r34.1], r34.2))
 (some (0, [skipV], r32.2))).bind fun g35 =>
 (aPick v33 (g35.2.1.getD 0 .undef) (.bool false)).bind fun v36 =>
 some (0, [v36], g35.2.2) else
 bif Nat.beq x31.1 2 then some (0, [(x31.2.1.getD 0 .undef)], x31.2.2) else
 none else
 none)
theorem run6 (call : Go.Fw.Call) (a0 a1 : AVal) (h : Heap) : runFn call (.code A6) [a0, a1] h = (S6 call a0 a1 h).bind ansOf := by kernel_rfl

/-- frankpledge/frankpledgelaw17.QueueLosts -/
noncomputable def A7 : AFunc := ⟨2, (.seq (.region [.op 0 (.mov 4 (.const (.bool false)))] [])
 (.seq (.region [.op 0 (.buildSl 10 [.int .i64 0] 1 1 [(0, .const (.int .i64 5))]),
 .op 1 (.call 11 12 [.tmp 10]),
 .op 2 (.mov 5 (.tmp 11))] [])
 (.seq (.seq (.region [.op 0 (.mov 12 (.tmp 5)),
 .op 1 (.bin 13 .eql .ptr (.tmp 12) (.const (.nilPtr)))] [])
 (.cond (.tmp 13)
 (.seq (.region [.op 0 (.mov 4 (.const (.bool false)))] [])
 .ret)
 .skip))
 (.seq (.region [.op 0 (.mov 14 (.tmp 0)),
 .op 1 (.call 15 10 [.tmp 14, .const (.int .i64 0), .const (.int .i64 60)]),
 .op 2 (.mov 6 (.tmp 15))] [])
 (.seq (.seq (.region [.op 0 (.mov 7 (.const (.int .i64 0)))] [])
 (.block 0 (.loop ⟨[1, 5, 6, 7], []⟩ [((.exit 0), ⟨[1, 5, 6], []⟩)]
 (.seq (.seq (.region [.op 0 (.mov 16 (.tmp 7)),
 .op 1 (.mov 17 (.tmp 6)),
 .op 2 (.bin 18 .lss .plain (.tmp 16) (.tmp 17))] [])
 (.cond (.tmp 18)
 .skip
 (.exit 0)))
 (.seq (.block 1 (.region [.op 0 (.mov 21 (.tmp 5)),
 .op 1 (.mov 22 (.tmp 7)),
 .op 2 (.bin 23 .add .plain (.const (.int .i64 65)) (.tmp 22)),
 .op 3 (.conv 24 (.toInt .i32) (.tmp 23)),
 .op 4 (.conv 25 .intStr (.tmp 24)),
 .op 5 (.build 26 [.str [], .str []] [(0, 1, .const (.str [97])), (1, 1, .tmp 25)]),
 .op 6 (.build 27 [.str [], .str [], .int .i64 0, .int .i64 0, .int .i64 0, .int .i64 0, .int .i64 0, .int .i64 0, .bool false] [(0, 2, .tmp 26)]),
 .op 7 (.buildSl 28 [.str [], .str [], .int .i64 0, .int .i64 0, .int .i64 0, .int .i64 0, .int .i64 0, .int .i64 0, .bool false] 9 1 [(0, .tmp 27)]),
 .op 8 (.call 29 13 [.tmp 21, .tmp 28])] []))
 (.region [.op 0 (.mov 19 (.tmp 7)),
 .op 1 (.bin 20 .add .plain (.tmp 19) (.const (.int .i64 1))),
 .op 2 (.mov 7 (.tmp 20))] []))))))
 (.seq (.region [.op 0 (.mov 8 (.const (.int .i64 0)))] [])
 (.seq (.seq (.region [.op 0 (.mov 9 (.const (.int .i64 0)))] [])
 (.block 2 (.loop ⟨[1, 5, 6, 8, 9], []⟩ [((.exit 2), ⟨[5, 6, 8], []⟩)]
 (.seq (.seq (.region [.op 0 (.mov 30 (.tmp 9)),
 .op 1 (.mov 31 (.tmp 1)),
 .op 2 (.call 32 10 [.tmp 31, .const (.int .i64 0), .const (.int .i64 6)]),
 .op 3 (.bin 33 .lss .plain (.tmp 30) (.tmp 32))] [])
 (.cond (.tmp 33)
 .skip
 (.exit 2)))
 (.seq (.block 3 (.region [.op 0 (.mov 36 (.tmp 8)),
 .op 1 (.mov 37 (.tmp 5)),
 .op 2 (.call 38 14 [.tmp 37, .const (.int .i64 5)]),
 .op 3 (.len 39 false (.tmp 38)),
 .op 4 (.bin 40 .add .plain (.tmp 36) (.tmp 39)),
 .op 5 (.mov 8 (.tmp 40))] []))
 (.region [.op 0 (.mov 34 (.tmp 9)),
 .op 1 (.bin 35 .add .plain (.tmp 34) (.const (.int .i64 1))),
 .op 2 (.mov 9 (.tmp 35))] []))))))
 (.seq (.region [.op 0 (.mov 41 (.tmp 5)),
 .op 1 (.call 42 16 [.tmp 41]),
 .op 2 (.mov 43 (.tmp 8)),
 .op 3 (.bin 44 .add .plain (.tmp 42) (.tmp 43)),
 .op 4 (.mov 45 (.tmp 5)),
 .op 5 (.call 46 17 [.tmp 45, .const (.int .i64 5)]),
 .op 6 (.bin 47 .add .plain (.tmp 44) (.tmp 46)),
 .op 7 (.mov 48 (.tmp 6)),
 .op 8 (.bin 49 .eql .plain (.tmp 47) (.tmp 48)),
 .op 9 (.mov 50 (.tmp 49)),
 .guard 50 true [.op 10 (.mov 51 (.tmp 5)),
 .op 11 (.call 52 16 [.tmp 51]),
 .op 12 (.mov 53 (.tmp 6)),
 .op 13 (.bin 54 .sub .plain (.tmp 53) (.const (.int .i64 16))),
 .op 14 (.minmax 55 true [.tmp 54, .const (.int .i64 0)]),
 .op 15 (.bin 56 .eql .plain (.tmp 52) (.tmp 55))] [] [56],
 .op 16 (.pick 57 (.tmp 50) (.tmp 56) (.const (.bool false))),
 .op 17 (.mov 58 (.tmp 57)),
 .guard 58 true [.op 18 (.call 59 9 [])] [] [59],
 .op 19 (.pick 60 (.tmp 58) (.tmp 59) (.const (.bool false))),
 .op 20 (.mov 4 (.tmp 60))] [])
 .ret)))))))),
 [.tmp 4]⟩
theorem ok7 : funcOk Try.prog (drawOk Try.prog) Try.f7 A7 = true := by kernel_rfl
/-- xs: t1, t5, t6, t7 -/
noncomputable def L7_0 (call : Go.Fw.Call) (xs : List AVal) (h : Heap) : Option J :=
 (aBin .lss .plain (xs.getD 3 .undef) (xs.getD 2 .undef)).bind fun v5 =>
 condV v5
 ((aBin .add .plain (.int .i64 65) (xs.getD 3 .undef)).bind fun v6 =>
 (aConv (.toInt .i32) v6 h).bind fun r7 =>
 (aConv .intStr r7.1 r7.2).bind fun r8 =>
 (aFill [.str [], .str []] [(0, 1, (.str [97])), (1, 1, r8.1)]).bind fun c9 =>
 (aFill [.str [], .str [], .int .i64 0, .int .i64 0, .int .i64 0, .int .i64 0, .int .i64 0, .int .i64 0, .bool false] [(0, 2, (.agg c9))]).bind fun c10 =>
 (aFill (reps [.str [], .str [], .int .i64 0, .int .i64 0, .int .i64 0, .int .i64 0, .int .i64 0, .int .i64 0, .bool false] 1) [(0, 9, (.agg c10))]).bind fun c11 =>
 (call 13 [(xs.getD 1 .undef), (.slice r8.2.next 0 1 1 9 true)] (r8.2.alloc c11)).bind fun r12 =>
 (aBin .add .plain (xs.getD 3 .undef) (.int .i64 1)).bind fun v13 =>
 some (0, [(xs.getD 0 .undef), (xs.getD 1 .undef), (xs.getD 2 .undef), v13], r12.2))
 (some (1, [(xs.getD 0 .undef), (xs.getD 1 .undef), (xs.getD 2 .undef)], h))
/-- xs: t1, t5, t6, t8, t9 -/
noncomputable def L7_1 (call : Go.Fw.Call) (xs : List AVal) (h : Heap) : Option J :=
 (call 10 [(xs.getD 0 .undef), (.int .i64 0), (.int .i64 6)] h).bind fun r15 =>
 (aBin .lss .plain (xs.getD 4 .undef) r15.1).bind fun v16 =>
 condV v16
 ((call 14 [(xs.getD 1 .undef), (.int .i64 5)] r15.2).bind fun r17 =>
 (aLen false r17.1).bind fun v18 =>
 (aBin .add .plain (xs.getD 3 .undef) v18).bind fun v19 =>
 (aBin .add .plain (xs.getD 4 .undef) (.int .i64 1)).bind fun v20 =>
 some (0, [(xs.getD 0 .undef), (xs.getD 1 .undef), (xs.getD 2 .undef), v19, v20], r17.2))
 (some (1, [(xs.getD 1 .undef), (xs.getD 2 .undef), (xs.getD 3 .undef)], r15.2))
noncomputable def S7 (call : Go.Fw.Call) (a0 a1 : AVal) (h : Heap) : Option J :=
 (aFill (reps [.int .i64 0] 1) [(0, 1, (.int .i64 5))]).bind fun c1 =>
 (call 12 [(.slice h.next 0 1 1 1 true)] (h.alloc c1)).bind fun r2 =>
 (aBin .eql .ptr r2.1 (.nilPtr)).bind fun v3 =>
 condV v3
 (some (0, [(.bool false)], r2.2))
 ((call 10 [a0, (.int .i64 0), (.int .i64 60)] r2.2).bind fun r4 =>
 (loop (L7_0 call) [a1, r2.1, r4.1, (.int .i64 0)] r4.2).bind fun x14 =>
 bif Nat.beq x14.1 1 then (loop (L7_1 call) [(x14.2.1.getD 0 .undef), (x14.2.1.getD 1 .undef), (x14.2.1.getD 2 .undef), (.int .i64 0), (.int .i64 0)] x14.2.2).bind fun x21 =>
 bif Nat.beq x21.1 1 then (call 16 [(x21.2.1.getD 0 .undef)] x21.2.2).bind fun r22 =>
 (aBin .add .plain r22.1 (x21.2.1.getD 2 .undef)).bind fun v23 =>
 (call 17 [(x21.2.1.getD 0 .undef), (.int .i64 5)] r22.2).bind fun r24 =>
 (aBin .add .plain v23 r24.1).bind fun v25 =>
 (aBin .eql .plain v25 (x21.2.1.getD 1 .undef)).bind fun v26 =>
 (guardV v26 true
 ((call 16 [(x21.2.1.getD 0 .undef)] r24.2).bind fun r27 =>
 (aBin .sub .plain (x21.2.1.getD 1 .undef) (.int .i64 16)).bind fun v28 =>
 (aMinMaxL true [v28, (.int .i64 0)]).bind fun v29 =>
 (aBin .eql .plain r27.1 v29).bind fun v30 =>
 some (0, [v30], r27.2))
 (some (0, [skipV], r24.2))).bind fun g31 =>
 (aPick v26 (g31.2.1.getD 0 .undef) (.bool false)).bind fun v32 =>
 (guardV v32 true
 ((call 9 [] g31.2.2).bind fun r33 =>
 some (0, [r33.1], r33.2))
 (some (0, [skipV], g31.2.2))).bind fun g34 =>
 (aPick v32 (g34.2.1.getD 0 .undef) (.bool false)).bind fun v35 =>
 some (0, [v35], g34.2.2) else
 none else
 none)
theorem run7 (call : Go.Fw.Call) (a0 a1 : AVal) (h : Heap) : runFn call (.code A7) [a0, a1] h = (S7 call a0 a1 h).bind ansOf := by kernel_rfl

/-- frankpledge/frankpledgelaw17.play -/
noncomputable def A8 : AFunc := ⟨3, (.seq (.region [.op 0 (.mov 6 (.const (.bool false)))] [])
 (.seq (.region [.op 0 (.mov 17 (.tmp 0)),
 .op 1 (.call 18 12 [.tmp 17]),
 .op 2 (.mov 19 (.tmp 0)),
 .op 3 (.call 20 18 [.tmp 19]),
 .op 4 (.mov 7 (.tmp 18)),
 .op 5 (.mov 8 (.tmp 20))] [])
 (.seq (.region [.op 0 (.mov 21 (.tmp 1)),
 .op 1 (.build 22 [.nilSlice, .int .i64 0] [(0, 1, .tmp 21)]),
 .op 2 (.box 23 false (.tmp 22)),
 .op 3 (.mov 9 (.tmp 23))] [])
 (.seq (.seq (.region [.op 0 (.mov 10 (.const (.int .i64 0)))] [])
 (.block 0 (.loop ⟨[2, 7, 8, 9, 10], []⟩ [((.exit 0), ⟨[], []⟩), (.ret, ⟨[6], []⟩)]
 (.seq (.seq (.region [.op 0 (.mov 24 (.tmp 10)),
 .op 1 (.bin 25 .lss .plain (.tmp 24) (.const (.int .i64 40)))] [])
 (.cond (.tmp 25)
 .skip
 (.exit 0)))
 (.seq (.block 1 (.seq (.seq (.region [.op 0 (.mov 28 (.tmp 7)),
 .op 1 (.bin 29 .eql .ptr (.tmp 28) (.const (.nilPtr)))] [])
 (.cond (.tmp 29)
 (.seq (.region [.op 0 (.mov 6 (.const (.bool false)))] [])
 .ret)
 .skip))
 (.seq (.region [.op 0 (.mov 30 (.tmp 9)),
 .op 1 (.call 31 19 [.tmp 30, .const (.int .i64 10)]),
 .op 2 (.mov 11 (.tmp 31))] [])
 (.seq (.seq (.region [.op 0 (.mov 32 (.tmp 11)),
 .op 1 (.bin 33 .lss .plain (.tmp 32) (.const (.int .i64 6)))] [])
 (.join [(.normal, ⟨[2, 7, 8, 9, 10], []⟩), (.ret, ⟨[6], []⟩)] (.cond (.tmp 33)
 (.seq (.region [.op 0 (.mov 34 (.tmp 9)),
 .op 1 (.call 35 11 [.tmp 34, .const (.int .i64 6)]),
 .op 2 (.mov 12 (.tmp 35))] [])
 (.seq (.seq (.region [.op 0 (.mov 36 (.tmp 10)),
 .op 1 (.mov 37 (.tmp 2)),
 .op 2 (.len 38 false (.tmp 37)),
 .op 3 (.bin 39 .lss .plain (.tmp 36) (.tmp 38))] [])
 (.join [(.normal, ⟨[2, 7, 8, 9, 10, 12], []⟩)] (.cond (.tmp 39)
 (.region [.op 0 (.mov 40 (.tmp 12)),
 .op 1 (.mov 41 (.tmp 2)),
 .op 2 (.mov 42 (.tmp 10)),
 .op 3 (.iaddr 43 none 9 (.tmp 41) (.tmp 42)),
 .op 4 (.load 44 true 9 (.tmp 43)),
 .op 5 (.buildSl 45 [.str [], .str [], .int .i64 0, .int .i64 0, .int .i64 0, .int .i64 0, .int .i64 0, .int .i64 0, .bool false] 9 1 [(0, .tmp 44)]),
 .op 6 (.append 46 9 88 [.str [], .str [], .int .i64 0, .int .i64 0, .int .i64 0, .int .i64 0, .int .i64 0, .int .i64 0, .bool false] false (.tmp 40) (.tmp 45)),
 .op 7 (.mov 12 (.tmp 46))] [])
 .skip)))
 (.seq (.region [.op 0 (.mov 47 (.tmp 7)),
 .op 1 (.mov 48 (.tmp 12)),
 .op 2 (.call 49 13 [.tmp 47, .tmp 48])] [])
 (.region [.op 0 (.mov 50 (.tmp 8)),
 .op 1 (.mov 51 (.tmp 12)),
 .op 2 (.call 52 20 [.tmp 50, .tmp 51])] []))))
 (.seq (.region [.op 0 (.mov 53 (.tmp 7)),
 .op 1 (.mov 54 (.tmp 11)),
 .op 2 (.bin 55 .sub .plain (.tmp 54) (.const (.int .i64 6))),
 .op 3 (.call 56 14 [.tmp 53, .tmp 55]),
 .op 4 (.mov 57 (.tmp 8)),
 .op 5 (.mov 58 (.tmp 11)),
 .op 6 (.bin 59 .sub .plain (.tmp 58) (.const (.int .i64 6))),
 .op 7 (.call 60 21 [.tmp 57, .tmp 59]),
 .op 8 (.call 61 15 [.tmp 56, .tmp 60]),
 .op 9 (.un 62 .not (.tmp 61))] [])
 (.cond (.tmp 62)
 (.seq (.region [.op 0 (.mov 6 (.const (.bool false)))] [])
 .ret)
 .skip)))))
 (.seq (.seq (.region [.op 0 (.mov 13 (.const (.int .i64 (-1))))] [])
 (.block 2 (.loop ⟨[2, 7, 8, 9, 10, 13], []⟩ [((.exit 2), ⟨[2, 7, 8, 9, 10], []⟩), (.ret, ⟨[6], []⟩)]
 (.seq (.seq (.region [.op 0 (.mov 63 (.tmp 13)),
 .op 1 (.bin 64 .lss .plain (.tmp 63) (.const (.int .i64 8)))] [])
 (.cond (.tmp 64)
 .skip
 (.exit 2)))
 (.seq (.block 3 (.seq (.region [.op 0 (.mov 14 (.const (.int .i64 0)))] [])
 (.seq (.seq (.region [.op 0 (.mov 67 (.tmp 8)),
 .op 1 (.nilchk 68 (.tmp 67)),
 .op 2 (.faddr 69 0 (.tmp 68)),
 .op 3 (.load 70 false 1 (.tmp 69)),
 .op 4 (.len 71 false (.tmp 70)),
 .op 5 (.mov 72 (.const (.int .i64 0)))] [])
 (.block 4 (.loop ⟨[2, 7, 8, 9, 10, 13, 14, 70, 71, 72], []⟩ [((.exit 4), ⟨[2, 7, 8, 9, 10, 13, 14], []⟩)]
 (.seq (.region [.op 0 (.bin 73 .lss .plain (.tmp 72) (.tmp 71))] [])
 (.seq (.cond (.tmp 73)
 .skip
 (.exit 4))
 (.seq (.block 5 (.seq (.region [.op 0 (.mov 74 (.tmp 72)),
 .op 1 (.iaddr 75 none 1 (.tmp 70) (.tmp 72)),
 .op 2 (.load 76 false 1 (.tmp 75)),
 .op 3 (.mov 15 (.tmp 74)),
 .op 4 (.mov 16 (.tmp 76))] [])
 (.seq (.region [.op 0 (.mov 77 (.tmp 16)),
 .op 1 (.mov 78 (.tmp 13)),
 .op 2 (.bin 79 .eql .plain (.tmp 77) (.tmp 78))] [])
 (.join [(.normal, ⟨[2, 7, 8, 9, 10, 13, 14, 70, 71, 72], []⟩)] (.cond (.tmp 79)
 (.region [.op 0 (.mov 80 (.tmp 8)),
 .op 1 (.nilchk 81 (.tmp 80)),
 .op 2 (.faddr 82 1 (.tmp 81)),
 .op 3 (.load 83 false 1 (.tmp 82)),
 .op 4 (.mov 84 (.tmp 15)),
 .op 5 (.iaddr 85 none 1 (.tmp 83) (.tmp 84)),
 .op 6 (.load 86 false 1 (.tmp 85)),
 .op 7 (.len 87 false (.tmp 86)),
 .op 8 (.mov 14 (.tmp 87))] [])
 .skip)))))
 (.region [.op 0 (.bin 88 .add .plain (.tmp 72) (.const (.int .i64 1))),
 .op 1 (.mov 72 (.tmp 88))] [])))))))
 (.seq (.region [.op 0 (.mov 89 (.tmp 7)),
 .op 1 (.mov 90 (.tmp 13)),
 .op 2 (.call 91 17 [.tmp 89, .tmp 90]),
 .op 3 (.mov 92 (.tmp 14)),
 .op 4 (.bin 93 .neq .plain (.tmp 91) (.tmp 92))] [])
 (.cond (.tmp 93)
 (.seq (.region [.op 0 (.mov 6 (.const (.bool false)))] [])
 .ret)
 .skip)))))
 (.region [.op 0 (.mov 65 (.tmp 13)),
 .op 1 (.bin 66 .add .plain (.tmp 65) (.const (.int .i64 1))),
 .op 2 (.mov 13 (.tmp 66))] []))))))
 (.seq (.region [.op 0 (.mov 94 (.tmp 7)),
 .op 1 (.call 95 16 [.tmp 94]),
 .op 2 (.mov 96 (.tmp 8)),
 .op 3 (.nilchk 97 (.tmp 96)),
 .op 4 (.faddr 98 2 (.tmp 97)),
 .op 5 (.load 99 false 1 (.tmp 98)),
 .op 6 (.bin 100 .neq .plain (.tmp 95) (.tmp 99))] [(5, 1)])
 (.cond (.tmp 100)
 (.seq (.region [.op 0 (.mov 6 (.const (.bool false)))] [])
 .ret)
 .skip)))))))
 (.region [.op 0 (.mov 26 (.tmp 10)),
 .op 1 (.bin 27 .add .plain (.tmp 26) (.const (.int .i64 1))),
 .op 2 (.mov 10 (.tmp 27))] []))))))
 (.seq (.region [.op 0 (.mov 6 (.const (.bool true)))] [])
 .ret))))),
 [.tmp 6]⟩
theorem ok8 : funcOk Try.prog (drawOk Try.prog) Try.f8 A8 = true := by kernel_rfl
/-- xs: t2, t7, t8, t9, t10, t13, t14, t70, t71, t72 -/
noncomputable def L8_2 (call : Go.Fw.Call) (xs : List AVal) (h : Heap) : Option J :=
 (aBin .lss .plain (xs.getD 9 .undef) (xs.getD 8 .undef)).bind fun v34 =>
 condV v34
 ((aIaddr 1 (xs.getD 7 .undef) (xs.getD 9 .undef)).bind fun v35 =>
 (aLoad h 1 v35).bind fun c36 =>
 (fromCells false c36).bind fun v37 =>
 (aBin .eql .plain v37 (xs.getD 5 .undef)).bind fun v38 =>
 (condV v38
 ((aNilchk (xs.getD 2 .undef)).bind fun v39 =>
 (aFaddr 1 v39).bind fun v40 =>
 (aLoad h 1 v40).bind fun c41 =>
 (fromCells false c41).bind fun v42 =>
 (aIaddr 1 v42 (xs.getD 9 .undef)).bind fun v43 =>
 (aLoad h 1 v43).bind fun c44 =>
 (fromCells false c44).bind fun v45 =>
 (aLen false v45).bind fun v46 =>
 some (0, [(xs.getD 0 .undef), (xs.getD 1 .undef), (xs.getD 2 .undef), (xs.getD 3 .undef), (xs.getD 4 .undef), (xs.getD 5 .undef), v46, (xs.getD 7 .undef), (xs.getD 8 .undef), (xs.getD 9 .undef)], h))
 (some (0, [(xs.getD 0 .undef), (xs.getD 1 .undef), (xs.getD 2 .undef), (xs.getD 3 .undef), (xs.getD 4 .undef), (xs.getD 5 .undef), (xs.getD 6 .undef), (xs.getD 7 .undef), (xs.getD 8 .undef), (xs.getD 9 .undef)], h))).bind fun x47 =>
 bif Nat.beq x47.1 0 then (aBin .add .plain (x47.2.1.getD 9 .undef) (.int .i64 1)).bind fun v48 =>
 some (0, [(x47.2.1.getD 0 .undef), (x47.2.1.getD 1 .undef), (x47.2.1.getD 2 .undef), (x47.2.1.getD 3 .undef), (x47.2.1.getD 4 .undef), (x47.2.1.getD 5 .undef), (x47.2.1.getD 6 .undef), (x47.2.1.getD 7 .undef), (x47.2.1.getD 8 .undef), v48], x47.2.2) else
 none)
 (some (1, [(xs.getD 0 .undef), (xs.getD 1 .undef), (xs.getD 2 .undef), (xs.getD 3 .undef), (xs.getD 4 .undef), (xs.getD 5 .undef), (xs.getD 6 .undef)], h))
/-- xs: t2, t7, t8, t9, t10, t13 -/
noncomputable def L8_1 (call : Go.Fw.Call) (xs : List AVal) (h : Heap) : Option J :=
 (aBin .lss .plain (xs.getD 5 .undef) (.int .i64 8)).bind fun v28 =>
 condV v28
 ((aNilchk (xs.getD 2 .undef)).bind fun v29 =>
 (aFaddr 0 v29).bind fun v30 =>
 (aLoad h 1 v30).bind fun c31 =>
 (fromCells false c31).bind fun v32 =>
 (aLen false v32).bind fun v33 =>
 (loop (L8_2 call) [(xs.getD 0 .undef), (xs.getD 1 .undef), (xs.getD 2 .undef), (xs.getD 3 .undef), (xs.getD 4 .undef), (xs.getD 5 .undef), (.int .i64 0), v32, v33, (.int .i64 0)] h).bind fun x49 =>
 bif Nat.beq x49.1 1 then (call 17 [(x49.2.1.getD 1 .undef), (x49.2.1.getD 5 .undef)] x49.2.2).bind fun r50 =>
 (aBin .neq .plain r50.1 (x49.2.1.getD 6 .undef)).bind fun v51 =>
 condV v51
 (some (2, [(.bool false)], r50.2))
 ((aBin .add .plain (x49.2.1.getD 5 .undef) (.int .i64 1)).bind fun v52 =>
 some (0, [(x49.2.1.getD 0 .undef), (x49.2.1.getD 1 .undef), (x49.2.1.getD 2 .undef), (x49.2.1.getD 3 .undef), (x49.2.1.getD 4 .undef), v52], r50.2)) else
 none)
 (some (1, [(xs.getD 0 .undef), (xs.getD 1 .undef), (xs.getD 2 .undef), (xs.getD 3 .undef), (xs.getD 4 .undef)], h))
/-- xs: t2, t7, t8, t9, t10 -/
noncomputable def L8_0 (call : Go.Fw.Call) (xs : List AVal) (h : Heap) : Option J :=
 (aBin .lss .plain (xs.getD 4 .undef) (.int .i64 40)).bind fun v6 =>
 condV v6
 ((aBin .eql .ptr (xs.getD 1 .undef) (.nilPtr)).bind fun v7 =>
 condV v7
 (some (2, [(.bool false)], h))
 ((call 19 [(xs.getD 3 .undef), (.int .i64 10)] h).bind fun r8 =>
 (aBin .lss .plain r8.1 (.int .i64 6)).bind fun v9 =>
 (condV v9
 ((call 11 [(xs.getD 3 .undef), (.int .i64 6)] r8.2).bind fun r10 =>
 (aLen false (xs.getD 0 .undef)).bind fun v11 =>
 (aBin .lss .plain (xs.getD 4 .undef) v11).bind fun v12 =>
 (condV v12
 ((aIaddr 9 (xs.getD 0 .undef) (xs.getD 4 .undef)).bind fun v13 =>
 (aLoad r10.2 9 v13).bind fun c14 =>
 (fromCells true c14).bind fun v15 =>
 (aFill (reps [.str [], .str [], .int .i64 0, .int .i64 0, .int .i64 0, .int .i64 0, .int .i64 0, .int .i64 0, .bool false] 1) [(0, 9, v15)]).bind fun c16 =>
 (aAppend 9 88 [.str [], .str [], .int .i64 0, .int .i64 0, .int .i64 0, .int .i64 0, .int .i64 0, .int .i64 0, .bool false] false r10.1 (.slice r10.2.next 0 1 1 9 true) (r10.2.alloc c16)).bind fun r17 =>
 some (0, [(xs.getD 0 .undef), (xs.getD 1 .undef), (xs.getD 2 .undef), (xs.getD 3 .undef), (xs.getD 4 .undef), r17.1], r17.2))
 (some (0, [(xs.getD 0 .undef), (xs.getD 1 .undef), (xs.getD 2 .undef), (xs.getD 3 .undef), (xs.getD 4 .undef), r10.1], r10.2))).bind fun x18 =>
 bif Nat.beq x18.1 0 then (call 13 [(x18.2.1.getD 1 .undef), (x18.2.1.getD 5 .undef)] x18.2.2).bind fun r19 =>
 (call 20 [(x18.2.1.getD 2 .undef), (x18.2.1.getD 5 .undef)] r19.2).bind fun r20 =>
 some (0, [(x18.2.1.getD 0 .undef), (x18.2.1.getD 1 .undef), (x18.2.1.getD 2 .undef), (x18.2.1.getD 3 .undef), (x18.2.1.getD 4 .undef)], r20.2) else
 none)
 ((aBin .sub .plain r8.1 (.int .i64 6)).bind fun v21 =>
 (call 14 [(xs.getD 1 .undef), v21] r8.2).bind fun r22 =>
 (aBin .sub .plain r8.1 (.int .i64 6)).bind fun v23 =>
 (call 21 [(xs.getD 2 .undef), v23] r22.2).bind fun r24 =>
 (call 15 [r22.1, r24.1] r24.2).bind fun r25 =>
 (aUn .not r25.1).bind fun v26 =>
 condV v26
 (some (1, [(.bool false)], r25.2))
 (some (0, [(xs.getD 0 .undef), (xs.getD 1 .undef), (xs.getD 2 .undef), (xs.getD 3 .undef), (xs.getD 4 .undef)], r25.2)))).bind fun x27 =>
 bif Nat.beq x27.1 0 then (loop (L8_1 call) [(x27.2.1.getD 0 .undef), (x27.2.1.getD 1 .undef), (x27.2.1.getD 2 .undef), (x27.2.1.getD 3 .undef), (x27.2.1.getD 4 .undef), (.int .i64 (-1))] x27.2.2).bind fun x53 =>
 bif Nat.beq x53.1 1 then (call 16 [(x53.2.1.getD 1 .undef)] x53.2.2).bind fun r54 =>
 (aNilchk (x53.2.1.getD 2 .undef)).bind fun v55 =>
 (aFaddr 2 v55).bind fun v56 =>
 (aLoad r54.2 1 v56).bind fun c57 =>
 (fromCells false c57).bind fun v58 =>
 (aBin .neq .plain r54.1 v58).bind fun v59 =>
 bif checkPairs [(5, logRd v56 1), (1, some (.ef [] x53.2.2 [] r54.2))] [(5, 1)] then condV v59
 (some (2, [(.bool false)], r54.2))
 ((aBin .add .plain (x53.2.1.getD 4 .undef) (.int .i64 1)).bind fun v60 =>
 some (0, [(x53.2.1.getD 0 .undef), (x53.2.1.getD 1 .undef), (x53.2.1.getD 2 .undef), (x53.2.1.getD 3 .undef), v60], r54.2)) else none else
 bif Nat.beq x53.1 2 then some (2, [(x53.2.1.getD 0 .undef)], x53.2.2) else
 none else
 bif Nat.beq x27.1 1 then some (2, [(x27.2.1.getD 0 .undef)], x27.2.2) else
 none))
 (some (1, [], h))
noncomputable def S8 (call : Go.Fw.Call) (a0 a1 a2 : AVal) (h : Heap) : Option J :=
 (call 12 [a0] h).bind fun r1 =>
 (call 18 [a0] r1.2).bind fun r2 =>
 (aFill [.nilSlice, .int .i64 0] [(0, 1, a1)]).bind fun c3 =>
 (AVal.cells? (.agg c3)).bind fun c4 =>
 (loop (L8_0 call) [a2, r1.1, r2.1, (.ptr r2.2.next 0), (.int .i64 0)] (r2.2.alloc c4)).bind fun x61 =>
 bif Nat.beq x61.1 1 then some (0, [(.bool true)], x61.2.2) else
 bif Nat.beq x61.1 2 then some (0, [(x61.2.1.getD 0 .undef)], x61.2.2) else
 none
theorem run8 (call : Go.Fw.Call) (a0 a1 a2 : AVal) (h : Heap) : runFn call (.code A8) [a0, a1, a2] h = (S8 call a0 a1 a2 h).bind ansOf := by kernel_rfl

/-- frankpledge/frankpledgelaw17.known -/
noncomputable def A9 : AFunc := ⟨0, (.seq (.region [.op 0 (.mov 0 (.const (.bool false)))] [])
 (.seq (.region [.op 0 (.buildSl 4 [.int .i64 0] 1 3 [(0, .const (.int .i64 4)), (1, .const (.int .i64 4)), (2, .const (.int .i64 2))]),
 .op 1 (.call 5 12 [.tmp 4]),
 .op 2 (.mov 1 (.tmp 5))] [])
 (.seq (.seq (.region [.op 0 (.mov 6 (.tmp 1)),
 .op 1 (.bin 7 .eql .ptr (.tmp 6) (.const (.nilPtr)))] [])
 (.cond (.tmp 7)
 (.seq (.region [.op 0 (.mov 0 (.const (.bool false)))] [])
 .ret)
 .skip))
 (.seq (.seq (.region [.op 0 (.mov 2 (.const (.int .i64 0)))] [])
 (.block 0 (.loop ⟨[1, 2], []⟩ [((.exit 0), ⟨[1], []⟩)]
 (.seq (.seq (.region [.op 0 (.mov 8 (.tmp 2)),
 .op 1 (.bin 9 .lss .plain (.tmp 8) (.const (.int .i64 17)))] [])
 (.cond (.tmp 9)
 .skip
 (.exit 0)))
 (.seq (.block 1 (.region [.op 0 (.mov 12 (.tmp 1)),
 .op 1 (.mov 13 (.tmp 2)),
 .op 2 (.bin 14 .add .plain (.const (.int .i64 97)) (.tmp 13)),
 .op 3 (.conv 15 (.toInt .i32) (.tmp 14)),
 .op 4 (.conv 16 .intStr (.tmp 15)),
 .op 5 (.build 17 [.str [], .str []] [(0, 1, .const (.str [97])), (1, 1, .tmp 16)]),
 .op 6 (.build 18 [.str [], .str [], .int .i64 0, .int .i64 0, .int .i64 0, .int .i64 0, .int .i64 0, .int .i64 0, .bool false] [(0, 2, .tmp 17)]),
 .op 7 (.buildSl 19 [.str [], .str [], .int .i64 0, .int .i64 0, .int .i64 0, .int .i64 0, .int .i64 0, .int .i64 0, .bool false] 9 1 [(0, .tmp 18)]),
 .op 8 (.call 20 13 [.tmp 12, .tmp 19])] []))
 (.region [.op 0 (.mov 10 (.tmp 2)),
 .op 1 (.bin 11 .add .plain (.tmp 10) (.const (.int .i64 1))),
 .op 2 (.mov 2 (.tmp 11))] []))))))
 (.seq (.region [.op 0 (.mov 21 (.tmp 1)),
 .op 1 (.call 22 14 [.tmp 21, .const (.int .i64 4)]),
 .op 2 (.mov 3 (.tmp 22))] [])
 (.seq (.region [.op 0 (.mov 23 (.tmp 1)),
 .op 1 (.call 24 16 [.tmp 23]),
 .op 2 (.bin 25 .eql .plain (.tmp 24) (.const (.int .i64 2))),
 .op 3 (.mov 26 (.tmp 25)),
 .guard 26 true [.op 4 (.mov 27 (.tmp 3)),
 .op 5 (.len 28 false (.tmp 27)),
 .op 6 (.bin 29 .eql .plain (.tmp 28) (.const (.int .i64 4)))] [] [29],
 .op 7 (.pick 30 (.tmp 26) (.tmp 29) (.const (.bool false))),
 .op 8 (.mov 31 (.tmp 30)),
 .guard 31 true [.op 9 (.mov 32 (.tmp 3)),
 .op 10 (.iaddr 33 none 9 (.tmp 32) (.const (.int .i64 0))),
 .op 11 (.faddr 34 0 (.tmp 33)),
 .op 12 (.faddr 35 1 (.tmp 34)),
 .op 13 (.load 36 false 1 (.tmp 35)),
 .op 14 (.bin 37 .eql .plain (.tmp 36) (.const (.str [98])))] [] [37],
 .op 15 (.pick 38 (.tmp 31) (.tmp 37) (.const (.bool false))),
 .op 16 (.mov 39 (.tmp 38)),
 .guard 39 true [.op 17 (.mov 40 (.tmp 1)),
 .op 18 (.call 41 17 [.tmp 40, .const (.int .i64 4)]),
 .op 19 (.bin 42 .eql .plain (.tmp 41) (.const (.int .i64 12)))] [] [42],
 .op 20 (.pick 43 (.tmp 39) (.tmp 42) (.const (.bool false))),
 .op 21 (.mov 44 (.tmp 43)),
 .guard 44 true [.op 22 (.mov 45 (.tmp 1)),
 .op 23 (.call 46 17 [.tmp 45, .const (.int .i64 2)]),
 .op 24 (.bin 47 .eql .plain (.tmp 46) (.const (.int .i64 16)))] [] [47],
 .op 25 (.pick 48 (.tmp 44) (.tmp 47) (.const (.bool false))),
 .op 26 (.mov 49 (.tmp 48)),
 .guard 49 true [.op 27 (.mov 50 (.tmp 1)),
 .op 28 (.call 51 14 [.tmp 50, .const (.int .i64 9)]),
 .op 29 (.len 52 false (.tmp 51)),
 .op 30 (.bin 53 .eql .plain (.tmp 52) (.const (.int .i64 0)))] [] [53],
 .op 31 (.pick 54 (.tmp 49) (.tmp 53) (.const (.bool false))),
 .op 32 (.mov 55 (.tmp 54)),
 .guard 55 true [.op 33 (.mov 56 (.tmp 1)),
 .op 34 (.call 57 17 [.tmp 56, .const (.int .i64 9)]),
 .op 35 (.bin 58 .eql .plain (.tmp 57) (.const (.int .i64 0)))] [] [58],
 .op 36 (.pick 59 (.tmp 55) (.tmp 58) (.const (.bool false))),
 .op 37 (.mov 0 (.tmp 59))] [])
 .ret)))))),
 [.tmp 0]⟩
theorem ok9 : funcOk Try.prog (drawOk Try.prog) Try.f9 A9 = true := by kernel_rfl
/-- xs: t1, t2 -/
noncomputable def L9_0 (call : Go.Fw.Call) (xs : List AVal) (h : Heap) : Option J :=
 (aBin .lss .plain (xs.getD 1 .undef) (.int .i64 17)).bind fun v4 =>
 condV v4
 ((aBin .add .plain (.int .i64 97) (xs.getD 1 .undef)).bind fun v5 =>
 (aConv (.toInt .i32) v5 h).bind fun r6 =>
 (aConv .intStr r6.1 r6.2).bind fun r7 =>
 (aFill [.str [], .str []] [(0, 1, (.str [97])), (1, 1, r7.1)]).bind fun c8 =>
 (aFill [.str [], .str [], .int .i64 0, .int .i64 0, .int .i64 0, .int .i64 0, .int .i64 0, .int .i64 0, .bool false] [(0, 2, (.agg c8))]).bind fun c9 =>
 (aFill (reps [.str [], .str [], .int .i64 0, .int .i64 0, .int .i64 0, .int .i64 0, .int .i64 0, .int .i64 0, .bool false] 1) [(0, 9, (.agg c9))]).bind fun c10 =>
 (call 13 [(xs.getD 0 .undef), (.slice r7.2.next 0 1 1 9 true)] (r7.2.alloc c10)).bind fun r11 =>
 (aBin .add .plain (xs.getD 1 .undef) (.int .i64 1)).bind fun v12 =>
 some (0, [(xs.getD 0 .undef), v12], r11.2))
 (some (1, [(xs.getD 0 .undef)], h))
noncomputable def S9 (call : Go.Fw.Call) (h : Heap) : Option J :=
 (aFill (reps [.int .i64 0] 3) [(0, 1, (.int .i64 4)), (1, 1, (.int .i64 4)), (2, 1, (.int .i64 2))]).bind fun c1 =>
 (call 12 [(.slice h.next 0 3 3 1 true)] (h.alloc c1)).bind fun r2 =>
 (aBin .eql .ptr r2.1 (.nilPtr)).bind fun v3 =>
 condV v3
 (some (0, [(.bool false)], r2.2))
 ((loop (L9_0 call) [r2.1, (.int .i64 0)] r2.2).bind fun x13 =>
 bif Nat.beq x13.1 1 then (call 14 [(x13.2.1.getD 0 .undef), (.int .i64 4)] x13.2.2).bind fun r14 =>
 (call 16 [(x13.2.1.getD 0 .undef)] r14.2).bind fun r15 =>
 (aBin .eql .plain r15.1 (.int .i64 2)).bind fun v16 =>
 (guardV v16 true
 ((aLen false r14.1).bind fun v17 =>
 (aBin .eql .plain v17 (.int .i64 4)).bind fun v18 =>
 some (0, [v18], r15.2))
 (some (0, [skipV], r15.2))).bind fun g19 =>
 (aPick v16 (g19.2.1.getD 0 .undef) (.bool false)).bind fun v20 =>
 (guardV v20 true
 ((aIaddr 9 r14.1 (.int .i64 0)).bind fun v21 =>
 (aFaddr 0 v21).bind fun v22 =>
 (aFaddr 1 v22).bind fun v23 =>
 (aLoad g19.2.2 1 v23).bind fun c24 =>
 (fromCells false c24).bind fun v25 =>
 (aBin .eql .plain v25 (.str [98])).bind fun v26 =>
 some (0, [v26], g19.2.2))
 (some (0, [skipV], g19.2.2))).bind fun g27 =>
 (aPick v20 (g27.2.1.getD 0 .undef) (.bool false)).bind fun v28 =>
 (guardV v28 true
 ((call 17 [(x13.2.1.getD 0 .undef), (.int .i64 4)] g27.2.2).bind fun r29 =>
 (aBin .eql .plain r29.1 (.int .i64 12)).bind fun v30 =>
 some (0, [v30], r29.2))
 (some (0, [skipV], g27.2.2))).bind fun g31 =>
 (aPick v28 (g31.2.1.getD 0 .undef) (.bool false)).bind fun v32 =>
 (guardV v32 true
 ((call 17 [(x13.2.1.getD 0 .undef), (.int .i64 2)] g31.2.2).bind fun r33 =>
 (aBin .eql .plain r33.1 (.int .i64 16)).bind fun v34 =>
 some (0, [v34], r33.2))
 (some (0, [skipV], g31.2.2))).bind fun g35 =>
 (aPick v32 (g35.2.1.getD 0 .undef) (.bool false)).bind fun v36 =>
 (guardV v36 true
 ((call 14 [(x13.2.1.getD 0 .undef), (.int .i64 9)] g35.2.2).bind fun r37 =>
 (aLen false r37.1).bind fun v38 =>
 (aBin .eql .plain v38 (.int .i64 0)).bind fun v39 =>
 some (0, [v39], r37.2))
 (some (0, [skipV], g35.2.2))).bind fun g40 =>
 (aPick v36 (g40.2.1.getD 0 .undef) (.bool false)).bind fun v41 =>
 (guardV v41 true
 ((call 17 [(x13.2.1.getD 0 .undef), (.int .i64 9)] g40.2.2).bind fun r42 =>
 (aBin .eql .plain r42.1 (.int .i64 0)).bind fun v43 =>
 some (0, [v43], r42.2))
 (some (0, [skipV], g40.2.2))).bind fun g44 =>
 (aPick v41 (g44.2.1.getD 0 .undef) (.bool false)).bind fun v45 =>
 some (0, [v45], g44.2.2) else
 none)
theorem run9 (call : Go.Fw.Call) (h : Heap) : runFn call (.code A9) [] h = (S9 call  h).bind ansOf := by kernel_rfl

/-- frankpledge/frankpledgebook.Within -/
noncomputable def A10 : AFunc := ⟨3, (.seq (.region [.op 0 (.mov 6 (.const (.int .i64 0)))] [])
 (.seq (.seq (.region [.op 0 (.mov 7 (.tmp 0)),
 .op 1 (.mov 8 (.tmp 1)),
 .op 2 (.bin 9 .geq .plain (.tmp 7) (.tmp 8)),
 .op 3 (.mov 10 (.tmp 9)),
 .guard 10 true [.op 4 (.mov 11 (.tmp 0)),
 .op 5 (.mov 12 (.tmp 2)),
 .op 6 (.bin 13 .leq .plain (.tmp 11) (.tmp 12))] [] [13],
 .op 7 (.pick 14 (.tmp 10) (.tmp 13) (.const (.bool false)))] [])
 (.cond (.tmp 14)
 (.seq (.region [.op 0 (.mov 15 (.tmp 0)),
 .op 1 (.mov 6 (.tmp 15))] [])
 .ret)
 .skip))
 (.seq (.region [.op 0 (.mov 16 (.tmp 0)),
 .op 1 (.mov 17 (.tmp 2)),
 .op 2 (.mov 18 (.tmp 1)),
 .op 3 (.bin 19 .sub .plain (.tmp 17) (.tmp 18)),
 .op 4 (.bin 20 .add .plain (.tmp 19) (.const (.int .i64 1))),
 .op 5 (.bin 21 .rem .plain (.tmp 16) (.tmp 20)),
 .op 6 (.mov 0 (.tmp 21))] [])
 (.seq (.seq (.region [.op 0 (.mov 22 (.tmp 0)),
 .op 1 (.bin 23 .lss .plain (.tmp 22) (.const (.int .i64 0)))] [])
 (.join [(.normal, ⟨[0, 1], []⟩)] (.cond (.tmp 23)
 (.region [.op 0 (.mov 24 (.tmp 0)),
 .op 1 (.mov 25 (.tmp 2)),
 .op 2 (.bin 26 .add .plain (.tmp 24) (.tmp 25)),
 .op 3 (.mov 27 (.tmp 1)),
 .op 4 (.bin 28 .sub .plain (.tmp 26) (.tmp 27)),
 .op 5 (.bin 29 .add .plain (.tmp 28) (.const (.int .i64 1))),
 .op 6 (.mov 0 (.tmp 29))] [])
 .skip)))
 (.seq (.region [.op 0 (.mov 30 (.tmp 1)),
 .op 1 (.mov 31 (.tmp 0)),
 .op 2 (.bin 32 .add .plain (.tmp 30) (.tmp 31)),
 .op 3 (.mov 6 (.tmp 32))] [])
 .ret))))),
 [.tmp 6]⟩
theorem ok10 : funcOk Try.prog (drawOk Try.prog) Try.f10 A10 = true := by kernel_rfl
noncomputable def S10 (call : Go.Fw.Call) (a0 a1 a2 : AVal) (h : Heap) : Option J :=
 (aBin .geq .plain a0 a1).bind fun v1 =>
 (guardV v1 true
 ((aBin .leq .plain a0 a2).bind fun v2 =>
 some (0, [v2], h))
 (some (0, [skipV], h))).bind fun g3 =>
 (aPick v1 (g3.2.1.getD 0 .undef) (.bool false)).bind fun v4 =>
 condV v4
 (some (0, [a0], g3.2.2))
 ((aBin .sub .plain a2 a1).bind fun v5 =>
 (aBin .add .plain v5 (.int .i64 1)).bind fun v6 =>
 (aBin .rem .plain a0 v6).bind fun v7 =>
 (aBin .lss .plain v7 (.int .i64 0)).bind fun v8 =>
 (condV v8
 ((aBin .add .plain v7 a2).bind fun v9 =>
 (aBin .sub .plain v9 a1).bind fun v10 =>
 (aBin .add .plain v10 (.int .i64 1)).bind fun v11 =>
 some (0, [v11, a1], g3.2.2))
 (some (0, [v7, a1], g3.2.2))).bind fun x12 =>
 bif Nat.beq x12.1 0 then (aBin .add .plain (x12.2.1.getD 1 .undef) (x12.2.1.getD 0 .undef)).bind fun v13 =>
 some (0, [v13], x12.2.2) else
 none)
theorem run10 (call : Go.Fw.Call) (a0 a1 a2 : AVal) (h : Heap) : runFn call (.code A10) [a0, a1, a2] h = (S10 call a0 a1 a2 h).bind ansOf := by kernel_rfl

/-- (*frankpledge/frankpledgekeep.Tape).Cards -/
noncomputable def A11 : AFunc := ⟨2, (.seq (.region [.op 0 (.mov 4 (.const (.nilSlice)))] [])
 (.seq (.region [.op 0 (.mov 5 (.const (.nilSlice)))] [])
 (.seq (.seq (.region [.op 0 (.mov 7 (.tmp 0)),
 .op 1 (.mov 8 (.tmp 1)),
 .op 2 (.bin 9 .add .plain (.tmp 8) (.const (.int .i64 1))),
 .op 3 (.call 10 19 [.tmp 7, .tmp 9]),
 .op 4 (.mov 6 (.tmp 10))] [])
 (.block 0 (.loop ⟨[0, 5, 6], []⟩ [((.exit 0), ⟨[5], []⟩)]
 (.seq (.seq (.region [.op 0 (.mov 11 (.tmp 6)),
 .op 1 (.bin 12 .gtr .plain (.tmp 11) (.const (.int .i64 0)))] [])
 (.cond (.tmp 12)
 .skip
 (.exit 0)))
 (.seq (.block 1 (.region [.op 0 (.mov 15 (.tmp 5)),
 .op 1 (.mov 16 (.tmp 0)),
 .op 2 (.call 17 22 [.tmp 16]),
 .op 3 (.buildSl 18 [.str [], .str [], .int .i64 0, .int .i64 0, .int .i64 0, .int .i64 0, .int .i64 0, .int .i64 0, .bool false] 9 1 [(0, .tmp 17)]),
 .op 4 (.append 19 9 88 [.str [], .str [], .int .i64 0, .int .i64 0, .int .i64 0, .int .i64 0, .int .i64 0, .int .i64 0, .bool false] false (.tmp 15) (.tmp 18)),
 .op 5 (.mov 5 (.tmp 19))] []))
 (.region [.op 0 (.mov 13 (.tmp 6)),
 .op 1 (.bin 14 .sub .plain (.tmp 13) (.const (.int .i64 1))),
 .op 2 (.mov 6 (.tmp 14))] []))))))
 (.seq (.region [.op 0 (.mov 20 (.tmp 5)),
 .op 1 (.mov 4 (.tmp 20))] [])
 .ret)))),
 [.tmp 4]⟩
theorem ok11 : funcOk Try.prog (drawOk Try.prog) Try.f11 A11 = true := by kernel_rfl
/-- xs: t0, t5, t6 -/
noncomputable def L11_0 (call : Go.Fw.Call) (xs : List AVal) (h : Heap) : Option J :=
 (aBin .gtr .plain (xs.getD 2 .undef) (.int .i64 0)).bind fun v3 =>
 condV v3
 ((call 22 [(xs.getD 0 .undef)] h).bind fun r4 =>
 (aFill (reps [.str [], .str [], .int .i64 0, .int .i64 0, .int .i64 0, .int .i64 0, .int .i64 0, .int .i64 0, .bool false] 1) [(0, 9, r4.1)]).bind fun c5 =>
 (aAppend 9 88 [.str [], .str [], .int .i64 0, .int .i64 0, .int .i64 0, .int .i64 0, .int .i64 0, .int .i64 0, .bool false] false (xs.getD 1 .undef) (.slice r4.2.next 0 1 1 9 true) (r4.2.alloc c5)).bind fun r6 =>
 (aBin .sub .plain (xs.getD 2 .undef) (.int .i64 1)).bind fun v7 =>
 some (0, [(xs.getD 0 .undef), r6.1, v7], r6.2))
 (some (1, [(xs.getD 1 .undef)], h))
noncomputable def S11 (call : Go.Fw.Call) (a0 a1 : AVal) (h : Heap) : Option J :=
 (aBin .add .plain a1 (.int .i64 1)).bind fun v1 =>
 (call 19 [a0, v1] h).bind fun r2 =>
 (loop (L11_0 call) [a0, (.nilSlice), r2.1] r2.2).bind fun x8 =>
 bif Nat.beq x8.1 1 then some (0, [(x8.2.1.getD 0 .undef)], x8.2.2) else
 none
theorem run11 (call : Go.Fw.Call) (a0 a1 : AVal) (h : Heap) : runFn call (.code A11) [a0, a1] h = (S11 call a0 a1 h).bind ansOf := by kernel_rfl

/-- frankpledge/queue.New -/
noncomputable def A12 : AFunc := ⟨1, (.seq (.region [.op 0 (.mov 2 (.const (.nilPtr)))] [])
 (.seq (.region [.op 0 (.build 6 [.nilSlice, .nilSlice, .int .i64 0] []),
 .op 1 (.box 7 false (.tmp 6)),
 .op 2 (.mov 3 (.tmp 7))] [])
 (.seq (.seq (.region [.op 0 (.mov 8 (.tmp 0)),
 .op 1 (.len 9 false (.tmp 8)),
 .op 2 (.mov 10 (.const (.int .i64 0)))] [])
 (.block 0 (.loop ⟨[3, 8, 9, 10], []⟩ [((.exit 0), ⟨[3], []⟩)]
 (.seq (.region [.op 0 (.bin 11 .lss .plain (.tmp 10) (.tmp 9))] [])
 (.seq (.cond (.tmp 11)
 .skip
 (.exit 0))
 (.seq (.block 1 (.seq (.region [.op 0 (.iaddr 12 none 1 (.tmp 8) (.tmp 10)),
 .op 1 (.load 13 false 1 (.tmp 12)),
 .op 2 (.mov 5 (.tmp 13))] [])
 (.seq (.region [.op 0 (.mov 14 (.tmp 3)),
 .op 1 (.nilchk 15 (.tmp 14)),
 .op 2 (.faddr 16 0 (.tmp 15)),
 .op 3 (.load 17 false 1 (.tmp 16)),
 .op 4 (.len 18 false (.tmp 17)),
 .op 5 (.bin 19 .lss .plain (.tmp 18) (.const (.int .i64 6))),
 .op 6 (.mov 20 (.tmp 19)),
 .guard 20 true [.op 7 (.mov 21 (.tmp 3)),
 .op 8 (.nilchk 22 (.tmp 21)),
 .op 9 (.faddr 23 0 (.tmp 22)),
 .op 10 (.load 24 false 1 (.tmp 23)),
 .op 11 (.mov 25 (.tmp 5)),
 .op 12 (.call 26 23 [.tmp 24, .tmp 25]),
 .op 13 (.un 27 .not (.tmp 26))] [] [27],
 .op 14 (.pick 28 (.tmp 20) (.tmp 27) (.const (.bool false)))] [])
 (.join [(.normal, ⟨[3, 8, 9, 10], []⟩)] (.cond (.tmp 28)
 (.region [.op 0 (.mov 29 (.tmp 3)),
 .op 1 (.mov 30 (.tmp 3)),
 .op 2 (.nilchk 31 (.tmp 30)),
 .op 3 (.faddr 32 0 (.tmp 31)),
 .op 4 (.load 33 false 1 (.tmp 32)),
 .op 5 (.mov 34 (.tmp 5)),
 .op 6 (.buildSl 35 [.int .i64 0] 1 1 [(0, .tmp 34)]),
 .op 7 (.append 36 1 8 [.int .i64 0] false (.tmp 33) (.tmp 35)),
 .op 8 (.nilchk 37 (.tmp 29)),
 .op 9 (.faddr 38 0 (.tmp 37)),
 .op 10 (.store false 1 (.tmp 38) (.tmp 36))] [])
 .skip)))))
 (.region [.op 0 (.bin 39 .add .plain (.tmp 10) (.const (.int .i64 1))),
 .op 1 (.mov 10 (.tmp 39))] [])))))))
 (.seq (.region [.op 0 (.mov 40 (.tmp 3)),
 .op 1 (.mov 41 (.tmp 3)),
 .op 2 (.nilchk 42 (.tmp 41)),
 .op 3 (.faddr 43 0 (.tmp 42)),
 .op 4 (.load 44 false 1 (.tmp 43)),
 .op 5 (.len 45 false (.tmp 44)),
 .op 6 (.mkSlice 46 1 24 [.nilSlice] (.tmp 45) (.tmp 45)),
 .op 7 (.nilchk 47 (.tmp 40)),
 .op 8 (.faddr 48 1 (.tmp 47)),
 .op 9 (.store false 1 (.tmp 48) (.tmp 46))] [])
 (.seq (.region [.op 0 (.mov 49 (.tmp 3)),
 .op 1 (.mov 2 (.tmp 49))] [])
 .ret))))),
 [.tmp 2]⟩
theorem ok12 : funcOk Try.prog (drawOk Try.prog) Try.f12 A12 = true := by kernel_rfl
/-- xs: t3, t8, t9, t10 -/
noncomputable def L12_0 (call : Go.Fw.Call) (xs : List AVal) (h : Heap) : Option J :=
 (aBin .lss .plain (xs.getD 3 .undef) (xs.getD 2 .undef)).bind fun v5 =>
 condV v5
 ((aIaddr 1 (xs.getD 1 .undef) (xs.getD 3 .undef)).bind fun v6 =>
 (aLoad h 1 v6).bind fun c7 =>
 (fromCells false c7).bind fun v8 =>
 (aNilchk (xs.getD 0 .undef)).bind fun v9 =>
 (aFaddr 0 v9).bind fun v10 =>
 (aLoad h 1 v10).bind fun c11 =>
 (fromCells false c11).bind fun v12 =>
 (aLen false v12).bind fun v13 =>
 (aBin .lss .plain v13 (.int .i64 6)).bind fun v14 =>
 (guardV v14 true
 ((aNilchk (xs.getD 0 .undef)).bind fun v15 =>
 (aFaddr 0 v15).bind fun v16 =>
 (aLoad h 1 v16).bind fun c17 =>
 (fromCells false c17).bind fun v18 =>
 (call 23 [v18, v8] h).bind fun r19 =>
 (aUn .not r19.1).bind fun v20 =>
 some (0, [v20], r19.2))
 (some (0, [skipV], h))).bind fun g21 =>
 (aPick v14 (g21.2.1.getD 0 .undef) (.bool false)).bind fun v22 =>
 (condV v22
 ((aNilchk (xs.getD 0 .undef)).bind fun v23 =>
 (aFaddr 0 v23).bind fun v24 =>
 (aLoad g21.2.2 1 v24).bind fun c25 =>
 (fromCells false c25).bind fun v26 =>
 (aFill (reps [.int .i64 0] 1) [(0, 1, v8)]).bind fun c27 =>
 (aAppend 1 8 [.int .i64 0] false v26 (.slice g21.2.2.next 0 1 1 1 true) (g21.2.2.alloc c27)).bind fun r28 =>
 (aNilchk (xs.getD 0 .undef)).bind fun v29 =>
 (aFaddr 0 v29).bind fun v30 =>
 (aCells 1 r28.1).bind fun c31 =>
 (aStore r28.2 v30 c31).bind fun h32 =>
 some (0, [(xs.getD 0 .undef), (xs.getD 1 .undef), (xs.getD 2 .undef), (xs.getD 3 .undef)], h32))
 (some (0, [(xs.getD 0 .undef), (xs.getD 1 .undef), (xs.getD 2 .undef), (xs.getD 3 .undef)], g21.2.2))).bind fun x33 =>
 bif Nat.beq x33.1 0 then (aBin .add .plain (x33.2.1.getD 3 .undef) (.int .i64 1)).bind fun v34 =>
 some (0, [(x33.2.1.getD 0 .undef), (x33.2.1.getD 1 .undef), (x33.2.1.getD 2 .undef), v34], x33.2.2) else
 none)
 (some (1, [(xs.getD 0 .undef)], h))
noncomputable def S12 (call : Go.Fw.Call) (a0 : AVal) (h : Heap) : Option J :=
 (aFill [.nilSlice, .nilSlice, .int .i64 0] []).bind fun c1 =>
 (AVal.cells? (.agg c1)).bind fun c2 =>
 (aLen false a0).bind fun v4 =>
 (loop (L12_0 call) [(.ptr h.next 0), a0, v4, (.int .i64 0)] (h.alloc c2)).bind fun x35 =>
 bif Nat.beq x35.1 1 then (aNilchk (x35.2.1.getD 0 .undef)).bind fun v36 =>
 (aFaddr 0 v36).bind fun v37 =>
 (aLoad x35.2.2 1 v37).bind fun c38 =>
 (fromCells false c38).bind fun v39 =>
 (aLen false v39).bind fun v40 =>
 (aMkSlice 1 24 [.nilSlice] v40 v40 x35.2.2).bind fun r41 =>
 (aNilchk (x35.2.1.getD 0 .undef)).bind fun v42 =>
 (aFaddr 1 v42).bind fun v43 =>
 (aCells 1 r41.1).bind fun c44 =>
 (aStore r41.2 v43 c44).bind fun h45 =>
 some (0, [(x35.2.1.getD 0 .undef)], h45) else
 none
theorem run12 (call : Go.Fw.Call) (a0 : AVal) (h : Heap) : runFn call (.code A12) [a0] h = (S12 call a0 h).bind ansOf := by kernel_rfl

/-- (*frankpledge/queue.Queue).Add -/
noncomputable def A13 : AFunc := ⟨2, (.seq (.region [.op 0 (.mov 7 (.tmp 1)),
 .op 1 (.len 8 false (.tmp 7)),
 .op 2 (.mov 9 (.const (.int .i64 0)))] [])
 (.block 0 (.loop ⟨[0, 7, 8, 9], []⟩ [((.exit 0), ⟨[], []⟩)]
 (.seq (.region [.op 0 (.bin 10 .lss .plain (.tmp 9) (.tmp 8))] [])
 (.seq (.cond (.tmp 10)
 .skip
 (.exit 0))
 (.seq (.block 1 (.seq (.region [.op 0 (.iaddr 11 none 9 (.tmp 7) (.tmp 9)),
 .op 1 (.load 12 true 9 (.tmp 11)),
 .op 2 (.alloc 5 true [.str [], .str [], .int .i64 0, .int .i64 0, .int .i64 0, .int .i64 0, .int .i64 0, .int .i64 0, .bool false]),
 .op 3 (.store true 9 (.tmp 5) (.tmp 12))] [])
 (.seq (.region [.op 0 (.mov 13 (.tmp 0)),
 .op 1 (.nilchk 14 (.tmp 13)),
 .op 2 (.faddr 15 1 (.tmp 14)),
 .op 3 (.load 16 false 1 (.tmp 15)),
 .op 4 (.len 17 false (.tmp 16)),
 .op 5 (.mov 18 (.const (.int .i64 0)))] [])
 (.block 2 (.loop ⟨[0, 7, 8, 9, 17, 18], [5]⟩ [((.exit 2), ⟨[0, 7, 8, 9], []⟩)]
 (.seq (.region [.op 0 (.bin 19 .lss .plain (.tmp 18) (.tmp 17))] [])
 (.seq (.cond (.tmp 19)
 .skip
 (.exit 2))
 (.seq (.block 3 (.seq (.region [.op 0 (.mov 20 (.tmp 18)),
 .op 1 (.mov 6 (.tmp 20))] [])
 (.region [.op 0 (.mov 21 (.tmp 0)),
 .op 1 (.mov 22 (.tmp 6)),
 .op 2 (.load 23 true 9 (.tmp 5)),
 .op 3 (.call 24 24 [.tmp 21, .tmp 22, .tmp 23])] [])))
 (.region [.op 0 (.bin 25 .add .plain (.tmp 18) (.const (.int .i64 1))),
 .op 1 (.mov 18 (.tmp 25))] [])))))))))
 (.region [.op 0 (.bin 26 .add .plain (.tmp 9) (.const (.int .i64 1))),
 .op 1 (.mov 9 (.tmp 26))] []))))))),
 []⟩
theorem ok13 : funcOk Try.prog (drawOk Try.prog) Try.f13 A13 = true := by kernel_rfl
/-- xs: t0, t7, t8, t9, t17, t18, cells of 5 -/
noncomputable def L13_1 (call : Go.Fw.Call) (xs : List AVal) (h : Heap) : Option J :=
 (aBin .lss .plain (xs.getD 5 .undef) (xs.getD 4 .undef)).bind fun v12 =>
 condV v12
 ((rdL (AVal.aggCells (xs.getD 6 .undef)) 0 9).bind fun c13 =>
 (fromCells true c13).bind fun v14 =>
 (call 24 [(xs.getD 0 .undef), (xs.getD 5 .undef), v14] h).bind fun r15 =>
 (aBin .add .plain (xs.getD 5 .undef) (.int .i64 1)).bind fun v16 =>
 some (0, [(xs.getD 0 .undef), (xs.getD 1 .undef), (xs.getD 2 .undef), (xs.getD 3 .undef), (xs.getD 4 .undef), v16, (.agg (AVal.aggCells (xs.getD 6 .undef)))], r15.2))
 (some (1, [(xs.getD 0 .undef), (xs.getD 1 .undef), (xs.getD 2 .undef), (xs.getD 3 .undef)], h))
/-- xs: t0, t7, t8, t9 -/
noncomputable def L13_0 (call : Go.Fw.Call) (xs : List AVal) (h : Heap) : Option J :=
 (aBin .lss .plain (xs.getD 3 .undef) (xs.getD 2 .undef)).bind fun v2 =>
 condV v2
 ((aIaddr 9 (xs.getD 1 .undef) (xs.getD 3 .undef)).bind fun v3 =>
 (aLoad h 9 v3).bind fun c4 =>
 (fromCells true c4).bind fun v5 =>
 (aCells 9 v5).bind fun c6 =>
 bif Nat.ble ((0) + 9) (List.length (α := AVal) [.str [], .str [], .int .i64 0, .int .i64 0, .int .i64 0, .int .i64 0, .int .i64 0, .int .i64 0, .bool false]) then (aNilchk (xs.getD 0 .undef)).bind fun v7 =>
 (aFaddr 1 v7).bind fun v8 =>
 (aLoad h 1 v8).bind fun c9 =>
 (fromCells false c9).bind fun v10 =>
 (aLen false v10).bind fun v11 =>
 (loop (L13_1 call) [(xs.getD 0 .undef), (xs.getD 1 .undef), (xs.getD 2 .undef), (xs.getD 3 .undef), v11, (.int .i64 0), (.agg (splice [.str [], .str [], .int .i64 0, .int .i64 0, .int .i64 0, .int .i64 0, .int .i64 0, .int .i64 0, .bool false] (0) c6))] h).bind fun x17 =>
 bif Nat.beq x17.1 1 then (aBin .add .plain (x17.2.1.getD 3 .undef) (.int .i64 1)).bind fun v18 =>
 some (0, [(x17.2.1.getD 0 .undef), (x17.2.1.getD 1 .undef), (x17.2.1.getD 2 .undef), v18], x17.2.2) else
 none else none)
 (some (1, [], h))
noncomputable def S13 (call : Go.Fw.Call) (a0 a1 : AVal) (h : Heap) : Option J :=
 (aLen false a1).bind fun v1 =>
 (loop (L13_0 call) [a0, a1, v1, (.int .i64 0)] h).bind fun x19 =>
 bif Nat.beq x19.1 1 then some (0, [.tuple []], x19.2.2) else
 none
theorem run13 (call : Go.Fw.Call) (a0 a1 : AVal) (h : Heap) : runFn call (.code A13) [a0, a1] h = (S13 call a0 a1 h).bind ansOf := by kernel_rfl

/-- (*frankpledge/queue.Queue).Take -/
noncomputable def A14 : AFunc := ⟨2, (.seq (.region [.op 0 (.mov 4 (.const (.nilSlice)))] [])
 (.seq (.region [.op 0 (.mov 8 (.tmp 0)),
 .op 1 (.nilchk 9 (.tmp 8)),
 .op 2 (.faddr 10 0 (.tmp 9)),
 .op 3 (.load 11 false 1 (.tmp 10)),
 .op 4 (.mov 12 (.tmp 1)),
 .op 5 (.call 13 25 [.tmp 11, .tmp 12]),
 .op 6 (.mov 5 (.tmp 13))] [])
 (.seq (.seq (.region [.op 0 (.mov 14 (.tmp 5)),
 .op 1 (.bin 15 .lss .plain (.tmp 14) (.const (.int .i64 0)))] [])
 (.cond (.tmp 15)
 (.seq (.region [.op 0 (.mov 4 (.const (.nilSlice)))] [])
 .ret)
 .skip))
 (.seq (.region [.op 0 (.mov 16 (.tmp 0)),
 .op 1 (.nilchk 17 (.tmp 16)),
 .op 2 (.faddr 18 1 (.tmp 17)),
 .op 3 (.load 19 false 1 (.tmp 18)),
 .op 4 (.mov 20 (.tmp 5)),
 .op 5 (.iaddr 21 none 1 (.tmp 19) (.tmp 20)),
 .op 6 (.load 22 false 1 (.tmp 21)),
 .op 7 (.len 23 false (.tmp 22)),
 .op 8 (.minmax 24 false [.tmp 23, .const (.int .i64 4)]),
 .op 9 (.mov 6 (.tmp 24))] [])
 (.seq (.region [.op 0 (.mov 25 (.tmp 0)),
 .op 1 (.nilchk 26 (.tmp 25)),
 .op 2 (.faddr 27 1 (.tmp 26)),
 .op 3 (.load 28 false 1 (.tmp 27)),
 .op 4 (.mov 29 (.tmp 5)),
 .op 5 (.iaddr 30 none 1 (.tmp 28) (.tmp 29)),
 .op 6 (.load 31 false 1 (.tmp 30)),
 .op 7 (.mov 32 (.tmp 6)),
 .op 8 (.slice 33 (.sl 9) (.tmp 31) none (some (.tmp 32)) none),
 .op 9 (.call 34 26 [.tmp 33]),
 .op 10 (.mov 7 (.tmp 34))] [])
 (.seq (.region [.op 0 (.mov 35 (.tmp 0)),
 .op 1 (.nilchk 36 (.tmp 35)),
 .op 2 (.faddr 37 1 (.tmp 36)),
 .op 3 (.load 38 false 1 (.tmp 37)),
 .op 4 (.mov 39 (.tmp 5)),
 .op 5 (.mov 40 (.tmp 0)),
 .op 6 (.nilchk 41 (.tmp 40)),
 .op 7 (.faddr 42 1 (.tmp 41)),
 .op 8 (.load 43 false 1 (.tmp 42)),
 .op 9 (.mov 44 (.tmp 5)),
 .op 10 (.iaddr 45 none 1 (.tmp 43) (.tmp 44)),
 .op 11 (.load 46 false 1 (.tmp 45)),
 .op 12 (.mov 47 (.tmp 6)),
 .op 13 (.call 48 27 [.tmp 46, .const (.int .i64 0), .tmp 47]),
 .op 14 (.iaddr 49 none 1 (.tmp 38) (.tmp 39)),
 .op 15 (.store false 1 (.tmp 49) (.tmp 48))] [(3, 13)])
 (.seq (.region [.op 0 (.mov 50 (.tmp 7)),
 .op 1 (.mov 4 (.tmp 50))] [])
 .ret))))))),
 [.tmp 4]⟩
theorem ok14 : funcOk Try.prog (drawOk Try.prog) Try.f14 A14 = true := by kernel_rfl
noncomputable def S14 (call : Go.Fw.Call) (a0 a1 : AVal) (h : Heap) : Option J :=
 (aNilchk a0).bind fun v1 =>
 (aFaddr 0 v1).bind fun v2 =>
 (aLoad h 1 v2).bind fun c3 =>
 (fromCells false c3).bind fun v4 =>
 (call 25 [v4, a1] h).bind fun r5 =>
 (aBin .lss .plain r5.1 (.int .i64 0)).bind fun v6 =>
 condV v6
 (some (0, [(.nilSlice)], r5.2))
 ((aNilchk a0).bind fun v7 =>
 (aFaddr 1 v7).bind fun v8 =>
 (aLoad r5.2 1 v8).bind fun c9 =>
 (fromCells false c9).bind fun v10 =>
 (aIaddr 1 v10 r5.1).bind fun v11 =>
 (aLoad r5.2 1 v11).bind fun c12 =>
 (fromCells false c12).bind fun v13 =>
 (aLen false v13).bind fun v14 =>
 (aMinMaxL false [v14, (.int .i64 4)]).bind fun v15 =>
 (aNilchk a0).bind fun v16 =>
 (aFaddr 1 v16).bind fun v17 =>
 (aLoad r5.2 1 v17).bind fun c18 =>
 (fromCells false c18).bind fun v19 =>
 (aIaddr 1 v19 r5.1).bind fun v20 =>
 (aLoad r5.2 1 v20).bind fun c21 =>
 (fromCells false c21).bind fun v22 =>
 (aSliceSl 9 v22 none (some v15) none).bind fun v23 =>
 (call 26 [v23] r5.2).bind fun r24 =>
 (aNilchk a0).bind fun v25 =>
 (aFaddr 1 v25).bind fun v26 =>
 (aLoad r24.2 1 v26).bind fun c27 =>
 (fromCells false c27).bind fun v28 =>
 (aNilchk a0).bind fun v29 =>
 (aFaddr 1 v29).bind fun v30 =>
 (aLoad r24.2 1 v30).bind fun c31 =>
 (fromCells false c31).bind fun v32 =>
 (aIaddr 1 v32 r5.1).bind fun v33 =>
 (aLoad r24.2 1 v33).bind fun c34 =>
 (fromCells false c34).bind fun v35 =>
 (call 27 [v35, (.int .i64 0), v15] r24.2).bind fun r36 =>
 (aIaddr 1 v28 r5.1).bind fun v37 =>
 (aCells 1 r36.1).bind fun c38 =>
 (aStore r36.2 v37 c38).bind fun h39 =>
 bif checkPairs [(13, some (.ef [] r24.2 [] r36.2)), (3, logRd v26 1)] [(3, 13)] then some (0, [r24.1], h39) else none)
theorem run14 (call : Go.Fw.Call) (a0 a1 : AVal) (h : Heap) : runFn call (.code A14) [a0, a1] h = (S14 call a0 a1 h).bind ansOf := by kernel_rfl

/-- frankpledge/frankpledgeref5.Same -/
noncomputable def A15 : AFunc := ⟨2, (.seq (.region [.op 0 (.mov 4 (.const (.bool false)))] [])
 (.seq (.seq (.region [.op 0 (.mov 6 (.tmp 0)),
 .op 1 (.len 7 false (.tmp 6)),
 .op 2 (.mov 8 (.tmp 1)),
 .op 3 (.len 9 false (.tmp 8)),
 .op 4 (.bin 10 .neq .plain (.tmp 7) (.tmp 9))] [])
 (.cond (.tmp 10)
 (.seq (.region [.op 0 (.mov 4 (.const (.bool false)))] [])
 .ret)
 .skip))
 (.seq (.seq (.region [.op 0 (.mov 11 (.tmp 0)),
 .op 1 (.len 12 false (.tmp 11)),
 .op 2 (.mov 13 (.const (.int .i64 0)))] [])
 (.block 0 (.loop ⟨[0, 1, 12, 13], []⟩ [((.exit 0), ⟨[], []⟩), (.ret, ⟨[4], []⟩)]
 (.seq (.region [.op 0 (.bin 14 .lss .plain (.tmp 13) (.tmp 12))] [])
 (.seq (.cond (.tmp 14)
 .skip
 (.exit 0))
 (.seq (.block 1 (.seq (.region [.op 0 (.mov 15 (.tmp 13)),
 .op 1 (.mov 5 (.tmp 15))] [])
 (.seq (.region [.op 0 (.mov 16 (.tmp 0)),
 .op 1 (.mov 17 (.tmp 5)),
 .op 2 (.iaddr 18 none 9 (.tmp 16) (.tmp 17)),
 .op 3 (.load 19 true 9 (.tmp 18)),
 .op 4 (.mov 20 (.tmp 1)),
 .op 5 (.mov 21 (.tmp 5)),
 .op 6 (.iaddr 22 none 9 (.tmp 20) (.tmp 21)),
 .op 7 (.load 23 true 9 (.tmp 22)),
 .op 8 (.bin 24 .neq (.cells [2, 2, 1, 1, 1, 1, 1, 1, 0]) (.tmp 19) (.tmp 23))] [])
 (.cond (.tmp 24)
 (.seq (.region [.op 0 (.mov 4 (.const (.bool false)))] [])
 .ret)
 .skip))))
 (.region [.op 0 (.bin 25 .add .plain (.tmp 13) (.const (.int .i64 1))),
 .op 1 (.mov 13 (.tmp 25))] [])))))))
 (.seq (.region [.op 0 (.mov 4 (.const (.bool true)))] [])
 .ret)))),
 [.tmp 4]⟩
theorem ok15 : funcOk Try.prog (drawOk Try.prog) Try.f15 A15 = true := by kernel_rfl
/-- xs: t0, t1, t12, t13 -/
noncomputable def L15_0 (call : Go.Fw.Call) (xs : List AVal) (h : Heap) : Option J :=
 (aBin .lss .plain (xs.getD 3 .undef) (xs.getD 2 .undef)).bind fun v5 =>
 condV v5
 ((aIaddr 9 (xs.getD 0 .undef) (xs.getD 3 .undef)).bind fun v6 =>
 (aLoad h 9 v6).bind fun c7 =>
 (fromCells true c7).bind fun v8 =>
 (aIaddr 9 (xs.getD 1 .undef) (xs.getD 3 .undef)).bind fun v9 =>
 (aLoad h 9 v9).bind fun c10 =>
 (fromCells true c10).bind fun v11 =>
 (aBin .neq (.cells [2, 2, 1, 1, 1, 1, 1, 1, 0]) v8 v11).bind fun v12 =>
 condV v12
 (some (2, [(.bool false)], h))
 ((aBin .add .plain (xs.getD 3 .undef) (.int .i64 1)).bind fun v13 =>
 some (0, [(xs.getD 0 .undef), (xs.getD 1 .undef), (xs.getD 2 .undef), v13], h)))
 (some (1, [], h))
noncomputable def S15 (call : Go.Fw.Call) (a0 a1 : AVal) (h : Heap) : Option J :=
 (aLen false a0).bind fun v1 =>
 (aLen false a1).bind fun v2 =>
 (aBin .neq .plain v1 v2).bind fun v3 =>
 condV v3
 (some (0, [(.bool false)], h))
 ((aLen false a0).bind fun v4 =>
 (loop (L15_0 call) [a0, a1, v4, (.int .i64 0)] h).bind fun x14 =>
 bif Nat.beq x14.1 1 then some (0, [(.bool true)], x14.2.2) else
 bif Nat.beq x14.1 2 then some (0, [(x14.2.1.getD 0 .undef)], x14.2.2) else
 none)
theorem run15 (call : Go.Fw.Call) (a0 a1 : AVal) (h : Heap) : runFn call (.code A15) [a0, a1] h = (S15 call a0 a1 h).bind ansOf := by kernel_rfl

/-- (*frankpledge/queue.Queue).Lost -/
noncomputable def A16 : AFunc := ⟨1, (.seq (.region [.op 0 (.mov 2 (.const (.int .i64 0)))] [])
 (.seq (.region [.op 0 (.mov 3 (.tmp 0)),
 .op 1 (.nilchk 4 (.tmp 3)),
 .op 2 (.faddr 5 2 (.tmp 4)),
 .op 3 (.load 6 false 1 (.tmp 5)),
 .op 4 (.mov 2 (.tmp 6))] [])
 .ret)),
 [.tmp 2]⟩
theorem ok16 : funcOk Try.prog (drawOk Try.prog) Try.f16 A16 = true := by kernel_rfl
noncomputable def S16 (call : Go.Fw.Call) (a0 : AVal) (h : Heap) : Option J :=
 (aNilchk a0).bind fun v1 =>
 (aFaddr 2 v1).bind fun v2 =>
 (aLoad h 1 v2).bind fun c3 =>
 (fromCells false c3).bind fun v4 =>
 some (0, [v4], h)
theorem run16 (call : Go.Fw.Call) (a0 : AVal) (h : Heap) : runFn call (.code A16) [a0] h = (S16 call a0 h).bind ansOf := by kernel_rfl

/-- (*frankpledge/queue.Queue).Len -/
noncomputable def A17 : AFunc := ⟨2, (.seq (.region [.op 0 (.mov 4 (.const (.int .i64 0)))] [])
 (.seq (.region [.op 0 (.mov 6 (.tmp 0)),
 .op 1 (.nilchk 7 (.tmp 6)),
 .op 2 (.faddr 8 0 (.tmp 7)),
 .op 3 (.load 9 false 1 (.tmp 8)),
 .op 4 (.mov 10 (.tmp 1)),
 .op 5 (.call 11 25 [.tmp 9, .tmp 10]),
 .op 6 (.mov 5 (.tmp 11))] [])
 (.seq (.seq (.region [.op 0 (.mov 12 (.tmp 5)),
 .op 1 (.bin 13 .lss .plain (.tmp 12) (.const (.int .i64 0)))] [])
 (.cond (.tmp 13)
 (.seq (.region [.op 0 (.mov 4 (.const (.int .i64 0)))] [])
 .ret)
 .skip))
 (.seq (.region [.op 0 (.mov 14 (.tmp 0)),
 .op 1 (.nilchk 15 (.tmp 14)),
 .op 2 (.faddr 16 1 (.tmp 15)),
 .op 3 (.load 17 false 1 (.tmp 16)),
 .op 4 (.mov 18 (.tmp 5)),
 .op 5 (.iaddr 19 none 1 (.tmp 17) (.tmp 18)),
 .op 6 (.load 20 false 1 (.tmp 19)),
 .op 7 (.len 21 false (.tmp 20)),
 .op 8 (.mov 4 (.tmp 21))] [])
 .ret)))),
 [.tmp 4]⟩
theorem ok17 : funcOk Try.prog (drawOk Try.prog) Try.f17 A17 = true := by kernel_rfl
noncomputable def S17 (call : Go.Fw.Call) (a0 a1 : AVal) (h : Heap) : Option J :=
 (aNilchk a0).bind fun v1 =>
 (aFaddr 0 v1).bind fun v2 =>
 (aLoad h 1 v2).bind fun c3 =>
 (fromCells false c3).bind fun v4 =>
 (call 25 [v4, a1] h).bind fun r5 =>
 (aBin .lss .plain r5.1 (.int .i64 0)).bind fun v6 =>
 condV v6
 (some (0, [(.int .i64 0)], r5.2))
 ((aNilchk a0).bind fun v7 =>
 (aFaddr 1 v7).bind fun v8 =>
 (aLoad r5.2 1 v8).bind fun c9 =>
 (fromCells false c9).bind fun v10 =>
 (aIaddr 1 v10 r5.1).bind fun v11 =>
 (aLoad r5.2 1 v11).bind fun c12 =>
 (fromCells false c12).bind fun v13 =>
 (aLen false v13).bind fun v14 =>
 some (0, [v14], r5.2))
theorem run17 (call : Go.Fw.Call) (a0 a1 : AVal) (h : Heap) : runFn call (.code A17) [a0, a1] h = (S17 call a0 a1 h).bind ansOf := by kernel_rfl

/-- frankpledge/frankpledgeref16.NewQueue -/
noncomputable def A18 : AFunc := ⟨1, (.seq (.region [.op 0 (.mov 2 (.const (.nilPtr)))] [])
 (.seq (.region [.op 0 (.build 6 [.nilSlice, .nilSlice, .int .i64 0] []),
 .op 1 (.box 7 false (.tmp 6)),
 .op 2 (.mov 3 (.tmp 7))] [])
 (.seq (.seq (.region [.op 0 (.mov 8 (.tmp 0)),
 .op 1 (.len 9 false (.tmp 8)),
 .op 2 (.mov 10 (.const (.int .i64 0)))] [])
 (.block 0 (.loop ⟨[3, 8, 9, 10], []⟩ [((.exit 0), ⟨[3], []⟩)]
 (.seq (.region [.op 0 (.bin 11 .lss .plain (.tmp 10) (.tmp 9))] [])
 (.seq (.cond (.tmp 11)
 .skip
 (.exit 0))
 (.seq (.block 1 (.seq (.region [.op 0 (.iaddr 12 none 1 (.tmp 8) (.tmp 10)),
 .op 1 (.load 13 false 1 (.tmp 12)),
 .op 2 (.mov 5 (.tmp 13))] [])
 (.seq (.region [.op 0 (.mov 14 (.tmp 3)),
 .op 1 (.mov 15 (.tmp 5)),
 .op 2 (.call 16 28 [.tmp 14, .tmp 15]),
 .op 3 (.bin 17 .lss .plain (.tmp 16) (.const (.int .i64 0))),
 .op 4 (.mov 18 (.tmp 17)),
 .guard 18 true [.op 5 (.mov 19 (.tmp 3)),
 .op 6 (.nilchk 20 (.tmp 19)),
 .op 7 (.faddr 21 0 (.tmp 20)),
 .op 8 (.load 22 false 1 (.tmp 21)),
 .op 9 (.len 23 false (.tmp 22)),
 .op 10 (.bin 24 .lss .plain (.tmp 23) (.const (.int .i64 6)))] [] [24],
 .op 11 (.pick 25 (.tmp 18) (.tmp 24) (.const (.bool false)))] [])
 (.join [(.normal, ⟨[3, 8, 9, 10], []⟩)] (.cond (.tmp 25)
 (.region [.op 0 (.mov 26 (.tmp 3)),
 .op 1 (.mov 27 (.tmp 3)),
 .op 2 (.nilchk 28 (.tmp 27)),
 .op 3 (.faddr 29 0 (.tmp 28)),
 .op 4 (.load 30 false 1 (.tmp 29)),
 .op 5 (.mov 31 (.tmp 5)),
 .op 6 (.buildSl 32 [.int .i64 0] 1 1 [(0, .tmp 31)]),
 .op 7 (.append 33 1 8 [.int .i64 0] false (.tmp 30) (.tmp 32)),
 .op 8 (.nilchk 34 (.tmp 26)),
 .op 9 (.faddr 35 0 (.tmp 34)),
 .op 10 (.store false 1 (.tmp 35) (.tmp 33))] [])
 .skip)))))
 (.region [.op 0 (.bin 36 .add .plain (.tmp 10) (.const (.int .i64 1))),
 .op 1 (.mov 10 (.tmp 36))] [])))))))
 (.seq (.region [.op 0 (.mov 37 (.tmp 3)),
 .op 1 (.mov 38 (.tmp 3)),
 .op 2 (.nilchk 39 (.tmp 38)),
 .op 3 (.faddr 40 0 (.tmp 39)),
 .op 4 (.load 41 false 1 (.tmp 40)),
 .op 5 (.len 42 false (.tmp 41)),
 .op 6 (.mkSlice 43 1 24 [.nilSlice] (.tmp 42) (.tmp 42)),
 .op 7 (.nilchk 44 (.tmp 37)),
 .op 8 (.faddr 45 1 (.tmp 44)),
 .op 9 (.store false 1 (.tmp 45) (.tmp 43))] [])
 (.seq (.region [.op 0 (.mov 46 (.tmp 3)),
 .op 1 (.mov 2 (.tmp 46))] [])
 .ret))))),
 [.tmp 2]⟩
theorem ok18 : funcOk Try.prog (drawOk Try.prog) Try.f18 A18 = true := by kernel_rfl
/-- xs: t3, t8, t9, t10 -/
noncomputable def L18_0 (call : Go.Fw.Call) (xs : List AVal) (h : Heap) : Option J :=
 (aBin .lss .plain (xs.getD 3 .undef) (xs.getD 2 .undef)).bind fun v5 =>
 condV v5
 ((aIaddr 1 (xs.getD 1 .undef) (xs.getD 3 .undef)).bind fun v6 =>
 (aLoad h 1 v6).bind fun c7 =>
 (fromCells false c7).bind fun v8 =>
 (call 28 [(xs.getD 0 .undef), v8] h).bind fun r9 =>
 (aBin .lss .plain r9.1 (.int .i64 0)).bind fun v10 =>
 (guardV v10 true
 ((aNilchk (xs.getD 0 .undef)).bind fun v11 =>
 (aFaddr 0 v11).bind fun v12 =>
 (aLoad r9.2 1 v12).bind fun c13 =>
 (fromCells false c13).bind fun v14 =>
 (aLen false v14).bind fun v15 =>
 (aBin .lss .plain v15 (.int .i64 6)).bind fun v16 =>
 some (0, [v16], r9.2))
 (some (0, [skipV], r9.2))).bind fun g17 =>
 (aPick v10 (g17.2.1.getD 0 .undef) (.bool false)).bind fun v18 =>
 (condV v18
 ((aNilchk (xs.getD 0 .undef)).bind fun v19 =>
 (aFaddr 0 v19).bind fun v20 =>
 (aLoad g17.2.2 1 v20).bind fun c21 =>
 (fromCells false c21).bind fun v22 =>
 (aFill (reps [.int .i64 0] 1) [(0, 1, v8)]).bind fun c23 =>
 (aAppend 1 8 [.int .i64 0] false v22 (.slice g17.2.2.next 0 1 1 1 true) (g17.2.2.alloc c23)).bind fun r24 =>
 (aNilchk (xs.getD 0 .undef)).bind fun v25 =>
 (aFaddr 0 v25).bind fun v26 =>
 (aCells 1 r24.1).bind fun c27 =>
 (aStore r24.2 v26 c27).bind fun h28 =>
 some (0, [(xs.getD 0 .undef), (xs.getD 1 .undef), (xs.getD 2 .undef), (xs.getD 3 .undef)], h28))
 (some (0, [(xs.getD 0 .undef), (xs.getD 1 .undef), (xs.getD 2 .undef), (xs.getD 3 .undef)], g17.2.2))).bind fun x29 =>
 bif Nat.beq x29.1 0 then (aBin .add .plain (x29.2.1.getD 3 .undef) (.int .i64 1)).bind fun v30 =>
 some (0, [(x29.2.1.getD 0 .undef), (x29.2.1.getD 1 .undef), (x29.2.1.getD 2 .undef), v30], x29.2.2) else
 none)
 (some (1, [(xs.getD 0 .undef)], h))
noncomputable def S18 (call : Go.Fw.Call) (a0 : AVal) (h : Heap) : Option J :=
 (aFill [.nilSlice, .nilSlice, .int .i64 0] []).bind fun c1 =>
 (AVal.cells? (.agg c1)).bind fun c2 =>
 (aLen false a0).bind fun v4 =>
 (loop (L18_0 call) [(.ptr h.next 0), a0, v4, (.int .i64 0)] (h.alloc c2)).bind fun x31 =>
 bif Nat.beq x31.1 1 then (aNilchk (x31.2.1.getD 0 .undef)).bind fun v32 =>
 (aFaddr 0 v32).bind fun v33 =>
 (aLoad x31.2.2 1 v33).bind fun c34 =>
 (fromCells false c34).bind fun v35 =>
 (aLen false v35).bind fun v36 =>
 (aMkSlice 1 24 [.nilSlice] v36 v36 x31.2.2).bind fun r37 =>
 (aNilchk (x31.2.1.getD 0 .undef)).bind fun v38 =>
 (aFaddr 1 v38).bind fun v39 =>
 (aCells 1 r37.1).bind fun c40 =>
 (aStore r37.2 v39 c40).bind fun h41 =>
 some (0, [(x31.2.1.getD 0 .undef)], h41) else
 none
theorem run18 (call : Go.Fw.Call) (a0 : AVal) (h : Heap) : runFn call (.code A18) [a0] h = (S18 call a0 h).bind ansOf := by kernel_rfl

/-- (*frankpledge/frankpledgekeep.Tape).Next -/
noncomputable def A19 : AFunc := ⟨2, (.seq (.region [.op 0 (.mov 4 (.const (.int .i64 0)))] [])
 (.seq (.seq (.region [.op 0 (.mov 5 (.tmp 0)),
 .op 1 (.nilchk 6 (.tmp 5)),
 .op 2 (.faddr 7 1 (.tmp 6)),
 .op 3 (.load 8 false 1 (.tmp 7)),
 .op 4 (.mov 9 (.tmp 0)),
 .op 5 (.nilchk 10 (.tmp 9)),
 .op 6 (.faddr 11 0 (.tmp 10)),
 .op 7 (.load 12 false 1 (.tmp 11)),
 .op 8 (.len 13 false (.tmp 12)),
 .op 9 (.bin 14 .geq .plain (.tmp 8) (.tmp 13)),
 .op 10 (.mov 15 (.tmp 14)),
 .guard 15 false [.op 11 (.mov 16 (.tmp 1)),
 .op 12 (.bin 17 .lss .plain (.tmp 16) (.const (.int .i64 1)))] [] [17],
 .op 13 (.pick 18 (.tmp 15) (.const (.bool true)) (.tmp 17))] [])
 (.cond (.tmp 18)
 (.seq (.region [.op 0 (.mov 4 (.const (.int .i64 0)))] [])
 .ret)
 .skip))
 (.seq (.region [.op 0 (.mov 19 (.tmp 0)),
 .op 1 (.nilchk 20 (.tmp 19)),
 .op 2 (.faddr 21 1 (.tmp 20)),
 .op 3 (.load 22 false 1 (.tmp 21)),
 .op 4 (.bin 23 .add .plain (.tmp 22) (.const (.int .i64 1))),
 .op 5 (.nilchk 24 (.tmp 19)),
 .op 6 (.faddr 25 1 (.tmp 24)),
 .op 7 (.store false 1 (.tmp 25) (.tmp 23))] [])
 (.seq (.region [.op 0 (.mov 26 (.tmp 0)),
 .op 1 (.nilchk 27 (.tmp 26)),
 .op 2 (.faddr 28 0 (.tmp 27)),
 .op 3 (.load 29 false 1 (.tmp 28)),
 .op 4 (.mov 30 (.tmp 0)),
 .op 5 (.nilchk 31 (.tmp 30)),
 .op 6 (.faddr 32 1 (.tmp 31)),
 .op 7 (.load 33 false 1 (.tmp 32)),
 .op 8 (.bin 34 .sub .plain (.tmp 33) (.const (.int .i64 1))),
 .op 9 (.iaddr 35 none 1 (.tmp 29) (.tmp 34)),
 .op 10 (.load 36 false 1 (.tmp 35)),
 .op 11 (.call 37 10 [.tmp 36, .const (.int .i64 0), .const (.int .i64 1073741824)]),
 .op 12 (.mov 38 (.tmp 1)),
 .op 13 (.bin 39 .rem .plain (.tmp 37) (.tmp 38)),
 .op 14 (.mov 4 (.tmp 39))] [])
 .ret)))),
 [.tmp 4]⟩
theorem ok19 : funcOk Try.prog (drawOk Try.prog) Try.f19 A19 = true := by kernel_rfl
noncomputable def S19 (call : Go.Fw.Call) (a0 a1 : AVal) (h : Heap) : Option J :=
 (aNilchk a0).bind fun v1 =>
 (aFaddr 1 v1).bind fun v2 =>
 (aLoad h 1 v2).bind fun c3 =>
 (fromCells false c3).bind fun v4 =>
 (aNilchk a0).bind fun v5 =>
 (aFaddr 0 v5).bind fun v6 =>
 (aLoad h 1 v6).bind fun c7 =>
 (fromCells false c7).bind fun v8 =>
 (aLen false v8).bind fun v9 =>
 (aBin .geq .plain v4 v9).bind fun v10 =>
 (guardV v10 false
 ((aBin .lss .plain a1 (.int .i64 1)).bind fun v11 =>
 some (0, [v11], h))
 (some (0, [skipV], h))).bind fun g12 =>
 (aPick v10 (.bool true) (g12.2.1.getD 0 .undef)).bind fun v13 =>
 condV v13
 (some (0, [(.int .i64 0)], g12.2.2))
 ((aNilchk a0).bind fun v14 =>
 (aFaddr 1 v14).bind fun v15 =>
 (aLoad g12.2.2 1 v15).bind fun c16 =>
 (fromCells false c16).bind fun v17 =>
 (aBin .add .plain v17 (.int .i64 1)).bind fun v18 =>
 (aNilchk a0).bind fun v19 =>
 (aFaddr 1 v19).bind fun v20 =>
 (aCells 1 v18).bind fun c21 =>
 (aStore g12.2.2 v20 c21).bind fun h22 =>
 (aNilchk a0).bind fun v23 =>
 (aFaddr 0 v23).bind fun v24 =>
 (aLoad h22 1 v24).bind fun c25 =>
 (fromCells false c25).bind fun v26 =>
 (aNilchk a0).bind fun v27 =>
 (aFaddr 1 v27).bind fun v28 =>
 (aLoad h22 1 v28).bind fun c29 =>
 (fromCells false c29).bind fun v30 =>
 (aBin .sub .plain v30 (.int .i64 1)).bind fun v31 =>
 (aIaddr 1 v26 v31).bind fun v32 =>
 (aLoad h22 1 v32).bind fun c33 =>
 (fromCells false c33).bind fun v34 =>
 (call 10 [v34, (.int .i64 0), (.int .i64 1073741824)] h22).bind fun r35 =>
 (aBin .rem .plain r35.1 a1).bind fun v36 =>
 some (0, [v36], r35.2))
theorem run19 (call : Go.Fw.Call) (a0 a1 : AVal) (h : Heap) : runFn call (.code A19) [a0, a1] h = (S19 call a0 a1 h).bind ansOf := by kernel_rfl

/-- (*frankpledge/frankpledgeref16.Queue).Add -/
noncomputable def A20 : AFunc := ⟨2, (.seq (.region [.op 0 (.mov 10 (.tmp 1)),
 .op 1 (.len 11 false (.tmp 10)),
 .op 2 (.mov 12 (.const (.int .i64 0)))] [])
 (.block 0 (.loop ⟨[0, 10, 11, 12], []⟩ [((.exit 0), ⟨[], []⟩)]
 (.seq (.region [.op 0 (.bin 13 .lss .plain (.tmp 12) (.tmp 11))] [])
 (.seq (.cond (.tmp 13)
 .skip
 (.exit 0))
 (.seq (.block 1 (.seq (.region [.op 0 (.iaddr 14 none 9 (.tmp 10) (.tmp 12)),
 .op 1 (.load 15 true 9 (.tmp 14)),
 .op 2 (.alloc 5 true [.str [], .str [], .int .i64 0, .int .i64 0, .int .i64 0, .int .i64 0, .int .i64 0, .int .i64 0, .bool false]),
 .op 3 (.store true 9 (.tmp 5) (.tmp 15))] [])
 (.seq (.region [.op 0 (.mov 16 (.tmp 0)),
 .op 1 (.nilchk 17 (.tmp 16)),
 .op 2 (.faddr 18 1 (.tmp 17)),
 .op 3 (.load 19 false 1 (.tmp 18)),
 .op 4 (.len 20 false (.tmp 19)),
 .op 5 (.mov 21 (.const (.int .i64 0)))] [])
 (.block 2 (.loop ⟨[0, 10, 11, 12, 20, 21], [5]⟩ [((.exit 2), ⟨[0, 10, 11, 12], []⟩)]
 (.seq (.region [.op 0 (.bin 22 .lss .plain (.tmp 21) (.tmp 20))] [])
 (.seq (.cond (.tmp 22)
 .skip
 (.exit 2))
 (.seq (.block 3 (.seq (.region [.op 0 (.mov 23 (.tmp 21)),
 .op 1 (.mov 6 (.tmp 23))] [])
 (.seq (.region [.op 0 (.mov 7 (.const (.nilSlice)))] [])
 (.seq (.seq (.region [.op 0 (.mov 24 (.tmp 0)),
 .op 1 (.nilchk 25 (.tmp 24)),
 .op 2 (.faddr 26 1 (.tmp 25)),
 .op 3 (.load 27 false 1 (.tmp 26)),
 .op 4 (.mov 28 (.tmp 6)),
 .op 5 (.iaddr 29 none 1 (.tmp 27) (.tmp 28)),
 .op 6 (.load 30 false 1 (.tmp 29)),
 .op 7 (.len 31 false (.tmp 30)),
 .op 8 (.mov 32 (.const (.int .i64 0)))] [])
 (.block 4 (.loop ⟨[0, 6, 7, 10, 11, 12, 20, 21, 30, 31, 32], [5]⟩ [((.exit 4), ⟨[0, 6, 7, 10, 11, 12, 20, 21], [5]⟩)]
 (.seq (.region [.op 0 (.bin 33 .lss .plain (.tmp 32) (.tmp 31))] [])
 (.seq (.cond (.tmp 33)
 .skip
 (.exit 4))
 (.seq (.block 5 (.seq (.region [.op 0 (.iaddr 34 none 9 (.tmp 30) (.tmp 32)),
 .op 1 (.load 35 true 9 (.tmp 34)),
 .op 2 (.alloc 9 true [.str [], .str [], .int .i64 0, .int .i64 0, .int .i64 0, .int .i64 0, .int .i64 0, .int .i64 0, .bool false]),
 .op 3 (.store true 9 (.tmp 9) (.tmp 35))] [])
 (.seq (.region [.op 0 (.faddr 36 0 (.tmp 9)),
 .op 1 (.load 37 true 2 (.tmp 36)),
 .op 2 (.faddr 38 0 (.tmp 5)),
 .op 3 (.load 39 true 2 (.tmp 38)),
 .op 4 (.bin 40 .neq (.cells [2, 2]) (.tmp 37) (.tmp 39))] [])
 (.join [(.normal, ⟨[0, 6, 7, 10, 11, 12, 20, 21, 30, 31, 32], [5]⟩)] (.cond (.tmp 40)
 (.region [.op 0 (.mov 41 (.tmp 7)),
 .op 1 (.load 42 true 9 (.tmp 9)),
 .op 2 (.buildSl 43 [.str [], .str [], .int .i64 0, .int .i64 0, .int .i64 0, .int .i64 0, .int .i64 0, .int .i64 0, .bool false] 9 1 [(0, .tmp 42)]),
 .op 3 (.append 44 9 88 [.str [], .str [], .int .i64 0, .int .i64 0, .int .i64 0, .int .i64 0, .int .i64 0, .int .i64 0, .bool false] false (.tmp 41) (.tmp 43)),
 .op 4 (.mov 7 (.tmp 44))] [])
 .skip)))))
 (.region [.op 0 (.bin 45 .add .plain (.tmp 32) (.const (.int .i64 1))),
 .op 1 (.mov 32 (.tmp 45))] [])))))))
 (.seq (.region [.op 0 (.mov 46 (.tmp 7)),
 .op 1 (.load 47 true 9 (.tmp 5)),
 .op 2 (.buildSl 48 [.str [], .str [], .int .i64 0, .int .i64 0, .int .i64 0, .int .i64 0, .int .i64 0, .int .i64 0, .bool false] 9 1 [(0, .tmp 47)]),
 .op 3 (.append 49 9 88 [.str [], .str [], .int .i64 0, .int .i64 0, .int .i64 0, .int .i64 0, .int .i64 0, .int .i64 0, .bool false] false (.tmp 46) (.tmp 48)),
 .op 4 (.mov 7 (.tmp 49))] [])
 (.seq (.seq (.region [.op 0 (.mov 50 (.tmp 7)),
 .op 1 (.len 51 false (.tmp 50)),
 .op 2 (.bin 52 .gtr .plain (.tmp 51) (.const (.int .i64 16)))] [])
 (.join [(.normal, ⟨[0, 6, 7, 10, 11, 12, 20, 21], [5]⟩)] (.cond (.tmp 52)
 (.seq (.region [.op 0 (.mov 53 (.tmp 7)),
 .op 1 (.slice 54 (.sl 9) (.tmp 53) (some (.const (.int .i64 1))) none none),
 .op 2 (.mov 7 (.tmp 54))] [])
 (.region [.op 0 (.mov 55 (.tmp 0)),
 .op 1 (.nilchk 56 (.tmp 55)),
 .op 2 (.faddr 57 2 (.tmp 56)),
 .op 3 (.load 58 false 1 (.tmp 57)),
 .op 4 (.bin 59 .add .plain (.tmp 58) (.const (.int .i64 1))),
 .op 5 (.nilchk 60 (.tmp 55)),
 .op 6 (.faddr 61 2 (.tmp 60)),
 .op 7 (.store false 1 (.tmp 61) (.tmp 59))] []))
 .skip)))
 (.region [.op 0 (.mov 62 (.tmp 0)),
 .op 1 (.nilchk 63 (.tmp 62)),
 .op 2 (.faddr 64 1 (.tmp 63)),
 .op 3 (.load 65 false 1 (.tmp 64)),
 .op 4 (.mov 66 (.tmp 6)),
 .op 5 (.mov 67 (.tmp 7)),
 .op 6 (.iaddr 68 none 1 (.tmp 65) (.tmp 66)),
 .op 7 (.store false 1 (.tmp 68) (.tmp 67))] [])))))))
 (.region [.op 0 (.bin 69 .add .plain (.tmp 21) (.const (.int .i64 1))),
 .op 1 (.mov 21 (.tmp 69))] [])))))))))
 (.region [.op 0 (.bin 70 .add .plain (.tmp 12) (.const (.int .i64 1))),
 .op 1 (.mov 12 (.tmp 70))] []))))))),
 []⟩
theorem ok20 : funcOk Try.prog (drawOk Try.prog) Try.f20 A20 = true := by kernel_rfl
/-- xs: t0, t6, t7, t10, t11, t12, t20, t21, t30, t31, t32, cells of 5 -/
noncomputable def L20_2 (call : Go.Fw.Call) (xs : List AVal) (h : Heap) : Option J :=
 (aBin .lss .plain (xs.getD 10 .undef) (xs.getD 9 .undef)).bind fun v21 =>
 condV v21
 ((aIaddr 9 (xs.getD 8 .undef) (xs.getD 10 .undef)).bind fun v22 =>
 (aLoad h 9 v22).bind fun c23 =>
 (fromCells true c23).bind fun v24 =>
 (aCells 9 v24).bind fun c25 =>
 bif Nat.ble ((0) + 9) (List.length (α := AVal) [.str [], .str [], .int .i64 0, .int .i64 0, .int .i64 0, .int .i64 0, .int .i64 0, .int .i64 0, .bool false]) then (rdL (splice [.str [], .str [], .int .i64 0, .int .i64 0, .int .i64 0, .int .i64 0, .int .i64 0, .int .i64 0, .bool false] (0) c25) 0 2).bind fun c26 =>
 (fromCells true c26).bind fun v27 =>
 (rdL (AVal.aggCells (xs.getD 11 .undef)) 0 2).bind fun c28 =>
 (fromCells true c28).bind fun v29 =>
 (aBin .neq (.cells [2, 2]) v27 v29).bind fun v30 =>
 (condV v30
 ((rdL (splice [.str [], .str [], .int .i64 0, .int .i64 0, .int .i64 0, .int .i64 0, .int .i64 0, .int .i64 0, .bool false] (0) c25) 0 9).bind fun c31 =>
 (fromCells true c31).bind fun v32 =>
 (aFill (reps [.str [], .str [], .int .i64 0, .int .i64 0, .int .i64 0, .int .i64 0, .int .i64 0, .int .i64 0, .bool false] 1) [(0, 9, v32)]).bind fun c33 =>
 (aAppend 9 88 [.str [], .str [], .int .i64 0, .int .i64 0, .int .i64 0, .int .i64 0, .int .i64 0, .int .i64 0, .bool false] false (xs.getD 2 .undef) (.slice h.next 0 1 1 9 true) (h.alloc c33)).bind fun r34 =>
 some (0, [(xs.getD 0 .undef), (xs.getD 1 .undef), r34.1, (xs.getD 3 .undef), (xs.getD 4 .undef), (xs.getD 5 .undef), (xs.getD 6 .undef), (xs.getD 7 .undef), (xs.getD 8 .undef), (xs.getD 9 .undef), (xs.getD 10 .undef), (.agg (AVal.aggCells (xs.getD 11 .undef)))], r34.2))
 (some (0, [(xs.getD 0 .undef), (xs.getD 1 .undef), (xs.getD 2 .undef), (xs.getD 3 .undef), (xs.getD 4 .undef), (xs.getD 5 .undef), (xs.getD 6 .undef), (xs.getD 7 .undef), (xs.getD 8 .undef), (xs.getD 9 .undef), (xs.getD 10 .undef), (.agg (AVal.aggCells (xs.getD 11 .undef)))], h))).bind fun x35 =>
 bif Nat.beq x35.1 0 then (aBin .add .plain (x35.2.1.getD 10 .undef) (.int .i64 1)).bind fun v36 =>
 some (0, [(x35.2.1.getD 0 .undef), (x35.2.1.getD 1 .undef), (x35.2.1.getD 2 .undef), (x35.2.1.getD 3 .undef), (x35.2.1.getD 4 .undef), (x35.2.1.getD 5 .undef), (x35.2.1.getD 6 .undef), (x35.2.1.getD 7 .undef), (x35.2.1.getD 8 .undef), (x35.2.1.getD 9 .undef), v36, (.agg (AVal.aggCells (x35.2.1.getD 11 .undef)))], x35.2.2) else
 none else none)
 (some (1, [(xs.getD 0 .undef), (xs.getD 1 .undef), (xs.getD 2 .undef), (xs.getD 3 .undef), (xs.getD 4 .undef), (xs.getD 5 .undef), (xs.getD 6 .undef), (xs.getD 7 .undef), (.agg (AVal.aggCells (xs.getD 11 .undef)))], h))
/-- xs: t0, t10, t11, t12, t20, t21, cells of 5 -/
noncomputable def L20_1 (call : Go.Fw.Call) (xs : List AVal) (h : Heap) : Option J :=
 (aBin .lss .plain (xs.getD 5 .undef) (xs.getD 4 .undef)).bind fun v12 =>
 condV v12
 ((aNilchk (xs.getD 0 .undef)).bind fun v13 =>
 (aFaddr 1 v13).bind fun v14 =>
 (aLoad h 1 v14).bind fun c15 =>
 (fromCells false c15).bind fun v16 =>
 (aIaddr 1 v16 (xs.getD 5 .undef)).bind fun v17 =>
 (aLoad h 1 v17).bind fun c18 =>
 (fromCells false c18).bind fun v19 =>
 (aLen false v19).bind fun v20 =>
 (loop (L20_2 call) [(xs.getD 0 .undef), (xs.getD 5 .undef), (.nilSlice), (xs.getD 1 .undef), (xs.getD 2 .undef), (xs.getD 3 .undef), (xs.getD 4 .undef), (xs.getD 5 .undef), v19, v20, (.int .i64 0), (.agg (AVal.aggCells (xs.getD 6 .undef)))] h).bind fun x37 =>
 bif Nat.beq x37.1 1 then (rdL (AVal.aggCells (x37.2.1.getD 8 .undef)) 0 9).bind fun c38 =>
 (fromCells true c38).bind fun v39 =>
 (aFill (reps [.str [], .str [], .int .i64 0, .int .i64 0, .int .i64 0, .int .i64 0, .int .i64 0, .int .i64 0, .bool false] 1) [(0, 9, v39)]).bind fun c40 =>
 (aAppend 9 88 [.str [], .str [], .int .i64 0, .int .i64 0, .int .i64 0, .int .i64 0, .int .i64 0, .int .i64 0, .bool false] false (x37.2.1.getD 2 .undef) (.slice x37.2.2.next 0 1 1 9 true) (x37.2.2.alloc c40)).bind fun r41 =>
 (aLen false r41.1).bind fun v42 =>
 (aBin .gtr .plain v42 (.int .i64 16)).bind fun v43 =>
 (condV v43
 ((aSliceSl 9 r41.1 (some (.int .i64 1)) none none).bind fun v44 =>
 (aNilchk (x37.2.1.getD 0 .undef)).bind fun v45 =>
 (aFaddr 2 v45).bind fun v46 =>
 (aLoad r41.2 1 v46).bind fun c47 =>
 (fromCells false c47).bind fun v48 =>
 (aBin .add .plain v48 (.int .i64 1)).bind fun v49 =>
 (aNilchk (x37.2.1.getD 0 .undef)).bind fun v50 =>
 (aFaddr 2 v50).bind fun v51 =>
 (aCells 1 v49).bind fun c52 =>
 (aStore r41.2 v51 c52).bind fun h53 =>
 some (0, [(x37.2.1.getD 0 .undef), (x37.2.1.getD 1 .undef), v44, (x37.2.1.getD 3 .undef), (x37.2.1.getD 4 .undef), (x37.2.1.getD 5 .undef), (x37.2.1.getD 6 .undef), (x37.2.1.getD 7 .undef), (.agg (AVal.aggCells (x37.2.1.getD 8 .undef)))], h53))
 (some (0, [(x37.2.1.getD 0 .undef), (x37.2.1.getD 1 .undef), r41.1, (x37.2.1.getD 3 .undef), (x37.2.1.getD 4 .undef), (x37.2.1.getD 5 .undef), (x37.2.1.getD 6 .undef), (x37.2.1.getD 7 .undef), (.agg (AVal.aggCells (x37.2.1.getD 8 .undef)))], r41.2))).bind fun x54 =>
 bif Nat.beq x54.1 0 then (aNilchk (x54.2.1.getD 0 .undef)).bind fun v55 =>
 (aFaddr 1 v55).bind fun v56 =>
 (aLoad x54.2.2 1 v56).bind fun c57 =>
 (fromCells false c57).bind fun v58 =>
 (aIaddr 1 v58 (x54.2.1.getD 1 .undef)).bind fun v59 =>
 (aCells 1 (x54.2.1.getD 2 .undef)).bind fun c60 =>
 (aStore x54.2.2 v59 c60).bind fun h61 =>
 (aBin .add .plain (x54.2.1.getD 7 .undef) (.int .i64 1)).bind fun v62 =>
 some (0, [(x54.2.1.getD 0 .undef), (x54.2.1.getD 3 .undef), (x54.2.1.getD 4 .undef), (x54.2.1.getD 5 .undef), (x54.2.1.getD 6 .undef), v62, (.agg (AVal.aggCells (x54.2.1.getD 8 .undef)))], h61) else
 none else
 none)
 (some (1, [(xs.getD 0 .undef), (xs.getD 1 .undef), (xs.getD 2 .undef), (xs.getD 3 .undef)], h))
/-- xs: t0, t10, t11, t12 -/
noncomputable def L20_0 (call : Go.Fw.Call) (xs : List AVal) (h : Heap) : Option J :=
 (aBin .lss .plain (xs.getD 3 .undef) (xs.getD 2 .undef)).bind fun v2 =>
 condV v2
 ((aIaddr 9 (xs.getD 1 .undef) (xs.getD 3 .undef)).bind fun v3 =>
 (aLoad h 9 v3).bind fun c4 =>
 (fromCells true c4).bind fun v5 =>
 (aCells 9 v5).bind fun c6 =>
 bif Nat.ble ((0) + 9) (List.length (α := AVal) [.str [], .str [], .int .i64 0, .int .i64 0, .int .i64 0, .int .i64 0, .int .i64 0, .int .i64 0, .bool false]) then (aNilchk (xs.getD 0 .undef)).bind fun v7 =>
 (aFaddr 1 v7).bind fun v8 =>
 (aLoad h 1 v8).bind fun c9 =>
 (fromCells false c9).bind fun v10 =>
 (aLen false v10).bind fun v11 =>
 (loop (L20_1 call) [(xs.getD 0 .undef), (xs.getD 1 .undef), (xs.getD 2 .undef), (xs.getD 3 .undef), v11, (.int .i64 0), (.agg (splice [.str [], .str [], .int .i64 0, .int .i64 0, .int .i64 0, .int .i64 0, .int .i64 0, .int .i64 0, .bool false] (0) c6))] h).bind fun x63 =>
 bif Nat.beq x63.1 1 then (aBin .add .plain (x63.2.1.getD 3 .undef) (.int .i64 1)).bind fun v64 =>
 some (0, [(x63.2.1.getD 0 .undef), (x63.2.1.getD 1 .undef), (x63.2.1.getD 2 .undef), v64], x63.2.2) else
 none else none)
 (some (1, [], h))
noncomputable def S20 (call : Go.Fw.Call) (a0 a1 : AVal) (h : Heap) : Option J :=
 (aLen false a1).bind fun v1 =>
 (loop (L20_0 call) [a0, a1, v1, (.int .i64 0)] h).bind fun x65 =>
 bif Nat.beq x65.1 1 then some (0, [.tuple []], x65.2.2) else
 none
theorem run20 (call : Go.Fw.Call) (a0 a1 : AVal) (h : Heap) : runFn call (.code A20) [a0, a1] h = (S20 call a0 a1 h).bind ansOf := by kernel_rfl

/-- (*frankpledge/frankpledgeref16.Queue).Take -/
noncomputable def A21 : AFunc := ⟨2, (.seq (.region [.op 0 (.mov 4 (.const (.nilSlice)))] [])
 (.seq (.region [.op 0 (.mov 8 (.tmp 0)),
 .op 1 (.mov 9 (.tmp 1)),
 .op 2 (.call 10 28 [.tmp 8, .tmp 9]),
 .op 3 (.mov 5 (.tmp 10))] [])
 (.seq (.seq (.region [.op 0 (.mov 11 (.tmp 5)),
 .op 1 (.bin 12 .lss .plain (.tmp 11) (.const (.int .i64 0)))] [])
 (.cond (.tmp 12)
 (.seq (.region [.op 0 (.mov 4 (.const (.nilSlice)))] [])
 .ret)
 .skip))
 (.seq (.region [.op 0 (.mov 13 (.tmp 0)),
 .op 1 (.nilchk 14 (.tmp 13)),
 .op 2 (.faddr 15 1 (.tmp 14)),
 .op 3 (.load 16 false 1 (.tmp 15)),
 .op 4 (.mov 17 (.tmp 5)),
 .op 5 (.iaddr 18 none 1 (.tmp 16) (.tmp 17)),
 .op 6 (.load 19 false 1 (.tmp 18)),
 .op 7 (.len 20 false (.tmp 19)),
 .op 8 (.minmax 21 false [.tmp 20, .const (.int .i64 4)]),
 .op 9 (.mov 6 (.tmp 21))] [])
 (.seq (.region [.op 0 (.buildSl 22 [.str [], .str [], .int .i64 0, .int .i64 0, .int .i64 0, .int .i64 0, .int .i64 0, .int .i64 0, .bool false] 9 0 []),
 .op 1 (.mov 23 (.tmp 0)),
 .op 2 (.nilchk 24 (.tmp 23)),
 .op 3 (.faddr 25 1 (.tmp 24)),
 .op 4 (.load 26 false 1 (.tmp 25)),
 .op 5 (.mov 27 (.tmp 5)),
 .op 6 (.iaddr 28 none 1 (.tmp 26) (.tmp 27)),
 .op 7 (.load 29 false 1 (.tmp 28)),
 .op 8 (.mov 30 (.tmp 6)),
 .op 9 (.slice 31 (.sl 9) (.tmp 29) none (some (.tmp 30)) none),
 .op 10 (.append 32 9 88 [.str [], .str [], .int .i64 0, .int .i64 0, .int .i64 0, .int .i64 0, .int .i64 0, .int .i64 0, .bool false] false (.tmp 22) (.tmp 31)),
 .op 11 (.mov 7 (.tmp 32))] [])
 (.seq (.region [.op 0 (.mov 33 (.tmp 0)),
 .op 1 (.nilchk 34 (.tmp 33)),
 .op 2 (.faddr 35 1 (.tmp 34)),
 .op 3 (.load 36 false 1 (.tmp 35)),
 .op 4 (.mov 37 (.tmp 5)),
 .op 5 (.buildSl 38 [.str [], .str [], .int .i64 0, .int .i64 0, .int .i64 0, .int .i64 0, .int .i64 0, .int .i64 0, .bool false] 9 0 []),
 .op 6 (.mov 39 (.tmp 0)),
 .op 7 (.nilchk 40 (.tmp 39)),
 .op 8 (.faddr 41 1 (.tmp 40)),
 .op 9 (.load 42 false 1 (.tmp 41)),
 .op 10 (.mov 43 (.tmp 5)),
 .op 11 (.iaddr 44 none 1 (.tmp 42) (.tmp 43)),
 .op 12 (.load 45 false 1 (.tmp 44)),
 .op 13 (.mov 46 (.tmp 6)),
 .op 14 (.slice 47 (.sl 9) (.tmp 45) (some (.tmp 46)) none none),
 .op 15 (.append 48 9 88 [.str [], .str [], .int .i64 0, .int .i64 0, .int .i64 0, .int .i64 0, .int .i64 0, .int .i64 0, .bool false] false (.tmp 38) (.tmp 47)),
 .op 16 (.iaddr 49 none 1 (.tmp 36) (.tmp 37)),
 .op 17 (.store false 1 (.tmp 49) (.tmp 48))] [(3, 5), (3, 15), (9, 5), (12, 5)])
 (.seq (.region [.op 0 (.mov 50 (.tmp 7)),
 .op 1 (.mov 4 (.tmp 50))] [])
 .ret))))))),
 [.tmp 4]⟩
theorem ok21 : funcOk Try.prog (drawOk Try.prog) Try.f21 A21 = true := by kernel_rfl
noncomputable def S21 (call : Go.Fw.Call) (a0 a1 : AVal) (h : Heap) : Option J :=
 (call 28 [a0, a1] h).bind fun r1 =>
 (aBin .lss .plain r1.1 (.int .i64 0)).bind fun v2 =>
 condV v2
 (some (0, [(.nilSlice)], r1.2))
 ((aNilchk a0).bind fun v3 =>
 (aFaddr 1 v3).bind fun v4 =>
 (aLoad r1.2 1 v4).bind fun c5 =>
 (fromCells false c5).bind fun v6 =>
 (aIaddr 1 v6 r1.1).bind fun v7 =>
 (aLoad r1.2 1 v7).bind fun c8 =>
 (fromCells false c8).bind fun v9 =>
 (aLen false v9).bind fun v10 =>
 (aMinMaxL false [v10, (.int .i64 4)]).bind fun v11 =>
 (aFill (reps [.str [], .str [], .int .i64 0, .int .i64 0, .int .i64 0, .int .i64 0, .int .i64 0, .int .i64 0, .bool false] 0) []).bind fun c12 =>
 (aNilchk a0).bind fun v13 =>
 (aFaddr 1 v13).bind fun v14 =>
 (aLoad (r1.2.alloc c12) 1 v14).bind fun c15 =>
 (fromCells false c15).bind fun v16 =>
 (aIaddr 1 v16 r1.1).bind fun v17 =>
 (aLoad (r1.2.alloc c12) 1 v17).bind fun c18 =>
 (fromCells false c18).bind fun v19 =>
 (aSliceSl 9 v19 none (some v11) none).bind fun v20 =>
 (aAppend 9 88 [.str [], .str [], .int .i64 0, .int .i64 0, .int .i64 0, .int .i64 0, .int .i64 0, .int .i64 0, .bool false] false (.slice r1.2.next 0 0 0 9 true) v20 (r1.2.alloc c12)).bind fun r21 =>
 (aNilchk a0).bind fun v22 =>
 (aFaddr 1 v22).bind fun v23 =>
 (aLoad r21.2 1 v23).bind fun c24 =>
 (fromCells false c24).bind fun v25 =>
 (aFill (reps [.str [], .str [], .int .i64 0, .int .i64 0, .int .i64 0, .int .i64 0, .int .i64 0, .int .i64 0, .bool false] 0) []).bind fun c26 =>
 (aNilchk a0).bind fun v27 =>
 (aFaddr 1 v27).bind fun v28 =>
 (aLoad (r21.2.alloc c26) 1 v28).bind fun c29 =>
 (fromCells false c29).bind fun v30 =>
 (aIaddr 1 v30 r1.1).bind fun v31 =>
 (aLoad (r21.2.alloc c26) 1 v31).bind fun c32 =>
 (fromCells false c32).bind fun v33 =>
 (aSliceSl 9 v33 (some v11) none none).bind fun v34 =>
 (aAppend 9 88 [.str [], .str [], .int .i64 0, .int .i64 0, .int .i64 0, .int .i64 0, .int .i64 0, .int .i64 0, .bool false] false (.slice r21.2.next 0 0 0 9 true) v34 (r21.2.alloc c26)).bind fun r35 =>
 (aIaddr 1 v25 r1.1).bind fun v36 =>
 (aCells 1 r35.1).bind fun c37 =>
 (aStore r35.2 v36 c37).bind fun h38 =>
 bif checkPairs [(15, some (.ef [] (r21.2.alloc c26) [] r35.2)), (12, logRd v31 1), (9, logRd v28 1), (5, some (.al r21.2.next)), (3, logRd v23 1)] [(3, 5), (3, 15), (9, 5), (12, 5)] then some (0, [r21.1], h38) else none)
theorem run21 (call : Go.Fw.Call) (a0 a1 : AVal) (h : Heap) : runFn call (.code A21) [a0, a1] h = (S21 call a0 a1 h).bind ansOf := by kernel_rfl

/-- (*frankpledge/frankpledgekeep.Tape).Card -/
noncomputable def A22 : AFunc := ⟨1, (.seq (.region [.op 0 (.alloc 2 true [.str [], .str [], .int .i64 0, .int .i64 0, .int .i64 0, .int .i64 0, .int .i64 0, .int .i64 0, .bool false])] [])
 (.seq (.region [.op 0 (.mov 3 (.tmp 0)),
 .op 1 (.call 4 29 [.tmp 3]),
 .op 2 (.mov 5 (.tmp 0)),
 .op 3 (.call 6 19 [.tmp 5, .const (.int .i64 2)]),
 .op 4 (.bin 7 .add .plain (.const (.int .i64 1)) (.tmp 6)),
 .op 5 (.mov 8 (.tmp 0)),
 .op 6 (.call 9 19 [.tmp 8, .const (.int .i64 7)]),
 .op 7 (.bin 10 .quo .plain (.tmp 9) (.const (.int .i64 2))),
 .op 8 (.mov 11 (.tmp 0)),
 .op 9 (.call 12 19 [.tmp 11, .const (.int .i64 60)]),
 .op 10 (.bin 13 .add .plain (.const (.int .i64 1)) (.tmp 12)),
 .op 11 (.mov 14 (.tmp 0)),
 .op 12 (.call 15 30 [.tmp 14]),
 .op 13 (.mov 16 (.tmp 0)),
 .op 14 (.call 17 19 [.tmp 16, .const (.int .i64 4)]),
 .op 15 (.bin 18 .eql .plain (.tmp 17) (.const (.int .i64 0))),
 .op 16 (.build 19 [.str [], .str [], .int .i64 0, .int .i64 0, .int .i64 0, .int .i64 0, .int .i64 0, .int .i64 0, .bool false] [(0, 2, .tmp 4), (2, 1, .tmp 7), (3, 1, .tmp 10), (4, 1, .tmp 13), (5, 3, .tmp 15), (8, 1, .tmp 18)]),
 .op 17 (.store true 9 (.tmp 2) (.tmp 19))] [])
 .ret)),
 [.cell 2 true 9]⟩
theorem ok22 : funcOk Try.prog (drawOk Try.prog) Try.f22 A22 = true := by kernel_rfl
noncomputable def S22 (call : Go.Fw.Call) (a0 : AVal) (h : Heap) : Option J :=
 (call 29 [a0] h).bind fun r1 =>
 (call 19 [a0, (.int .i64 2)] r1.2).bind fun r2 =>
 (aBin .add .plain (.int .i64 1) r2.1).bind fun v3 =>
 (call 19 [a0, (.int .i64 7)] r2.2).bind fun r4 =>
 (aBin .quo .plain r4.1 (.int .i64 2)).bind fun v5 =>
 (call 19 [a0, (.int .i64 60)] r4.2).bind fun r6 =>
 (aBin .add .plain (.int .i64 1) r6.1).bind fun v7 =>
 (call 30 [a0] r6.2).bind fun r8 =>
 (call 19 [a0, (.int .i64 4)] r8.2).bind fun r9 =>
 (aBin .eql .plain r9.1 (.int .i64 0)).bind fun v10 =>
 (aFill [.str [], .str [], .int .i64 0, .int .i64 0, .int .i64 0, .int .i64 0, .int .i64 0, .int .i64 0, .bool false] [(0, 2, r1.1), (2, 1, v3), (3, 1, v5), (4, 1, v7), (5, 3, r8.1), (8, 1, v10)]).bind fun c11 =>
 (aCells 9 (.agg c11)).bind fun c12 =>
 bif Nat.ble ((0) + 9) (List.length (α := AVal) [.str [], .str [], .int .i64 0, .int .i64 0, .int .i64 0, .int .i64 0, .int .i64 0, .int .i64 0, .bool false]) then (((rdL (splice [.str [], .str [], .int .i64 0, .int .i64 0, .int .i64 0, .int .i64 0, .int .i64 0, .int .i64 0, .bool false] (0) c12) (0) 9).bind fun cs => fromCells true cs).bind fun v => (some []).bind fun vs => some (v :: vs)).bind fun vs => some (0, [oneOr vs], r9.2) else none
theorem run22 (call : Go.Fw.Call) (a0 : AVal) (h : Heap) : runFn call (.code A22) [a0] h = (S22 call a0 h).bind ansOf := by kernel_rfl

/-- slices.Contains[[]int,int] -/
noncomputable def A23 : AFunc := ⟨2, (.seq (.region [.op 0 (.mov 4 (.const (.bool false)))] [])
 (.seq (.region [.op 0 (.mov 5 (.tmp 0)),
 .op 1 (.mov 6 (.tmp 1)),
 .op 2 (.call 7 25 [.tmp 5, .tmp 6]),
 .op 3 (.bin 8 .geq .plain (.tmp 7) (.const (.int .i64 0))),
 .op 4 (.mov 4 (.tmp 8))] [])
 .ret)),
 [.tmp 4]⟩
theorem ok23 : funcOk Try.prog (drawOk Try.prog) Try.f23 A23 = true := by kernel_rfl
noncomputable def S23 (call : Go.Fw.Call) (a0 a1 : AVal) (h : Heap) : Option J :=
 (call 25 [a0, a1] h).bind fun r1 =>
 (aBin .geq .plain r1.1 (.int .i64 0)).bind fun v2 =>
 some (0, [v2], r1.2)
theorem run23 (call : Go.Fw.Call) (a0 a1 : AVal) (h : Heap) : runFn call (.code A23) [a0, a1] h = (S23 call a0 a1 h).bind ansOf := by kernel_rfl

/-- (*frankpledge/queue.Queue).add -/
noncomputable def A24 : AFunc := ⟨3, (.seq (.region [.op 0 (.box 5 false (.tmp 2))] [])
 (.seq (.region [.op 0 (.mov 7 (.tmp 0)),
 .op 1 (.nilchk 8 (.tmp 7)),
 .op 2 (.faddr 9 1 (.tmp 8)),
 .op 3 (.load 10 false 1 (.tmp 9)),
 .op 4 (.mov 11 (.tmp 1)),
 .op 5 (.iaddr 12 none 1 (.tmp 10) (.tmp 11)),
 .op 6 (.load 13 false 1 (.tmp 12)),
 .op 7 (.mkFunc 14 32 [.tmp 5]),
 .op 8 (.call 15 31 [.tmp 13, .tmp 14]),
 .op 9 (.mov 6 (.tmp 15))] [])
 (.seq (.region [.op 0 (.mov 16 (.tmp 6)),
 .op 1 (.load 17 true 9 (.tmp 5)),
 .op 2 (.buildSl 18 [.str [], .str [], .int .i64 0, .int .i64 0, .int .i64 0, .int .i64 0, .int .i64 0, .int .i64 0, .bool false] 9 1 [(0, .tmp 17)]),
 .op 3 (.append 19 9 88 [.str [], .str [], .int .i64 0, .int .i64 0, .int .i64 0, .int .i64 0, .int .i64 0, .int .i64 0, .bool false] false (.tmp 16) (.tmp 18)),
 .op 4 (.mov 6 (.tmp 19))] [])
 (.seq (.seq (.region [.op 0 (.mov 20 (.tmp 6)),
 .op 1 (.len 21 false (.tmp 20)),
 .op 2 (.bin 22 .gtr .plain (.tmp 21) (.const (.int .i64 16)))] [])
 (.join [(.normal, ⟨[0, 1, 6], []⟩)] (.cond (.tmp 22)
 (.seq (.region [.op 0 (.mov 23 (.tmp 6)),
 .op 1 (.call 24 27 [.tmp 23, .const (.int .i64 0), .const (.int .i64 1)]),
 .op 2 (.mov 6 (.tmp 24))] [])
 (.region [.op 0 (.mov 25 (.tmp 0)),
 .op 1 (.nilchk 26 (.tmp 25)),
 .op 2 (.faddr 27 2 (.tmp 26)),
 .op 3 (.load 28 false 1 (.tmp 27)),
 .op 4 (.bin 29 .add .plain (.tmp 28) (.const (.int .i64 1))),
 .op 5 (.nilchk 30 (.tmp 25)),
 .op 6 (.faddr 31 2 (.tmp 30)),
 .op 7 (.store false 1 (.tmp 31) (.tmp 29))] []))
 .skip)))
 (.region [.op 0 (.mov 32 (.tmp 0)),
 .op 1 (.nilchk 33 (.tmp 32)),
 .op 2 (.faddr 34 1 (.tmp 33)),
 .op 3 (.load 35 false 1 (.tmp 34)),
 .op 4 (.mov 36 (.tmp 1)),
 .op 5 (.mov 37 (.tmp 6)),
 .op 6 (.iaddr 38 none 1 (.tmp 35) (.tmp 36)),
 .op 7 (.store false 1 (.tmp 38) (.tmp 37))] []))))),
 []⟩
theorem ok24 : funcOk Try.prog (drawOk Try.prog) Try.f24 A24 = true := by kernel_rfl
noncomputable def S24 (call : Go.Fw.Call) (a0 a1 a2 : AVal) (h : Heap) : Option J :=
 (AVal.cells? a2).bind fun c1 =>
 (aNilchk a0).bind fun v3 =>
 (aFaddr 1 v3).bind fun v4 =>
 (aLoad (h.alloc c1) 1 v4).bind fun c5 =>
 (fromCells false c5).bind fun v6 =>
 (aIaddr 1 v6 a1).bind fun v7 =>
 (aLoad (h.alloc c1) 1 v7).bind fun c8 =>
 (fromCells false c8).bind fun v9 =>
 (call 31 [v9, (.func 32 [(.ptr h.next 0)])] (h.alloc c1)).bind fun r10 =>
 (aLoad r10.2 9 (.ptr h.next 0)).bind fun c11 =>
 (fromCells true c11).bind fun v12 =>
 (aFill (reps [.str [], .str [], .int .i64 0, .int .i64 0, .int .i64 0, .int .i64 0, .int .i64 0, .int .i64 0, .bool false] 1) [(0, 9, v12)]).bind fun c13 =>
 (aAppend 9 88 [.str [], .str [], .int .i64 0, .int .i64 0, .int .i64 0, .int .i64 0, .int .i64 0, .int .i64 0, .bool false] false r10.1 (.slice r10.2.next 0 1 1 9 true) (r10.2.alloc c13)).bind fun r14 =>
 (aLen false r14.1).bind fun v15 =>
 (aBin .gtr .plain v15 (.int .i64 16)).bind fun v16 =>
 (condV v16
 ((call 27 [r14.1, (.int .i64 0), (.int .i64 1)] r14.2).bind fun r17 =>
 (aNilchk a0).bind fun v18 =>
 (aFaddr 2 v18).bind fun v19 =>
 (aLoad r17.2 1 v19).bind fun c20 =>
 (fromCells false c20).bind fun v21 =>
 (aBin .add .plain v21 (.int .i64 1)).bind fun v22 =>
 (aNilchk a0).bind fun v23 =>
 (aFaddr 2 v23).bind fun v24 =>
 (aCells 1 v22).bind fun c25 =>
 (aStore r17.2 v24 c25).bind fun h26 =>
 some (0, [a0, a1, r17.1], h26))
 (some (0, [a0, a1, r14.1], r14.2))).bind fun x27 =>
 bif Nat.beq x27.1 0 then (aNilchk (x27.2.1.getD 0 .undef)).bind fun v28 =>
 (aFaddr 1 v28).bind fun v29 =>
 (aLoad x27.2.2 1 v29).bind fun c30 =>
 (fromCells false c30).bind fun v31 =>
 (aIaddr 1 v31 (x27.2.1.getD 1 .undef)).bind fun v32 =>
 (aCells 1 (x27.2.1.getD 2 .undef)).bind fun c33 =>
 (aStore x27.2.2 v32 c33).bind fun h34 =>
 some (0, [.tuple []], h34) else
 none
theorem run24 (call : Go.Fw.Call) (a0 a1 a2 : AVal) (h : Heap) : runFn call (.code A24) [a0, a1, a2] h = (S24 call a0 a1 a2 h).bind ansOf := by kernel_rfl

/-- slices.Index[[]int,int] -/
noncomputable def A25 : AFunc := ⟨2, (.seq (.region [.op 0 (.mov 4 (.const (.int .i64 0)))] [])
 (.seq (.seq (.region [.op 0 (.mov 6 (.tmp 0)),
 .op 1 (.len 7 false (.tmp 6)),
 .op 2 (.mov 8 (.const (.int .i64 0)))] [])
 (.block 0 (.loop ⟨[0, 1, 7, 8], []⟩ [((.exit 0), ⟨[], []⟩), (.ret, ⟨[4], []⟩)]
 (.seq (.region [.op 0 (.bin 9 .lss .plain (.tmp 8) (.tmp 7))] [])
 (.seq (.cond (.tmp 9)
 .skip
 (.exit 0))
 (.seq (.block 1 (.seq (.region [.op 0 (.mov 10 (.tmp 8)),
 .op 1 (.mov 5 (.tmp 10))] [])
 (.seq (.region [.op 0 (.mov 11 (.tmp 1)),
 .op 1 (.mov 12 (.tmp 0)),
 .op 2 (.mov 13 (.tmp 5)),
 .op 3 (.iaddr 14 none 1 (.tmp 12) (.tmp 13)),
 .op 4 (.load 15 false 1 (.tmp 14)),
 .op 5 (.bin 16 .eql .plain (.tmp 11) (.tmp 15))] [])
 (.cond (.tmp 16)
 (.seq (.region [.op 0 (.mov 17 (.tmp 5)),
 .op 1 (.mov 4 (.tmp 17))] [])
 .ret)
 .skip))))
 (.region [.op 0 (.bin 18 .add .plain (.tmp 8) (.const (.int .i64 1))),
 .op 1 (.mov 8 (.tmp 18))] [])))))))
 (.seq (.region [.op 0 (.mov 4 (.const (.int .i64 (-1))))] [])
 .ret))),
 [.tmp 4]⟩
theorem ok25 : funcOk Try.prog (drawOk Try.prog) Try.f25 A25 = true := by kernel_rfl
/-- xs: t0, t1, t7, t8 -/
noncomputable def L25_0 (call : Go.Fw.Call) (xs : List AVal) (h : Heap) : Option J :=
 (aBin .lss .plain (xs.getD 3 .undef) (xs.getD 2 .undef)).bind fun v2 =>
 condV v2
 ((aIaddr 1 (xs.getD 0 .undef) (xs.getD 3 .undef)).bind fun v3 =>
 (aLoad h 1 v3).bind fun c4 =>
 (fromCells false c4).bind fun v5 =>
 (aBin .eql .plain (xs.getD 1 .undef) v5).bind fun v6 =>
 condV v6
 (some (2, [(xs.getD 3 .undef)], h))
 ((aBin .add .plain (xs.getD 3 .undef) (.int .i64 1)).bind fun v7 =>
 some (0, [(xs.getD 0 .undef), (xs.getD 1 .undef), (xs.getD 2 .undef), v7], h)))
 (some (1, [], h))
noncomputable def S25 (call : Go.Fw.Call) (a0 a1 : AVal) (h : Heap) : Option J :=
 (aLen false a0).bind fun v1 =>
 (loop (L25_0 call) [a0, a1, v1, (.int .i64 0)] h).bind fun x8 =>
 bif Nat.beq x8.1 1 then some (0, [(.int .i64 (-1))], x8.2.2) else
 bif Nat.beq x8.1 2 then some (0, [(x8.2.1.getD 0 .undef)], x8.2.2) else
 none
theorem run25 (call : Go.Fw.Call) (a0 a1 : AVal) (h : Heap) : runFn call (.code A25) [a0, a1] h = (S25 call a0 a1 h).bind ansOf := by kernel_rfl

/-- slices.Clone[[]frankpledge/api.Card,frankpledge/api.Card] -/
noncomputable def A26 : AFunc := ⟨1, (.seq (.region [.op 0 (.mov 2 (.const (.nilSlice)))] [])
 (.seq (.seq (.region [.op 0 (.mov 3 (.tmp 0)),
 .op 1 (.bin 4 .eql .slice (.tmp 3) (.const (.nilSlice)))] [])
 (.cond (.tmp 4)
 (.seq (.region [.op 0 (.mov 2 (.const (.nilSlice)))] [])
 .ret)
 .skip))
 (.seq (.region [.op 0 (.buildSl 5 [.str [], .str [], .int .i64 0, .int .i64 0, .int .i64 0, .int .i64 0, .int .i64 0, .int .i64 0, .bool false] 9 0 []),
 .op 1 (.mov 6 (.tmp 0)),
 .op 2 (.append 7 9 88 [.str [], .str [], .int .i64 0, .int .i64 0, .int .i64 0, .int .i64 0, .int .i64 0, .int .i64 0, .bool false] false (.tmp 5) (.tmp 6)),
 .op 3 (.mov 2 (.tmp 7))] [])
 .ret))),
 [.tmp 2]⟩
theorem ok26 : funcOk Try.prog (drawOk Try.prog) Try.f26 A26 = true := by kernel_rfl
noncomputable def S26 (call : Go.Fw.Call) (a0 : AVal) (h : Heap) : Option J :=
 (aBin .eql .slice a0 (.nilSlice)).bind fun v1 =>
 condV v1
 (some (0, [(.nilSlice)], h))
 ((aFill (reps [.str [], .str [], .int .i64 0, .int .i64 0, .int .i64 0, .int .i64 0, .int .i64 0, .int .i64 0, .bool false] 0) []).bind fun c2 =>
 (aAppend 9 88 [.str [], .str [], .int .i64 0, .int .i64 0, .int .i64 0, .int .i64 0, .int .i64 0, .int .i64 0, .bool false] false (.slice h.next 0 0 0 9 true) a0 (h.alloc c2)).bind fun r3 =>
 some (0, [r3.1], r3.2))
theorem run26 (call : Go.Fw.Call) (a0 : AVal) (h : Heap) : runFn call (.code A26) [a0] h = (S26 call a0 h).bind ansOf := by kernel_rfl

/-- slices.Delete[[]frankpledge/api.Card,frankpledge/api.Card] -/
noncomputable def A27 : AFunc := ⟨3, (.seq (.region [.op 0 (.mov 6 (.const (.nilSlice)))] [])
 (.seq (.region [.op 0 (.mov 8 (.tmp 0)),
 .op 1 (.mov 9 (.tmp 1)),
 .op 2 (.mov 10 (.tmp 2)),
 .op 3 (.mov 11 (.tmp 0)),
 .op 4 (.len 12 false (.tmp 11)),
 .op 5 (.slice 13 (.sl 9) (.tmp 8) (some (.tmp 9)) (some (.tmp 10)) (some (.tmp 12)))] [])
 (.seq (.seq (.region [.op 0 (.mov 14 (.tmp 1)),
 .op 1 (.mov 15 (.tmp 2)),
 .op 2 (.bin 16 .eql .plain (.tmp 14) (.tmp 15))] [])
 (.cond (.tmp 16)
 (.seq (.region [.op 0 (.mov 17 (.tmp 0)),
 .op 1 (.mov 6 (.tmp 17))] [])
 .ret)
 .skip))
 (.seq (.region [.op 0 (.mov 18 (.tmp 0)),
 .op 1 (.len 19 false (.tmp 18)),
 .op 2 (.mov 7 (.tmp 19))] [])
 (.seq (.region [.op 0 (.mov 20 (.tmp 0)),
 .op 1 (.mov 21 (.tmp 1)),
 .op 2 (.slice 22 (.sl 9) (.tmp 20) none (some (.tmp 21)) none),
 .op 3 (.mov 23 (.tmp 0)),
 .op 4 (.mov 24 (.tmp 2)),
 .op 5 (.slice 25 (.sl 9) (.tmp 23) (some (.tmp 24)) none none),
 .op 6 (.append 26 9 88 [.str [], .str [], .int .i64 0, .int .i64 0, .int .i64 0, .int .i64 0, .int .i64 0, .int .i64 0, .bool false] false (.tmp 22) (.tmp 25)),
 .op 7 (.mov 0 (.tmp 26))] [])
 (.seq (.region [.op 0 (.mov 27 (.tmp 0)),
 .op 1 (.mov 28 (.tmp 0)),
 .op 2 (.len 29 false (.tmp 28)),
 .op 3 (.mov 30 (.tmp 7)),
 .op 4 (.slice 31 (.sl 9) (.tmp 27) (some (.tmp 29)) (some (.tmp 30)) none),
 .op 5 (.clear 0 [.str [], .str [], .int .i64 0, .int .i64 0, .int .i64 0, .int .i64 0, .int .i64 0, .int .i64 0, .bool false] (.tmp 31))] [])
 (.seq (.region [.op 0 (.mov 32 (.tmp 0)),
 .op 1 (.mov 6 (.tmp 32))] [])
 .ret))))))),
 [.tmp 6]⟩
theorem ok27 : funcOk Try.prog (drawOk Try.prog) Try.f27 A27 = true := by kernel_rfl
noncomputable def S27 (call : Go.Fw.Call) (a0 a1 a2 : AVal) (h : Heap) : Option J :=
 (aLen false a0).bind fun v1 =>
 (aSliceSl 9 a0 (some a1) (some a2) (some v1)).bind fun v2 =>
 (aBin .eql .plain a1 a2).bind fun v3 =>
 condV v3
 (some (0, [a0], h))
 ((aLen false a0).bind fun v4 =>
 (aSliceSl 9 a0 none (some a1) none).bind fun v5 =>
 (aSliceSl 9 a0 (some a2) none none).bind fun v6 =>
 (aAppend 9 88 [.str [], .str [], .int .i64 0, .int .i64 0, .int .i64 0, .int .i64 0, .int .i64 0, .int .i64 0, .bool false] false v5 v6 h).bind fun r7 =>
 (aLen false r7.1).bind fun v8 =>
 (aSliceSl 9 r7.1 (some v8) (some v4) none).bind fun v9 =>
 (aClear [.str [], .str [], .int .i64 0, .int .i64 0, .int .i64 0, .int .i64 0, .int .i64 0, .int .i64 0, .bool false] v9 r7.2).bind fun r10 =>
 some (0, [r7.1], r10.2))
theorem run27 (call : Go.Fw.Call) (a0 a1 a2 : AVal) (h : Heap) : runFn call (.code A27) [a0, a1, a2] h = (S27 call a0 a1 a2 h).bind ansOf := by kernel_rfl

/-- (*frankpledge/frankpledgeref16.Queue).at -/
noncomputable def A28 : AFunc := ⟨2, (.seq (.region [.op 0 (.mov 4 (.const (.int .i64 0)))] [])
 (.seq (.seq (.region [.op 0 (.mov 7 (.tmp 0)),
 .op 1 (.nilchk 8 (.tmp 7)),
 .op 2 (.faddr 9 0 (.tmp 8)),
 .op 3 (.load 10 false 1 (.tmp 9)),
 .op 4 (.len 11 false (.tmp 10)),
 .op 5 (.mov 12 (.const (.int .i64 0)))] [])
 (.block 0 (.loop ⟨[1, 10, 11, 12], []⟩ [((.exit 0), ⟨[], []⟩), (.ret, ⟨[4], []⟩)]
 (.seq (.region [.op 0 (.bin 13 .lss .plain (.tmp 12) (.tmp 11))] [])
 (.seq (.cond (.tmp 13)
 .skip
 (.exit 0))
 (.seq (.block 1 (.seq (.region [.op 0 (.mov 14 (.tmp 12)),
 .op 1 (.iaddr 15 none 1 (.tmp 10) (.tmp 12)),
 .op 2 (.load 16 false 1 (.tmp 15)),
 .op 3 (.mov 5 (.tmp 14)),
 .op 4 (.mov 6 (.tmp 16))] [])
 (.seq (.region [.op 0 (.mov 17 (.tmp 6)),
 .op 1 (.mov 18 (.tmp 1)),
 .op 2 (.bin 19 .eql .plain (.tmp 17) (.tmp 18))] [])
 (.cond (.tmp 19)
 (.seq (.region [.op 0 (.mov 20 (.tmp 5)),
 .op 1 (.mov 4 (.tmp 20))] [])
 .ret)
 .skip))))
 (.region [.op 0 (.bin 21 .add .plain (.tmp 12) (.const (.int .i64 1))),
 .op 1 (.mov 12 (.tmp 21))] [])))))))
 (.seq (.region [.op 0 (.mov 4 (.const (.int .i64 (-1))))] [])
 .ret))),
 [.tmp 4]⟩
theorem ok28 : funcOk Try.prog (drawOk Try.prog) Try.f28 A28 = true := by kernel_rfl
/-- xs: t1, t10, t11, t12 -/
noncomputable def L28_0 (call : Go.Fw.Call) (xs : List AVal) (h : Heap) : Option J :=
 (aBin .lss .plain (xs.getD 3 .undef) (xs.getD 2 .undef)).bind fun v6 =>
 condV v6
 ((aIaddr 1 (xs.getD 1 .undef) (xs.getD 3 .undef)).bind fun v7 =>
 (aLoad h 1 v7).bind fun c8 =>
 (fromCells false c8).bind fun v9 =>
 (aBin .eql .plain v9 (xs.getD 0 .undef)).bind fun v10 =>
 condV v10
 (some (2, [(xs.getD 3 .undef)], h))
 ((aBin .add .plain (xs.getD 3 .undef) (.int .i64 1)).bind fun v11 =>
 some (0, [(xs.getD 0 .undef), (xs.getD 1 .undef), (xs.getD 2 .undef), v11], h)))
 (some (1, [], h))
noncomputable def S28 (call : Go.Fw.Call) (a0 a1 : AVal) (h : Heap) : Option J :=
 (aNilchk a0).bind fun v1 =>
 (aFaddr 0 v1).bind fun v2 =>
 (aLoad h 1 v2).bind fun c3 =>
 (fromCells false c3).bind fun v4 =>
 (aLen false v4).bind fun v5 =>
 (loop (L28_0 call) [a1, v4, v5, (.int .i64 0)] h).bind fun x12 =>
 bif Nat.beq x12.1 1 then some (0, [(.int .i64 (-1))], x12.2.2) else
 bif Nat.beq x12.1 2 then some (0, [(x12.2.1.getD 0 .undef)], x12.2.2) else
 none
theorem run28 (call : Go.Fw.Call) (a0 a1 : AVal) (h : Heap) : runFn call (.code A28) [a0, a1] h = (S28 call a0 a1 h).bind ansOf := by kernel_rfl

/-- (*frankpledge/frankpledgekeep.Tape).Key -/
noncomputable def A29 : AFunc := ⟨1, (.seq (.region [.op 0 (.alloc 2 true [.str [], .str []])] [])
 (.seq (.regionF 2 [.op 0 (.fl 3 0 (some (1, 4)) [.str []] [(0, .const (.str [97, 112, 112])), (1, .const (.str [98])), (2, .const (.str [97, 112, 112, 49])), (3, .const (.str [122, 57]))]),
 .op 1 (.mov 4 (.tmp 0)),
 .op 2 (.call 5 19 [.tmp 4, .const (.int .i64 4)]),
 .op 3 (.iaddr 6 none 1 (.tmp 3) (.tmp 5)),
 .op 4 (.load 7 false 1 (.tmp 6)),
 .op 5 (.fl 8 1 (some (1, 5)) [.str []] [(0, .const (.str [105, 100])), (1, .const (.str [97])), (2, .const (.str [105, 100, 50])), (3, .const (.str [120, 48])), (4, .const (.str [109]))]),
 .op 6 (.mov 9 (.tmp 0)),
 .op 7 (.call 10 19 [.tmp 9, .const (.int .i64 5)]),
 .op 8 (.iaddr 11 none 1 (.tmp 8) (.tmp 10)),
 .op 9 (.load 12 false 1 (.tmp 11)),
 .op 10 (.build 13 [.str [], .str []] [(0, 1, .tmp 7), (1, 1, .tmp 12)]),
 .op 11 (.store true 2 (.tmp 2) (.tmp 13))] [(4, 7)])
 .ret)),
 [.cell 2 true 2]⟩
theorem ok29 : funcOk Try.prog (drawOk Try.prog) Try.f29 A29 = true := by kernel_rfl
noncomputable def S29 (call : Go.Fw.Call) (a0 : AVal) (h : Heap) : Option J :=
 (aFill (reps [.str []] 4) [(0, 1, (.str [97, 112, 112])), (1, 1, (.str [98])), (2, 1, (.str [97, 112, 112, 49])), (3, 1, (.str [122, 57]))]).bind fun c1 =>
 (call 19 [a0, (.int .i64 4)] ((h.res 2).setBlk (h.next + 0) (some ⟨c1, true⟩))).bind fun r2 =>
 (aIaddr 1 (.slice (h.next + 0) 0 4 4 1 true) r2.1).bind fun v3 =>
 (aLoad r2.2 1 v3).bind fun c4 =>
 (fromCells false c4).bind fun v5 =>
 (aFill (reps [.str []] 5) [(0, 1, (.str [105, 100])), (1, 1, (.str [97])), (2, 1, (.str [105, 100, 50])), (3, 1, (.str [120, 48])), (4, 1, (.str [109]))]).bind fun c6 =>
 (call 19 [a0, (.int .i64 5)] (r2.2.setBlk (h.next + 1) (some ⟨c6, true⟩))).bind fun r7 =>
 (aIaddr 1 (.slice (h.next + 1) 0 5 5 1 true) r7.1).bind fun v8 =>
 (aLoad r7.2 1 v8).bind fun c9 =>
 (fromCells false c9).bind fun v10 =>
 (aFill [.str [], .str []] [(0, 1, v5), (1, 1, v10)]).bind fun c11 =>
 (aCells 2 (.agg c11)).bind fun c12 =>
 bif Nat.ble ((0) + 2) (List.length (α := AVal) [.str [], .str []]) then bif checkPairs [(7, some (.ef [(2, [.str [], .str []])] (r2.2.setBlk (h.next + 1) (some ⟨c6, true⟩)) [(2, [.str [], .str []])] r7.2)), (4, logRd v3 1)] [(4, 7)] then (((rdL (splice [.str [], .str []] (0) c12) (0) 2).bind fun cs => fromCells true cs).bind fun v => (some []).bind fun vs => some (v :: vs)).bind fun vs => some (0, [oneOr vs], r7.2) else none else none
theorem run29 (call : Go.Fw.Call) (a0 : AVal) (h : Heap) : runFn call (.code A29) [a0] h = (S29 call a0 h).bind ansOf := by kernel_rfl

/-- (*frankpledge/frankpledgekeep.Tape).Stamp -/
noncomputable def A30 : AFunc := ⟨1, (.seq (.region [.op 0 (.alloc 2 true [.int .i64 0, .int .i64 0, .int .i64 0])] [])
 (.seq (.region [.op 0 (.mov 3 (.tmp 0)),
 .op 1 (.call 4 19 [.tmp 3, .const (.int .i64 40)]),
 .op 2 (.mov 5 (.tmp 0)),
 .op 3 (.call 6 19 [.tmp 5, .const (.int .i64 6)]),
 .op 4 (.mov 7 (.tmp 0)),
 .op 5 (.call 8 19 [.tmp 7, .const (.int .i64 9)]),
 .op 6 (.build 9 [.int .i64 0, .int .i64 0, .int .i64 0] [(0, 1, .tmp 4), (1, 1, .tmp 6), (2, 1, .tmp 8)]),
 .op 7 (.store true 3 (.tmp 2) (.tmp 9))] [])
 .ret)),
 [.cell 2 true 3]⟩
theorem ok30 : funcOk Try.prog (drawOk Try.prog) Try.f30 A30 = true := by kernel_rfl
noncomputable def S30 (call : Go.Fw.Call) (a0 : AVal) (h : Heap) : Option J :=
 (call 19 [a0, (.int .i64 40)] h).bind fun r1 =>
 (call 19 [a0, (.int .i64 6)] r1.2).bind fun r2 =>
 (call 19 [a0, (.int .i64 9)] r2.2).bind fun r3 =>
 (aFill [.int .i64 0, .int .i64 0, .int .i64 0] [(0, 1, r1.1), (1, 1, r2.1), (2, 1, r3.1)]).bind fun c4 =>
 (aCells 3 (.agg c4)).bind fun c5 =>
 bif Nat.ble ((0) + 3) (List.length (α := AVal) [.int .i64 0, .int .i64 0, .int .i64 0]) then (((rdL (splice [.int .i64 0, .int .i64 0, .int .i64 0] (0) c5) (0) 3).bind fun cs => fromCells true cs).bind fun v => (some []).bind fun vs => some (v :: vs)).bind fun vs => some (0, [oneOr vs], r3.2) else none
theorem run30 (call : Go.Fw.Call) (a0 : AVal) (h : Heap) : runFn call (.code A30) [a0] h = (S30 call a0 h).bind ansOf := by kernel_rfl

/-- slices.DeleteFunc[[]frankpledge/api.Card,frankpledge/api.Card] -/
noncomputable def A31 : AFunc := ⟨2, (.seq (.region [.op 0 (.mov 4 (.const (.nilSlice)))] [])
 (.seq (.region [.op 0 (.mov 8 (.tmp 0)),
 .op 1 (.mov 9 (.tmp 1)),
 .op 2 (.call 10 33 [.tmp 8, .tmp 9]),
 .op 3 (.mov 5 (.tmp 10))] [])
 (.seq (.seq (.region [.op 0 (.mov 11 (.tmp 5)),
 .op 1 (.bin 12 .eql .plain (.tmp 11) (.const (.int .i64 (-1))))] [])
 (.cond (.tmp 12)
 (.seq (.region [.op 0 (.mov 13 (.tmp 0)),
 .op 1 (.mov 4 (.tmp 13))] [])
 .ret)
 .skip))
 (.seq (.seq (.region [.op 0 (.mov 14 (.tmp 5)),
 .op 1 (.bin 15 .add .plain (.tmp 14) (.const (.int .i64 1))),
 .op 2 (.mov 6 (.tmp 15))] [])
 (.block 0 (.loop ⟨[0, 1, 5, 6], []⟩ [((.exit 0), ⟨[0, 5], []⟩)]
 (.seq (.seq (.region [.op 0 (.mov 16 (.tmp 6)),
 .op 1 (.mov 17 (.tmp 0)),
 .op 2 (.len 18 false (.tmp 17)),
 .op 3 (.bin 19 .lss .plain (.tmp 16) (.tmp 18))] [])
 (.cond (.tmp 19)
 .skip
 (.exit 0)))
 (.seq (.block 1 (.seq (.region [.op 0 (.mov 22 (.tmp 0)),
 .op 1 (.mov 23 (.tmp 6)),
 .op 2 (.iaddr 24 none 9 (.tmp 22) (.tmp 23)),
 .op 3 (.load 25 true 9 (.tmp 24)),
 .op 4 (.alloc 7 true [.str [], .str [], .int .i64 0, .int .i64 0, .int .i64 0, .int .i64 0, .int .i64 0, .int .i64 0, .bool false]),
 .op 5 (.store true 9 (.tmp 7) (.tmp 25))] [])
 (.seq (.region [.op 0 (.mov 26 (.tmp 1)),
 .op 1 (.load 27 true 9 (.tmp 7)),
 .op 2 (.callv 28 (.tmp 26) [.tmp 27]),
 .op 3 (.un 29 .not (.tmp 28))] [])
 (.join [(.normal, ⟨[0, 1, 5, 6], []⟩)] (.cond (.tmp 29)
 (.seq (.region [.op 0 (.mov 30 (.tmp 0)),
 .op 1 (.mov 31 (.tmp 5)),
 .op 2 (.load 32 true 9 (.tmp 7)),
 .op 3 (.iaddr 33 none 9 (.tmp 30) (.tmp 31)),
 .op 4 (.store true 9 (.tmp 33) (.tmp 32))] [])
 (.region [.op 0 (.mov 34 (.tmp 5)),
 .op 1 (.bin 35 .add .plain (.tmp 34) (.const (.int .i64 1))),
 .op 2 (.mov 5 (.tmp 35))] []))
 .skip)))))
 (.region [.op 0 (.mov 20 (.tmp 6)),
 .op 1 (.bin 21 .add .plain (.tmp 20) (.const (.int .i64 1))),
 .op 2 (.mov 6 (.tmp 21))] []))))))
 (.seq (.region [.op 0 (.mov 36 (.tmp 0)),
 .op 1 (.mov 37 (.tmp 5)),
 .op 2 (.slice 38 (.sl 9) (.tmp 36) (some (.tmp 37)) none none),
 .op 3 (.clear 0 [.str [], .str [], .int .i64 0, .int .i64 0, .int .i64 0, .int .i64 0, .int .i64 0, .int .i64 0, .bool false] (.tmp 38))] [])
 (.seq (.region [.op 0 (.mov 39 (.tmp 0)),
 .op 1 (.mov 40 (.tmp 5)),
 .op 2 (.slice 41 (.sl 9) (.tmp 39) none (some (.tmp 40)) none),
 .op 3 (.mov 4 (.tmp 41))] [])
 .ret)))))),
 [.tmp 4]⟩
theorem ok31 : funcOk Try.prog (drawOk Try.prog) Try.f31 A31 = true := by kernel_rfl
/-- xs: t0, t1, t5, t6 -/
noncomputable def L31_0 (call : Go.Fw.Call) (xs : List AVal) (h : Heap) : Option J :=
 (aLen false (xs.getD 0 .undef)).bind fun v4 =>
 (aBin .lss .plain (xs.getD 3 .undef) v4).bind fun v5 =>
 condV v5
 ((aIaddr 9 (xs.getD 0 .undef) (xs.getD 3 .undef)).bind fun v6 =>
 (aLoad h 9 v6).bind fun c7 =>
 (fromCells true c7).bind fun v8 =>
 (aCells 9 v8).bind fun c9 =>
 bif Nat.ble ((0) + 9) (List.length (α := AVal) [.str [], .str [], .int .i64 0, .int .i64 0, .int .i64 0, .int .i64 0, .int .i64 0, .int .i64 0, .bool false]) then (rdL (splice [.str [], .str [], .int .i64 0, .int .i64 0, .int .i64 0, .int .i64 0, .int .i64 0, .int .i64 0, .bool false] (0) c9) 0 9).bind fun c10 =>
 (fromCells true c10).bind fun v11 =>
 (aFn (xs.getD 1 .undef)).bind fun q12 =>
 (call q12.1 ([v11] ++ q12.2) h).bind fun r13 =>
 (aUn .not r13.1).bind fun v14 =>
 (condV v14
 ((rdL (splice [.str [], .str [], .int .i64 0, .int .i64 0, .int .i64 0, .int .i64 0, .int .i64 0, .int .i64 0, .bool false] (0) c9) 0 9).bind fun c15 =>
 (fromCells true c15).bind fun v16 =>
 (aIaddr 9 (xs.getD 0 .undef) (xs.getD 2 .undef)).bind fun v17 =>
 (aCells 9 v16).bind fun c18 =>
 (aStore r13.2 v17 c18).bind fun h19 =>
 (aBin .add .plain (xs.getD 2 .undef) (.int .i64 1)).bind fun v20 =>
 some (0, [(xs.getD 0 .undef), (xs.getD 1 .undef), v20, (xs.getD 3 .undef)], h19))
 (some (0, [(xs.getD 0 .undef), (xs.getD 1 .undef), (xs.getD 2 .undef), (xs.getD 3 .undef)], r13.2))).bind fun x21 =>
 bif Nat.beq x21.1 0 then (aBin .add .plain (x21.2.1.getD 3 .undef) (.int .i64 1)).bind fun v22 =>
 some (0, [(x21.2.1.getD 0 .undef), (x21.2.1.getD 1 .undef), (x21.2.1.getD 2 .undef), v22], x21.2.2) else
 none else none)
 (some (1, [(xs.getD 0 .undef), (xs.getD 2 .undef)], h))
noncomputable def S31 (call : Go.Fw.Call) (a0 a1 : AVal) (h : Heap) : Option J :=
 (call 33 [a0, a1] h).bind fun r1 =>
 (aBin .eql .plain r1.1 (.int .i64 (-1))).bind fun v2 =>
 condV v2
 (some (0, [a0], r1.2))
 ((aBin .add .plain r1.1 (.int .i64 1)).bind fun v3 =>
 (loop (L31_0 call) [a0, a1, r1.1, v3] r1.2).bind fun x23 =>
 bif Nat.beq x23.1 1 then (aSliceSl 9 (x23.2.1.getD 0 .undef) (some (x23.2.1.getD 1 .undef)) none none).bind fun v24 =>
 (aClear [.str [], .str [], .int .i64 0, .int .i64 0, .int .i64 0, .int .i64 0, .int .i64 0, .int .i64 0, .bool false] v24 x23.2.2).bind fun r25 =>
 (aSliceSl 9 (x23.2.1.getD 0 .undef) none (some (x23.2.1.getD 1 .undef)) none).bind fun v26 =>
 some (0, [v26], r25.2) else
 none)
theorem run31 (call : Go.Fw.Call) (a0 a1 : AVal) (h : Heap) : runFn call (.code A31) [a0, a1] h = (S31 call a0 a1 h).bind ansOf := by kernel_rfl

/-- (*frankpledge/queue.Queue).add$1 -/
noncomputable def A32 : AFunc := ⟨2, (.seq (.region [.op 0 (.box 2 true (.tmp 0)),
 .op 1 (.mov 3 (.const (.bool false)))] [])
 (.seq (.region [.op 0 (.faddr 4 0 (.tmp 2)),
 .op 1 (.load 5 true 2 (.tmp 4)),
 .op 2 (.faddr 6 0 (.tmp 1)),
 .op 3 (.load 7 true 2 (.tmp 6)),
 .op 4 (.bin 8 .eql (.cells [2, 2]) (.tmp 5) (.tmp 7)),
 .op 5 (.mov 3 (.tmp 8))] [])
 .ret)),
 [.tmp 3]⟩
theorem ok32 : funcOk Try.prog (drawOk Try.prog) Try.f32 A32 = true := by kernel_rfl
noncomputable def S32 (call : Go.Fw.Call) (a0 a1 : AVal) (h : Heap) : Option J :=
 (AVal.cells? a0).bind fun c1 =>
 (rdL c1 0 2).bind fun c2 =>
 (fromCells true c2).bind fun v3 =>
 (aFaddr 0 a1).bind fun v4 =>
 (aLoad h 2 v4).bind fun c5 =>
 (fromCells true c5).bind fun v6 =>
 (aBin .eql (.cells [2, 2]) v3 v6).bind fun v7 =>
 some (0, [v7], h)
theorem run32 (call : Go.Fw.Call) (a0 a1 : AVal) (h : Heap) : runFn call (.code A32) [a0, a1] h = (S32 call a0 a1 h).bind ansOf := by kernel_rfl

/-- slices.IndexFunc[[]frankpledge/api.Card,frankpledge/api.Card] -/
noncomputable def A33 : AFunc := ⟨2, (.seq (.region [.op 0 (.mov 4 (.const (.int .i64 0)))] [])
 (.seq (.seq (.region [.op 0 (.mov 6 (.tmp 0)),
 .op 1 (.len 7 false (.tmp 6)),
 .op 2 (.mov 8 (.const (.int .i64 0)))] [])
 (.block 0 (.loop ⟨[0, 1, 7, 8], []⟩ [((.exit 0), ⟨[], []⟩), (.ret, ⟨[4], []⟩)]
 (.seq (.region [.op 0 (.bin 9 .lss .plain (.tmp 8) (.tmp 7))] [])
 (.seq (.cond (.tmp 9)
 .skip
 (.exit 0))
 (.seq (.block 1 (.seq (.region [.op 0 (.mov 10 (.tmp 8)),
 .op 1 (.mov 5 (.tmp 10))] [])
 (.seq (.region [.op 0 (.mov 11 (.tmp 1)),
 .op 1 (.mov 12 (.tmp 0)),
 .op 2 (.mov 13 (.tmp 5)),
 .op 3 (.iaddr 14 none 9 (.tmp 12) (.tmp 13)),
 .op 4 (.load 15 true 9 (.tmp 14)),
 .op 5 (.callv 16 (.tmp 11) [.tmp 15])] [])
 (.cond (.tmp 16)
 (.seq (.region [.op 0 (.mov 17 (.tmp 5)),
 .op 1 (.mov 4 (.tmp 17))] [])
 .ret)
 .skip))))
 (.region [.op 0 (.bin 18 .add .plain (.tmp 8) (.const (.int .i64 1))),
 .op 1 (.mov 8 (.tmp 18))] [])))))))
 (.seq (.region [.op 0 (.mov 4 (.const (.int .i64 (-1))))] [])
 .ret))),
 [.tmp 4]⟩
theorem ok33 : funcOk Try.prog (drawOk Try.prog) Try.f33 A33 = true := by kernel_rfl
/-- xs: t0, t1, t7, t8 -/
noncomputable def L33_0 (call : Go.Fw.Call) (xs : List AVal) (h : Heap) : Option J :=
 (aBin .lss .plain (xs.getD 3 .undef) (xs.getD 2 .undef)).bind fun v2 =>
 condV v2
 ((aIaddr 9 (xs.getD 0 .undef) (xs.getD 3 .undef)).bind fun v3 =>
 (aLoad h 9 v3).bind fun c4 =>
 (fromCells true c4).bind fun v5 =>
 (aFn (xs.getD 1 .undef)).bind fun q6 =>
 (call q6.1 ([v5] ++ q6.2) h).bind fun r7 =>
 condV r7.1
 (some (2, [(xs.getD 3 .undef)], r7.2))
 ((aBin .add .plain (xs.getD 3 .undef) (.int .i64 1)).bind fun v8 =>
 some (0, [(xs.getD 0 .undef), (xs.getD 1 .undef), (xs.getD 2 .undef), v8], r7.2)))
 (some (1, [], h))
noncomputable def S33 (call : Go.Fw.Call) (a0 a1 : AVal) (h : Heap) : Option J :=
 (aLen false a0).bind fun v1 =>
 (loop (L33_0 call) [a0, a1, v1, (.int .i64 0)] h).bind fun x9 =>
 bif Nat.beq x9.1 1 then some (0, [(.int .i64 (-1))], x9.2.2) else
 bif Nat.beq x9.1 2 then some (0, [(x9.2.1.getD 0 .undef)], x9.2.2) else
 none
theorem run33 (call : Go.Fw.Call) (a0 a1 : AVal) (h : Heap) : runFn call (.code A33) [a0, a1] h = (S33 call a0 a1 h).bind ansOf := by kernel_rfl

noncomputable def tbl (f : Nat) : Option AFn :=
 match f with
 | 3 => some (.code A3)
 | 4 => some (.code A4)
 | 5 => some (.code A5)
 | 6 => some (.code A6)
 | 7 => some (.code A7)
 | 8 => some (.code A8)
 | 9 => some (.code A9)
 | 10 => some (.code A10)
 | 11 => some (.code A11)
 | 12 => some (.code A12)
 | 13 => some (.code A13)
 | 14 => some (.code A14)
 | 15 => some (.code A15)
 | 16 => some (.code A16)
 | 17 => some (.code A17)
 | 18 => some (.code A18)
 | 19 => some (.code A19)
 | 20 => some (.code A20)
 | 21 => some (.code A21)
 | 22 => some (.code A22)
 | 23 => some (.code A23)
 | 24 => some (.code A24)
 | 25 => some (.code A25)
 | 26 => some (.code A26)
 | 27 => some (.code A27)
 | 28 => some (.code A28)
 | 29 => some (.code A29)
 | 30 => some (.code A30)
 | 31 => some (.code A31)
 | 32 => some (.code A32)
 | 33 => some (.code A33)
 | _ => none
theorem c3 (h : Heap) : E tbl 3 [] h = (S3 (E tbl)  h).bind ansOf := (E_eq tbl 3 [] h).trans (run3 (E tbl)  h)
theorem c4 (a0 a1 a2 : AVal) (h : Heap) : E tbl 4 [a0, a1, a2] h = (S4 (E tbl) a0 a1 a2 h).bind ansOf := (E_eq tbl 4 [a0, a1, a2] h).trans (run4 (E tbl) a0 a1 a2 h)
theorem c5 (a0 : AVal) (h : Heap) : E tbl 5 [a0] h = (S5 (E tbl) a0 h).bind ansOf := (E_eq tbl 5 [a0] h).trans (run5 (E tbl) a0 h)
theorem c6 (a0 a1 : AVal) (h : Heap) : E tbl 6 [a0, a1] h = (S6 (E tbl) a0 a1 h).bind ansOf := (E_eq tbl 6 [a0, a1] h).trans (run6 (E tbl) a0 a1 h)
theorem c7 (a0 a1 : AVal) (h : Heap) : E tbl 7 [a0, a1] h = (S7 (E tbl) a0 a1 h).bind ansOf := (E_eq tbl 7 [a0, a1] h).trans (run7 (E tbl) a0 a1 h)
theorem c8 (a0 a1 a2 : AVal) (h : Heap) : E tbl 8 [a0, a1, a2] h = (S8 (E tbl) a0 a1 a2 h).bind ansOf := (E_eq tbl 8 [a0, a1, a2] h).trans (run8 (E tbl) a0 a1 a2 h)
theorem c9 (h : Heap) : E tbl 9 [] h = (S9 (E tbl)  h).bind ansOf := (E_eq tbl 9 [] h).trans (run9 (E tbl)  h)
theorem c10 (a0 a1 a2 : AVal) (h : Heap) : E tbl 10 [a0, a1, a2] h = (S10 (E tbl) a0 a1 a2 h).bind ansOf := (E_eq tbl 10 [a0, a1, a2] h).trans (run10 (E tbl) a0 a1 a2 h)
theorem c11 (a0 a1 : AVal) (h : Heap) : E tbl 11 [a0, a1] h = (S11 (E tbl) a0 a1 h).bind ansOf := (E_eq tbl 11 [a0, a1] h).trans (run11 (E tbl) a0 a1 h)
theorem c12 (a0 : AVal) (h : Heap) : E tbl 12 [a0] h = (S12 (E tbl) a0 h).bind ansOf := (E_eq tbl 12 [a0] h).trans (run12 (E tbl) a0 h)
theorem c13 (a0 a1 : AVal) (h : Heap) : E tbl 13 [a0, a1] h = (S13 (E tbl) a0 a1 h).bind ansOf := (E_eq tbl 13 [a0, a1] h).trans (run13 (E tbl) a0 a1 h)
theorem c14 (a0 a1 : AVal) (h : Heap) : E tbl 14 [a0, a1] h = (S14 (E tbl) a0 a1 h).bind ansOf := (E_eq tbl 14 [a0, a1] h).trans (run14 (E tbl) a0 a1 h)
theorem c15 (a0 a1 : AVal) (h : Heap) : E tbl 15 [a0, a1] h = (S15 (E tbl) a0 a1 h).bind ansOf := (E_eq tbl 15 [a0, a1] h).trans (run15 (E tbl) a0 a1 h)
theorem c16 (a0 : AVal) (h : Heap) : E tbl 16 [a0] h = (S16 (E tbl) a0 h).bind ansOf := (E_eq tbl 16 [a0] h).trans (run16 (E tbl) a0 h)
theorem c17 (a0 a1 : AVal) (h : Heap) : E tbl 17 [a0, a1] h = (S17 (E tbl) a0 a1 h).bind ansOf := (E_eq tbl 17 [a0, a1] h).trans (run17 (E tbl) a0 a1 h)
theorem c18 (a0 : AVal) (h : Heap) : E tbl 18 [a0] h = (S18 (E tbl) a0 h).bind ansOf := (E_eq tbl 18 [a0] h).trans (run18 (E tbl) a0 h)
theorem c19 (a0 a1 : AVal) (h : Heap) : E tbl 19 [a0, a1] h = (S19 (E tbl) a0 a1 h).bind ansOf := (E_eq tbl 19 [a0, a1] h).trans (run19 (E tbl) a0 a1 h)
theorem c20 (a0 a1 : AVal) (h : Heap) : E tbl 20 [a0, a1] h = (S20 (E tbl) a0 a1 h).bind ansOf := (E_eq tbl 20 [a0, a1] h).trans (run20 (E tbl) a0 a1 h)
theorem c21 (a0 a1 : AVal) (h : Heap) : E tbl 21 [a0, a1] h = (S21 (E tbl) a0 a1 h).bind ansOf := (E_eq tbl 21 [a0, a1] h).trans (run21 (E tbl) a0 a1 h)
theorem c22 (a0 : AVal) (h : Heap) : E tbl 22 [a0] h = (S22 (E tbl) a0 h).bind ansOf := (E_eq tbl 22 [a0] h).trans (run22 (E tbl) a0 h)
theorem c23 (a0 a1 : AVal) (h : Heap) : E tbl 23 [a0, a1] h = (S23 (E tbl) a0 a1 h).bind ansOf := (E_eq tbl 23 [a0, a1] h).trans (run23 (E tbl) a0 a1 h)
theorem c24 (a0 a1 a2 : AVal) (h : Heap) : E tbl 24 [a0, a1, a2] h = (S24 (E tbl) a0 a1 a2 h).bind ansOf := (E_eq tbl 24 [a0, a1, a2] h).trans (run24 (E tbl) a0 a1 a2 h)
theorem c25 (a0 a1 : AVal) (h : Heap) : E tbl 25 [a0, a1] h = (S25 (E tbl) a0 a1 h).bind ansOf := (E_eq tbl 25 [a0, a1] h).trans (run25 (E tbl) a0 a1 h)
theorem c26 (a0 : AVal) (h : Heap) : E tbl 26 [a0] h = (S26 (E tbl) a0 h).bind ansOf := (E_eq tbl 26 [a0] h).trans (run26 (E tbl) a0 h)
theorem c27 (a0 a1 a2 : AVal) (h : Heap) : E tbl 27 [a0, a1, a2] h = (S27 (E tbl) a0 a1 a2 h).bind ansOf := (E_eq tbl 27 [a0, a1, a2] h).trans (run27 (E tbl) a0 a1 a2 h)
theorem c28 (a0 a1 : AVal) (h : Heap) : E tbl 28 [a0, a1] h = (S28 (E tbl) a0 a1 h).bind ansOf := (E_eq tbl 28 [a0, a1] h).trans (run28 (E tbl) a0 a1 h)
theorem c29 (a0 : AVal) (h : Heap) : E tbl 29 [a0] h = (S29 (E tbl) a0 h).bind ansOf := (E_eq tbl 29 [a0] h).trans (run29 (E tbl) a0 h)
theorem c30 (a0 : AVal) (h : Heap) : E tbl 30 [a0] h = (S30 (E tbl) a0 h).bind ansOf := (E_eq tbl 30 [a0] h).trans (run30 (E tbl) a0 h)
theorem c31 (a0 a1 : AVal) (h : Heap) : E tbl 31 [a0, a1] h = (S31 (E tbl) a0 a1 h).bind ansOf := (E_eq tbl 31 [a0, a1] h).trans (run31 (E tbl) a0 a1 h)
theorem c32 (a0 a1 : AVal) (h : Heap) : E tbl 32 [a0, a1] h = (S32 (E tbl) a0 a1 h).bind ansOf := (E_eq tbl 32 [a0, a1] h).trans (run32 (E tbl) a0 a1 h)
theorem c33 (a0 a1 : AVal) (h : Heap) : E tbl 33 [a0, a1] h = (S33 (E tbl) a0 a1 h).bind ansOf := (E_eq tbl 33 [a0, a1] h).trans (run33 (E tbl) a0 a1 h)
theorem tbl_ok : ∀ f a, tbl f = some a → FnOk Try.prog (drawOk Try.prog) f a := by
  intro f a h
  unfold tbl at h
  split at h
  · cases h; exact ⟨_, Try.func3, by decide +kernel, ok3⟩
  · cases h; exact ⟨_, Try.func4, by decide +kernel, ok4⟩
  · cases h; exact ⟨_, Try.func5, by decide +kernel, ok5⟩
  · cases h; exact ⟨_, Try.func6, by decide +kernel, ok6⟩
  · cases h; exact ⟨_, Try.func7, by decide +kernel, ok7⟩
  · cases h; exact ⟨_, Try.func8, by decide +kernel, ok8⟩
  · cases h; exact ⟨_, Try.func9, by decide +kernel, ok9⟩
  · cases h; exact ⟨_, Try.func10, by decide +kernel, ok10⟩
  · cases h; exact ⟨_, Try.func11, by decide +kernel, ok11⟩
  · cases h; exact ⟨_, Try.func12, by decide +kernel, ok12⟩
  · cases h; exact ⟨_, Try.func13, by decide +kernel, ok13⟩
  · cases h; exact ⟨_, Try.func14, by decide +kernel, ok14⟩
  · cases h; exact ⟨_, Try.func15, by decide +kernel, ok15⟩
  · cases h; exact ⟨_, Try.func16, by decide +kernel, ok16⟩
  · cases h; exact ⟨_, Try.func17, by decide +kernel, ok17⟩
  · cases h; exact ⟨_, Try.func18, by decide +kernel, ok18⟩
  · cases h; exact ⟨_, Try.func19, by decide +kernel, ok19⟩
  · cases h; exact ⟨_, Try.func20, by decide +kernel, ok20⟩
  · cases h; exact ⟨_, Try.func21, by decide +kernel, ok21⟩
  · cases h; exact ⟨_, Try.func22, by decide +kernel, ok22⟩
  · cases h; exact ⟨_, Try.func23, by decide +kernel, ok23⟩
  · cases h; exact ⟨_, Try.func24, by decide +kernel, ok24⟩
  · cases h; exact ⟨_, Try.func25, by decide +kernel, ok25⟩
  · cases h; exact ⟨_, Try.func26, by decide +kernel, ok26⟩
  · cases h; exact ⟨_, Try.func27, by decide +kernel, ok27⟩
  · cases h; exact ⟨_, Try.func28, by decide +kernel, ok28⟩
  · cases h; exact ⟨_, Try.func29, by decide +kernel, ok29⟩
  · cases h; exact ⟨_, Try.func30, by decide +kernel, ok30⟩
  · cases h; exact ⟨_, Try.func31, by decide +kernel, ok31⟩
  · cases h; exact ⟨_, Try.func32, by decide +kernel, ok32⟩
  · cases h; exact ⟨_, Try.func33, by decide +kernel, ok33⟩
  · cases h
theorem prog_ok : CallOk Try.prog (E tbl) := E_ok tbl_ok
end Go.Proofs.Ythnilenennobeaa.Code
