import Derived.Test.YtllogmedpmanoaaProg
import Derived.Test.YtllogmedpmanoaaFwZb
import Derived.KernelRfl
namespace Go.Proofs.Ytllogmedpmanoaa.Code
set_option linter.unusedSimpArgs false
set_option linter.unusedVariables false
open Go.Fw

/-- frankpledge/frankpledgelaw23.LookCounts -/
noncomputable def A5 : AFunc := ⟨1, (.seq (.region [.op 0 (.mov 2 (.const (.bool false)))] [])
 (.seq (.region [.op 0 (.mov 8 (.tmp 0)),
 .op 1 (.build 9 [.nilSlice, .int .i64 0] [(0, 1, .tmp 8)]),
 .op 2 (.box 10 false (.tmp 9)),
 .op 3 (.call 11 6 [.tmp 10, .const (.int .i64 14)]),
 .op 4 (.mov 3 (.tmp 11))] [])
 (.seq (.region [.op 0 (.mov 12 (.tmp 3)),
 .op 1 (.call 13 13 [.tmp 12]),
 .op 2 (.alloc 4 true [.int .i64 0, .int .i64 0, .int .i64 0, .int .i64 0]),
 .op 3 (.store true 4 (.tmp 4) (.tmp 13))] [])
 (.seq (.region [.op 0 (.mov 5 (.const (.int .i64 0)))] [])
 (.seq (.seq (.region [.op 0 (.mov 14 (.tmp 3)),
 .op 1 (.call 15 14 [.tmp 14]),
 .op 2 (.len 16 false (.tmp 15)),
 .op 3 (.mov 17 (.const (.int .i64 0)))] [])
 (.block 0 (.loop ⟨[3, 5, 15, 16, 17], [4]⟩ [((.exit 0), ⟨[3, 5], [4]⟩)]
 (.seq (.region [.op 0 (.bin 18 .lss .plain (.tmp 17) (.tmp 16))] [])
 (.seq (.cond (.tmp 18)
 .skip
 (.exit 0))
 (.seq (.block 1 (.seq (.region [.op 0 (.iaddr 19 none 1 (.tmp 15) (.tmp 17)),
 .op 1 (.load 20 false 1 (.tmp 19)),
 .op 2 (.mov 7 (.tmp 20))] [])
 (.region [.op 0 (.mov 21 (.tmp 5)),
 .op 1 (.mov 22 (.tmp 3)),
 .op 2 (.mov 23 (.tmp 7)),
 .op 3 (.call 24 10 [.tmp 22, .tmp 23]),
 .op 4 (.len 25 false (.tmp 24)),
 .op 5 (.bin 26 .add .plain (.tmp 21) (.tmp 25)),
 .op 6 (.mov 5 (.tmp 26))] [])))
 (.region [.op 0 (.bin 27 .add .plain (.tmp 17) (.const (.int .i64 1))),
 .op 1 (.mov 17 (.tmp 27))] [])))))))
 (.seq (.region [.op 0 (.iaddr 28 (some 4) 1 (.tmp 4) (.const (.int .i64 0))),
 .op 1 (.load 29 false 1 (.tmp 28)),
 .op 2 (.iaddr 30 (some 4) 1 (.tmp 4) (.const (.int .i64 1))),
 .op 3 (.load 31 false 1 (.tmp 30)),
 .op 4 (.bin 32 .add .plain (.tmp 29) (.tmp 31)),
 .op 5 (.iaddr 33 (some 4) 1 (.tmp 4) (.const (.int .i64 2))),
 .op 6 (.load 34 false 1 (.tmp 33)),
 .op 7 (.bin 35 .add .plain (.tmp 32) (.tmp 34)),
 .op 8 (.iaddr 36 (some 4) 1 (.tmp 4) (.const (.int .i64 3))),
 .op 9 (.load 37 false 1 (.tmp 36)),
 .op 10 (.bin 38 .add .plain (.tmp 35) (.tmp 37)),
 .op 11 (.mov 39 (.tmp 3)),
 .op 12 (.len 40 false (.tmp 39)),
 .op 13 (.bin 41 .eql .plain (.tmp 38) (.tmp 40)),
 .op 14 (.mov 42 (.tmp 41)),
 .guard 42 true [.op 15 (.mov 43 (.tmp 5)),
 .op 16 (.iaddr 44 (some 4) 1 (.tmp 4) (.const (.int .i64 1))),
 .op 17 (.load 45 false 1 (.tmp 44)),
 .op 18 (.bin 46 .eql .plain (.tmp 43) (.tmp 45))] [] [46],
 .op 19 (.pick 47 (.tmp 42) (.tmp 46) (.const (.bool false))),
 .op 20 (.mov 48 (.tmp 47)),
 .guard 48 true [.op 21 (.call 49 8 [])] [] [49],
 .op 22 (.pick 50 (.tmp 48) (.tmp 49) (.const (.bool false))),
 .op 23 (.mov 2 (.tmp 50))] [])
 .ret)))))),
 [.tmp 2]⟩
theorem ok5 : funcOk Try.prog (drawOk Try.prog) Try.f5 A5 = true := by kernel_rfl
/-- xs: t3, t5, t15, t16, t17, cells of 4 -/
noncomputable def L5_0 (call : Go.Fw.Call) (xs : List AVal) (h : Heap) : Option J :=
 (aBin .lss .plain (xs.getD 4 .undef) (xs.getD 3 .undef)).bind fun v9 =>
 condV v9
 ((aIaddr 1 (xs.getD 2 .undef) (xs.getD 4 .undef)).bind fun v10 =>
 (aLoad h 1 v10).bind fun c11 =>
 (fromCells false c11).bind fun v12 =>
 (call 10 [(xs.getD 0 .undef), v12] h).bind fun r13 =>
 (aLen false r13.1).bind fun v14 =>
 (aBin .add .plain (xs.getD 1 .undef) v14).bind fun v15 =>
 (aBin .add .plain (xs.getD 4 .undef) (.int .i64 1)).bind fun v16 =>
 some (0, [(xs.getD 0 .undef), v15, (xs.getD 2 .undef), (xs.getD 3 .undef), v16, (.agg (AVal.aggCells (xs.getD 5 .undef)))], r13.2))
 (some (1, [(xs.getD 0 .undef), (xs.getD 1 .undef), (.agg (AVal.aggCells (xs.getD 5 .undef)))], h))
noncomputable def S5 (call : Go.Fw.Call) (a0 : AVal) (h : Heap) : Option J :=
 (aFill [.nilSlice, .int .i64 0] [(0, 1, a0)]).bind fun c1 =>
 (AVal.cells? (.agg c1)).bind fun c2 =>
 (call 6 [(.ptr h.next 0), (.int .i64 14)] (h.alloc c2)).bind fun r4 =>
 (call 13 [r4.1] r4.2).bind fun r5 =>
 (aCells 4 r5.1).bind fun c6 =>
 bif Nat.ble ((0) + 4) (List.length (α := AVal) [.int .i64 0, .int .i64 0, .int .i64 0, .int .i64 0]) then (call 14 [r4.1] r5.2).bind fun r7 =>
 (aLen false r7.1).bind fun v8 =>
 (loop (L5_0 call) [r4.1, (.int .i64 0), r7.1, v8, (.int .i64 0), (.agg (splice [.int .i64 0, .int .i64 0, .int .i64 0, .int .i64 0] (0) c6))] r7.2).bind fun x17 =>
 bif Nat.beq x17.1 1 then (aIdx 4 (.int .i64 0)).bind fun j18 =>
 (rdL (AVal.aggCells (x17.2.1.getD 2 .undef)) ((0) + j18 * 1) 1).bind fun c19 =>
 (fromCells false c19).bind fun v20 =>
 (aIdx 4 (.int .i64 1)).bind fun j21 =>
 (rdL (AVal.aggCells (x17.2.1.getD 2 .undef)) ((0) + j21 * 1) 1).bind fun c22 =>
 (fromCells false c22).bind fun v23 =>
 (aBin .add .plain v20 v23).bind fun v24 =>
 (aIdx 4 (.int .i64 2)).bind fun j25 =>
 (rdL (AVal.aggCells (x17.2.1.getD 2 .undef)) ((0) + j25 * 1) 1).bind fun c26 =>
 (fromCells false c26).bind fun v27 =>
 (aBin .add .plain v24 v27).bind fun v28 =>
 (aIdx 4 (.int .i64 3)).bind fun j29 =>
 (rdL (AVal.aggCells (x17.2.1.getD 2 .undef)) ((0) + j29 * 1) 1).bind fun c30 =>
 (fromCells false c30).bind fun v31 =>
 (aBin .add .plain v28 v31).bind fun v32 =>
 (aLen false (x17.2.1.getD 0 .undef)).bind fun v33 =>
 (aBin .eql .plain v32 v33).bind fun v34 =>
 (guardV v34 true
 ((aIdx 4 (.int .i64 1)).bind fun j35 =>
 (rdL (AVal.aggCells (x17.2.1.getD 2 .undef)) ((0) + j35 * 1) 1).bind fun c36 =>
 (fromCells false c36).bind fun v37 =>
 (aBin .eql .plain (x17.2.1.getD 1 .undef) v37).bind fun v38 =>
 some (0, [v38], x17.2.2))
 (some (0, [skipV], x17.2.2))).bind fun g39 =>
 (aPick v34 (g39.2.1.getD 0 .undef) (.bool false)).bind fun v40 =>
 (guardV v40 true
 ((call 8 [] g39.2.2).bind fun r41 =>
 some (0, [r41.1], r41.2))
 (some (0, [skipV], g39.2.2))).bind fun g42 =>
 (aPick v40 (g42.2.1.getD 0 .undef) (.bool false)).bind fun v43 =>
 some (0, [v43], g42.2.2) else
 none else none
theorem run5 (call : Go.Fw.Call) (a0 : AVal) (h : Heap) : runFn call (.code A5) [a0] h = (S5 call a0 h).bind ansOf := by kernel_rfl

/-- (*frankpledge/frankpledgekeep.Tape).Cards -/
noncomputable def A6 : AFunc := ⟨2, (.seq (.region [.op 0 (.mov 4 (.const (.nilSlice)))] [])
 (.seq (.region [.op 0 (.mov 5 (.const (.nilSlice)))] [])
 (.seq (.seq (.region [.op 0 (.mov 7 (.tmp 0)),
 .op 1 (.mov 8 (.tmp 1)),
 .op 2 (.bin 9 .add .plain (.tmp 8) (.const (.int .i64 1))),
 .op 3 (.call 10 15 [.tmp 7, .tmp 9]),
 .op 4 (.mov 6 (.tmp 10))] [])
 (.block 0 (.loop ⟨[0, 5, 6], []⟩ [((.exit 0), ⟨[5], []⟩)]
 (.seq (.seq (.region [.op 0 (.mov 11 (.tmp 6)),
 .op 1 (.bin 12 .gtr .plain (.tmp 11) (.const (.int .i64 0)))] [])
 (.cond (.tmp 12)
 .skip
 (.exit 0)))
 (.seq (.block 1 (.region [.op 0 (.mov 15 (.tmp 5)),
 .op 1 (.mov 16 (.tmp 0)),
 .op 2 (.call 17 16 [.tmp 16]),
 .op 3 (.buildSl 18 [.str [], .str [], .int .i64 0, .int .i64 0, .int .i64 0, .int .i64 0, .int .i64 0, .int .i64 0, .bool false] 9 1 [(0, .tmp 17)]),
 .op 4 (.append 19 9 88 [.str [], .str [], .int .i64 0, .int .i64 0, .int .i64 0, .int .i64 0, .int .i64 0, .int .i64 0, .bool false] false (.tmp 15) (.tmp 18)),
 .op 5 (.mov 5 (.tmp 19))] []))
 (.region [.op 0 (.mov 13 (.tmp 6)),
 .op 1 (.bin 14 .sub .plain (.tmp 13) (.const (.int .i64 1))),
 .op 2 (.mov 6 (.tmp 14))] []))))))
 (.seq (.region [.op 0 (.mov 20 (.tmp 5)),
 .op 1 (.mov 4 (.tmp 20))] [])
 .ret)))),
 [.tmp 4]⟩
theorem ok6 : funcOk Try.prog (drawOk Try.prog) Try.f6 A6 = true := by kernel_rfl
/-- xs: t0, t5, t6 -/
noncomputable def L6_0 (call : Go.Fw.Call) (xs : List AVal) (h : Heap) : Option J :=
 (aBin .gtr .plain (xs.getD 2 .undef) (.int .i64 0)).bind fun v3 =>
 condV v3
 ((call 16 [(xs.getD 0 .undef)] h).bind fun r4 =>
 (aFill (reps [.str [], .str [], .int .i64 0, .int .i64 0, .int .i64 0, .int .i64 0, .int .i64 0, .int .i64 0, .bool false] 1) [(0, 9, r4.1)]).bind fun c5 =>
 (aAppend 9 88 [.str [], .str [], .int .i64 0, .int .i64 0, .int .i64 0, .int .i64 0, .int .i64 0, .int .i64 0, .bool false] false (xs.getD 1 .undef) (.slice r4.2.next 0 1 1 9 true) (r4.2.alloc c5)).bind fun r6 =>
 (aBin .sub .plain (xs.getD 2 .undef) (.int .i64 1)).bind fun v7 =>
 some (0, [(xs.getD 0 .undef), r6.1, v7], r6.2))
 (some (1, [(xs.getD 1 .undef)], h))
noncomputable def S6 (call : Go.Fw.Call) (a0 a1 : AVal) (h : Heap) : Option J :=
 (aBin .add .plain a1 (.int .i64 1)).bind fun v1 =>
 (call 15 [a0, v1] h).bind fun r2 =>
 (loop (L6_0 call) [a0, (.nilSlice), r2.1] r2.2).bind fun x8 =>
 bif Nat.beq x8.1 1 then some (0, [(x8.2.1.getD 0 .undef)], x8.2.2) else
 none
theorem run6 (call : Go.Fw.Call) (a0 a1 : AVal) (h : Heap) : runFn call (.code A6) [a0, a1] h = (S6 call a0 a1 h).bind ansOf := by kernel_rfl

/-- frankpledge/frankpledgelaw23.same -/
noncomputable def A7 : AFunc := ⟨3, (.seq (.region [.op 0 (.mov 6 (.const (.bool false)))] [])
 (.seq (.region [.op 0 (.mov 21 (.tmp 0)),
 .op 1 (.mov 22 (.tmp 1)),
 .op 2 (.call 23 17 [.tmp 21, .tmp 22]),
 .op 3 (.mov 7 (.tmp 23))] [])
 (.seq (.region [.op 0 (.mov 25 (.tmp 0)),
 .op 1 (.mov 26 (.tmp 1)),
 .op 2 (.mov 27 (.tmp 2)),
 .op 3 (.call 28 11 [.tmp 25, .tmp 26, .tmp 27]),
 .op 4 (.mov 24 (.tmp 28)),
 .op 5 (.extract 29 (.tmp 24) 0),
 .op 6 (.extract 30 (.tmp 24) 1),
 .op 7 (.alloc 8 true [.str [], .str [], .int .i64 0, .int .i64 0, .int .i64 0, .int .i64 0, .int .i64 0, .int .i64 0, .bool false]),
 .op 8 (.store true 9 (.tmp 8) (.tmp 29)),
 .op 9 (.mov 9 (.tmp 30))] [])
 (.seq (.seq (.region [.op 0 (.mov 31 (.tmp 0)),
 .op 1 (.mov 32 (.tmp 1)),
 .op 2 (.call 33 10 [.tmp 31, .tmp 32]),
 .op 3 (.mov 34 (.tmp 7)),
 .op 4 (.call 35 18 [.tmp 33, .tmp 34]),
 .op 5 (.un 36 .not (.tmp 35)),
 .op 6 (.mov 37 (.tmp 36)),
 .guard 37 false [.op 7 (.mov 38 (.tmp 9)),
 .op 8 (.mov 39 (.tmp 7)),
 .op 9 (.len 40 false (.tmp 39)),
 .op 10 (.bin 41 .gtr .plain (.tmp 40) (.const (.int .i64 0))),
 .op 11 (.bin 42 .neq .bool (.tmp 38) (.tmp 41))] [] [42],
 .op 12 (.pick 43 (.tmp 37) (.const (.bool true)) (.tmp 42))] [])
 (.cond (.tmp 43)
 (.seq (.region [.op 0 (.mov 6 (.const (.bool false)))] [])
 .ret)
 .skip))
 (.seq (.seq (.region [.op 0 (.mov 44 (.tmp 9))] [])
 (.join [(.ret, ⟨[6], []⟩), (.normal, ⟨[0], []⟩)] (.cond (.tmp 44)
 (.seq (.region [.op 0 (.mov 45 (.tmp 7)),
 .op 1 (.len 46 false (.tmp 45)),
 .op 2 (.mov 10 (.tmp 46))] [])
 (.seq (.region [.op 0 (.load 47 true 9 (.tmp 8)),
 .op 1 (.mov 48 (.tmp 7)),
 .op 2 (.mov 49 (.tmp 2)),
 .op 3 (.mov 50 (.tmp 10)),
 .op 4 (.bin 51 .rem .plain (.tmp 49) (.tmp 50)),
 .op 5 (.mov 52 (.tmp 10)),
 .op 6 (.bin 53 .add .plain (.tmp 51) (.tmp 52)),
 .op 7 (.mov 54 (.tmp 10)),
 .op 8 (.bin 55 .rem .plain (.tmp 53) (.tmp 54)),
 .op 9 (.iaddr 56 none 9 (.tmp 48) (.tmp 55)),
 .op 10 (.load 57 true 9 (.tmp 56)),
 .op 11 (.bin 58 .neq (.cells [2, 2, 1, 1, 1, 1, 1, 1, 0]) (.tmp 47) (.tmp 57))] [])
 (.cond (.tmp 58)
 (.seq (.region [.op 0 (.mov 6 (.const (.bool false)))] [])
 .ret)
 .skip)))
 (.seq (.region [.op 0 (.load 59 true 9 (.tmp 8)),
 .op 1 (.build 60 [.str [], .str [], .int .i64 0, .int .i64 0, .int .i64 0, .int .i64 0, .int .i64 0, .int .i64 0, .bool false] []),
 .op 2 (.bin 61 .neq (.cells [2, 2, 1, 1, 1, 1, 1, 1, 0]) (.tmp 59) (.tmp 60))] [])
 (.cond (.tmp 61)
 (.seq (.region [.op 0 (.mov 6 (.const (.bool false)))] [])
 .ret)
 .skip)))))
 (.seq (.region [.op 0 (.alloc 11 true [.int .i64 0, .int .i64 0, .int .i64 0, .int .i64 0])] [])
 (.seq (.seq (.region [.op 0 (.mov 62 (.tmp 0)),
 .op 1 (.len 63 false (.tmp 62)),
 .op 2 (.mov 64 (.const (.int .i64 0)))] [])
 (.block 0 (.loop ⟨[0, 62, 63, 64], [11]⟩ [((.exit 0), ⟨[0], [11]⟩)]
 (.seq (.region [.op 0 (.bin 65 .lss .plain (.tmp 64) (.tmp 63))] [])
 (.seq (.cond (.tmp 65)
 .skip
 (.exit 0))
 (.seq (.block 1 (.seq (.region [.op 0 (.iaddr 66 none 9 (.tmp 62) (.tmp 64)),
 .op 1 (.load 67 true 9 (.tmp 66)),
 .op 2 (.alloc 13 true [.str [], .str [], .int .i64 0, .int .i64 0, .int .i64 0, .int .i64 0, .int .i64 0, .int .i64 0, .bool false]),
 .op 3 (.store true 9 (.tmp 13) (.tmp 67))] [])
 (.seq (.region [.op 0 (.load 68 true 9 (.tmp 13)),
 .op 1 (.call 69 12 [.tmp 68]),
 .op 2 (.mov 14 (.tmp 69))] [])
 (.seq (.region [.op 0 (.mov 70 (.tmp 14)),
 .op 1 (.bin 71 .geq .plain (.tmp 70) (.const (.int .i64 0))),
 .op 2 (.mov 72 (.tmp 71)),
 .guard 72 true [.op 3 (.mov 73 (.tmp 14)),
 .op 4 (.bin 74 .lss .plain (.tmp 73) (.const (.int .i64 4)))] [] [74],
 .op 5 (.pick 75 (.tmp 72) (.tmp 74) (.const (.bool false)))] [])
 (.join [(.normal, ⟨[0, 62, 63, 64], [11]⟩)] (.cond (.tmp 75)
 (.region [.op 0 (.mov 76 (.tmp 14)),
 .op 1 (.iaddr 77 (some 4) 1 (.tmp 11) (.tmp 76)),
 .op 2 (.load 78 false 1 (.tmp 77)),
 .op 3 (.bin 79 .add .plain (.tmp 78) (.const (.int .i64 1))),
 .op 4 (.iaddr 80 (some 4) 1 (.tmp 11) (.tmp 76)),
 .op 5 (.store false 1 (.tmp 80) (.tmp 79))] [])
 .skip))))))
 (.region [.op 0 (.bin 81 .add .plain (.tmp 64) (.const (.int .i64 1))),
 .op 1 (.mov 64 (.tmp 81))] [])))))))
 (.seq (.region [.op 0 (.mov 15 (.const (.nilSlice)))] [])
 (.seq (.seq (.region [.op 0 (.mov 82 (.tmp 0)),
 .op 1 (.call 83 19 [.tmp 82]),
 .op 2 (.len 84 false (.tmp 83)),
 .op 3 (.mov 85 (.const (.int .i64 0)))] [])
 (.block 2 (.loop ⟨[0, 15, 83, 84, 85], [11]⟩ [((.exit 2), ⟨[0, 15], [11]⟩)]
 (.seq (.region [.op 0 (.bin 86 .lss .plain (.tmp 85) (.tmp 84))] [])
 (.seq (.cond (.tmp 86)
 .skip
 (.exit 2))
 (.seq (.block 3 (.seq (.region [.op 0 (.iaddr 87 none 9 (.tmp 83) (.tmp 85)),
 .op 1 (.load 88 true 9 (.tmp 87)),
 .op 2 (.alloc 17 true [.str [], .str [], .int .i64 0, .int .i64 0, .int .i64 0, .int .i64 0, .int .i64 0, .int .i64 0, .bool false]),
 .op 3 (.store true 9 (.tmp 17) (.tmp 88))] [])
 (.seq (.region [.op 0 (.mov 89 (.tmp 15)),
 .op 1 (.len 90 false (.tmp 89)),
 .op 2 (.mov 18 (.tmp 90))] [])
 (.seq (.region [.op 0 (.mov 91 (.tmp 18)),
 .op 1 (.bin 92 .eql .plain (.tmp 91) (.const (.int .i64 0))),
 .op 2 (.mov 93 (.tmp 92)),
 .guard 93 false [.op 3 (.mov 94 (.tmp 15)),
 .op 4 (.mov 95 (.tmp 18)),
 .op 5 (.bin 96 .sub .plain (.tmp 95) (.const (.int .i64 1))),
 .op 6 (.iaddr 97 none 1 (.tmp 94) (.tmp 96)),
 .op 7 (.load 98 false 1 (.tmp 97)),
 .op 8 (.faddr 99 0 (.tmp 17)),
 .op 9 (.faddr 100 0 (.tmp 99)),
 .op 10 (.load 101 false 1 (.tmp 100)),
 .op 11 (.bin 102 .neq .plain (.tmp 98) (.tmp 101))] [] [102],
 .op 12 (.pick 103 (.tmp 93) (.const (.bool true)) (.tmp 102))] [])
 (.join [(.normal, ⟨[0, 15, 83, 84, 85], [11]⟩)] (.cond (.tmp 103)
 (.region [.op 0 (.mov 104 (.tmp 15)),
 .op 1 (.faddr 105 0 (.tmp 17)),
 .op 2 (.faddr 106 0 (.tmp 105)),
 .op 3 (.load 107 false 1 (.tmp 106)),
 .op 4 (.buildSl 108 [.str []] 1 1 [(0, .tmp 107)]),
 .op 5 (.append 109 1 16 [.str []] false (.tmp 104) (.tmp 108)),
 .op 6 (.mov 15 (.tmp 109))] [])
 .skip))))))
 (.region [.op 0 (.bin 110 .add .plain (.tmp 85) (.const (.int .i64 1))),
 .op 1 (.mov 85 (.tmp 110))] [])))))))
 (.seq (.region [.op 0 (.mov 111 (.tmp 0)),
 .op 1 (.call 112 14 [.tmp 111]),
 .op 2 (.mov 19 (.tmp 112))] [])
 (.seq (.seq (.region [.op 0 (.mov 113 (.tmp 19)),
 .op 1 (.len 114 false (.tmp 113)),
 .op 2 (.mov 115 (.tmp 15)),
 .op 3 (.len 116 false (.tmp 115)),
 .op 4 (.bin 117 .neq .plain (.tmp 114) (.tmp 116)),
 .op 5 (.mov 118 (.tmp 117)),
 .guard 118 false [.op 6 (.mov 119 (.tmp 0)),
 .op 7 (.call 120 13 [.tmp 119]),
 .op 8 (.load 121 true 4 (.tmp 11)),
 .op 9 (.bin 122 .neq (.cells [1, 1, 1, 1]) (.tmp 120) (.tmp 121))] [(8, 7)] [122],
 .op 10 (.pick 123 (.tmp 118) (.const (.bool true)) (.tmp 122))] [])
 (.cond (.tmp 123)
 (.seq (.region [.op 0 (.mov 6 (.const (.bool false)))] [])
 .ret)
 .skip))
 (.seq (.seq (.region [.op 0 (.mov 124 (.tmp 15)),
 .op 1 (.len 125 false (.tmp 124)),
 .op 2 (.mov 126 (.const (.int .i64 0)))] [])
 (.block 4 (.loop ⟨[15, 19, 125, 126], []⟩ [((.exit 4), ⟨[], []⟩), (.ret, ⟨[6], []⟩)]
 (.seq (.region [.op 0 (.bin 127 .lss .plain (.tmp 126) (.tmp 125))] [])
 (.seq (.cond (.tmp 127)
 .skip
 (.exit 4))
 (.seq (.block 5 (.seq (.region [.op 0 (.mov 128 (.tmp 126)),
 .op 1 (.mov 20 (.tmp 128))] [])
 (.seq (.region [.op 0 (.mov 129 (.tmp 19)),
 .op 1 (.mov 130 (.tmp 20)),
 .op 2 (.iaddr 131 none 1 (.tmp 129) (.tmp 130)),
 .op 3 (.load 132 false 1 (.tmp 131)),
 .op 4 (.mov 133 (.tmp 15)),
 .op 5 (.mov 134 (.tmp 20)),
 .op 6 (.iaddr 135 none 1 (.tmp 133) (.tmp 134)),
 .op 7 (.load 136 false 1 (.tmp 135)),
 .op 8 (.bin 137 .neq .plain (.tmp 132) (.tmp 136))] [])
 (.cond (.tmp 137)
 (.seq (.region [.op 0 (.mov 6 (.const (.bool false)))] [])
 .ret)
 .skip))))
 (.region [.op 0 (.bin 138 .add .plain (.tmp 126) (.const (.int .i64 1))),
 .op 1 (.mov 126 (.tmp 138))] [])))))))
 (.seq (.region [.op 0 (.mov 6 (.const (.bool true)))] [])
 .ret))))))))))))),
 [.tmp 6]⟩
theorem ok7 : funcOk Try.prog (drawOk Try.prog) Try.f7 A7 = true := by kernel_rfl
/-- xs: t0, t62, t63, t64, cells of 11 -/
noncomputable def L7_0 (call : Go.Fw.Call) (xs : List AVal) (h : Heap) : Option J :=
 (aBin .lss .plain (xs.getD 3 .undef) (xs.getD 2 .undef)).bind fun v30 =>
 condV v30
 ((aIaddr 9 (xs.getD 1 .undef) (xs.getD 3 .undef)).bind fun v31 =>
 (aLoad h 9 v31).bind fun c32 =>
 (fromCells true c32).bind fun v33 =>
 (aCells 9 v33).bind fun c34 =>
 bif Nat.ble ((0) + 9) (List.length (α := AVal) [.str [], .str [], .int .i64 0, .int .i64 0, .int .i64 0, .int .i64 0, .int .i64 0, .int .i64 0, .bool false]) then (rdL (splice [.str [], .str [], .int .i64 0, .int .i64 0, .int .i64 0, .int .i64 0, .int .i64 0, .int .i64 0, .bool false] (0) c34) 0 9).bind fun c35 =>
 (fromCells true c35).bind fun v36 =>
 (call 12 [v36] h).bind fun r37 =>
 (aBin .geq .plain r37.1 (.int .i64 0)).bind fun v38 =>
 (guardV v38 true
 ((aBin .lss .plain r37.1 (.int .i64 4)).bind fun v39 =>
 some (0, [v39], r37.2))
 (some (0, [skipV], r37.2))).bind fun g40 =>
 (aPick v38 (g40.2.1.getD 0 .undef) (.bool false)).bind fun v41 =>
 (condV v41
 ((aIdx 4 r37.1).bind fun j42 =>
 (rdL (AVal.aggCells (xs.getD 4 .undef)) ((0) + j42 * 1) 1).bind fun c43 =>
 (fromCells false c43).bind fun v44 =>
 (aBin .add .plain v44 (.int .i64 1)).bind fun v45 =>
 (aIdx 4 r37.1).bind fun j46 =>
 (aCells 1 v45).bind fun c47 =>
 bif Nat.ble (((0) + j46 * 1) + 1) (List.length (α := AVal) (AVal.aggCells (xs.getD 4 .undef))) then some (0, [(xs.getD 0 .undef), (xs.getD 1 .undef), (xs.getD 2 .undef), (xs.getD 3 .undef), (.agg (splice (AVal.aggCells (xs.getD 4 .undef)) ((0) + j46 * 1) c47))], g40.2.2) else none)
 (some (0, [(xs.getD 0 .undef), (xs.getD 1 .undef), (xs.getD 2 .undef), (xs.getD 3 .undef), (.agg (AVal.aggCells (xs.getD 4 .undef)))], g40.2.2))).bind fun x48 =>
 bif Nat.beq x48.1 0 then (aBin .add .plain (x48.2.1.getD 3 .undef) (.int .i64 1)).bind fun v49 =>
 some (0, [(x48.2.1.getD 0 .undef), (x48.2.1.getD 1 .undef), (x48.2.1.getD 2 .undef), v49, (.agg (AVal.aggCells (x48.2.1.getD 4 .undef)))], x48.2.2) else
 none else none)
 (some (1, [(xs.getD 0 .undef), (.agg (AVal.aggCells (xs.getD 4 .undef)))], h))
/-- xs: t0, t15, t83, t84, t85, cells of 11 -/
noncomputable def L7_1 (call : Go.Fw.Call) (xs : List AVal) (h : Heap) : Option J :=
 (aBin .lss .plain (xs.getD 4 .undef) (xs.getD 3 .undef)).bind fun v53 =>
 condV v53
 ((aIaddr 9 (xs.getD 2 .undef) (xs.getD 4 .undef)).bind fun v54 =>
 (aLoad h 9 v54).bind fun c55 =>
 (fromCells true c55).bind fun v56 =>
 (aCells 9 v56).bind fun c57 =>
 bif Nat.ble ((0) + 9) (List.length (α := AVal) [.str [], .str [], .int .i64 0, .int .i64 0, .int .i64 0, .int .i64 0, .int .i64 0, .int .i64 0, .bool false]) then (aLen false (xs.getD 1 .undef)).bind fun v58 =>
 (aBin .eql .plain v58 (.int .i64 0)).bind fun v59 =>
 (guardV v59 false
 ((aBin .sub .plain v58 (.int .i64 1)).bind fun v60 =>
 (aIaddr 1 (xs.getD 1 .undef) v60).bind fun v61 =>
 (aLoad h 1 v61).bind fun c62 =>
 (fromCells false c62).bind fun v63 =>
 (rdL (splice [.str [], .str [], .int .i64 0, .int .i64 0, .int .i64 0, .int .i64 0, .int .i64 0, .int .i64 0, .bool false] (0) c57) 0 1).bind fun c64 =>
 (fromCells false c64).bind fun v65 =>
 (aBin .neq .plain v63 v65).bind fun v66 =>
 some (0, [v66], h))
 (some (0, [skipV], h))).bind fun g67 =>
 (aPick v59 (.bool true) (g67.2.1.getD 0 .undef)).bind fun v68 =>
 (condV v68
 ((rdL (splice [.str [], .str [], .int .i64 0, .int .i64 0, .int .i64 0, .int .i64 0, .int .i64 0, .int .i64 0, .bool false] (0) c57) 0 1).bind fun c69 =>
 (fromCells false c69).bind fun v70 =>
 (aFill (reps [.str []] 1) [(0, 1, v70)]).bind fun c71 =>
 (aAppend 1 16 [.str []] false (xs.getD 1 .undef) (.slice g67.2.2.next 0 1 1 1 true) (g67.2.2.alloc c71)).bind fun r72 =>
 some (0, [(xs.getD 0 .undef), r72.1, (xs.getD 2 .undef), (xs.getD 3 .undef), (xs.getD 4 .undef), (.agg (AVal.aggCells (xs.getD 5 .undef)))], r72.2))
 (some (0, [(xs.getD 0 .undef), (xs.getD 1 .undef), (xs.getD 2 .undef), (xs.getD 3 .undef), (xs.getD 4 .undef), (.agg (AVal.aggCells (xs.getD 5 .undef)))], g67.2.2))).bind fun x73 =>
 bif Nat.beq x73.1 0 then (aBin .add .plain (x73.2.1.getD 4 .undef) (.int .i64 1)).bind fun v74 =>
 some (0, [(x73.2.1.getD 0 .undef), (x73.2.1.getD 1 .undef), (x73.2.1.getD 2 .undef), (x73.2.1.getD 3 .undef), v74, (.agg (AVal.aggCells (x73.2.1.getD 5 .undef)))], x73.2.2) else
 none else none)
 (some (1, [(xs.getD 0 .undef), (xs.getD 1 .undef), (.agg (AVal.aggCells (xs.getD 5 .undef)))], h))
/-- xs: t15, t19, t125, t126 -/
noncomputable def L7_2 (call : Go.Fw.Call) (xs : List AVal) (h : Heap) : Option J :=
 (aBin .lss .plain (xs.getD 3 .undef) (xs.getD 2 .undef)).bind fun v87 =>
 condV v87
 ((aIaddr 1 (xs.getD 1 .undef) (xs.getD 3 .undef)).bind fun v88 =>
 (aLoad h 1 v88).bind fun c89 =>
 (fromCells false c89).bind fun v90 =>
 (aIaddr 1 (xs.getD 0 .undef) (xs.getD 3 .undef)).bind fun v91 =>
 (aLoad h 1 v91).bind fun c92 =>
 (fromCells false c92).bind fun v93 =>
 (aBin .neq .plain v90 v93).bind fun v94 =>
 condV v94
 (some (2, [(.bool false)], h))
 ((aBin .add .plain (xs.getD 3 .undef) (.int .i64 1)).bind fun v95 =>
 some (0, [(xs.getD 0 .undef), (xs.getD 1 .undef), (xs.getD 2 .undef), v95], h)))
 (some (1, [], h))
noncomputable def S7 (call : Go.Fw.Call) (a0 a1 a2 : AVal) (h : Heap) : Option J :=
 (call 17 [a0, a1] h).bind fun r1 =>
 (call 11 [a0, a1, a2] r1.2).bind fun r2 =>
 (aExtract 0 r2.1).bind fun v3 =>
 (aExtract 1 r2.1).bind fun v4 =>
 (aCells 9 v3).bind fun c5 =>
 bif Nat.ble ((0) + 9) (List.length (α := AVal) [.str [], .str [], .int .i64 0, .int .i64 0, .int .i64 0, .int .i64 0, .int .i64 0, .int .i64 0, .bool false]) then (call 10 [a0, a1] r2.2).bind fun r6 =>
 (call 18 [r6.1, r1.1] r6.2).bind fun r7 =>
 (aUn .not r7.1).bind fun v8 =>
 (guardV v8 false
 ((aLen false r1.1).bind fun v9 =>
 (aBin .gtr .plain v9 (.int .i64 0)).bind fun v10 =>
 (aBin .neq .bool v4 v10).bind fun v11 =>
 some (0, [v11], r7.2))
 (some (0, [skipV], r7.2))).bind fun g12 =>
 (aPick v8 (.bool true) (g12.2.1.getD 0 .undef)).bind fun v13 =>
 condV v13
 (some (0, [(.bool false)], g12.2.2))
 ((condV v4
 ((aLen false r1.1).bind fun v14 =>
 (rdL (splice [.str [], .str [], .int .i64 0, .int .i64 0, .int .i64 0, .int .i64 0, .int .i64 0, .int .i64 0, .bool false] (0) c5) 0 9).bind fun c15 =>
 (fromCells true c15).bind fun v16 =>
 (aBin .rem .plain a2 v14).bind fun v17 =>
 (aBin .add .plain v17 v14).bind fun v18 =>
 (aBin .rem .plain v18 v14).bind fun v19 =>
 (aIaddr 9 r1.1 v19).bind fun v20 =>
 (aLoad g12.2.2 9 v20).bind fun c21 =>
 (fromCells true c21).bind fun v22 =>
 (aBin .neq (.cells [2, 2, 1, 1, 1, 1, 1, 1, 0]) v16 v22).bind fun v23 =>
 condV v23
 (some (0, [(.bool false)], g12.2.2))
 (some (1, [a0], g12.2.2)))
 ((rdL (splice [.str [], .str [], .int .i64 0, .int .i64 0, .int .i64 0, .int .i64 0, .int .i64 0, .int .i64 0, .bool false] (0) c5) 0 9).bind fun c24 =>
 (fromCells true c24).bind fun v25 =>
 (aFill [.str [], .str [], .int .i64 0, .int .i64 0, .int .i64 0, .int .i64 0, .int .i64 0, .int .i64 0, .bool false] []).bind fun c26 =>
 (aBin .neq (.cells [2, 2, 1, 1, 1, 1, 1, 1, 0]) v25 (.agg c26)).bind fun v27 =>
 condV v27
 (some (0, [(.bool false)], g12.2.2))
 (some (1, [a0], g12.2.2)))).bind fun x28 =>
 bif Nat.beq x28.1 0 then some (0, [(x28.2.1.getD 0 .undef)], x28.2.2) else
 bif Nat.beq x28.1 1 then (aLen false (x28.2.1.getD 0 .undef)).bind fun v29 =>
 (loop (L7_0 call) [(x28.2.1.getD 0 .undef), (x28.2.1.getD 0 .undef), v29, (.int .i64 0), (.agg [.int .i64 0, .int .i64 0, .int .i64 0, .int .i64 0])] x28.2.2).bind fun x50 =>
 bif Nat.beq x50.1 1 then (call 19 [(x50.2.1.getD 0 .undef)] x50.2.2).bind fun r51 =>
 (aLen false r51.1).bind fun v52 =>
 (loop (L7_1 call) [(x50.2.1.getD 0 .undef), (.nilSlice), r51.1, v52, (.int .i64 0), (.agg (AVal.aggCells (x50.2.1.getD 1 .undef)))] r51.2).bind fun x75 =>
 bif Nat.beq x75.1 1 then (call 14 [(x75.2.1.getD 0 .undef)] x75.2.2).bind fun r76 =>
 (aLen false r76.1).bind fun v77 =>
 (aLen false (x75.2.1.getD 1 .undef)).bind fun v78 =>
 (aBin .neq .plain v77 v78).bind fun v79 =>
 (guardV v79 false
 ((call 13 [(x75.2.1.getD 0 .undef)] r76.2).bind fun r80 =>
 (rdL (AVal.aggCells (x75.2.1.getD 2 .undef)) 0 4).bind fun c81 =>
 (fromCells true c81).bind fun v82 =>
 (aBin .neq (.cells [1, 1, 1, 1]) r80.1 v82).bind fun v83 =>
 bif checkPairs [(8, some (.lrd 11 (0) 4)), (7, some (.ef [(11, (AVal.aggCells (x75.2.1.getD 2 .undef)))] r76.2 [(11, (AVal.aggCells (x75.2.1.getD 2 .undef)))] r80.2))] [(8, 7)] then some (0, [v83], r80.2) else none)
 (some (0, [skipV], r76.2))).bind fun g84 =>
 (aPick v79 (.bool true) (g84.2.1.getD 0 .undef)).bind fun v85 =>
 condV v85
 (some (0, [(.bool false)], g84.2.2))
 ((aLen false (x75.2.1.getD 1 .undef)).bind fun v86 =>
 (loop (L7_2 call) [(x75.2.1.getD 1 .undef), r76.1, v86, (.int .i64 0)] g84.2.2).bind fun x96 =>
 bif Nat.beq x96.1 1 then some (0, [(.bool true)], x96.2.2) else
 bif Nat.beq x96.1 2 then some (0, [(x96.2.1.getD 0 .undef)], x96.2.2) else
 none) else
 none else
 none else
 none) else none
theorem run7 (call : Go.Fw.Call) (a0 a1 a2 : AVal) (h : Heap) : runFn call (.code A7) [a0, a1, a2] h = (S7 call a0 a1 a2 h).bind ansOf := by kernel_rfl

/-- frankpledge/frankpledgelaw23.known -/
noncomputable def A8g (v_0 v_1 v_2 v_3 v_4 v_5 v_6 v_7 : AVal) : AFunc := ⟨0, (.seq (.region [.op 0 (.mov 0 (.const (.bool false)))] [])
 (.seq (.region [.op 0 (.build 9 [.str [], .str []] [(0, 1, .const v_0), (1, 1, .const v_1)]),
 .op 1 (.build 10 [.str [], .str [], .int .i64 0, .int .i64 0, .int .i64 0, .int .i64 0, .int .i64 0, .int .i64 0, .bool false] [(0, 2, .tmp 9), (2, 1, .const v_2)]),
 .op 2 (.alloc 1 true [.str [], .str [], .int .i64 0, .int .i64 0, .int .i64 0, .int .i64 0, .int .i64 0, .int .i64 0, .bool false]),
 .op 3 (.store true 9 (.tmp 1) (.tmp 10))] [])
 (.seq (.region [.op 0 (.build 11 [.str [], .str []] [(0, 1, .const v_0), (1, 1, .const v_3)]),
 .op 1 (.build 12 [.str [], .str [], .int .i64 0, .int .i64 0, .int .i64 0, .int .i64 0, .int .i64 0, .int .i64 0, .bool false] [(0, 2, .tmp 11), (2, 1, .const v_2), (3, 1, .const v_4)]),
 .op 2 (.alloc 2 true [.str [], .str [], .int .i64 0, .int .i64 0, .int .i64 0, .int .i64 0, .int .i64 0, .int .i64 0, .bool false]),
 .op 3 (.store true 9 (.tmp 2) (.tmp 12))] [])
 (.seq (.region [.op 0 (.build 13 [.str [], .str []] [(0, 1, .const v_0), (1, 1, .const v_5)]),
 .op 1 (.build 14 [.str [], .str [], .int .i64 0, .int .i64 0, .int .i64 0, .int .i64 0, .int .i64 0, .int .i64 0, .bool false] [(0, 2, .tmp 13), (2, 1, .const v_2)]),
 .op 2 (.alloc 3 true [.str [], .str [], .int .i64 0, .int .i64 0, .int .i64 0, .int .i64 0, .int .i64 0, .int .i64 0, .bool false]),
 .op 3 (.store true 9 (.tmp 3) (.tmp 14))] [])
 (.seq (.region [.op 0 (.load 15 true 9 (.tmp 3)),
 .op 1 (.load 16 true 9 (.tmp 2)),
 .op 2 (.load 17 true 9 (.tmp 1)),
 .op 3 (.buildSl 18 [.str [], .str [], .int .i64 0, .int .i64 0, .int .i64 0, .int .i64 0, .int .i64 0, .int .i64 0, .bool false] 9 3 [(0, .tmp 15), (1, .tmp 16), (2, .tmp 17)]),
 .op 4 (.mov 4 (.tmp 18))] [])
 (.seq (.region [.op 0 (.mov 20 (.tmp 4)),
 .op 1 (.call 21 11 [.tmp 20, .const (.str [97]), .const (.int .i64 (-1))]),
 .op 2 (.mov 19 (.tmp 21)),
 .op 3 (.extract 22 (.tmp 19) 0),
 .op 4 (.extract 23 (.tmp 19) 1),
 .op 5 (.alloc 5 true [.str [], .str [], .int .i64 0, .int .i64 0, .int .i64 0, .int .i64 0, .int .i64 0, .int .i64 0, .bool false]),
 .op 6 (.store true 9 (.tmp 5) (.tmp 22)),
 .op 7 (.mov 6 (.tmp 23))] [])
 (.seq (.region [.op 0 (.mov 25 (.tmp 4)),
 .op 1 (.call 26 11 [.tmp 25, .const (.str [98]), .const (.int .i64 0)]),
 .op 2 (.mov 24 (.tmp 26)),
 .op 3 (.extract 27 (.tmp 24) 0),
 .op 4 (.extract 28 (.tmp 24) 1),
 .op 5 (.alloc 7 true [.str [], .str [], .int .i64 0, .int .i64 0, .int .i64 0, .int .i64 0, .int .i64 0, .int .i64 0, .bool false]),
 .op 6 (.store true 9 (.tmp 7) (.tmp 27)),
 .op 7 (.mov 8 (.tmp 28))] [])
 (.seq (.region [.op 0 (.mov 29 (.tmp 4)),
 .op 1 (.call 30 10 [.tmp 29, .const (.str [97])]),
 .op 2 (.len 31 false (.tmp 30)),
 .op 3 (.bin 32 .eql .plain (.tmp 31) (.const (.int .i64 2))),
 .op 4 (.mov 33 (.tmp 32)),
 .guard 33 true [.op 5 (.mov 34 (.tmp 6))] [] [34],
 .op 6 (.pick 35 (.tmp 33) (.tmp 34) (.const (.bool false))),
 .op 7 (.mov 36 (.tmp 35)),
 .guard 36 true [.op 8 (.load 37 true 9 (.tmp 5)),
 .op 9 (.load 38 true 9 (.tmp 3)),
 .op 10 (.bin 39 .eql (.cells [2, 2, 1, 1, 1, 1, 1, 1, 0]) (.tmp 37) (.tmp 38))] [] [39],
 .op 11 (.pick 40 (.tmp 36) (.tmp 39) (.const (.bool false))),
 .op 12 (.mov 41 (.tmp 40)),
 .guard 41 true [.op 13 (.mov 42 (.tmp 8)),
 .op 14 (.un 43 .not (.tmp 42))] [] [43],
 .op 15 (.pick 44 (.tmp 41) (.tmp 43) (.const (.bool false))),
 .op 16 (.mov 45 (.tmp 44)),
 .guard 45 true [.op 17 (.mov 46 (.tmp 4)),
 .op 18 (.call 47 14 [.tmp 46]),
 .op 19 (.len 48 false (.tmp 47)),
 .op 20 (.bin 49 .eql .plain (.tmp 48) (.const (.int .i64 1)))] [] [49],
 .op 21 (.pick 50 (.tmp 45) (.tmp 49) (.const (.bool false))),
 .op 22 (.mov 51 (.tmp 50)),
 .guard 51 true [.op 23 (.mov 52 (.tmp 4)),
 .op 24 (.call 53 13 [.tmp 52]),
 .op 25 (.build 54 [.int .i64 0, .int .i64 0, .int .i64 0, .int .i64 0] [(0, 1, .const v_6), (1, 1, .const v_7), (2, 1, .const v_6), (3, 1, .const v_2)]),
 .op 26 (.bin 55 .eql (.cells [1, 1, 1, 1]) (.tmp 53) (.tmp 54))] [] [55],
 .op 27 (.pick 56 (.tmp 51) (.tmp 55) (.const (.bool false))),
 .op 28 (.mov 0 (.tmp 56))] [])
 .ret)))))))),
 [.tmp 0]⟩
noncomputable def A8 : AFunc := A8g (.str [97]) (.str [120]) (.int .i64 1) (.str [121]) (.int .i64 3) (.str [122]) (.int .i64 0) (.int .i64 2)
theorem ok8 : funcOk Try.prog (drawOk Try.prog) Try.f8 A8 = true := by kernel_rfl
noncomputable def S8g (v_0 v_1 v_2 v_3 v_4 v_5 v_6 v_7 : AVal) (call : Go.Fw.Call) (h : Heap) : Option J :=
 (aFill [.str [], .str []] [(0, 1, v_0), (1, 1, v_1)]).bind fun c1 =>
 (aFill [.str [], .str [], .int .i64 0, .int .i64 0, .int .i64 0, .int .i64 0, .int .i64 0, .int .i64 0, .bool false] [(0, 2, (.agg c1)), (2, 1, v_2)]).bind fun c2 =>
 (aCells 9 (.agg c2)).bind fun c3 =>
 bif Nat.ble ((0) + 9) (List.length (α := AVal) [.str [], .str [], .int .i64 0, .int .i64 0, .int .i64 0, .int .i64 0, .int .i64 0, .int .i64 0, .bool false]) then (aFill [.str [], .str []] [(0, 1, v_0), (1, 1, v_3)]).bind fun c4 =>
 (aFill [.str [], .str [], .int .i64 0, .int .i64 0, .int .i64 0, .int .i64 0, .int .i64 0, .int .i64 0, .bool false] [(0, 2, (.agg c4)), (2, 1, v_2), (3, 1, v_4)]).bind fun c5 =>
 (aCells 9 (.agg c5)).bind fun c6 =>
 bif Nat.ble ((0) + 9) (List.length (α := AVal) [.str [], .str [], .int .i64 0, .int .i64 0, .int .i64 0, .int .i64 0, .int .i64 0, .int .i64 0, .bool false]) then (aFill [.str [], .str []] [(0, 1, v_0), (1, 1, v_5)]).bind fun c7 =>
 (aFill [.str [], .str [], .int .i64 0, .int .i64 0, .int .i64 0, .int .i64 0, .int .i64 0, .int .i64 0, .bool false] [(0, 2, (.agg c7)), (2, 1, v_2)]).bind fun c8 =>
 (aCells 9 (.agg c8)).bind fun c9 =>
 bif Nat.ble ((0) + 9) (List.length (α := AVal) [.str [], .str [], .int .i64 0, .int .i64 0, .int .i64 0, .int .i64 0, .int .i64 0, .int .i64 0, .bool false]) then (rdL (splice [.str [], .str [], .int .i64 0, .int .i64 0, .int .i64 0, .int .i64 0, .int .i64 0, .int .i64 0, .bool false] (0) c9) 0 9).bind fun c10 =>
 (fromCells true c10).bind fun v11 =>
 (rdL (splice [.str [], .str [], .int .i64 0, .int .i64 0, .int .i64 0, .int .i64 0, .int .i64 0, .int .i64 0, .bool false] (0) c6) 0 9).bind fun c12 =>
 (fromCells true c12).bind fun v13 =>
 (rdL (splice [.str [], .str [], .int .i64 0, .int .i64 0, .int .i64 0, .int .i64 0, .int .i64 0, .int .i64 0, .bool false] (0) c3) 0 9).bind fun c14 =>
 (fromCells true c14).bind fun v15 =>
 (aFill (reps [.str [], .str [], .int .i64 0, .int .i64 0, .int .i64 0, .int .i64 0, .int .i64 0, .int .i64 0, .bool false] 3) [(0, 9, v11), (9, 9, v13), (18, 9, v15)]).bind fun c16 =>
 (call 11 [(.slice h.next 0 3 3 9 true), (.str [97]), (.int .i64 (-1))] (h.alloc c16)).bind fun r17 =>
 (aExtract 0 r17.1).bind fun v18 =>
 (aExtract 1 r17.1).bind fun v19 =>
 (aCells 9 v18).bind fun c20 =>
 bif Nat.ble ((0) + 9) (List.length (α := AVal) [.str [], .str [], .int .i64 0, .int .i64 0, .int .i64 0, .int .i64 0, .int .i64 0, .int .i64 0, .bool false]) then (call 11 [(.slice h.next 0 3 3 9 true), (.str [98]), (.int .i64 0)] r17.2).bind fun r21 =>
 (aExtract 0 r21.1).bind fun v22 =>
 (aExtract 1 r21.1).bind fun v23 =>
 (aCells 9 v22).bind fun c24 =>
 bif Nat.ble ((0) + 9) (List.length (α := AVal) [.str [], .str [], .int .i64 0, .int .i64 0, .int .i64 0, .int .i64 0, .int .i64 0, .int .i64 0, .bool false]) then (call 10 [(.slice h.next 0 3 3 9 true), (.str [97])] r21.2).bind fun r25 =>
 (aLen false r25.1).bind fun v26 =>
 (aBin .eql .plain v26 (.int .i64 2)).bind fun v27 =>
 (guardV v27 true
 (some (0, [v19], r25.2))
 (some (0, [skipV], r25.2))).bind fun g28 =>
 (aPick v27 (g28.2.1.getD 0 .undef) (.bool false)).bind fun v29 =>
 (guardV v29 true
 ((rdL (splice [.str [], .str [], .int .i64 0, .int .i64 0, .int .i64 0, .int .i64 0, .int .i64 0, .int .i64 0, .bool false] (0) c20) 0 9).bind fun c30 =>
 (fromCells true c30).bind fun v31 =>
 (rdL (splice [.str [], .str [], .int .i64 0, .int .i64 0, .int .i64 0, .int .i64 0, .int .i64 0, .int .i64 0, .bool false] (0) c9) 0 9).bind fun c32 =>
 (fromCells true c32).bind fun v33 =>
 (aBin .eql (.cells [2, 2, 1, 1, 1, 1, 1, 1, 0]) v31 v33).bind fun v34 =>
 some (0, [v34], g28.2.2))
 (some (0, [skipV], g28.2.2))).bind fun g35 =>
 (aPick v29 (g35.2.1.getD 0 .undef) (.bool false)).bind fun v36 =>
 (guardV v36 true
 ((aUn .not v23).bind fun v37 =>
 some (0, [v37], g35.2.2))
 (some (0, [skipV], g35.2.2))).bind fun g38 =>
 (aPick v36 (g38.2.1.getD 0 .undef) (.bool false)).bind fun v39 =>
 (guardV v39 true
 ((call 14 [(.slice h.next 0 3 3 9 true)] g38.2.2).bind fun r40 =>
 (aLen false r40.1).bind fun v41 =>
 (aBin .eql .plain v41 (.int .i64 1)).bind fun v42 =>
 some (0, [v42], r40.2))
 (some (0, [skipV], g38.2.2))).bind fun g43 =>
 (aPick v39 (g43.2.1.getD 0 .undef) (.bool false)).bind fun v44 =>
 (guardV v44 true
 ((call 13 [(.slice h.next 0 3 3 9 true)] g43.2.2).bind fun r45 =>
 (aFill [.int .i64 0, .int .i64 0, .int .i64 0, .int .i64 0] [(0, 1, v_6), (1, 1, v_7), (2, 1, v_6), (3, 1, v_2)]).bind fun c46 =>
 (aBin .eql (.cells [1, 1, 1, 1]) r45.1 (.agg c46)).bind fun v47 =>
 some (0, [v47], r45.2))
 (some (0, [skipV], g43.2.2))).bind fun g48 =>
 (aPick v44 (g48.2.1.getD 0 .undef) (.bool false)).bind fun v49 =>
 some (0, [v49], g48.2.2) else none else none else none else none else none
noncomputable def S8 (call : Go.Fw.Call) (h : Heap) : Option J := S8g (.str [97]) (.str [120]) (.int .i64 1) (.str [121]) (.int .i64 3) (.str [122]) (.int .i64 0) (.int .i64 2) call h
theorem run8g (v_0 v_1 v_2 v_3 v_4 v_5 v_6 v_7 : AVal) (call : Go.Fw.Call) (h : Heap) : runFn call (.code (A8g v_0 v_1 v_2 v_3 v_4 v_5 v_6 v_7)) [] h = (S8g v_0 v_1 v_2 v_3 v_4 v_5 v_6 v_7 call h).bind ansOf := by kernel_rfl
theorem run8 (call : Go.Fw.Call) (h : Heap) : runFn call (.code A8) [] h = (S8 call h).bind ansOf := run8g (.str [97]) (.str [120]) (.int .i64 1) (.str [121]) (.int .i64 3) (.str [122]) (.int .i64 0) (.int .i64 2) call h

/-- frankpledge/frankpledgekeep.Once -/
noncomputable def A9 : AFunc := ⟨1, (.seq (.region [.op 0 (.mov 2 (.const (.nilSlice)))] [])
 (.seq (.region [.op 0 (.mov 3 (.const (.nilSlice)))] [])
 (.seq (.seq (.region [.op 0 (.mov 7 (.tmp 0)),
 .op 1 (.call 8 20 [.tmp 7]),
 .op 2 (.len 9 false (.tmp 8)),
 .op 3 (.mov 10 (.const (.int .i64 0)))] [])
 (.block 0 (.loop ⟨[3, 8, 9, 10], []⟩ [((.exit 0), ⟨[3], []⟩)]
 (.seq (.region [.op 0 (.bin 11 .lss .plain (.tmp 10) (.tmp 9))] [])
 (.seq (.cond (.tmp 11)
 .skip
 (.exit 0))
 (.seq (.block 1 (.seq (.region [.op 0 (.iaddr 12 none 9 (.tmp 8) (.tmp 10)),
 .op 1 (.load 13 true 9 (.tmp 12)),
 .op 2 (.alloc 5 true [.str [], .str [], .int .i64 0, .int .i64 0, .int .i64 0, .int .i64 0, .int .i64 0, .int .i64 0, .bool false]),
 .op 3 (.store true 9 (.tmp 5) (.tmp 13))] [])
 (.seq (.region [.op 0 (.mov 14 (.tmp 3)),
 .op 1 (.len 15 false (.tmp 14)),
 .op 2 (.mov 6 (.tmp 15))] [])
 (.seq (.region [.op 0 (.mov 16 (.tmp 6)),
 .op 1 (.bin 17 .gtr .plain (.tmp 16) (.const (.int .i64 0))),
 .op 2 (.mov 18 (.tmp 17)),
 .guard 18 true [.op 3 (.mov 19 (.tmp 3)),
 .op 4 (.mov 20 (.tmp 6)),
 .op 5 (.bin 21 .sub .plain (.tmp 20) (.const (.int .i64 1))),
 .op 6 (.iaddr 22 none 9 (.tmp 19) (.tmp 21)),
 .op 7 (.faddr 23 0 (.tmp 22)),
 .op 8 (.load 24 true 2 (.tmp 23)),
 .op 9 (.faddr 25 0 (.tmp 5)),
 .op 10 (.load 26 true 2 (.tmp 25)),
 .op 11 (.bin 27 .eql (.cells [2, 2]) (.tmp 24) (.tmp 26))] [] [27],
 .op 12 (.pick 28 (.tmp 18) (.tmp 27) (.const (.bool false)))] [])
 (.join [(.normal, ⟨[3, 8, 9, 10], []⟩)] (.cond (.tmp 28)
 (.region [.op 0 (.mov 29 (.tmp 3)),
 .op 1 (.mov 30 (.tmp 6)),
 .op 2 (.bin 31 .sub .plain (.tmp 30) (.const (.int .i64 1))),
 .op 3 (.load 32 true 9 (.tmp 5)),
 .op 4 (.iaddr 33 none 9 (.tmp 29) (.tmp 31)),
 .op 5 (.store true 9 (.tmp 33) (.tmp 32))] [])
 (.region [.op 0 (.mov 34 (.tmp 3)),
 .op 1 (.load 35 true 9 (.tmp 5)),
 .op 2 (.buildSl 36 [.str [], .str [], .int .i64 0, .int .i64 0, .int .i64 0, .int .i64 0, .int .i64 0, .int .i64 0, .bool false] 9 1 [(0, .tmp 35)]),
 .op 3 (.append 37 9 88 [.str [], .str [], .int .i64 0, .int .i64 0, .int .i64 0, .int .i64 0, .int .i64 0, .int .i64 0, .bool false] false (.tmp 34) (.tmp 36)),
 .op 4 (.mov 3 (.tmp 37))] [])))))))
 (.region [.op 0 (.bin 38 .add .plain (.tmp 10) (.const (.int .i64 1))),
 .op 1 (.mov 10 (.tmp 38))] [])))))))
 (.seq (.region [.op 0 (.mov 39 (.tmp 3)),
 .op 1 (.mov 2 (.tmp 39))] [])
 .ret)))),
 [.tmp 2]⟩
theorem ok9 : funcOk Try.prog (drawOk Try.prog) Try.f9 A9 = true := by kernel_rfl
/-- xs: t3, t8, t9, t10 -/
noncomputable def L9_0 (call : Go.Fw.Call) (xs : List AVal) (h : Heap) : Option J :=
 (aBin .lss .plain (xs.getD 3 .undef) (xs.getD 2 .undef)).bind fun v3 =>
 condV v3
 ((aIaddr 9 (xs.getD 1 .undef) (xs.getD 3 .undef)).bind fun v4 =>
 (aLoad h 9 v4).bind fun c5 =>
 (fromCells true c5).bind fun v6 =>
 (aCells 9 v6).bind fun c7 =>
 bif Nat.ble ((0) + 9) (List.length (α := AVal) [.str [], .str [], .int .i64 0, .int .i64 0, .int .i64 0, .int .i64 0, .int .i64 0, .int .i64 0, .bool false]) then (aLen false (xs.getD 0 .undef)).bind fun v8 =>
 (aBin .gtr .plain v8 (.int .i64 0)).bind fun v9 =>
 (guardV v9 true
 ((aBin .sub .plain v8 (.int .i64 1)).bind fun v10 =>
 (aIaddr 9 (xs.getD 0 .undef) v10).bind fun v11 =>
 (aFaddr 0 v11).bind fun v12 =>
 (aLoad h 2 v12).bind fun c13 =>
 (fromCells true c13).bind fun v14 =>
 (rdL (splice [.str [], .str [], .int .i64 0, .int .i64 0, .int .i64 0, .int .i64 0, .int .i64 0, .int .i64 0, .bool false] (0) c7) 0 2).bind fun c15 =>
 (fromCells true c15).bind fun v16 =>
 (aBin .eql (.cells [2, 2]) v14 v16).bind fun v17 =>
 some (0, [v17], h))
 (some (0, [skipV], h))).bind fun g18 =>
 (aPick v9 (g18.2.1.getD 0 .undef) (.bool false)).bind fun v19 =>
 (condV v19
 ((aBin .sub .plain v8 (.int .i64 1)).bind fun v20 =>
 (rdL (splice [.str [], .str [], .int .i64 0, .int .i64 0, .int .i64 0, .int .i64 0, .int .i64 0, .int .i64 0, .bool false] (0) c7) 0 9).bind fun c21 =>
 (fromCells true c21).bind fun v22 =>
 (aIaddr 9 (xs.getD 0 .undef) v20).bind fun v23 =>
 (aCells 9 v22).bind fun c24 =>
 (aStore g18.2.2 v23 c24).bind fun h25 =>
 some (0, [(xs.getD 0 .undef), (xs.getD 1 .undef), (xs.getD 2 .undef), (xs.getD 3 .undef)], h25))
 ((rdL (splice [.str [], .str [], .int .i64 0, .int .i64 0, .int .i64 0, .int .i64 0, .int .i64 0, .int .i64 0, .bool false] (0) c7) 0 9).bind fun c26 =>
 (fromCells true c26).bind fun v27 =>
 (aFill (reps [.str [], .str [], .int .i64 0, .int .i64 0, .int .i64 0, .int .i64 0, .int .i64 0, .int .i64 0, .bool false] 1) [(0, 9, v27)]).bind fun c28 =>
 (aAppend 9 88 [.str [], .str [], .int .i64 0, .int .i64 0, .int .i64 0, .int .i64 0, .int .i64 0, .int .i64 0, .bool false] false (xs.getD 0 .undef) (.slice g18.2.2.next 0 1 1 9 true) (g18.2.2.alloc c28)).bind fun r29 =>
 some (0, [r29.1, (xs.getD 1 .undef), (xs.getD 2 .undef), (xs.getD 3 .undef)], r29.2))).bind fun x30 =>
 bif Nat.beq x30.1 0 then (aBin .add .plain (x30.2.1.getD 3 .undef) (.int .i64 1)).bind fun v31 =>
 some (0, [(x30.2.1.getD 0 .undef), (x30.2.1.getD 1 .undef), (x30.2.1.getD 2 .undef), v31], x30.2.2) else
 none else none)
 (some (1, [(xs.getD 0 .undef)], h))
noncomputable def S9 (call : Go.Fw.Call) (a0 : AVal) (h : Heap) : Option J :=
 (call 20 [a0] h).bind fun r1 =>
 (aLen false r1.1).bind fun v2 =>
 (loop (L9_0 call) [(.nilSlice), r1.1, v2, (.int .i64 0)] r1.2).bind fun x32 =>
 bif Nat.beq x32.1 1 then some (0, [(x32.2.1.getD 0 .undef)], x32.2.2) else
 none
theorem run9 (call : Go.Fw.Call) (a0 : AVal) (h : Heap) : runFn call (.code A9) [a0] h = (S9 call a0 h).bind ansOf := by kernel_rfl

/-- frankpledge/look.Find -/
noncomputable def A10 : AFunc := ⟨2, (.seq (.region [.op 0 (.mov 4 (.const (.nilSlice)))] [])
 (.seq (.region [.op 0 (.mov 5 (.const (.nilSlice)))] [])
 (.seq (.seq (.region [.op 0 (.mov 8 (.tmp 0)),
 .op 1 (.call 9 21 [.tmp 8]),
 .op 2 (.len 10 false (.tmp 9)),
 .op 3 (.mov 11 (.const (.int .i64 0)))] [])
 (.block 0 (.loop ⟨[1, 5, 9, 10, 11], []⟩ [((.exit 0), ⟨[5], []⟩)]
 (.seq (.region [.op 0 (.bin 12 .lss .plain (.tmp 11) (.tmp 10))] [])
 (.seq (.cond (.tmp 12)
 .skip
 (.exit 0))
 (.seq (.block 1 (.seq (.region [.op 0 (.iaddr 13 none 9 (.tmp 9) (.tmp 11)),
 .op 1 (.load 14 true 9 (.tmp 13)),
 .op 2 (.alloc 7 true [.str [], .str [], .int .i64 0, .int .i64 0, .int .i64 0, .int .i64 0, .int .i64 0, .int .i64 0, .bool false]),
 .op 3 (.store true 9 (.tmp 7) (.tmp 14))] [])
 (.seq (.region [.op 0 (.faddr 15 0 (.tmp 7)),
 .op 1 (.faddr 16 0 (.tmp 15)),
 .op 2 (.load 17 false 1 (.tmp 16)),
 .op 3 (.mov 18 (.tmp 1)),
 .op 4 (.bin 19 .eql .plain (.tmp 17) (.tmp 18)),
 .op 5 (.mov 20 (.tmp 19)),
 .guard 20 true [.op 6 (.load 21 true 9 (.tmp 7)),
 .op 7 (.call 22 22 [.tmp 21]),
 .op 8 (.bin 23 .eql .plain (.tmp 22) (.const (.int .i64 1)))] [] [23],
 .op 9 (.pick 24 (.tmp 20) (.tmp 23) (.const (.bool false)))] [])
 (.join [(.normal, ⟨[1, 5, 9, 10, 11], []⟩)] (.cond (.tmp 24)
 (.region [.op 0 (.mov 25 (.tmp 5)),
 .op 1 (.load 26 true 9 (.tmp 7)),
 .op 2 (.buildSl 27 [.str [], .str [], .int .i64 0, .int .i64 0, .int .i64 0, .int .i64 0, .int .i64 0, .int .i64 0, .bool false] 9 1 [(0, .tmp 26)]),
 .op 3 (.append 28 9 88 [.str [], .str [], .int .i64 0, .int .i64 0, .int .i64 0, .int .i64 0, .int .i64 0, .int .i64 0, .bool false] false (.tmp 25) (.tmp 27)),
 .op 4 (.mov 5 (.tmp 28))] [])
 .skip)))))
 (.region [.op 0 (.bin 29 .add .plain (.tmp 11) (.const (.int .i64 1))),
 .op 1 (.mov 11 (.tmp 29))] [])))))))
 (.seq (.region [.op 0 (.mov 30 (.tmp 5)),
 .op 1 (.mov 4 (.tmp 30))] [])
 .ret)))),
 [.tmp 4]⟩
theorem ok10 : funcOk Try.prog (drawOk Try.prog) Try.f10 A10 = true := by kernel_rfl
/-- xs: t1, t5, t9, t10, t11 -/
noncomputable def L10_0 (call : Go.Fw.Call) (xs : List AVal) (h : Heap) : Option J :=
 (aBin .lss .plain (xs.getD 4 .undef) (xs.getD 3 .undef)).bind fun v3 =>
 condV v3
 ((aIaddr 9 (xs.getD 2 .undef) (xs.getD 4 .undef)).bind fun v4 =>
 (aLoad h 9 v4).bind fun c5 =>
 (fromCells true c5).bind fun v6 =>
 (aCells 9 v6).bind fun c7 =>
 bif Nat.ble ((0) + 9) (List.length (α := AVal) [.str [], .str [], .int .i64 0, .int .i64 0, .int .i64 0, .int .i64 0, .int .i64 0, .int .i64 0, .bool false]) then (rdL (splice [.str [], .str [], .int .i64 0, .int .i64 0, .int .i64 0, .int .i64 0, .int .i64 0, .int .i64 0, .bool false] (0) c7) 0 1).bind fun c8 =>
 (fromCells false c8).bind fun v9 =>
 (aBin .eql .plain v9 (xs.getD 0 .undef)).bind fun v10 =>
 (guardV v10 true
 ((rdL (splice [.str [], .str [], .int .i64 0, .int .i64 0, .int .i64 0, .int .i64 0, .int .i64 0, .int .i64 0, .bool false] (0) c7) 0 9).bind fun c11 =>
 (fromCells true c11).bind fun v12 =>
 (call 22 [v12] h).bind fun r13 =>
 (aBin .eql .plain r13.1 (.int .i64 1)).bind fun v14 =>
 some (0, [v14], r13.2))
 (some (0, [skipV], h))).bind fun g15 =>
 (aPick v10 (g15.2.1.getD 0 .undef) (.bool false)).bind fun v16 =>
 (condV v16
 ((rdL (splice [.str [], .str [], .int .i64 0, .int .i64 0, .int .i64 0, .int .i64 0, .int .i64 0, .int .i64 0, .bool false] (0) c7) 0 9).bind fun c17 =>
 (fromCells true c17).bind fun v18 =>
 (aFill (reps [.str [], .str [], .int .i64 0, .int .i64 0, .int .i64 0, .int .i64 0, .int .i64 0, .int .i64 0, .bool false] 1) [(0, 9, v18)]).bind fun c19 =>
 (aAppend 9 88 [.str [], .str [], .int .i64 0, .int .i64 0, .int .i64 0, .int .i64 0, .int .i64 0, .int .i64 0, .bool false] false (xs.getD 1 .undef) (.slice g15.2.2.next 0 1 1 9 true) (g15.2.2.alloc c19)).bind fun r20 =>
 some (0, [(xs.getD 0 .undef), r20.1, (xs.getD 2 .undef), (xs.getD 3 .undef), (xs.getD 4 .undef)], r20.2))
 (some (0, [(xs.getD 0 .undef), (xs.getD 1 .undef), (xs.getD 2 .undef), (xs.getD 3 .undef), (xs.getD 4 .undef)], g15.2.2))).bind fun x21 =>
 bif Nat.beq x21.1 0 then (aBin .add .plain (x21.2.1.getD 4 .undef) (.int .i64 1)).bind fun v22 =>
 some (0, [(x21.2.1.getD 0 .undef), (x21.2.1.getD 1 .undef), (x21.2.1.getD 2 .undef), (x21.2.1.getD 3 .undef), v22], x21.2.2) else
 none else none)
 (some (1, [(xs.getD 1 .undef)], h))
noncomputable def S10 (call : Go.Fw.Call) (a0 a1 : AVal) (h : Heap) : Option J :=
 (call 21 [a0] h).bind fun r1 =>
 (aLen false r1.1).bind fun v2 =>
 (loop (L10_0 call) [a1, (.nilSlice), r1.1, v2, (.int .i64 0)] r1.2).bind fun x23 =>
 bif Nat.beq x23.1 1 then some (0, [(x23.2.1.getD 0 .undef)], x23.2.2) else
 none
theorem run10 (call : Go.Fw.Call) (a0 a1 : AVal) (h : Heap) : runFn call (.code A10) [a0, a1] h = (S10 call a0 a1 h).bind ansOf := by kernel_rfl

/-- frankpledge/look.Pick -/
noncomputable def A11 : AFunc := ⟨3, (.seq (.region [.op 0 (.alloc 6 true [.str [], .str [], .int .i64 0, .int .i64 0, .int .i64 0, .int .i64 0, .int .i64 0, .int .i64 0, .bool false]),
 .op 1 (.mov 7 (.const (.bool false)))] [])
 (.seq (.region [.op 0 (.mov 10 (.tmp 0)),
 .op 1 (.mov 11 (.tmp 1)),
 .op 2 (.call 12 10 [.tmp 10, .tmp 11]),
 .op 3 (.mov 8 (.tmp 12))] [])
 (.seq (.region [.op 0 (.mov 13 (.tmp 8)),
 .op 1 (.len 14 false (.tmp 13)),
 .op 2 (.mov 9 (.tmp 14))] [])
 (.seq (.seq (.region [.op 0 (.mov 15 (.tmp 9)),
 .op 1 (.bin 16 .eql .plain (.tmp 15) (.const (.int .i64 0)))] [])
 (.cond (.tmp 16)
 (.seq (.region [.op 0 (.build 17 [.str [], .str [], .int .i64 0, .int .i64 0, .int .i64 0, .int .i64 0, .int .i64 0, .int .i64 0, .bool false] []),
 .op 1 (.store true 9 (.tmp 6) (.tmp 17)),
 .op 2 (.mov 7 (.const (.bool false)))] [])
 .ret)
 .skip))
 (.seq (.region [.op 0 (.mov 18 (.tmp 8)),
 .op 1 (.mov 19 (.tmp 2)),
 .op 2 (.mov 20 (.tmp 9)),
 .op 3 (.bin 21 .rem .plain (.tmp 19) (.tmp 20)),
 .op 4 (.mov 22 (.tmp 9)),
 .op 5 (.bin 23 .add .plain (.tmp 21) (.tmp 22)),
 .op 6 (.mov 24 (.tmp 9)),
 .op 7 (.bin 25 .rem .plain (.tmp 23) (.tmp 24)),
 .op 8 (.iaddr 26 none 9 (.tmp 18) (.tmp 25)),
 .op 9 (.load 27 true 9 (.tmp 26)),
 .op 10 (.store true 9 (.tmp 6) (.tmp 27)),
 .op 11 (.mov 7 (.const (.bool true)))] [])
 .ret))))),
 [.cell 6 true 9, .tmp 7]⟩
theorem ok11 : funcOk Try.prog (drawOk Try.prog) Try.f11 A11 = true := by kernel_rfl
noncomputable def S11 (call : Go.Fw.Call) (a0 a1 a2 : AVal) (h : Heap) : Option J :=
 (call 10 [a0, a1] h).bind fun r1 =>
 (aLen false r1.1).bind fun v2 =>
 (aBin .eql .plain v2 (.int .i64 0)).bind fun v3 =>
 condV v3
 ((aFill [.str [], .str [], .int .i64 0, .int .i64 0, .int .i64 0, .int .i64 0, .int .i64 0, .int .i64 0, .bool false] []).bind fun c4 =>
 (aCells 9 (.agg c4)).bind fun c5 =>
 bif Nat.ble ((0) + 9) (List.length (α := AVal) [.str [], .str [], .int .i64 0, .int .i64 0, .int .i64 0, .int .i64 0, .int .i64 0, .int .i64 0, .bool false]) then (((rdL (splice [.str [], .str [], .int .i64 0, .int .i64 0, .int .i64 0, .int .i64 0, .int .i64 0, .int .i64 0, .bool false] (0) c5) (0) 9).bind fun cs => fromCells true cs).bind fun v => ((some (.bool false)).bind fun v => (some []).bind fun vs => some (v :: vs)).bind fun vs => some (v :: vs)).bind fun vs => some (0, [oneOr vs], r1.2) else none)
 ((aBin .rem .plain a2 v2).bind fun v6 =>
 (aBin .add .plain v6 v2).bind fun v7 =>
 (aBin .rem .plain v7 v2).bind fun v8 =>
 (aIaddr 9 r1.1 v8).bind fun v9 =>
 (aLoad r1.2 9 v9).bind fun c10 =>
 (fromCells true c10).bind fun v11 =>
 (aCells 9 v11).bind fun c12 =>
 bif Nat.ble ((0) + 9) (List.length (α := AVal) [.str [], .str [], .int .i64 0, .int .i64 0, .int .i64 0, .int .i64 0, .int .i64 0, .int .i64 0, .bool false]) then (((rdL (splice [.str [], .str [], .int .i64 0, .int .i64 0, .int .i64 0, .int .i64 0, .int .i64 0, .int .i64 0, .bool false] (0) c12) (0) 9).bind fun cs => fromCells true cs).bind fun v => ((some (.bool true)).bind fun v => (some []).bind fun vs => some (v :: vs)).bind fun vs => some (v :: vs)).bind fun vs => some (0, [oneOr vs], r1.2) else none)
theorem run11 (call : Go.Fw.Call) (a0 a1 a2 : AVal) (h : Heap) : runFn call (.code A11) [a0, a1, a2] h = (S11 call a0 a1 a2 h).bind ansOf := by kernel_rfl

/-- frankpledge/frankpledgeref5.Shows -/
noncomputable def A12 : AFunc := ⟨1, (.seq (.region [.op 0 (.box 1 true (.tmp 0)),
 .op 1 (.mov 2 (.const (.int .i64 0)))] [])
 (.seq (.seq (.region [.op 0 (.faddr 3 8 (.tmp 1)),
 .op 1 (.load 4 false 1 (.tmp 3))] [])
 (.cond (.tmp 4)
 (.seq (.region [.op 0 (.mov 2 (.const (.int .i64 0)))] [])
 .ret)
 .skip))
 (.seq (.seq (.region [.op 0 (.faddr 5 3 (.tmp 1)),
 .op 1 (.load 6 false 1 (.tmp 5)),
 .op 2 (.bin 7 .neq .plain (.tmp 6) (.const (.int .i64 0)))] [])
 (.cond (.tmp 7)
 (.seq (.region [.op 0 (.faddr 8 3 (.tmp 1)),
 .op 1 (.load 9 false 1 (.tmp 8)),
 .op 2 (.mov 2 (.tmp 9))] [])
 .ret)
 .skip))
 (.seq (.region [.op 0 (.faddr 10 2 (.tmp 1)),
 .op 1 (.load 11 false 1 (.tmp 10)),
 .op 2 (.mov 2 (.tmp 11))] [])
 .ret)))),
 [.tmp 2]⟩
theorem ok12 : funcOk Try.prog (drawOk Try.prog) Try.f12 A12 = true := by kernel_rfl
noncomputable def S12 (call : Go.Fw.Call) (a0 : AVal) (h : Heap) : Option J :=
 (AVal.cells? a0).bind fun c1 =>
 (rdL c1 8 1).bind fun c2 =>
 (fromCells false c2).bind fun v3 =>
 condV v3
 (some (0, [(.int .i64 0)], h))
 ((rdL c1 3 1).bind fun c4 =>
 (fromCells false c4).bind fun v5 =>
 (aBin .neq .plain v5 (.int .i64 0)).bind fun v6 =>
 condV v6
 ((rdL c1 3 1).bind fun c7 =>
 (fromCells false c7).bind fun v8 =>
 some (0, [v8], h))
 ((rdL c1 2 1).bind fun c9 =>
 (fromCells false c9).bind fun v10 =>
 some (0, [v10], h)))
theorem run12 (call : Go.Fw.Call) (a0 : AVal) (h : Heap) : runFn call (.code A12) [a0] h = (S12 call a0 h).bind ansOf := by kernel_rfl

/-- frankpledge/look.Count -/
noncomputable def A13 : AFunc := ⟨1, (.seq (.region [.op 0 (.alloc 2 true [.int .i64 0, .int .i64 0, .int .i64 0, .int .i64 0])] [])
 (.seq (.region [.op 0 (.alloc 3 true [.int .i64 0, .int .i64 0, .int .i64 0, .int .i64 0])] [])
 (.seq (.seq (.region [.op 0 (.mov 7 (.tmp 0)),
 .op 1 (.len 8 false (.tmp 7)),
 .op 2 (.mov 9 (.const (.int .i64 0)))] [])
 (.block 0 (.loop ⟨[7, 8, 9], [2, 3]⟩ [((.exit 0), ⟨[], [2, 3]⟩)]
 (.seq (.region [.op 0 (.bin 10 .lss .plain (.tmp 9) (.tmp 8))] [])
 (.seq (.cond (.tmp 10)
 .skip
 (.exit 0))
 (.seq (.block 1 (.seq (.region [.op 0 (.iaddr 11 none 9 (.tmp 7) (.tmp 9)),
 .op 1 (.load 12 true 9 (.tmp 11)),
 .op 2 (.alloc 5 true [.str [], .str [], .int .i64 0, .int .i64 0, .int .i64 0, .int .i64 0, .int .i64 0, .int .i64 0, .bool false]),
 .op 3 (.store true 9 (.tmp 5) (.tmp 12))] [])
 (.seq (.region [.op 0 (.load 13 true 9 (.tmp 5)),
 .op 1 (.call 14 22 [.tmp 13]),
 .op 2 (.mov 6 (.tmp 14))] [])
 (.seq (.region [.op 0 (.mov 15 (.tmp 6)),
 .op 1 (.bin 16 .geq .plain (.tmp 15) (.const (.int .i64 0))),
 .op 2 (.mov 17 (.tmp 16)),
 .guard 17 true [.op 3 (.mov 18 (.tmp 6)),
 .op 4 (.bin 19 .lss .plain (.tmp 18) (.const (.int .i64 4)))] [] [19],
 .op 5 (.pick 20 (.tmp 17) (.tmp 19) (.const (.bool false)))] [])
 (.join [(.normal, ⟨[7, 8, 9], [2, 3]⟩)] (.cond (.tmp 20)
 (.region [.op 0 (.mov 21 (.tmp 6)),
 .op 1 (.iaddr 22 (some 4) 1 (.tmp 3) (.tmp 21)),
 .op 2 (.load 23 false 1 (.tmp 22)),
 .op 3 (.bin 24 .add .plain (.tmp 23) (.const (.int .i64 1))),
 .op 4 (.iaddr 25 (some 4) 1 (.tmp 3) (.tmp 21)),
 .op 5 (.store false 1 (.tmp 25) (.tmp 24))] [])
 .skip))))))
 (.region [.op 0 (.bin 26 .add .plain (.tmp 9) (.const (.int .i64 1))),
 .op 1 (.mov 9 (.tmp 26))] [])))))))
 (.seq (.region [.op 0 (.load 27 true 4 (.tmp 3)),
 .op 1 (.store true 4 (.tmp 2) (.tmp 27))] [])
 .ret)))),
 [.cell 2 true 4]⟩
theorem ok13 : funcOk Try.prog (drawOk Try.prog) Try.f13 A13 = true := by kernel_rfl
/-- xs: t7, t8, t9, cells of 2, cells of 3 -/
noncomputable def L13_0 (call : Go.Fw.Call) (xs : List AVal) (h : Heap) : Option J :=
 (aBin .lss .plain (xs.getD 2 .undef) (xs.getD 1 .undef)).bind fun v2 =>
 condV v2
 ((aIaddr 9 (xs.getD 0 .undef) (xs.getD 2 .undef)).bind fun v3 =>
 (aLoad h 9 v3).bind fun c4 =>
 (fromCells true c4).bind fun v5 =>
 (aCells 9 v5).bind fun c6 =>
 bif Nat.ble ((0) + 9) (List.length (α := AVal) [.str [], .str [], .int .i64 0, .int .i64 0, .int .i64 0, .int .i64 0, .int .i64 0, .int .i64 0, .bool false]) then (rdL (splice [.str [], .str [], .int .i64 0, .int .i64 0, .int .i64 0, .int .i64 0, .int .i64 0, .int .i64 0, .bool false] (0) c6) 0 9).bind fun c7 =>
 (fromCells true c7).bind fun v8 =>
 (call 22 [v8] h).bind fun r9 =>
 (aBin .geq .plain r9.1 (.int .i64 0)).bind fun v10 =>
 (guardV v10 true
 ((aBin .lss .plain r9.1 (.int .i64 4)).bind fun v11 =>
 some (0, [v11], r9.2))
 (some (0, [skipV], r9.2))).bind fun g12 =>
 (aPick v10 (g12.2.1.getD 0 .undef) (.bool false)).bind fun v13 =>
 (condV v13
 ((aIdx 4 r9.1).bind fun j14 =>
 (rdL (AVal.aggCells (xs.getD 4 .undef)) ((0) + j14 * 1) 1).bind fun c15 =>
 (fromCells false c15).bind fun v16 =>
 (aBin .add .plain v16 (.int .i64 1)).bind fun v17 =>
 (aIdx 4 r9.1).bind fun j18 =>
 (aCells 1 v17).bind fun c19 =>
 bif Nat.ble (((0) + j18 * 1) + 1) (List.length (α := AVal) (AVal.aggCells (xs.getD 4 .undef))) then some (0, [(xs.getD 0 .undef), (xs.getD 1 .undef), (xs.getD 2 .undef), (.agg (AVal.aggCells (xs.getD 3 .undef))), (.agg (splice (AVal.aggCells (xs.getD 4 .undef)) ((0) + j18 * 1) c19))], g12.2.2) else none)
 (some (0, [(xs.getD 0 .undef), (xs.getD 1 .undef), (xs.getD 2 .undef), (.agg (AVal.aggCells (xs.getD 3 .undef))), (.agg (AVal.aggCells (xs.getD 4 .undef)))], g12.2.2))).bind fun x20 =>
 bif Nat.beq x20.1 0 then (aBin .add .plain (x20.2.1.getD 2 .undef) (.int .i64 1)).bind fun v21 =>
 some (0, [(x20.2.1.getD 0 .undef), (x20.2.1.getD 1 .undef), v21, (.agg (AVal.aggCells (x20.2.1.getD 3 .undef))), (.agg (AVal.aggCells (x20.2.1.getD 4 .undef)))], x20.2.2) else
 none else none)
 (some (1, [(.agg (AVal.aggCells (xs.getD 3 .undef))), (.agg (AVal.aggCells (xs.getD 4 .undef)))], h))
noncomputable def S13 (call : Go.Fw.Call) (a0 : AVal) (h : Heap) : Option J :=
 (aLen false a0).bind fun v1 =>
 (loop (L13_0 call) [a0, v1, (.int .i64 0), (.agg [.int .i64 0, .int .i64 0, .int .i64 0, .int .i64 0]), (.agg [.int .i64 0, .int .i64 0, .int .i64 0, .int .i64 0])] h).bind fun x22 =>
 bif Nat.beq x22.1 1 then (rdL (AVal.aggCells (x22.2.1.getD 1 .undef)) 0 4).bind fun c23 =>
 (fromCells true c23).bind fun v24 =>
 (aCells 4 v24).bind fun c25 =>
 bif Nat.ble ((0) + 4) (List.length (α := AVal) (AVal.aggCells (x22.2.1.getD 0 .undef))) then (((rdL (splice (AVal.aggCells (x22.2.1.getD 0 .undef)) (0) c25) (0) 4).bind fun cs => fromCells true cs).bind fun v => (some []).bind fun vs => some (v :: vs)).bind fun vs => some (0, [oneOr vs], x22.2.2) else none else
 none
theorem run13 (call : Go.Fw.Call) (a0 : AVal) (h : Heap) : runFn call (.code A13) [a0] h = (S13 call a0 h).bind ansOf := by kernel_rfl

/-- frankpledge/look.Apps -/
noncomputable def A14 : AFunc := ⟨1, (.seq (.region [.op 0 (.mov 2 (.const (.nilSlice)))] [])
 (.seq (.region [.op 0 (.mov 3 (.const (.nilSlice)))] [])
 (.seq (.seq (.region [.op 0 (.mov 6 (.tmp 0)),
 .op 1 (.len 7 false (.tmp 6)),
 .op 2 (.mov 8 (.const (.int .i64 0)))] [])
 (.block 0 (.loop ⟨[3, 6, 7, 8], []⟩ [((.exit 0), ⟨[3], []⟩)]
 (.seq (.region [.op 0 (.bin 9 .lss .plain (.tmp 8) (.tmp 7))] [])
 (.seq (.cond (.tmp 9)
 .skip
 (.exit 0))
 (.seq (.block 1 (.seq (.region [.op 0 (.iaddr 10 none 9 (.tmp 6) (.tmp 8)),
 .op 1 (.load 11 true 9 (.tmp 10)),
 .op 2 (.alloc 5 true [.str [], .str [], .int .i64 0, .int .i64 0, .int .i64 0, .int .i64 0, .int .i64 0, .int .i64 0, .bool false]),
 .op 3 (.store true 9 (.tmp 5) (.tmp 11))] [])
 (.seq (.region [.op 0 (.faddr 12 8 (.tmp 5)),
 .op 1 (.load 13 false 1 (.tmp 12)),
 .op 2 (.un 14 .not (.tmp 13))] [])
 (.join [(.normal, ⟨[3, 6, 7, 8], []⟩)] (.cond (.tmp 14)
 (.region [.op 0 (.mov 15 (.tmp 3)),
 .op 1 (.faddr 16 0 (.tmp 5)),
 .op 2 (.faddr 17 0 (.tmp 16)),
 .op 3 (.load 18 false 1 (.tmp 17)),
 .op 4 (.buildSl 19 [.str []] 1 1 [(0, .tmp 18)]),
 .op 5 (.append 20 1 16 [.str []] false (.tmp 15) (.tmp 19)),
 .op 6 (.mov 3 (.tmp 20))] [])
 .skip)))))
 (.region [.op 0 (.bin 21 .add .plain (.tmp 8) (.const (.int .i64 1))),
 .op 1 (.mov 8 (.tmp 21))] [])))))))
 (.seq (.region [.op 0 (.mov 22 (.tmp 3)),
 .op 1 (.call 23 23 [.tmp 22])] [])
 (.seq (.region [.op 0 (.mov 24 (.tmp 3)),
 .op 1 (.call 25 25 [.tmp 24]),
 .op 2 (.call 26 24 [.tmp 25]),
 .op 3 (.mov 2 (.tmp 26))] [])
 .ret))))),
 [.tmp 2]⟩
theorem ok14 : funcOk Try.prog (drawOk Try.prog) Try.f14 A14 = true := by kernel_rfl
/-- xs: t3, t6, t7, t8 -/
noncomputable def L14_0 (call : Go.Fw.Call) (xs : List AVal) (h : Heap) : Option J :=
 (aBin .lss .plain (xs.getD 3 .undef) (xs.getD 2 .undef)).bind fun v2 =>
 condV v2
 ((aIaddr 9 (xs.getD 1 .undef) (xs.getD 3 .undef)).bind fun v3 =>
 (aLoad h 9 v3).bind fun c4 =>
 (fromCells true c4).bind fun v5 =>
 (aCells 9 v5).bind fun c6 =>
 bif Nat.ble ((0) + 9) (List.length (α := AVal) [.str [], .str [], .int .i64 0, .int .i64 0, .int .i64 0, .int .i64 0, .int .i64 0, .int .i64 0, .bool false]) then (rdL (splice [.str [], .str [], .int .i64 0, .int .i64 0, .int .i64 0, .int .i64 0, .int .i64 0, .int .i64 0, .bool false] (0) c6) 8 1).bind fun c7 =>
 (fromCells false c7).bind fun v8 =>
 (aUn .not v8).bind fun v9 =>
 (condV v9
 ((rdL (splice [.str [], .str [], .int .i64 0, .int .i64 0, .int .i64 0, .int .i64 0, .int .i64 0, .int .i64 0, .bool false] (0) c6) 0 1).bind fun c10 =>
 (fromCells false c10).bind fun v11 =>
 (aFill (reps [.str []] 1) [(0, 1, v11)]).bind fun c12 =>
 (aAppend 1 16 [.str []] false (xs.getD 0 .undef) (.slice h.next 0 1 1 1 true) (h.alloc c12)).bind fun r13 =>
 some (0, [r13.1, (xs.getD 1 .undef), (xs.getD 2 .undef), (xs.getD 3 .undef)], r13.2))
 (some (0, [(xs.getD 0 .undef), (xs.getD 1 .undef), (xs.getD 2 .undef), (xs.getD 3 .undef)], h))).bind fun x14 =>
 bif Nat.beq x14.1 0 then (aBin .add .plain (x14.2.1.getD 3 .undef) (.int .i64 1)).bind fun v15 =>
 some (0, [(x14.2.1.getD 0 .undef), (x14.2.1.getD 1 .undef), (x14.2.1.getD 2 .undef), v15], x14.2.2) else
 none else none)
 (some (1, [(xs.getD 0 .undef)], h))
noncomputable def S14 (call : Go.Fw.Call) (a0 : AVal) (h : Heap) : Option J :=
 (aLen false a0).bind fun v1 =>
 (loop (L14_0 call) [(.nilSlice), a0, v1, (.int .i64 0)] h).bind fun x16 =>
 bif Nat.beq x16.1 1 then (call 23 [(x16.2.1.getD 0 .undef)] x16.2.2).bind fun r17 =>
 (call 25 [(x16.2.1.getD 0 .undef)] r17.2).bind fun r18 =>
 (call 24 [r18.1] r18.2).bind fun r19 =>
 some (0, [r19.1], r19.2) else
 none
theorem run14 (call : Go.Fw.Call) (a0 : AVal) (h : Heap) : runFn call (.code A14) [a0] h = (S14 call a0 h).bind ansOf := by kernel_rfl

/-- (*frankpledge/frankpledgekeep.Tape).Next -/
noncomputable def A15 : AFunc := ⟨2, (.seq (.region [.op 0 (.mov 4 (.const (.int .i64 0)))] [])
 (.seq (.seq (.region [.op 0 (.mov 5 (.tmp 0)),
 .op 1 (.nilchk 6 (.tmp 5)),
 .op 2 (.faddr 7 1 (.tmp 6)),
 .op 3 (.load 8 false 1 (.tmp 7)),
 .op 4 (.mov 9 (.tmp 0)),
 .op 5 (.nilchk 10 (.tmp 9)),
 .op 6 (.faddr 11 0 (.tmp 10)),
 .op 7 (.load 12 false 1 (.tmp 11)),
 .op 8 (.len 13 false (.tmp 12)),
 .op 9 (.bin 14 .geq .plain (.tmp 8) (.tmp 13)),
 .op 10 (.mov 15 (.tmp 14)),
 .guard 15 false [.op 11 (.mov 16 (.tmp 1)),
 .op 12 (.bin 17 .lss .plain (.tmp 16) (.const (.int .i64 1)))] [] [17],
 .op 13 (.pick 18 (.tmp 15) (.const (.bool true)) (.tmp 17))] [])
 (.cond (.tmp 18)
 (.seq (.region [.op 0 (.mov 4 (.const (.int .i64 0)))] [])
 .ret)
 .skip))
 (.seq (.region [.op 0 (.mov 19 (.tmp 0)),
 .op 1 (.nilchk 20 (.tmp 19)),
 .op 2 (.faddr 21 1 (.tmp 20)),
 .op 3 (.load 22 false 1 (.tmp 21)),
 .op 4 (.bin 23 .add .plain (.tmp 22) (.const (.int .i64 1))),
 .op 5 (.nilchk 24 (.tmp 19)),
 .op 6 (.faddr 25 1 (.tmp 24)),
 .op 7 (.store false 1 (.tmp 25) (.tmp 23))] [])
 (.seq (.region [.op 0 (.mov 26 (.tmp 0)),
 .op 1 (.nilchk 27 (.tmp 26)),
 .op 2 (.faddr 28 0 (.tmp 27)),
 .op 3 (.load 29 false 1 (.tmp 28)),
 .op 4 (.mov 30 (.tmp 0)),
 .op 5 (.nilchk 31 (.tmp 30)),
 .op 6 (.faddr 32 1 (.tmp 31)),
 .op 7 (.load 33 false 1 (.tmp 32)),
 .op 8 (.bin 34 .sub .plain (.tmp 33) (.const (.int .i64 1))),
 .op 9 (.iaddr 35 none 1 (.tmp 29) (.tmp 34)),
 .op 10 (.load 36 false 1 (.tmp 35)),
 .op 11 (.call 37 26 [.tmp 36, .const (.int .i64 0), .const (.int .i64 1073741824)]),
 .op 12 (.mov 38 (.tmp 1)),
 .op 13 (.bin 39 .rem .plain (.tmp 37) (.tmp 38)),
 .op 14 (.mov 4 (.tmp 39))] [])
 .ret)))),
 [.tmp 4]⟩
theorem ok15 : funcOk Try.prog (drawOk Try.prog) Try.f15 A15 = true := by kernel_rfl
noncomputable def S15 (call : Go.Fw.Call) (a0 a1 : AVal) (h : Heap) : Option J :=
 (aNilchk a0).bind fun v1 =>
 (aFaddr 1 v1).bind fun v2 =>
 (aLoad h 1 v2).bind fun c3 =>
 (fromCells false c3).bind fun v4 =>
 (aNilchk a0).bind fun v5 =>
 (aFaddr 0 v5).bind fun v6 =>
 (aLoad h 1 v6).bind fun c7 =>
 (fromCells false c7).bind fun v8 =>
 (aLen false v8).bind fun v9 =>
 (aBin .geq .plain v4 v9).bind fun v10 =>
 (guardV v10 false
 ((aBin .lss .plain a1 (.int .i64 1)).bind fun v11 =>
 some (0, [v11], h))
 (some (0, [skipV], h))).bind fun g12 =>
 (aPick v10 (.bool true) (g12.2.1.getD 0 .undef)).bind fun v13 =>
 condV v13
 (some (0, [(.int .i64 0)], g12.2.2))
 ((aNilchk a0).bind fun v14 =>
 (aFaddr 1 v14).bind fun v15 =>
 (aLoad g12.2.2 1 v15).bind fun c16 =>
 (fromCells false c16).bind fun v17 =>
 (aBin .add .plain v17 (.int .i64 1)).bind fun v18 =>
 (aNilchk a0).bind fun v19 =>
 (aFaddr 1 v19).bind fun v20 =>
 (aCells 1 v18).bind fun c21 =>
 (aStore g12.2.2 v20 c21).bind fun h22 =>
 (aNilchk a0).bind fun v23 =>
 (aFaddr 0 v23).bind fun v24 =>
 (aLoad h22 1 v24).bind fun c25 =>
 (fromCells false c25).bind fun v26 =>
 (aNilchk a0).bind fun v27 =>
 (aFaddr 1 v27).bind fun v28 =>
 (aLoad h22 1 v28).bind fun c29 =>
 (fromCells false c29).bind fun v30 =>
 (aBin .sub .plain v30 (.int .i64 1)).bind fun v31 =>
 (aIaddr 1 v26 v31).bind fun v32 =>
 (aLoad h22 1 v32).bind fun c33 =>
 (fromCells false c33).bind fun v34 =>
 (call 26 [v34, (.int .i64 0), (.int .i64 1073741824)] h22).bind fun r35 =>
 (aBin .rem .plain r35.1 a1).bind fun v36 =>
 some (0, [v36], r35.2))
theorem run15 (call : Go.Fw.Call) (a0 a1 : AVal) (h : Heap) : runFn call (.code A15) [a0, a1] h = (S15 call a0 a1 h).bind ansOf := by kernel_rfl

/-- (*frankpledge/frankpledgekeep.Tape).Card -/
noncomputable def A16 : AFunc := ⟨1, (.seq (.region [.op 0 (.alloc 2 true [.str [], .str [], .int .i64 0, .int .i64 0, .int .i64 0, .int .i64 0, .int .i64 0, .int .i64 0, .bool false])] [])
 (.seq (.region [.op 0 (.mov 3 (.tmp 0)),
 .op 1 (.call 4 27 [.tmp 3]),
 .op 2 (.mov 5 (.tmp 0)),
 .op 3 (.call 6 15 [.tmp 5, .const (.int .i64 2)]),
 .op 4 (.bin 7 .add .plain (.const (.int .i64 1)) (.tmp 6)),
 .op 5 (.mov 8 (.tmp 0)),
 .op 6 (.call 9 15 [.tmp 8, .const (.int .i64 7)]),
 .op 7 (.bin 10 .quo .plain (.tmp 9) (.const (.int .i64 2))),
 .op 8 (.mov 11 (.tmp 0)),
 .op 9 (.call 12 15 [.tmp 11, .const (.int .i64 60)]),
 .op 10 (.bin 13 .add .plain (.const (.int .i64 1)) (.tmp 12)),
 .op 11 (.mov 14 (.tmp 0)),
 .op 12 (.call 15 28 [.tmp 14]),
 .op 13 (.mov 16 (.tmp 0)),
 .op 14 (.call 17 15 [.tmp 16, .const (.int .i64 4)]),
 .op 15 (.bin 18 .eql .plain (.tmp 17) (.const (.int .i64 0))),
 .op 16 (.build 19 [.str [], .str [], .int .i64 0, .int .i64 0, .int .i64 0, .int .i64 0, .int .i64 0, .int .i64 0, .bool false] [(0, 2, .tmp 4), (2, 1, .tmp 7), (3, 1, .tmp 10), (4, 1, .tmp 13), (5, 3, .tmp 15), (8, 1, .tmp 18)]),
 .op 17 (.store true 9 (.tmp 2) (.tmp 19))] [])
 .ret)),
 [.cell 2 true 9]⟩
theorem ok16 : funcOk Try.prog (drawOk Try.prog) Try.f16 A16 = true := by kernel_rfl
noncomputable def S16 (call : Go.Fw.Call) (a0 : AVal) (h : Heap) : Option J :=
 (call 27 [a0] h).bind fun r1 =>
 (call 15 [a0, (.int .i64 2)] r1.2).bind fun r2 =>
 (aBin .add .plain (.int .i64 1) r2.1).bind fun v3 =>
 (call 15 [a0, (.int .i64 7)] r2.2).bind fun r4 =>
 (aBin .quo .plain r4.1 (.int .i64 2)).bind fun v5 =>
 (call 15 [a0, (.int .i64 60)] r4.2).bind fun r6 =>
 (aBin .add .plain (.int .i64 1) r6.1).bind fun v7 =>
 (call 28 [a0] r6.2).bind fun r8 =>
 (call 15 [a0, (.int .i64 4)] r8.2).bind fun r9 =>
 (aBin .eql .plain r9.1 (.int .i64 0)).bind fun v10 =>
 (aFill [.str [], .str [], .int .i64 0, .int .i64 0, .int .i64 0, .int .i64 0, .int .i64 0, .int .i64 0, .bool false] [(0, 2, r1.1), (2, 1, v3), (3, 1, v5), (4, 1, v7), (5, 3, r8.1), (8, 1, v10)]).bind fun c11 =>
 (aCells 9 (.agg c11)).bind fun c12 =>
 bif Nat.ble ((0) + 9) (List.length (α := AVal) [.str [], .str [], .int .i64 0, .int .i64 0, .int .i64 0, .int .i64 0, .int .i64 0, .int .i64 0, .bool false]) then (((rdL (splice [.str [], .str [], .int .i64 0, .int .i64 0, .int .i64 0, .int .i64 0, .int .i64 0, .int .i64 0, .bool false] (0) c12) (0) 9).bind fun cs => fromCells true cs).bind fun v => (some []).bind fun vs => some (v :: vs)).bind fun vs => some (0, [oneOr vs], r9.2) else none
theorem run16 (call : Go.Fw.Call) (a0 : AVal) (h : Heap) : runFn call (.code A16) [a0] h = (S16 call a0 h).bind ansOf := by kernel_rfl

/-- frankpledge/frankpledgeref24.Find -/
noncomputable def A17 : AFunc := ⟨2, (.seq (.region [.op 0 (.mov 4 (.const (.nilSlice)))] [])
 (.seq (.region [.op 0 (.mov 5 (.const (.nilSlice)))] [])
 (.seq (.seq (.region [.op 0 (.mov 8 (.tmp 0)),
 .op 1 (.call 9 19 [.tmp 8]),
 .op 2 (.len 10 false (.tmp 9)),
 .op 3 (.mov 11 (.const (.int .i64 0)))] [])
 (.block 0 (.loop ⟨[1, 5, 9, 10, 11], []⟩ [((.exit 0), ⟨[5], []⟩)]
 (.seq (.region [.op 0 (.bin 12 .lss .plain (.tmp 11) (.tmp 10))] [])
 (.seq (.cond (.tmp 12)
 .skip
 (.exit 0))
 (.seq (.block 1 (.seq (.region [.op 0 (.iaddr 13 none 9 (.tmp 9) (.tmp 11)),
 .op 1 (.load 14 true 9 (.tmp 13)),
 .op 2 (.alloc 7 true [.str [], .str [], .int .i64 0, .int .i64 0, .int .i64 0, .int .i64 0, .int .i64 0, .int .i64 0, .bool false]),
 .op 3 (.store true 9 (.tmp 7) (.tmp 14))] [])
 (.seq (.region [.op 0 (.faddr 15 0 (.tmp 7)),
 .op 1 (.faddr 16 0 (.tmp 15)),
 .op 2 (.load 17 false 1 (.tmp 16)),
 .op 3 (.mov 18 (.tmp 1)),
 .op 4 (.bin 19 .eql .plain (.tmp 17) (.tmp 18)),
 .op 5 (.mov 20 (.tmp 19)),
 .guard 20 true [.op 6 (.load 21 true 9 (.tmp 7)),
 .op 7 (.call 22 12 [.tmp 21]),
 .op 8 (.bin 23 .eql .plain (.tmp 22) (.const (.int .i64 1)))] [] [23],
 .op 9 (.pick 24 (.tmp 20) (.tmp 23) (.const (.bool false)))] [])
 (.join [(.normal, ⟨[1, 5, 9, 10, 11], []⟩)] (.cond (.tmp 24)
 (.region [.op 0 (.mov 25 (.tmp 5)),
 .op 1 (.load 26 true 9 (.tmp 7)),
 .op 2 (.buildSl 27 [.str [], .str [], .int .i64 0, .int .i64 0, .int .i64 0, .int .i64 0, .int .i64 0, .int .i64 0, .bool false] 9 1 [(0, .tmp 26)]),
 .op 3 (.append 28 9 88 [.str [], .str [], .int .i64 0, .int .i64 0, .int .i64 0, .int .i64 0, .int .i64 0, .int .i64 0, .bool false] false (.tmp 25) (.tmp 27)),
 .op 4 (.mov 5 (.tmp 28))] [])
 .skip)))))
 (.region [.op 0 (.bin 29 .add .plain (.tmp 11) (.const (.int .i64 1))),
 .op 1 (.mov 11 (.tmp 29))] [])))))))
 (.seq (.region [.op 0 (.mov 30 (.tmp 5)),
 .op 1 (.mov 4 (.tmp 30))] [])
 .ret)))),
 [.tmp 4]⟩
theorem ok17 : funcOk Try.prog (drawOk Try.prog) Try.f17 A17 = true := by kernel_rfl
/-- xs: t1, t5, t9, t10, t11 -/
noncomputable def L17_0 (call : Go.Fw.Call) (xs : List AVal) (h : Heap) : Option J :=
 (aBin .lss .plain (xs.getD 4 .undef) (xs.getD 3 .undef)).bind fun v3 =>
 condV v3
 ((aIaddr 9 (xs.getD 2 .undef) (xs.getD 4 .undef)).bind fun v4 =>
 (aLoad h 9 v4).bind fun c5 =>
 (fromCells true c5).bind fun v6 =>
 (aCells 9 v6).bind fun c7 =>
 bif Nat.ble ((0) + 9) (List.length (α := AVal) [.str [], .str [], .int .i64 0, .int .i64 0, .int .i64 0, .int .i64 0, .int .i64 0, .int .i64 0, .bool false]) then (rdL (splice [.str [], .str [], .int .i64 0, .int .i64 0, .int .i64 0, .int .i64 0, .int .i64 0, .int .i64 0, .bool false] (0) c7) 0 1).bind fun c8 =>
 (fromCells false c8).bind fun v9 =>
 (aBin .eql .plain v9 (xs.getD 0 .undef)).bind fun v10 =>
 (guardV v10 true
 ((rdL (splice [.str [], .str [], .int .i64 0, .int .i64 0, .int .i64 0, .int .i64 0, .int .i64 0, .int .i64 0, .bool false] (0) c7) 0 9).bind fun c11 =>
 (fromCells true c11).bind fun v12 =>
 (call 12 [v12] h).bind fun r13 =>
 (aBin .eql .plain r13.1 (.int .i64 1)).bind fun v14 =>
 some (0, [v14], r13.2))
 (some (0, [skipV], h))).bind fun g15 =>
 (aPick v10 (g15.2.1.getD 0 .undef) (.bool false)).bind fun v16 =>
 (condV v16
 ((rdL (splice [.str [], .str [], .int .i64 0, .int .i64 0, .int .i64 0, .int .i64 0, .int .i64 0, .int .i64 0, .bool false] (0) c7) 0 9).bind fun c17 =>
 (fromCells true c17).bind fun v18 =>
 (aFill (reps [.str [], .str [], .int .i64 0, .int .i64 0, .int .i64 0, .int .i64 0, .int .i64 0, .int .i64 0, .bool false] 1) [(0, 9, v18)]).bind fun c19 =>
 (aAppend 9 88 [.str [], .str [], .int .i64 0, .int .i64 0, .int .i64 0, .int .i64 0, .int .i64 0, .int .i64 0, .bool false] false (xs.getD 1 .undef) (.slice g15.2.2.next 0 1 1 9 true) (g15.2.2.alloc c19)).bind fun r20 =>
 some (0, [(xs.getD 0 .undef), r20.1, (xs.getD 2 .undef), (xs.getD 3 .undef), (xs.getD 4 .undef)], r20.2))
 (some (0, [(xs.getD 0 .undef), (xs.getD 1 .undef), (xs.getD 2 .undef), (xs.getD 3 .undef), (xs.getD 4 .undef)], g15.2.2))).bind fun x21 =>
 bif Nat.beq x21.1 0 then (aBin .add .plain (x21.2.1.getD 4 .undef) (.int .i64 1)).bind fun v22 =>
 some (0, [(x21.2.1.getD 0 .undef), (x21.2.1.getD 1 .undef), (x21.2.1.getD 2 .undef), (x21.2.1.getD 3 .undef), v22], x21.2.2) else
 none else none)
 (some (1, [(xs.getD 1 .undef)], h))
noncomputable def S17 (call : Go.Fw.Call) (a0 a1 : AVal) (h : Heap) : Option J :=
 (call 19 [a0] h).bind fun r1 =>
 (aLen false r1.1).bind fun v2 =>
 (loop (L17_0 call) [a1, (.nilSlice), r1.1, v2, (.int .i64 0)] r1.2).bind fun x23 =>
 bif Nat.beq x23.1 1 then some (0, [(x23.2.1.getD 0 .undef)], x23.2.2) else
 none
theorem run17 (call : Go.Fw.Call) (a0 a1 : AVal) (h : Heap) : runFn call (.code A17) [a0, a1] h = (S17 call a0 a1 h).bind ansOf := by kernel_rfl

/-- frankpledge/frankpledgeref5.Same -/
noncomputable def A18 : AFunc := ⟨2, (.seq (.region [.op 0 (.mov 4 (.const (.bool false)))] [])
 (.seq (.seq (.region [.op 0 (.mov 6 (.tmp 0)),
 .op 1 (.len 7 false (.tmp 6)),
 .op 2 (.mov 8 (.tmp 1)),
 .op 3 (.len 9 false (.tmp 8)),
 .op 4 (.bin 10 .neq .plain (.tmp 7) (.tmp 9))] [])
 (.cond (.tmp 10)
 (.seq (.region [.op 0 (.mov 4 (.const (.bool false)))] [])
 .ret)
 .skip))
 (.seq (.seq (.region [.op 0 (.mov 11 (.tmp 0)),
 .op 1 (.len 12 false (.tmp 11)),
 .op 2 (.mov 13 (.const (.int .i64 0)))] [])
 (.block 0 (.loop ⟨[0, 1, 12, 13], []⟩ [((.exit 0), ⟨[], []⟩), (.ret, ⟨[4], []⟩)]
 (.seq (.region [.op 0 (.bin 14 .lss .plain (.tmp 13) (.tmp 12))] [])
 (.seq (.cond (.tmp 14)
 .skip
 (.exit 0))
 (.seq (.block 1 (.seq (.region [.op 0 (.mov 15 (.tmp 13)),
 .op 1 (.mov 5 (.tmp 15))] [])
 (.seq (.region [.op 0 (.mov 16 (.tmp 0)),
 .op 1 (.mov 17 (.tmp 5)),
 .op 2 (.iaddr 18 none 9 (.tmp 16) (.tmp 17)),
 .op 3 (.load 19 true 9 (.tmp 18)),
 .op 4 (.mov 20 (.tmp 1)),
 .op 5 (.mov 21 (.tmp 5)),
 .op 6 (.iaddr 22 none 9 (.tmp 20) (.tmp 21)),
 .op 7 (.load 23 true 9 (.tmp 22)),
 .op 8 (.bin 24 .neq (.cells [2, 2, 1, 1, 1, 1, 1, 1, 0]) (.tmp 19) (.tmp 23))] [])
 (.cond (.tmp 24)
 (.seq (.region [.op 0 (.mov 4 (.const (.bool false)))] [])
 .ret)
 .skip))))
 (.region [.op 0 (.bin 25 .add .plain (.tmp 13) (.const (.int .i64 1))),
 .op 1 (.mov 13 (.tmp 25))] [])))))))
 (.seq (.region [.op 0 (.mov 4 (.const (.bool true)))] [])
 .ret)))),
 [.tmp 4]⟩
theorem ok18 : funcOk Try.prog (drawOk Try.prog) Try.f18 A18 = true := by kernel_rfl
/-- xs: t0, t1, t12, t13 -/
noncomputable def L18_0 (call : Go.Fw.Call) (xs : List AVal) (h : Heap) : Option J :=
 (aBin .lss .plain (xs.getD 3 .undef) (xs.getD 2 .undef)).bind fun v5 =>
 condV v5
 ((aIaddr 9 (xs.getD 0 .undef) (xs.getD 3 .undef)).bind fun v6 =>
 (aLoad h 9 v6).bind fun c7 =>
 (fromCells true c7).bind fun v8 =>
 (aIaddr 9 (xs.getD 1 .undef) (xs.getD 3 .undef)).bind fun v9 =>
 (aLoad h 9 v9).bind fun c10 =>
 (fromCells true c10).bind fun v11 =>
 (aBin .neq (.cells [2, 2, 1, 1, 1, 1, 1, 1, 0]) v8 v11).bind fun v12 =>
 condV v12
 (some (2, [(.bool false)], h))
 ((aBin .add .plain (xs.getD 3 .undef) (.int .i64 1)).bind fun v13 =>
 some (0, [(xs.getD 0 .undef), (xs.getD 1 .undef), (xs.getD 2 .undef), v13], h)))
 (some (1, [], h))
noncomputable def S18 (call : Go.Fw.Call) (a0 a1 : AVal) (h : Heap) : Option J :=
 (aLen false a0).bind fun v1 =>
 (aLen false a1).bind fun v2 =>
 (aBin .neq .plain v1 v2).bind fun v3 =>
 condV v3
 (some (0, [(.bool false)], h))
 ((aLen false a0).bind fun v4 =>
 (loop (L18_0 call) [a0, a1, v4, (.int .i64 0)] h).bind fun x14 =>
 bif Nat.beq x14.1 1 then some (0, [(.bool true)], x14.2.2) else
 bif Nat.beq x14.1 2 then some (0, [(x14.2.1.getD 0 .undef)], x14.2.2) else
 none)
theorem run18 (call : Go.Fw.Call) (a0 a1 : AVal) (h : Heap) : runFn call (.code A18) [a0, a1] h = (S18 call a0 a1 h).bind ansOf := by kernel_rfl

/-- frankpledge/frankpledgeref9.Seen -/
noncomputable def A19 : AFunc := ⟨1, (.seq (.region [.op 0 (.mov 2 (.const (.nilSlice)))] [])
 (.seq (.region [.op 0 (.mov 3 (.const (.nilSlice)))] [])
 (.seq (.seq (.region [.op 0 (.mov 6 (.tmp 0)),
 .op 1 (.call 7 20 [.tmp 6]),
 .op 2 (.len 8 false (.tmp 7)),
 .op 3 (.mov 9 (.const (.int .i64 0)))] [])
 (.block 0 (.loop ⟨[3, 7, 8, 9], []⟩ [((.exit 0), ⟨[3], []⟩)]
 (.seq (.region [.op 0 (.bin 10 .lss .plain (.tmp 9) (.tmp 8))] [])
 (.seq (.cond (.tmp 10)
 .skip
 (.exit 0))
 (.seq (.block 1 (.seq (.region [.op 0 (.iaddr 11 none 9 (.tmp 7) (.tmp 9)),
 .op 1 (.load 12 true 9 (.tmp 11)),
 .op 2 (.alloc 5 true [.str [], .str [], .int .i64 0, .int .i64 0, .int .i64 0, .int .i64 0, .int .i64 0, .int .i64 0, .bool false]),
 .op 3 (.store true 9 (.tmp 5) (.tmp 12))] [])
 (.seq (.region [.op 0 (.faddr 13 8 (.tmp 5)),
 .op 1 (.load 14 false 1 (.tmp 13)),
 .op 2 (.un 15 .not (.tmp 14))] [])
 (.join [(.normal, ⟨[3, 7, 8, 9], []⟩)] (.cond (.tmp 15)
 (.region [.op 0 (.mov 16 (.tmp 3)),
 .op 1 (.load 17 true 9 (.tmp 5)),
 .op 2 (.buildSl 18 [.str [], .str [], .int .i64 0, .int .i64 0, .int .i64 0, .int .i64 0, .int .i64 0, .int .i64 0, .bool false] 9 1 [(0, .tmp 17)]),
 .op 3 (.append 19 9 88 [.str [], .str [], .int .i64 0, .int .i64 0, .int .i64 0, .int .i64 0, .int .i64 0, .int .i64 0, .bool false] false (.tmp 16) (.tmp 18)),
 .op 4 (.mov 3 (.tmp 19))] [])
 .skip)))))
 (.region [.op 0 (.bin 20 .add .plain (.tmp 9) (.const (.int .i64 1))),
 .op 1 (.mov 9 (.tmp 20))] [])))))))
 (.seq (.region [.op 0 (.mov 21 (.tmp 3)),
 .op 1 (.mov 2 (.tmp 21))] [])
 .ret)))),
 [.tmp 2]⟩
theorem ok19 : funcOk Try.prog (drawOk Try.prog) Try.f19 A19 = true := by kernel_rfl
/-- xs: t3, t7, t8, t9 -/
noncomputable def L19_0 (call : Go.Fw.Call) (xs : List AVal) (h : Heap) : Option J :=
 (aBin .lss .plain (xs.getD 3 .undef) (xs.getD 2 .undef)).bind fun v3 =>
 condV v3
 ((aIaddr 9 (xs.getD 1 .undef) (xs.getD 3 .undef)).bind fun v4 =>
 (aLoad h 9 v4).bind fun c5 =>
 (fromCells true c5).bind fun v6 =>
 (aCells 9 v6).bind fun c7 =>
 bif Nat.ble ((0) + 9) (List.length (α := AVal) [.str [], .str [], .int .i64 0, .int .i64 0, .int .i64 0, .int .i64 0, .int .i64 0, .int .i64 0, .bool false]) then (rdL (splice [.str [], .str [], .int .i64 0, .int .i64 0, .int .i64 0, .int .i64 0, .int .i64 0, .int .i64 0, .bool false] (0) c7) 8 1).bind fun c8 =>
 (fromCells false c8).bind fun v9 =>
 (aUn .not v9).bind fun v10 =>
 (condV v10
 ((rdL (splice [.str [], .str [], .int .i64 0, .int .i64 0, .int .i64 0, .int .i64 0, .int .i64 0, .int .i64 0, .bool false] (0) c7) 0 9).bind fun c11 =>
 (fromCells true c11).bind fun v12 =>
 (aFill (reps [.str [], .str [], .int .i64 0, .int .i64 0, .int .i64 0, .int .i64 0, .int .i64 0, .int .i64 0, .bool false] 1) [(0, 9, v12)]).bind fun c13 =>
 (aAppend 9 88 [.str [], .str [], .int .i64 0, .int .i64 0, .int .i64 0, .int .i64 0, .int .i64 0, .int .i64 0, .bool false] false (xs.getD 0 .undef) (.slice h.next 0 1 1 9 true) (h.alloc c13)).bind fun r14 =>
 some (0, [r14.1, (xs.getD 1 .undef), (xs.getD 2 .undef), (xs.getD 3 .undef)], r14.2))
 (some (0, [(xs.getD 0 .undef), (xs.getD 1 .undef), (xs.getD 2 .undef), (xs.getD 3 .undef)], h))).bind fun x15 =>
 bif Nat.beq x15.1 0 then (aBin .add .plain (x15.2.1.getD 3 .undef) (.int .i64 1)).bind fun v16 =>
 some (0, [(x15.2.1.getD 0 .undef), (x15.2.1.getD 1 .undef), (x15.2.1.getD 2 .undef), v16], x15.2.2) else
 none else none)
 (some (1, [(xs.getD 0 .undef)], h))
noncomputable def S19 (call : Go.Fw.Call) (a0 : AVal) (h : Heap) : Option J :=
 (call 20 [a0] h).bind fun r1 =>
 (aLen false r1.1).bind fun v2 =>
 (loop (L19_0 call) [(.nilSlice), r1.1, v2, (.int .i64 0)] r1.2).bind fun x17 =>
 bif Nat.beq x17.1 1 then some (0, [(x17.2.1.getD 0 .undef)], x17.2.2) else
 none
theorem run19 (call : Go.Fw.Call) (a0 : AVal) (h : Heap) : runFn call (.code A19) [a0] h = (S19 call a0 h).bind ansOf := by kernel_rfl

/-- frankpledge/frankpledgeref5.Sort -/
noncomputable def A20 : AFunc := ⟨1, (.seq (.region [.op 0 (.mov 2 (.const (.nilSlice)))] [])
 (.seq (.region [.op 0 (.mov 3 (.const (.nilSlice)))] [])
 (.seq (.seq (.region [.op 0 (.mov 7 (.tmp 0)),
 .op 1 (.len 8 false (.tmp 7)),
 .op 2 (.mov 9 (.const (.int .i64 0)))] [])
 (.block 0 (.loop ⟨[3, 7, 8, 9], []⟩ [((.exit 0), ⟨[3], []⟩)]
 (.seq (.region [.op 0 (.bin 10 .lss .plain (.tmp 9) (.tmp 8))] [])
 (.seq (.cond (.tmp 10)
 .skip
 (.exit 0))
 (.seq (.block 1 (.seq (.region [.op 0 (.iaddr 11 none 9 (.tmp 7) (.tmp 9)),
 .op 1 (.load 12 true 9 (.tmp 11)),
 .op 2 (.alloc 5 true [.str [], .str [], .int .i64 0, .int .i64 0, .int .i64 0, .int .i64 0, .int .i64 0, .int .i64 0, .bool false]),
 .op 3 (.store true 9 (.tmp 5) (.tmp 12))] [])
 (.seq (.region [.op 0 (.mov 13 (.tmp 3)),
 .op 1 (.len 14 false (.tmp 13)),
 .op 2 (.mov 6 (.tmp 14))] [])
 (.seq (.block 2 (.loop ⟨[3, 6, 7, 8, 9], [5]⟩ [((.exit 2), ⟨[3, 6, 7, 8, 9], [5]⟩)]
 (.seq (.seq (.region [.op 0 (.mov 15 (.tmp 6)),
 .op 1 (.bin 16 .gtr .plain (.tmp 15) (.const (.int .i64 0))),
 .op 2 (.mov 17 (.tmp 16)),
 .guard 17 true [.op 3 (.faddr 18 0 (.tmp 5)),
 .op 4 (.load 19 true 2 (.tmp 18)),
 .op 5 (.mov 20 (.tmp 3)),
 .op 6 (.mov 21 (.tmp 6)),
 .op 7 (.bin 22 .sub .plain (.tmp 21) (.const (.int .i64 1))),
 .op 8 (.iaddr 23 none 9 (.tmp 20) (.tmp 22)),
 .op 9 (.faddr 24 0 (.tmp 23)),
 .op 10 (.load 25 true 2 (.tmp 24)),
 .op 11 (.call 26 29 [.tmp 19, .tmp 25])] [] [26],
 .op 12 (.pick 27 (.tmp 17) (.tmp 26) (.const (.bool false)))] [])
 (.cond (.tmp 27)
 .skip
 (.exit 2)))
 (.block 3 (.region [.op 0 (.mov 28 (.tmp 6)),
 .op 1 (.bin 29 .sub .plain (.tmp 28) (.const (.int .i64 1))),
 .op 2 (.mov 6 (.tmp 29))] [])))))
 (.regionF 2 [.op 0 (.fl 30 0 (some (9, 0)) [.str [], .str [], .int .i64 0, .int .i64 0, .int .i64 0, .int .i64 0, .int .i64 0, .int .i64 0, .bool false] []),
 .op 1 (.mov 31 (.tmp 3)),
 .op 2 (.mov 32 (.tmp 6)),
 .op 3 (.slice 33 (.sl 9) (.tmp 31) none (some (.tmp 32)) none),
 .op 4 (.append 34 9 88 [.str [], .str [], .int .i64 0, .int .i64 0, .int .i64 0, .int .i64 0, .int .i64 0, .int .i64 0, .bool false] false (.tmp 30) (.tmp 33)),
 .op 5 (.load 35 true 9 (.tmp 5)),
 .op 6 (.fl 36 1 (some (9, 1)) [.str [], .str [], .int .i64 0, .int .i64 0, .int .i64 0, .int .i64 0, .int .i64 0, .int .i64 0, .bool false] [(0, .tmp 35)]),
 .op 7 (.append 37 9 88 [.str [], .str [], .int .i64 0, .int .i64 0, .int .i64 0, .int .i64 0, .int .i64 0, .int .i64 0, .bool false] false (.tmp 34) (.tmp 36)),
 .op 8 (.mov 38 (.tmp 3)),
 .op 9 (.mov 39 (.tmp 6)),
 .op 10 (.slice 40 (.sl 9) (.tmp 38) (some (.tmp 39)) none none),
 .op 11 (.append 41 9 88 [.str [], .str [], .int .i64 0, .int .i64 0, .int .i64 0, .int .i64 0, .int .i64 0, .int .i64 0, .bool false] false (.tmp 37) (.tmp 40)),
 .op 12 (.mov 3 (.tmp 41))] [(5, 4)])))))
 (.region [.op 0 (.bin 42 .add .plain (.tmp 9) (.const (.int .i64 1))),
 .op 1 (.mov 9 (.tmp 42))] [])))))))
 (.seq (.region [.op 0 (.mov 43 (.tmp 3)),
 .op 1 (.mov 2 (.tmp 43))] [])
 .ret)))),
 [.tmp 2]⟩
theorem ok20 : funcOk Try.prog (drawOk Try.prog) Try.f20 A20 = true := by kernel_rfl
/-- xs: t3, t6, t7, t8, t9, cells of 5 -/
noncomputable def L20_1 (call : Go.Fw.Call) (xs : List AVal) (h : Heap) : Option J :=
 (aBin .gtr .plain (xs.getD 1 .undef) (.int .i64 0)).bind fun v8 =>
 (guardV v8 true
 ((rdL (AVal.aggCells (xs.getD 5 .undef)) 0 2).bind fun c9 =>
 (fromCells true c9).bind fun v10 =>
 (aBin .sub .plain (xs.getD 1 .undef) (.int .i64 1)).bind fun v11 =>
 (aIaddr 9 (xs.getD 0 .undef) v11).bind fun v12 =>
 (aFaddr 0 v12).bind fun v13 =>
 (aLoad h 2 v13).bind fun c14 =>
 (fromCells true c14).bind fun v15 =>
 (call 29 [v10, v15] h).bind fun r16 =>
 some (0, [r16.1], r16.2))
 (some (0, [skipV], h))).bind fun g17 =>
 (aPick v8 (g17.2.1.getD 0 .undef) (.bool false)).bind fun v18 =>
 condV v18
 ((aBin .sub .plain (xs.getD 1 .undef) (.int .i64 1)).bind fun v19 =>
 some (0, [(xs.getD 0 .undef), v19, (xs.getD 2 .undef), (xs.getD 3 .undef), (xs.getD 4 .undef), (.agg (AVal.aggCells (xs.getD 5 .undef)))], g17.2.2))
 (some (1, [(xs.getD 0 .undef), (xs.getD 1 .undef), (xs.getD 2 .undef), (xs.getD 3 .undef), (xs.getD 4 .undef), (.agg (AVal.aggCells (xs.getD 5 .undef)))], g17.2.2))
/-- xs: t3, t7, t8, t9 -/
noncomputable def L20_0 (call : Go.Fw.Call) (xs : List AVal) (h : Heap) : Option J :=
 (aBin .lss .plain (xs.getD 3 .undef) (xs.getD 2 .undef)).bind fun v2 =>
 condV v2
 ((aIaddr 9 (xs.getD 1 .undef) (xs.getD 3 .undef)).bind fun v3 =>
 (aLoad h 9 v3).bind fun c4 =>
 (fromCells true c4).bind fun v5 =>
 (aCells 9 v5).bind fun c6 =>
 bif Nat.ble ((0) + 9) (List.length (α := AVal) [.str [], .str [], .int .i64 0, .int .i64 0, .int .i64 0, .int .i64 0, .int .i64 0, .int .i64 0, .bool false]) then (aLen false (xs.getD 0 .undef)).bind fun v7 =>
 (loop (L20_1 call) [(xs.getD 0 .undef), v7, (xs.getD 1 .undef), (xs.getD 2 .undef), (xs.getD 3 .undef), (.agg (splice [.str [], .str [], .int .i64 0, .int .i64 0, .int .i64 0, .int .i64 0, .int .i64 0, .int .i64 0, .bool false] (0) c6))] h).bind fun x20 =>
 bif Nat.beq x20.1 1 then (aFill (reps [.str [], .str [], .int .i64 0, .int .i64 0, .int .i64 0, .int .i64 0, .int .i64 0, .int .i64 0, .bool false] 0) []).bind fun c21 =>
 (aSliceSl 9 (x20.2.1.getD 0 .undef) none (some (x20.2.1.getD 1 .undef)) none).bind fun v22 =>
 (aAppend 9 88 [.str [], .str [], .int .i64 0, .int .i64 0, .int .i64 0, .int .i64 0, .int .i64 0, .int .i64 0, .bool false] false (.slice (x20.2.2.next + 0) 0 0 0 9 true) v22 ((x20.2.2.res 2).setBlk (x20.2.2.next + 0) (some ⟨c21, true⟩))).bind fun r23 =>
 (rdL (AVal.aggCells (x20.2.1.getD 5 .undef)) 0 9).bind fun c24 =>
 (fromCells true c24).bind fun v25 =>
 (aFill (reps [.str [], .str [], .int .i64 0, .int .i64 0, .int .i64 0, .int .i64 0, .int .i64 0, .int .i64 0, .bool false] 1) [(0, 9, v25)]).bind fun c26 =>
 (aAppend 9 88 [.str [], .str [], .int .i64 0, .int .i64 0, .int .i64 0, .int .i64 0, .int .i64 0, .int .i64 0, .bool false] false r23.1 (.slice (x20.2.2.next + 1) 0 1 1 9 true) (r23.2.setBlk (x20.2.2.next + 1) (some ⟨c26, true⟩))).bind fun r27 =>
 (aSliceSl 9 (x20.2.1.getD 0 .undef) (some (x20.2.1.getD 1 .undef)) none none).bind fun v28 =>
 (aAppend 9 88 [.str [], .str [], .int .i64 0, .int .i64 0, .int .i64 0, .int .i64 0, .int .i64 0, .int .i64 0, .bool false] false r27.1 v28 r27.2).bind fun r29 =>
 bif checkPairs [(5, some (.lrd 5 (0) 9)), (4, some (.ef [(5, (AVal.aggCells (x20.2.1.getD 5 .undef)))] ((x20.2.2.res 2).setBlk (x20.2.2.next + 0) (some ⟨c21, true⟩)) [(5, (AVal.aggCells (x20.2.1.getD 5 .undef)))] r23.2))] [(5, 4)] then (aBin .add .plain (x20.2.1.getD 4 .undef) (.int .i64 1)).bind fun v30 =>
 some (0, [r29.1, (x20.2.1.getD 2 .undef), (x20.2.1.getD 3 .undef), v30], r29.2) else none else
 none else none)
 (some (1, [(xs.getD 0 .undef)], h))
noncomputable def S20 (call : Go.Fw.Call) (a0 : AVal) (h : Heap) : Option J :=
 (aLen false a0).bind fun v1 =>
 (loop (L20_0 call) [(.nilSlice), a0, v1, (.int .i64 0)] h).bind fun x31 =>
 bif Nat.beq x31.1 1 then some (0, [(x31.2.1.getD 0 .undef)], x31.2.2) else
 none
theorem run20 (call : Go.Fw.Call) (a0 : AVal) (h : Heap) : runFn call (.code A20) [a0] h = (S20 call a0 h).bind ansOf := by kernel_rfl

/-- frankpledge/card.Sort -/
noncomputable def A21 : AFunc := ⟨1, (.seq (.region [.op 0 (.mov 2 (.const (.nilSlice)))] [])
 (.seq (.region [.op 0 (.mov 4 (.tmp 0)),
 .op 1 (.call 5 30 [.tmp 4]),
 .op 2 (.mov 3 (.tmp 5))] [])
 (.seq (.region [.op 0 (.mov 6 (.tmp 3)),
 .op 1 (.call 7 31 [.tmp 6, .const (.func 32 [])])] [])
 (.seq (.region [.op 0 (.mov 8 (.tmp 3)),
 .op 1 (.call 9 34 [.tmp 8]),
 .op 2 (.mov 2 (.tmp 9))] [])
 .ret)))),
 [.tmp 2]⟩
theorem ok21 : funcOk Try.prog (drawOk Try.prog) Try.f21 A21 = true := by kernel_rfl
noncomputable def S21 (call : Go.Fw.Call) (a0 : AVal) (h : Heap) : Option J :=
 (call 30 [a0] h).bind fun r1 =>
 (call 31 [r1.1, (.func 32 [])] r1.2).bind fun r2 =>
 (call 34 [r1.1] r2.2).bind fun r3 =>
 some (0, [r3.1], r3.2)
theorem run21 (call : Go.Fw.Call) (a0 : AVal) (h : Heap) : runFn call (.code A21) [a0] h = (S21 call a0 h).bind ansOf := by kernel_rfl

/-- frankpledge/card.Shows -/
noncomputable def A22 : AFunc := ⟨1, (.seq (.region [.op 0 (.box 1 true (.tmp 0)),
 .op 1 (.mov 2 (.const (.int .i64 0)))] [])
 (.seq (.block 0 (.seq (.region [.op 0 (.faddr 4 8 (.tmp 1)),
 .op 1 (.load 5 false 1 (.tmp 4)),
 .op 2 (.mov 3 (.tmp 5))] [])
 (.cond (.tmp 3)
 (.seq (.region [.op 0 (.mov 2 (.const (.int .i64 0)))] [])
 .ret)
 (.seq (.region [.op 0 (.faddr 7 3 (.tmp 1)),
 .op 1 (.load 8 false 1 (.tmp 7)),
 .op 2 (.bin 9 .neq .plain (.tmp 8) (.const (.int .i64 0))),
 .op 3 (.mov 6 (.tmp 9))] [])
 (.cond (.tmp 6)
 (.seq (.region [.op 0 (.faddr 10 3 (.tmp 1)),
 .op 1 (.load 11 false 1 (.tmp 10)),
 .op 2 (.mov 2 (.tmp 11))] [])
 .ret)
 .skip)))))
 (.seq (.region [.op 0 (.faddr 12 2 (.tmp 1)),
 .op 1 (.load 13 false 1 (.tmp 12)),
 .op 2 (.mov 2 (.tmp 13))] [])
 .ret))),
 [.tmp 2]⟩
theorem ok22 : funcOk Try.prog (drawOk Try.prog) Try.f22 A22 = true := by kernel_rfl
noncomputable def S22 (call : Go.Fw.Call) (a0 : AVal) (h : Heap) : Option J :=
 (AVal.cells? a0).bind fun c1 =>
 (rdL c1 8 1).bind fun c2 =>
 (fromCells false c2).bind fun v3 =>
 condV v3
 (some (0, [(.int .i64 0)], h))
 ((rdL c1 3 1).bind fun c4 =>
 (fromCells false c4).bind fun v5 =>
 (aBin .neq .plain v5 (.int .i64 0)).bind fun v6 =>
 condV v6
 ((rdL c1 3 1).bind fun c7 =>
 (fromCells false c7).bind fun v8 =>
 some (0, [v8], h))
 ((rdL c1 2 1).bind fun c9 =>
 (fromCells false c9).bind fun v10 =>
 some (0, [v10], h)))
theorem run22 (call : Go.Fw.Call) (a0 : AVal) (h : Heap) : runFn call (.code A22) [a0] h = (S22 call a0 h).bind ansOf := by kernel_rfl

/-- slices.Sort[[]string,string] -/
noncomputable def A23 : AFunc := ⟨1, (.seq (.region [.op 0 (.mov 3 (.tmp 0)),
 .op 1 (.len 4 false (.tmp 3)),
 .op 2 (.mov 2 (.tmp 4))] [])
 (.region [.op 0 (.mov 5 (.tmp 0)),
 .op 1 (.mov 6 (.tmp 2)),
 .op 2 (.mov 7 (.tmp 2)),
 .op 3 (.conv 8 (.toInt .u64) (.tmp 7)),
 .op 4 (.call 9 36 [.tmp 8]),
 .op 5 (.call 10 35 [.tmp 5, .const (.int .i64 0), .tmp 6, .tmp 9])] [])),
 []⟩
theorem ok23 : funcOk Try.prog (drawOk Try.prog) Try.f23 A23 = true := by kernel_rfl
noncomputable def S23 (call : Go.Fw.Call) (a0 : AVal) (h : Heap) : Option J :=
 (aLen false a0).bind fun v1 =>
 (aConv (.toInt .u64) v1 h).bind fun r2 =>
 (call 36 [r2.1] r2.2).bind fun r3 =>
 (call 35 [a0, (.int .i64 0), v1, r3.1] r3.2).bind fun r4 =>
 some (0, [.tuple []], r4.2)
theorem run23 (call : Go.Fw.Call) (a0 : AVal) (h : Heap) : runFn call (.code A23) [a0] h = (S23 call a0 h).bind ansOf := by kernel_rfl

/-- slices.Clip[[]string,string] -/
noncomputable def A24 : AFunc := ⟨1, (.seq (.region [.op 0 (.mov 2 (.const (.nilSlice)))] [])
 (.seq (.region [.op 0 (.mov 3 (.tmp 0)),
 .op 1 (.mov 4 (.tmp 0)),
 .op 2 (.len 5 false (.tmp 4)),
 .op 3 (.mov 6 (.tmp 0)),
 .op 4 (.len 7 false (.tmp 6)),
 .op 5 (.slice 8 (.sl 1) (.tmp 3) none (some (.tmp 5)) (some (.tmp 7))),
 .op 6 (.mov 2 (.tmp 8))] [])
 .ret)),
 [.tmp 2]⟩
theorem ok24 : funcOk Try.prog (drawOk Try.prog) Try.f24 A24 = true := by kernel_rfl
noncomputable def S24 (call : Go.Fw.Call) (a0 : AVal) (h : Heap) : Option J :=
 (aLen false a0).bind fun v1 =>
 (aLen false a0).bind fun v2 =>
 (aSliceSl 1 a0 none (some v1) (some v2)).bind fun v3 =>
 some (0, [v3], h)
theorem run24 (call : Go.Fw.Call) (a0 : AVal) (h : Heap) : runFn call (.code A24) [a0] h = (S24 call a0 h).bind ansOf := by kernel_rfl

/-- slices.Compact[[]string,string] -/
noncomputable def A25 : AFunc := ⟨1, (.seq (.region [.op 0 (.mov 2 (.const (.nilSlice)))] [])
 (.seq (.seq (.region [.op 0 (.mov 6 (.tmp 0)),
 .op 1 (.len 7 false (.tmp 6)),
 .op 2 (.bin 8 .lss .plain (.tmp 7) (.const (.int .i64 2)))] [])
 (.cond (.tmp 8)
 (.seq (.region [.op 0 (.mov 9 (.tmp 0)),
 .op 1 (.mov 2 (.tmp 9))] [])
 .ret)
 .skip))
 (.seq (.seq (.region [.op 0 (.mov 3 (.const (.int .i64 1)))] [])
 (.block 0 (.loop ⟨[0, 3], []⟩ [((.exit 0), ⟨[0], []⟩), (.ret, ⟨[2], []⟩)]
 (.seq (.seq (.region [.op 0 (.mov 10 (.tmp 3)),
 .op 1 (.mov 11 (.tmp 0)),
 .op 2 (.len 12 false (.tmp 11)),
 .op 3 (.bin 13 .lss .plain (.tmp 10) (.tmp 12))] [])
 (.cond (.tmp 13)
 .skip
 (.exit 0)))
 (.seq (.block 1 (.seq (.region [.op 0 (.mov 16 (.tmp 0)),
 .op 1 (.mov 17 (.tmp 3)),
 .op 2 (.iaddr 18 none 1 (.tmp 16) (.tmp 17)),
 .op 3 (.load 19 false 1 (.tmp 18)),
 .op 4 (.mov 20 (.tmp 0)),
 .op 5 (.mov 21 (.tmp 3)),
 .op 6 (.bin 22 .sub .plain (.tmp 21) (.const (.int .i64 1))),
 .op 7 (.iaddr 23 none 1 (.tmp 20) (.tmp 22)),
 .op 8 (.load 24 false 1 (.tmp 23)),
 .op 9 (.bin 25 .eql .plain (.tmp 19) (.tmp 24))] [])
 (.cond (.tmp 25)
 (.seq (.region [.op 0 (.mov 26 (.tmp 0)),
 .op 1 (.mov 27 (.tmp 3)),
 .op 2 (.slice 28 (.sl 1) (.tmp 26) (some (.tmp 27)) none none),
 .op 3 (.mov 4 (.tmp 28))] [])
 (.seq (.seq (.region [.op 0 (.mov 5 (.const (.int .i64 1)))] [])
 (.block 2 (.loop ⟨[0, 3, 4, 5], []⟩ [((.exit 2), ⟨[0, 3], []⟩)]
 (.seq (.seq (.region [.op 0 (.mov 29 (.tmp 5)),
 .op 1 (.mov 30 (.tmp 4)),
 .op 2 (.len 31 false (.tmp 30)),
 .op 3 (.bin 32 .lss .plain (.tmp 29) (.tmp 31))] [])
 (.cond (.tmp 32)
 .skip
 (.exit 2)))
 (.seq (.block 3 (.seq (.region [.op 0 (.mov 35 (.tmp 4)),
 .op 1 (.mov 36 (.tmp 5)),
 .op 2 (.iaddr 37 none 1 (.tmp 35) (.tmp 36)),
 .op 3 (.load 38 false 1 (.tmp 37)),
 .op 4 (.mov 39 (.tmp 4)),
 .op 5 (.mov 40 (.tmp 5)),
 .op 6 (.bin 41 .sub .plain (.tmp 40) (.const (.int .i64 1))),
 .op 7 (.iaddr 42 none 1 (.tmp 39) (.tmp 41)),
 .op 8 (.load 43 false 1 (.tmp 42)),
 .op 9 (.bin 44 .neq .plain (.tmp 38) (.tmp 43))] [])
 (.join [(.normal, ⟨[0, 3, 4, 5], []⟩)] (.cond (.tmp 44)
 (.seq (.region [.op 0 (.mov 45 (.tmp 0)),
 .op 1 (.mov 46 (.tmp 3)),
 .op 2 (.mov 47 (.tmp 4)),
 .op 3 (.mov 48 (.tmp 5)),
 .op 4 (.iaddr 49 none 1 (.tmp 47) (.tmp 48)),
 .op 5 (.load 50 false 1 (.tmp 49)),
 .op 6 (.iaddr 51 none 1 (.tmp 45) (.tmp 46)),
 .op 7 (.store false 1 (.tmp 51) (.tmp 50))] [])
 (.region [.op 0 (.mov 52 (.tmp 3)),
 .op 1 (.bin 53 .add .plain (.tmp 52) (.const (.int .i64 1))),
 .op 2 (.mov 3 (.tmp 53))] []))
 .skip))))
 (.region [.op 0 (.mov 33 (.tmp 5)),
 .op 1 (.bin 34 .add .plain (.tmp 33) (.const (.int .i64 1))),
 .op 2 (.mov 5 (.tmp 34))] []))))))
 (.seq (.region [.op 0 (.mov 54 (.tmp 0)),
 .op 1 (.mov 55 (.tmp 3)),
 .op 2 (.slice 56 (.sl 1) (.tmp 54) (some (.tmp 55)) none none),
 .op 3 (.clear 0 [.str []] (.tmp 56))] [])
 (.seq (.region [.op 0 (.mov 57 (.tmp 0)),
 .op 1 (.mov 58 (.tmp 3)),
 .op 2 (.slice 59 (.sl 1) (.tmp 57) none (some (.tmp 58)) none),
 .op 3 (.mov 2 (.tmp 59))] [])
 .ret))))
 .skip)))
 (.region [.op 0 (.mov 14 (.tmp 3)),
 .op 1 (.bin 15 .add .plain (.tmp 14) (.const (.int .i64 1))),
 .op 2 (.mov 3 (.tmp 15))] []))))))
 (.seq (.region [.op 0 (.mov 60 (.tmp 0)),
 .op 1 (.mov 2 (.tmp 60))] [])
 .ret)))),
 [.tmp 2]⟩
theorem ok25 : funcOk Try.prog (drawOk Try.prog) Try.f25 A25 = true := by kernel_rfl
/-- xs: t0, t3, t4, t5 -/
noncomputable def L25_1 (call : Go.Fw.Call) (xs : List AVal) (h : Heap) : Option J :=
 (aLen false (xs.getD 2 .undef)).bind fun v14 =>
 (aBin .lss .plain (xs.getD 3 .undef) v14).bind fun v15 =>
 condV v15
 ((aIaddr 1 (xs.getD 2 .undef) (xs.getD 3 .undef)).bind fun v16 =>
 (aLoad h 1 v16).bind fun c17 =>
 (fromCells false c17).bind fun v18 =>
 (aBin .sub .plain (xs.getD 3 .undef) (.int .i64 1)).bind fun v19 =>
 (aIaddr 1 (xs.getD 2 .undef) v19).bind fun v20 =>
 (aLoad h 1 v20).bind fun c21 =>
 (fromCells false c21).bind fun v22 =>
 (aBin .neq .plain v18 v22).bind fun v23 =>
 (condV v23
 ((aIaddr 1 (xs.getD 2 .undef) (xs.getD 3 .undef)).bind fun v24 =>
 (aLoad h 1 v24).bind fun c25 =>
 (fromCells false c25).bind fun v26 =>
 (aIaddr 1 (xs.getD 0 .undef) (xs.getD 1 .undef)).bind fun v27 =>
 (aCells 1 v26).bind fun c28 =>
 (aStore h v27 c28).bind fun h29 =>
 (aBin .add .plain (xs.getD 1 .undef) (.int .i64 1)).bind fun v30 =>
 some (0, [(xs.getD 0 .undef), v30, (xs.getD 2 .undef), (xs.getD 3 .undef)], h29))
 (some (0, [(xs.getD 0 .undef), (xs.getD 1 .undef), (xs.getD 2 .undef), (xs.getD 3 .undef)], h))).bind fun x31 =>
 bif Nat.beq x31.1 0 then (aBin .add .plain (x31.2.1.getD 3 .undef) (.int .i64 1)).bind fun v32 =>
 some (0, [(x31.2.1.getD 0 .undef), (x31.2.1.getD 1 .undef), (x31.2.1.getD 2 .undef), v32], x31.2.2) else
 none)
 (some (1, [(xs.getD 0 .undef), (xs.getD 1 .undef)], h))
/-- xs: t0, t3 -/
noncomputable def L25_0 (call : Go.Fw.Call) (xs : List AVal) (h : Heap) : Option J :=
 (aLen false (xs.getD 0 .undef)).bind fun v3 =>
 (aBin .lss .plain (xs.getD 1 .undef) v3).bind fun v4 =>
 condV v4
 ((aIaddr 1 (xs.getD 0 .undef) (xs.getD 1 .undef)).bind fun v5 =>
 (aLoad h 1 v5).bind fun c6 =>
 (fromCells false c6).bind fun v7 =>
 (aBin .sub .plain (xs.getD 1 .undef) (.int .i64 1)).bind fun v8 =>
 (aIaddr 1 (xs.getD 0 .undef) v8).bind fun v9 =>
 (aLoad h 1 v9).bind fun c10 =>
 (fromCells false c10).bind fun v11 =>
 (aBin .eql .plain v7 v11).bind fun v12 =>
 condV v12
 ((aSliceSl 1 (xs.getD 0 .undef) (some (xs.getD 1 .undef)) none none).bind fun v13 =>
 (loop (L25_1 call) [(xs.getD 0 .undef), (xs.getD 1 .undef), v13, (.int .i64 1)] h).bind fun x33 =>
 bif Nat.beq x33.1 1 then (aSliceSl 1 (x33.2.1.getD 0 .undef) (some (x33.2.1.getD 1 .undef)) none none).bind fun v34 =>
 (aClear [.str []] v34 x33.2.2).bind fun r35 =>
 (aSliceSl 1 (x33.2.1.getD 0 .undef) none (some (x33.2.1.getD 1 .undef)) none).bind fun v36 =>
 some (2, [v36], r35.2) else
 none)
 ((aBin .add .plain (xs.getD 1 .undef) (.int .i64 1)).bind fun v37 =>
 some (0, [(xs.getD 0 .undef), v37], h)))
 (some (1, [(xs.getD 0 .undef)], h))
noncomputable def S25 (call : Go.Fw.Call) (a0 : AVal) (h : Heap) : Option J :=
 (aLen false a0).bind fun v1 =>
 (aBin .lss .plain v1 (.int .i64 2)).bind fun v2 =>
 condV v2
 (some (0, [a0], h))
 ((loop (L25_0 call) [a0, (.int .i64 1)] h).bind fun x38 =>
 bif Nat.beq x38.1 1 then some (0, [(x38.2.1.getD 0 .undef)], x38.2.2) else
 bif Nat.beq x38.1 2 then some (0, [(x38.2.1.getD 0 .undef)], x38.2.2) else
 none)
theorem run25 (call : Go.Fw.Call) (a0 : AVal) (h : Heap) : runFn call (.code A25) [a0] h = (S25 call a0 h).bind ansOf := by kernel_rfl

/-- frankpledge/frankpledgebook.Within -/
noncomputable def A26 : AFunc := ⟨3, (.seq (.region [.op 0 (.mov 6 (.const (.int .i64 0)))] [])
 (.seq (.seq (.region [.op 0 (.mov 7 (.tmp 0)),
 .op 1 (.mov 8 (.tmp 1)),
 .op 2 (.bin 9 .geq .plain (.tmp 7) (.tmp 8)),
 .op 3 (.mov 10 (.tmp 9)),
 .guard 10 true [.op 4 (.mov 11 (.tmp 0)),
 .op 5 (.mov 12 (.tmp 2)),
 .op 6 (.bin 13 .leq .plain (.tmp 11) (.tmp 12))] [] [13],
 .op 7 (.pick 14 (.tmp 10) (.tmp 13) (.const (.bool false)))] [])
 (.cond (.tmp 14)
 (.seq (.region [.op 0 (.mov 15 (.tmp 0)),
 .op 1 (.mov 6 (.tmp 15))] [])
 .ret)
 .skip))
 (.seq (.region [.op 0 (.mov 16 (.tmp 0)),
 .op 1 (.mov 17 (.tmp 2)),
 .op 2 (.mov 18 (.tmp 1)),
 .op 3 (.bin 19 .sub .plain (.tmp 17) (.tmp 18)),
 .op 4 (.bin 20 .add .plain (.tmp 19) (.const (.int .i64 1))),
 .op 5 (.bin 21 .rem .plain (.tmp 16) (.tmp 20)),
 .op 6 (.mov 0 (.tmp 21))] [])
 (.seq (.seq (.region [.op 0 (.mov 22 (.tmp 0)),
 .op 1 (.bin 23 .lss .plain (.tmp 22) (.const (.int .i64 0)))] [])
 (.join [(.normal, ⟨[0, 1], []⟩)] (.cond (.tmp 23)
 (.region [.op 0 (.mov 24 (.tmp 0)),
 .op 1 (.mov 25 (.tmp 2)),
 .op 2 (.bin 26 .add .plain (.tmp 24) (.tmp 25)),
 .op 3 (.mov 27 (.tmp 1)),
 .op 4 (.bin 28 .sub .plain (.tmp 26) (.tmp 27)),
 .op 5 (.bin 29 .add .plain (.tmp 28) (.const (.int .i64 1))),
 .op 6 (.mov 0 (.tmp 29))] [])
 .skip)))
 (.seq (.region [.op 0 (.mov 30 (.tmp 1)),
 .op 1 (.mov 31 (.tmp 0)),
 .op 2 (.bin 32 .add .plain (.tmp 30) (.tmp 31)),
 .op 3 (.mov 6 (.tmp 32))] [])
 .ret))))),
 [.tmp 6]⟩
theorem ok26 : funcOk Try.prog (drawOk Try.prog) Try.f26 A26 = true := by kernel_rfl
noncomputable def S26 (call : Go.Fw.Call) (a0 a1 a2 : AVal) (h : Heap) : Option J :=
 (aBin .geq .plain a0 a1).bind fun v1 =>
 (guardV v1 true
 ((aBin .leq .plain a0 a2).bind fun v2 =>
 some (0, [v2], h))
 (some (0, [skipV], h))).bind fun g3 =>
 (aPick v1 (g3.2.1.getD 0 .undef) (.bool false)).bind fun v4 =>
 condV v4
 (some (0, [a0], g3.2.2))
 ((aBin .sub .plain a2 a1).bind fun v5 =>
 (aBin .add .plain v5 (.int .i64 1)).bind fun v6 =>
 (aBin .rem .plain a0 v6).bind fun v7 =>
 (aBin .lss .plain v7 (.int .i64 0)).bind fun v8 =>
 (condV v8
 ((aBin .add .plain v7 a2).bind fun v9 =>
 (aBin .sub .plain v9 a1).bind fun v10 =>
 (aBin .add .plain v10 (.int .i64 1)).bind fun v11 =>
 some (0, [v11, a1], g3.2.2))
 (some (0, [v7, a1], g3.2.2))).bind fun x12 =>
 bif Nat.beq x12.1 0 then (aBin .add .plain (x12.2.1.getD 1 .undef) (x12.2.1.getD 0 .undef)).bind fun v13 =>
 some (0, [v13], x12.2.2) else
 none)
theorem run26 (call : Go.Fw.Call) (a0 a1 a2 : AVal) (h : Heap) : runFn call (.code A26) [a0, a1, a2] h = (S26 call a0 a1 a2 h).bind ansOf := by kernel_rfl

/-- (*frankpledge/frankpledgekeep.Tape).Key -/
noncomputable def A27 : AFunc := ⟨1, (.seq (.region [.op 0 (.alloc 2 true [.str [], .str []])] [])
 (.seq (.regionF 2 [.op 0 (.fl 3 0 (some (1, 4)) [.str []] [(0, .const (.str [97, 112, 112])), (1, .const (.str [98])), (2, .const (.str [97, 112, 112, 49])), (3, .const (.str [122, 57]))]),
 .op 1 (.mov 4 (.tmp 0)),
 .op 2 (.call 5 15 [.tmp 4, .const (.int .i64 4)]),
 .op 3 (.iaddr 6 none 1 (.tmp 3) (.tmp 5)),
 .op 4 (.load 7 false 1 (.tmp 6)),
 .op 5 (.fl 8 1 (some (1, 5)) [.str []] [(0, .const (.str [105, 100])), (1, .const (.str [97])), (2, .const (.str [105, 100, 50])), (3, .const (.str [120, 48])), (4, .const (.str [109]))]),
 .op 6 (.mov 9 (.tmp 0)),
 .op 7 (.call 10 15 [.tmp 9, .const (.int .i64 5)]),
 .op 8 (.iaddr 11 none 1 (.tmp 8) (.tmp 10)),
 .op 9 (.load 12 false 1 (.tmp 11)),
 .op 10 (.build 13 [.str [], .str []] [(0, 1, .tmp 7), (1, 1, .tmp 12)]),
 .op 11 (.store true 2 (.tmp 2) (.tmp 13))] [(4, 7)])
 .ret)),
 [.cell 2 true 2]⟩
theorem ok27 : funcOk Try.prog (drawOk Try.prog) Try.f27 A27 = true := by kernel_rfl
noncomputable def S27 (call : Go.Fw.Call) (a0 : AVal) (h : Heap) : Option J :=
 (aFill (reps [.str []] 4) [(0, 1, (.str [97, 112, 112])), (1, 1, (.str [98])), (2, 1, (.str [97, 112, 112, 49])), (3, 1, (.str [122, 57]))]).bind fun c1 =>
 (call 15 [a0, (.int .i64 4)] ((h.res 2).setBlk (h.next + 0) (some ⟨c1, true⟩))).bind fun r2 =>
 (aIaddr 1 (.slice (h.next + 0) 0 4 4 1 true) r2.1).bind fun v3 =>
 (aLoad r2.2 1 v3).bind fun c4 =>
 (fromCells false c4).bind fun v5 =>
 (aFill (reps [.str []] 5) [(0, 1, (.str [105, 100])), (1, 1, (.str [97])), (2, 1, (.str [105, 100, 50])), (3, 1, (.str [120, 48])), (4, 1, (.str [109]))]).bind fun c6 =>
 (call 15 [a0, (.int .i64 5)] (r2.2.setBlk (h.next + 1) (some ⟨c6, true⟩))).bind fun r7 =>
 (aIaddr 1 (.slice (h.next + 1) 0 5 5 1 true) r7.1).bind fun v8 =>
 (aLoad r7.2 1 v8).bind fun c9 =>
 (fromCells false c9).bind fun v10 =>
 (aFill [.str [], .str []] [(0, 1, v5), (1, 1, v10)]).bind fun c11 =>
 (aCells 2 (.agg c11)).bind fun c12 =>
 bif Nat.ble ((0) + 2) (List.length (α := AVal) [.str [], .str []]) then bif checkPairs [(7, some (.ef [(2, [.str [], .str []])] (r2.2.setBlk (h.next + 1) (some ⟨c6, true⟩)) [(2, [.str [], .str []])] r7.2)), (4, logRd v3 1)] [(4, 7)] then (((rdL (splice [.str [], .str []] (0) c12) (0) 2).bind fun cs => fromCells true cs).bind fun v => (some []).bind fun vs => some (v :: vs)).bind fun vs => some (0, [oneOr vs], r7.2) else none else none
theorem run27 (call : Go.Fw.Call) (a0 : AVal) (h : Heap) : runFn call (.code A27) [a0] h = (S27 call a0 h).bind ansOf := by kernel_rfl

/-- (*frankpledge/frankpledgekeep.Tape).Stamp -/
noncomputable def A28 : AFunc := ⟨1, (.seq (.region [.op 0 (.alloc 2 true [.int .i64 0, .int .i64 0, .int .i64 0])] [])
 (.seq (.region [.op 0 (.mov 3 (.tmp 0)),
 .op 1 (.call 4 15 [.tmp 3, .const (.int .i64 40)]),
 .op 2 (.mov 5 (.tmp 0)),
 .op 3 (.call 6 15 [.tmp 5, .const (.int .i64 6)]),
 .op 4 (.mov 7 (.tmp 0)),
 .op 5 (.call 8 15 [.tmp 7, .const (.int .i64 9)]),
 .op 6 (.build 9 [.int .i64 0, .int .i64 0, .int .i64 0] [(0, 1, .tmp 4), (1, 1, .tmp 6), (2, 1, .tmp 8)]),
 .op 7 (.store true 3 (.tmp 2) (.tmp 9))] [])
 .ret)),
 [.cell 2 true 3]⟩
theorem ok28 : funcOk Try.prog (drawOk Try.prog) Try.f28 A28 = true := by kernel_rfl
noncomputable def S28 (call : Go.Fw.Call) (a0 : AVal) (h : Heap) : Option J :=
 (call 15 [a0, (.int .i64 40)] h).bind fun r1 =>
 (call 15 [a0, (.int .i64 6)] r1.2).bind fun r2 =>
 (call 15 [a0, (.int .i64 9)] r2.2).bind fun r3 =>
 (aFill [.int .i64 0, .int .i64 0, .int .i64 0] [(0, 1, r1.1), (1, 1, r2.1), (2, 1, r3.1)]).bind fun c4 =>
 (aCells 3 (.agg c4)).bind fun c5 =>
 bif Nat.ble ((0) + 3) (List.length (α := AVal) [.int .i64 0, .int .i64 0, .int .i64 0]) then (((rdL (splice [.int .i64 0, .int .i64 0, .int .i64 0] (0) c5) (0) 3).bind fun cs => fromCells true cs).bind fun v => (some []).bind fun vs => some (v :: vs)).bind fun vs => some (0, [oneOr vs], r3.2) else none
theorem run28 (call : Go.Fw.Call) (a0 : AVal) (h : Heap) : runFn call (.code A28) [a0] h = (S28 call a0 h).bind ansOf := by kernel_rfl

/-- frankpledge/frankpledgeref5.Before -/
noncomputable def A29 : AFunc := ⟨2, (.seq (.region [.op 0 (.box 2 true (.tmp 0)),
 .op 1 (.box 3 true (.tmp 1)),
 .op 2 (.mov 4 (.const (.bool false)))] [])
 (.seq (.seq (.region [.op 0 (.faddr 5 0 (.tmp 2)),
 .op 1 (.load 6 false 1 (.tmp 5)),
 .op 2 (.faddr 7 0 (.tmp 3)),
 .op 3 (.load 8 false 1 (.tmp 7)),
 .op 4 (.bin 9 .neq .plain (.tmp 6) (.tmp 8))] [])
 (.cond (.tmp 9)
 (.seq (.region [.op 0 (.faddr 10 0 (.tmp 2)),
 .op 1 (.load 11 false 1 (.tmp 10)),
 .op 2 (.faddr 12 0 (.tmp 3)),
 .op 3 (.load 13 false 1 (.tmp 12)),
 .op 4 (.bin 14 .lss .plain (.tmp 11) (.tmp 13)),
 .op 5 (.mov 4 (.tmp 14))] [])
 .ret)
 .skip))
 (.seq (.region [.op 0 (.faddr 15 1 (.tmp 2)),
 .op 1 (.load 16 false 1 (.tmp 15)),
 .op 2 (.faddr 17 1 (.tmp 3)),
 .op 3 (.load 18 false 1 (.tmp 17)),
 .op 4 (.bin 19 .lss .plain (.tmp 16) (.tmp 18)),
 .op 5 (.mov 4 (.tmp 19))] [])
 .ret))),
 [.tmp 4]⟩
theorem ok29 : funcOk Try.prog (drawOk Try.prog) Try.f29 A29 = true := by kernel_rfl
noncomputable def S29 (call : Go.Fw.Call) (a0 a1 : AVal) (h : Heap) : Option J :=
 (AVal.cells? a0).bind fun c1 =>
 (AVal.cells? a1).bind fun c2 =>
 (rdL c1 0 1).bind fun c3 =>
 (fromCells false c3).bind fun v4 =>
 (rdL c2 0 1).bind fun c5 =>
 (fromCells false c5).bind fun v6 =>
 (aBin .neq .plain v4 v6).bind fun v7 =>
 condV v7
 ((rdL c1 0 1).bind fun c8 =>
 (fromCells false c8).bind fun v9 =>
 (rdL c2 0 1).bind fun c10 =>
 (fromCells false c10).bind fun v11 =>
 (aBin .lss .plain v9 v11).bind fun v12 =>
 some (0, [v12], h))
 ((rdL c1 1 1).bind fun c13 =>
 (fromCells false c13).bind fun v14 =>
 (rdL c2 1 1).bind fun c15 =>
 (fromCells false c15).bind fun v16 =>
 (aBin .lss .plain v14 v16).bind fun v17 =>
 some (0, [v17], h))
theorem run29 (call : Go.Fw.Call) (a0 a1 : AVal) (h : Heap) : runFn call (.code A29) [a0, a1] h = (S29 call a0 a1 h).bind ansOf := by kernel_rfl

/-- slices.Clone[[]frankpledge/api.Card,frankpledge/api.Card] -/
noncomputable def A30 : AFunc := ⟨1, (.seq (.region [.op 0 (.mov 2 (.const (.nilSlice)))] [])
 (.seq (.seq (.region [.op 0 (.mov 3 (.tmp 0)),
 .op 1 (.bin 4 .eql .slice (.tmp 3) (.const (.nilSlice)))] [])
 (.cond (.tmp 4)
 (.seq (.region [.op 0 (.mov 2 (.const (.nilSlice)))] [])
 .ret)
 .skip))
 (.seq (.region [.op 0 (.buildSl 5 [.str [], .str [], .int .i64 0, .int .i64 0, .int .i64 0, .int .i64 0, .int .i64 0, .int .i64 0, .bool false] 9 0 []),
 .op 1 (.mov 6 (.tmp 0)),
 .op 2 (.append 7 9 88 [.str [], .str [], .int .i64 0, .int .i64 0, .int .i64 0, .int .i64 0, .int .i64 0, .int .i64 0, .bool false] false (.tmp 5) (.tmp 6)),
 .op 3 (.mov 2 (.tmp 7))] [])
 .ret))),
 [.tmp 2]⟩
theorem ok30 : funcOk Try.prog (drawOk Try.prog) Try.f30 A30 = true := by kernel_rfl
noncomputable def S30 (call : Go.Fw.Call) (a0 : AVal) (h : Heap) : Option J :=
 (aBin .eql .slice a0 (.nilSlice)).bind fun v1 =>
 condV v1
 (some (0, [(.nilSlice)], h))
 ((aFill (reps [.str [], .str [], .int .i64 0, .int .i64 0, .int .i64 0, .int .i64 0, .int .i64 0, .int .i64 0, .bool false] 0) []).bind fun c2 =>
 (aAppend 9 88 [.str [], .str [], .int .i64 0, .int .i64 0, .int .i64 0, .int .i64 0, .int .i64 0, .int .i64 0, .bool false] false (.slice h.next 0 0 0 9 true) a0 (h.alloc c2)).bind fun r3 =>
 some (0, [r3.1], r3.2))
theorem run30 (call : Go.Fw.Call) (a0 : AVal) (h : Heap) : runFn call (.code A30) [a0] h = (S30 call a0 h).bind ansOf := by kernel_rfl

/-- slices.SortStableFunc[[]frankpledge/api.Card,frankpledge/api.Card] -/
noncomputable def A31 : AFunc := ⟨2, (.region [.op 0 (.mov 4 (.tmp 0)),
 .op 1 (.mov 5 (.tmp 0)),
 .op 2 (.len 6 false (.tmp 5)),
 .op 3 (.mov 7 (.tmp 1)),
 .op 4 (.call 8 37 [.tmp 4, .tmp 6, .tmp 7])] []),
 []⟩
theorem ok31 : funcOk Try.prog (drawOk Try.prog) Try.f31 A31 = true := by kernel_rfl
noncomputable def S31 (call : Go.Fw.Call) (a0 a1 : AVal) (h : Heap) : Option J :=
 (aLen false a0).bind fun v1 =>
 (call 37 [a0, v1, a1] h).bind fun r2 =>
 some (0, [.tuple []], r2.2)
theorem run31 (call : Go.Fw.Call) (a0 a1 : AVal) (h : Heap) : runFn call (.code A31) [a0, a1] h = (S31 call a0 a1 h).bind ansOf := by kernel_rfl

/-- frankpledge/card.Sort$1 -/
noncomputable def A32 : AFunc := ⟨2, (.seq (.region [.op 0 (.box 2 true (.tmp 0)),
 .op 1 (.box 3 true (.tmp 1)),
 .op 2 (.mov 4 (.const (.int .i64 0)))] [])
 (.seq (.region [.op 0 (.faddr 5 0 (.tmp 2)),
 .op 1 (.load 6 true 2 (.tmp 5)),
 .op 2 (.faddr 7 0 (.tmp 3)),
 .op 3 (.load 8 true 2 (.tmp 7)),
 .op 4 (.call 9 33 [.tmp 6, .tmp 8]),
 .op 5 (.mov 4 (.tmp 9))] [])
 .ret)),
 [.tmp 4]⟩
theorem ok32 : funcOk Try.prog (drawOk Try.prog) Try.f32 A32 = true := by kernel_rfl
noncomputable def S32 (call : Go.Fw.Call) (a0 a1 : AVal) (h : Heap) : Option J :=
 (AVal.cells? a0).bind fun c1 =>
 (AVal.cells? a1).bind fun c2 =>
 (rdL c1 0 2).bind fun c3 =>
 (fromCells true c3).bind fun v4 =>
 (rdL c2 0 2).bind fun c5 =>
 (fromCells true c5).bind fun v6 =>
 (call 33 [v4, v6] h).bind fun r7 =>
 some (0, [r7.1], r7.2)
theorem run32 (call : Go.Fw.Call) (a0 a1 : AVal) (h : Heap) : runFn call (.code A32) [a0, a1] h = (S32 call a0 a1 h).bind ansOf := by kernel_rfl

/-- frankpledge/card.compare -/
noncomputable def A33 : AFunc := ⟨2, (.seq (.region [.op 0 (.box 2 true (.tmp 0)),
 .op 1 (.box 3 true (.tmp 1)),
 .op 2 (.mov 4 (.const (.int .i64 0)))] [])
 (.seq (.region [.op 0 (.faddr 5 0 (.tmp 2)),
 .op 1 (.load 6 false 1 (.tmp 5)),
 .op 2 (.faddr 7 0 (.tmp 3)),
 .op 3 (.load 8 false 1 (.tmp 7)),
 .op 4 (.call 9 39 [.tmp 6, .tmp 8]),
 .op 5 (.faddr 10 1 (.tmp 2)),
 .op 6 (.load 11 false 1 (.tmp 10)),
 .op 7 (.faddr 12 1 (.tmp 3)),
 .op 8 (.load 13 false 1 (.tmp 12)),
 .op 9 (.call 14 39 [.tmp 11, .tmp 13]),
 .op 10 (.buildSl 15 [.int .i64 0] 1 2 [(0, .tmp 9), (1, .tmp 14)]),
 .op 11 (.call 16 38 [.tmp 15]),
 .op 12 (.mov 4 (.tmp 16))] [(6, 4), (8, 4)])
 .ret)),
 [.tmp 4]⟩
theorem ok33 : funcOk Try.prog (drawOk Try.prog) Try.f33 A33 = true := by kernel_rfl
noncomputable def S33 (call : Go.Fw.Call) (a0 a1 : AVal) (h : Heap) : Option J :=
 (AVal.cells? a0).bind fun c1 =>
 (AVal.cells? a1).bind fun c2 =>
 (rdL c1 0 1).bind fun c3 =>
 (fromCells false c3).bind fun v4 =>
 (rdL c2 0 1).bind fun c5 =>
 (fromCells false c5).bind fun v6 =>
 (call 39 [v4, v6] h).bind fun r7 =>
 (rdL c1 1 1).bind fun c8 =>
 (fromCells false c8).bind fun v9 =>
 (rdL c2 1 1).bind fun c10 =>
 (fromCells false c10).bind fun v11 =>
 (call 39 [v9, v11] r7.2).bind fun r12 =>
 (aFill (reps [.int .i64 0] 2) [(0, 1, r7.1), (1, 1, r12.1)]).bind fun c13 =>
 (call 38 [(.slice r12.2.next 0 2 2 1 true)] (r12.2.alloc c13)).bind fun r14 =>
 bif checkPairs [(8, some (.lrd 3 (1) 1)), (6, some (.lrd 2 (1) 1)), (4, some (.ef [(3, c2), (2, c1)] h [(3, c2), (2, c1)] r7.2))] [(6, 4), (8, 4)] then some (0, [r14.1], r14.2) else none
theorem run33 (call : Go.Fw.Call) (a0 a1 : AVal) (h : Heap) : runFn call (.code A33) [a0, a1] h = (S33 call a0 a1 h).bind ansOf := by kernel_rfl

/-- slices.Clip[[]frankpledge/api.Card,frankpledge/api.Card] -/
noncomputable def A34 : AFunc := ⟨1, (.seq (.region [.op 0 (.mov 2 (.const (.nilSlice)))] [])
 (.seq (.region [.op 0 (.mov 3 (.tmp 0)),
 .op 1 (.mov 4 (.tmp 0)),
 .op 2 (.len 5 false (.tmp 4)),
 .op 3 (.mov 6 (.tmp 0)),
 .op 4 (.len 7 false (.tmp 6)),
 .op 5 (.slice 8 (.sl 9) (.tmp 3) none (some (.tmp 5)) (some (.tmp 7))),
 .op 6 (.mov 2 (.tmp 8))] [])
 .ret)),
 [.tmp 2]⟩
theorem ok34 : funcOk Try.prog (drawOk Try.prog) Try.f34 A34 = true := by kernel_rfl
noncomputable def S34 (call : Go.Fw.Call) (a0 : AVal) (h : Heap) : Option J :=
 (aLen false a0).bind fun v1 =>
 (aLen false a0).bind fun v2 =>
 (aSliceSl 9 a0 none (some v1) (some v2)).bind fun v3 =>
 some (0, [v3], h)
theorem run34 (call : Go.Fw.Call) (a0 : AVal) (h : Heap) : runFn call (.code A34) [a0] h = (S34 call a0 h).bind ansOf := by kernel_rfl

/-- slices.pdqsortOrdered[string] -/
noncomputable def A35 : AFunc := ⟨4, (.seq (.region [.op 0 (.mov 8 (.const (.bool true)))] [])
 (.seq (.region [.op 0 (.mov 9 (.const (.bool true)))] [])
 (.block 0 (.loop ⟨[0, 1, 2, 3, 8, 9], []⟩ [(.ret, ⟨[], []⟩)]
 (.block 1 (.seq (.region [.op 0 (.mov 19 (.tmp 2)),
 .op 1 (.mov 20 (.tmp 1)),
 .op 2 (.bin 21 .sub .plain (.tmp 19) (.tmp 20)),
 .op 3 (.mov 10 (.tmp 21))] [])
 (.seq (.seq (.region [.op 0 (.mov 22 (.tmp 10)),
 .op 1 (.bin 23 .leq .plain (.tmp 22) (.const (.int .i64 12)))] [])
 (.cond (.tmp 23)
 (.seq (.region [.op 0 (.mov 24 (.tmp 0)),
 .op 1 (.mov 25 (.tmp 1)),
 .op 2 (.mov 26 (.tmp 2)),
 .op 3 (.call 27 40 [.tmp 24, .tmp 25, .tmp 26])] [])
 .ret)
 .skip))
 (.seq (.seq (.region [.op 0 (.mov 28 (.tmp 3)),
 .op 1 (.bin 29 .eql .plain (.tmp 28) (.const (.int .i64 0)))] [])
 (.cond (.tmp 29)
 (.seq (.region [.op 0 (.mov 30 (.tmp 0)),
 .op 1 (.mov 31 (.tmp 1)),
 .op 2 (.mov 32 (.tmp 2)),
 .op 3 (.call 33 41 [.tmp 30, .tmp 31, .tmp 32])] [])
 .ret)
 .skip))
 (.seq (.seq (.region [.op 0 (.mov 34 (.tmp 8)),
 .op 1 (.un 35 .not (.tmp 34))] [])
 (.join [(.normal, ⟨[0, 1, 2, 3, 8, 9, 10], []⟩)] (.cond (.tmp 35)
 (.seq (.region [.op 0 (.mov 36 (.tmp 0)),
 .op 1 (.mov 37 (.tmp 1)),
 .op 2 (.mov 38 (.tmp 2)),
 .op 3 (.call 39 42 [.tmp 36, .tmp 37, .tmp 38])] [])
 (.region [.op 0 (.mov 40 (.tmp 3)),
 .op 1 (.bin 41 .sub .plain (.tmp 40) (.const (.int .i64 1))),
 .op 2 (.mov 3 (.tmp 41))] []))
 .skip)))
 (.seq (.region [.op 0 (.mov 43 (.tmp 0)),
 .op 1 (.mov 44 (.tmp 1)),
 .op 2 (.mov 45 (.tmp 2)),
 .op 3 (.call 46 43 [.tmp 43, .tmp 44, .tmp 45]),
 .op 4 (.mov 42 (.tmp 46)),
 .op 5 (.extract 47 (.tmp 42) 0),
 .op 6 (.extract 48 (.tmp 42) 1),
 .op 7 (.mov 11 (.tmp 47)),
 .op 8 (.mov 12 (.tmp 48))] [])
 (.seq (.seq (.region [.op 0 (.mov 49 (.tmp 12)),
 .op 1 (.bin 50 .eql .plain (.tmp 49) (.const (.int .i64 2)))] [])
 (.join [(.normal, ⟨[0, 1, 2, 3, 8, 9, 10, 11, 12], []⟩)] (.cond (.tmp 50)
 (.seq (.region [.op 0 (.mov 51 (.tmp 0)),
 .op 1 (.mov 52 (.tmp 1)),
 .op 2 (.mov 53 (.tmp 2)),
 .op 3 (.call 54 44 [.tmp 51, .tmp 52, .tmp 53])] [])
 (.seq (.region [.op 0 (.mov 55 (.tmp 2)),
 .op 1 (.bin 56 .sub .plain (.tmp 55) (.const (.int .i64 1))),
 .op 2 (.mov 57 (.tmp 11)),
 .op 3 (.mov 58 (.tmp 1)),
 .op 4 (.bin 59 .sub .plain (.tmp 57) (.tmp 58)),
 .op 5 (.bin 60 .sub .plain (.tmp 56) (.tmp 59)),
 .op 6 (.mov 11 (.tmp 60))] [])
 (.region [.op 0 (.mov 12 (.const (.int .i64 1)))] [])))
 .skip)))
 (.seq (.seq (.region [.op 0 (.mov 61 (.tmp 8)),
 .op 1 (.mov 62 (.tmp 61)),
 .guard 62 true [.op 2 (.mov 63 (.tmp 9))] [] [63],
 .op 3 (.pick 64 (.tmp 62) (.tmp 63) (.const (.bool false))),
 .op 4 (.mov 65 (.tmp 64)),
 .guard 65 true [.op 5 (.mov 66 (.tmp 12)),
 .op 6 (.bin 67 .eql .plain (.tmp 66) (.const (.int .i64 1)))] [] [67],
 .op 7 (.pick 68 (.tmp 65) (.tmp 67) (.const (.bool false)))] [])
 (.join [(.ret, ⟨[], []⟩), (.normal, ⟨[0, 1, 2, 3, 8, 9, 10, 11], []⟩)] (.cond (.tmp 68)
 (.seq (.region [.op 0 (.mov 69 (.tmp 0)),
 .op 1 (.mov 70 (.tmp 1)),
 .op 2 (.mov 71 (.tmp 2)),
 .op 3 (.call 72 45 [.tmp 69, .tmp 70, .tmp 71])] [])
 (.cond (.tmp 72)
 .ret
 .skip))
 .skip)))
 (.seq (.seq (.region [.op 0 (.mov 73 (.tmp 1)),
 .op 1 (.bin 74 .gtr .plain (.tmp 73) (.const (.int .i64 0))),
 .op 2 (.mov 75 (.tmp 74)),
 .guard 75 true [.op 3 (.mov 76 (.tmp 0)),
 .op 4 (.mov 77 (.tmp 1)),
 .op 5 (.bin 78 .sub .plain (.tmp 77) (.const (.int .i64 1))),
 .op 6 (.iaddr 79 none 1 (.tmp 76) (.tmp 78)),
 .op 7 (.load 80 false 1 (.tmp 79)),
 .op 8 (.mov 81 (.tmp 0)),
 .op 9 (.mov 82 (.tmp 11)),
 .op 10 (.iaddr 83 none 1 (.tmp 81) (.tmp 82)),
 .op 11 (.load 84 false 1 (.tmp 83)),
 .op 12 (.call 85 46 [.tmp 80, .tmp 84]),
 .op 13 (.un 86 .not (.tmp 85))] [] [86],
 .op 14 (.pick 87 (.tmp 75) (.tmp 86) (.const (.bool false)))] [])
 (.cond (.tmp 87)
 (.seq (.region [.op 0 (.mov 88 (.tmp 0)),
 .op 1 (.mov 89 (.tmp 1)),
 .op 2 (.mov 90 (.tmp 2)),
 .op 3 (.mov 91 (.tmp 11)),
 .op 4 (.call 92 47 [.tmp 88, .tmp 89, .tmp 90, .tmp 91]),
 .op 5 (.mov 13 (.tmp 92))] [])
 (.seq (.region [.op 0 (.mov 93 (.tmp 13)),
 .op 1 (.mov 1 (.tmp 93))] [])
 (.exit 1)))
 .skip))
 (.seq (.region [.op 0 (.mov 95 (.tmp 0)),
 .op 1 (.mov 96 (.tmp 1)),
 .op 2 (.mov 97 (.tmp 2)),
 .op 3 (.mov 98 (.tmp 11)),
 .op 4 (.call 99 48 [.tmp 95, .tmp 96, .tmp 97, .tmp 98]),
 .op 5 (.mov 94 (.tmp 99)),
 .op 6 (.extract 100 (.tmp 94) 0),
 .op 7 (.extract 101 (.tmp 94) 1),
 .op 8 (.mov 14 (.tmp 100)),
 .op 9 (.mov 15 (.tmp 101))] [])
 (.seq (.region [.op 0 (.mov 102 (.tmp 15)),
 .op 1 (.mov 9 (.tmp 102))] [])
 (.seq (.region [.op 0 (.mov 103 (.tmp 14)),
 .op 1 (.mov 104 (.tmp 1)),
 .op 2 (.bin 105 .sub .plain (.tmp 103) (.tmp 104)),
 .op 3 (.mov 106 (.tmp 2)),
 .op 4 (.mov 107 (.tmp 14)),
 .op 5 (.bin 108 .sub .plain (.tmp 106) (.tmp 107)),
 .op 6 (.mov 16 (.tmp 105)),
 .op 7 (.mov 17 (.tmp 108))] [])
 (.seq (.region [.op 0 (.mov 109 (.tmp 10)),
 .op 1 (.bin 110 .quo .plain (.tmp 109) (.const (.int .i64 8))),
 .op 2 (.mov 18 (.tmp 110))] [])
 (.seq (.region [.op 0 (.mov 111 (.tmp 16)),
 .op 1 (.mov 112 (.tmp 17)),
 .op 2 (.bin 113 .lss .plain (.tmp 111) (.tmp 112))] [])
 (.cond (.tmp 113)
 (.seq (.region [.op 0 (.mov 114 (.tmp 16)),
 .op 1 (.mov 115 (.tmp 18)),
 .op 2 (.bin 116 .geq .plain (.tmp 114) (.tmp 115)),
 .op 3 (.mov 8 (.tmp 116))] [])
 (.seq (.region [.op 0 (.mov 117 (.tmp 0)),
 .op 1 (.mov 118 (.tmp 1)),
 .op 2 (.mov 119 (.tmp 14)),
 .op 3 (.mov 120 (.tmp 3)),
 .op 4 (.call 121 35 [.tmp 117, .tmp 118, .tmp 119, .tmp 120])] [])
 (.region [.op 0 (.mov 122 (.tmp 14)),
 .op 1 (.bin 123 .add .plain (.tmp 122) (.const (.int .i64 1))),
 .op 2 (.mov 1 (.tmp 123))] [])))
 (.seq (.region [.op 0 (.mov 124 (.tmp 17)),
 .op 1 (.mov 125 (.tmp 18)),
 .op 2 (.bin 126 .geq .plain (.tmp 124) (.tmp 125)),
 .op 3 (.mov 8 (.tmp 126))] [])
 (.seq (.region [.op 0 (.mov 127 (.tmp 0)),
 .op 1 (.mov 128 (.tmp 14)),
 .op 2 (.bin 129 .add .plain (.tmp 128) (.const (.int .i64 1))),
 .op 3 (.mov 130 (.tmp 2)),
 .op 4 (.mov 131 (.tmp 3)),
 .op 5 (.call 132 35 [.tmp 127, .tmp 129, .tmp 130, .tmp 131])] [])
 (.region [.op 0 (.mov 133 (.tmp 14)),
 .op 1 (.mov 2 (.tmp 133))] [])))))))))))))))))))))),
 []⟩
theorem ok35 : funcOk Try.prog (drawOk Try.prog) Try.f35 A35 = true := by kernel_rfl
/-- xs: t0, t1, t2, t3, t8, t9 -/
noncomputable def L35_0 (call : Go.Fw.Call) (xs : List AVal) (h : Heap) : Option J :=
 (aBin .sub .plain (xs.getD 2 .undef) (xs.getD 1 .undef)).bind fun v1 =>
 (aBin .leq .plain v1 (.int .i64 12)).bind fun v2 =>
 condV v2
 ((call 40 [(xs.getD 0 .undef), (xs.getD 1 .undef), (xs.getD 2 .undef)] h).bind fun r3 =>
 some (1, [], r3.2))
 ((aBin .eql .plain (xs.getD 3 .undef) (.int .i64 0)).bind fun v4 =>
 condV v4
 ((call 41 [(xs.getD 0 .undef), (xs.getD 1 .undef), (xs.getD 2 .undef)] h).bind fun r5 =>
 some (1, [], r5.2))
 ((aUn .not (xs.getD 4 .undef)).bind fun v6 =>
 (condV v6
 ((call 42 [(xs.getD 0 .undef), (xs.getD 1 .undef), (xs.getD 2 .undef)] h).bind fun r7 =>
 (aBin .sub .plain (xs.getD 3 .undef) (.int .i64 1)).bind fun v8 =>
 some (0, [(xs.getD 0 .undef), (xs.getD 1 .undef), (xs.getD 2 .undef), v8, (xs.getD 4 .undef), (xs.getD 5 .undef), v1], r7.2))
 (some (0, [(xs.getD 0 .undef), (xs.getD 1 .undef), (xs.getD 2 .undef), (xs.getD 3 .undef), (xs.getD 4 .undef), (xs.getD 5 .undef), v1], h))).bind fun x9 =>
 bif Nat.beq x9.1 0 then (call 43 [(x9.2.1.getD 0 .undef), (x9.2.1.getD 1 .undef), (x9.2.1.getD 2 .undef)] x9.2.2).bind fun r10 =>
 (aExtract 0 r10.1).bind fun v11 =>
 (aExtract 1 r10.1).bind fun v12 =>
 (aBin .eql .plain v12 (.int .i64 2)).bind fun v13 =>
 (condV v13
 ((call 44 [(x9.2.1.getD 0 .undef), (x9.2.1.getD 1 .undef), (x9.2.1.getD 2 .undef)] r10.2).bind fun r14 =>
 (aBin .sub .plain (x9.2.1.getD 2 .undef) (.int .i64 1)).bind fun v15 =>
 (aBin .sub .plain v11 (x9.2.1.getD 1 .undef)).bind fun v16 =>
 (aBin .sub .plain v15 v16).bind fun v17 =>
 some (0, [(x9.2.1.getD 0 .undef), (x9.2.1.getD 1 .undef), (x9.2.1.getD 2 .undef), (x9.2.1.getD 3 .undef), (x9.2.1.getD 4 .undef), (x9.2.1.getD 5 .undef), (x9.2.1.getD 6 .undef), v17, (.int .i64 1)], r14.2))
 (some (0, [(x9.2.1.getD 0 .undef), (x9.2.1.getD 1 .undef), (x9.2.1.getD 2 .undef), (x9.2.1.getD 3 .undef), (x9.2.1.getD 4 .undef), (x9.2.1.getD 5 .undef), (x9.2.1.getD 6 .undef), v11, v12], r10.2))).bind fun x18 =>
 bif Nat.beq x18.1 0 then (guardV (x18.2.1.getD 4 .undef) true
 (some (0, [(x18.2.1.getD 5 .undef)], x18.2.2))
 (some (0, [skipV], x18.2.2))).bind fun g19 =>
 (aPick (x18.2.1.getD 4 .undef) (g19.2.1.getD 0 .undef) (.bool false)).bind fun v20 =>
 (guardV v20 true
 ((aBin .eql .plain (x18.2.1.getD 8 .undef) (.int .i64 1)).bind fun v21 =>
 some (0, [v21], g19.2.2))
 (some (0, [skipV], g19.2.2))).bind fun g22 =>
 (aPick v20 (g22.2.1.getD 0 .undef) (.bool false)).bind fun v23 =>
 (condV v23
 ((call 45 [(x18.2.1.getD 0 .undef), (x18.2.1.getD 1 .undef), (x18.2.1.getD 2 .undef)] g22.2.2).bind fun r24 =>
 condV r24.1
 (some (0, [], r24.2))
 (some (1, [(x18.2.1.getD 0 .undef), (x18.2.1.getD 1 .undef), (x18.2.1.getD 2 .undef), (x18.2.1.getD 3 .undef), (x18.2.1.getD 4 .undef), (x18.2.1.getD 5 .undef), (x18.2.1.getD 6 .undef), (x18.2.1.getD 7 .undef)], r24.2)))
 (some (1, [(x18.2.1.getD 0 .undef), (x18.2.1.getD 1 .undef), (x18.2.1.getD 2 .undef), (x18.2.1.getD 3 .undef), (x18.2.1.getD 4 .undef), (x18.2.1.getD 5 .undef), (x18.2.1.getD 6 .undef), (x18.2.1.getD 7 .undef)], g22.2.2))).bind fun x25 =>
 bif Nat.beq x25.1 0 then some (1, [], x25.2.2) else
 bif Nat.beq x25.1 1 then (aBin .gtr .plain (x25.2.1.getD 1 .undef) (.int .i64 0)).bind fun v26 =>
 (guardV v26 true
 ((aBin .sub .plain (x25.2.1.getD 1 .undef) (.int .i64 1)).bind fun v27 =>
 (aIaddr 1 (x25.2.1.getD 0 .undef) v27).bind fun v28 =>
 (aLoad x25.2.2 1 v28).bind fun c29 =>
 (fromCells false c29).bind fun v30 =>
 (aIaddr 1 (x25.2.1.getD 0 .undef) (x25.2.1.getD 7 .undef)).bind fun v31 =>
 (aLoad x25.2.2 1 v31).bind fun c32 =>
 (fromCells false c32).bind fun v33 =>
 (call 46 [v30, v33] x25.2.2).bind fun r34 =>
 (aUn .not r34.1).bind fun v35 =>
 some (0, [v35], r34.2))
 (some (0, [skipV], x25.2.2))).bind fun g36 =>
 (aPick v26 (g36.2.1.getD 0 .undef) (.bool false)).bind fun v37 =>
 condV v37
 ((call 47 [(x25.2.1.getD 0 .undef), (x25.2.1.getD 1 .undef), (x25.2.1.getD 2 .undef), (x25.2.1.getD 7 .undef)] g36.2.2).bind fun r38 =>
 some (0, [(x25.2.1.getD 0 .undef), r38.1, (x25.2.1.getD 2 .undef), (x25.2.1.getD 3 .undef), (x25.2.1.getD 4 .undef), (x25.2.1.getD 5 .undef)], r38.2))
 ((call 48 [(x25.2.1.getD 0 .undef), (x25.2.1.getD 1 .undef), (x25.2.1.getD 2 .undef), (x25.2.1.getD 7 .undef)] g36.2.2).bind fun r39 =>
 (aExtract 0 r39.1).bind fun v40 =>
 (aExtract 1 r39.1).bind fun v41 =>
 (aBin .sub .plain v40 (x25.2.1.getD 1 .undef)).bind fun v42 =>
 (aBin .sub .plain (x25.2.1.getD 2 .undef) v40).bind fun v43 =>
 (aBin .quo .plain (x25.2.1.getD 6 .undef) (.int .i64 8)).bind fun v44 =>
 (aBin .lss .plain v42 v43).bind fun v45 =>
 condV v45
 ((aBin .geq .plain v42 v44).bind fun v46 =>
 (call 35 [(x25.2.1.getD 0 .undef), (x25.2.1.getD 1 .undef), v40, (x25.2.1.getD 3 .undef)] r39.2).bind fun r47 =>
 (aBin .add .plain v40 (.int .i64 1)).bind fun v48 =>
 some (0, [(x25.2.1.getD 0 .undef), v48, (x25.2.1.getD 2 .undef), (x25.2.1.getD 3 .undef), v46, v41], r47.2))
 ((aBin .geq .plain v43 v44).bind fun v49 =>
 (aBin .add .plain v40 (.int .i64 1)).bind fun v50 =>
 (call 35 [(x25.2.1.getD 0 .undef), v50, (x25.2.1.getD 2 .undef), (x25.2.1.getD 3 .undef)] r39.2).bind fun r51 =>
 some (0, [(x25.2.1.getD 0 .undef), (x25.2.1.getD 1 .undef), v40, (x25.2.1.getD 3 .undef), v49, v41], r51.2))) else
 none else
 none else
 none))
noncomputable def S35 (call : Go.Fw.Call) (a0 a1 a2 a3 : AVal) (h : Heap) : Option J :=
 (loop (L35_0 call) [a0, a1, a2, a3, (.bool true), (.bool true)] h).bind fun x52 =>
 bif Nat.beq x52.1 1 then some (0, [.tuple []], x52.2.2) else
 none
theorem run35 (call : Go.Fw.Call) (a0 a1 a2 a3 : AVal) (h : Heap) : runFn call (.code A35) [a0, a1, a2, a3] h = (S35 call a0 a1 a2 a3 h).bind ansOf := by kernel_rfl

/-- math/bits.Len -/
noncomputable def A36 : AFunc := ⟨1, (.seq (.region [.op 0 (.mov 2 (.const (.int .i64 0)))] [])
 (.seq (.cond (.const (.bool false))
 (.seq (.region [.op 0 (.mov 3 (.tmp 0)),
 .op 1 (.conv 4 (.toInt .u32) (.tmp 3)),
 .op 2 (.call 5 49 [.tmp 4]),
 .op 3 (.mov 2 (.tmp 5))] [])
 .ret)
 .skip)
 (.seq (.region [.op 0 (.mov 6 (.tmp 0)),
 .op 1 (.call 7 50 [.tmp 6]),
 .op 2 (.mov 2 (.tmp 7))] [])
 .ret))),
 [.tmp 2]⟩
theorem ok36 : funcOk Try.prog (drawOk Try.prog) Try.f36 A36 = true := by kernel_rfl
noncomputable def S36 (call : Go.Fw.Call) (a0 : AVal) (h : Heap) : Option J :=
 condV (.bool false)
 ((aConv (.toInt .u32) a0 h).bind fun r1 =>
 (call 49 [r1.1] r1.2).bind fun r2 =>
 some (0, [r2.1], r2.2))
 ((call 50 [a0] h).bind fun r3 =>
 some (0, [r3.1], r3.2))
theorem run36 (call : Go.Fw.Call) (a0 : AVal) (h : Heap) : runFn call (.code A36) [a0] h = (S36 call a0 h).bind ansOf := by kernel_rfl

/-- slices.stableCmpFunc[frankpledge/api.Card] -/
noncomputable def A37 : AFunc := ⟨3, (.seq (.region [.op 0 (.mov 6 (.const (.int .i64 20)))] [])
 (.seq (.region [.op 0 (.mov 10 (.tmp 6)),
 .op 1 (.mov 7 (.const (.int .i64 0))),
 .op 2 (.mov 8 (.tmp 10))] [])
 (.seq (.block 0 (.loop ⟨[0, 1, 2, 6, 7, 8], []⟩ [((.exit 0), ⟨[0, 1, 2, 6, 7], []⟩)]
 (.seq (.seq (.region [.op 0 (.mov 11 (.tmp 8)),
 .op 1 (.mov 12 (.tmp 1)),
 .op 2 (.bin 13 .leq .plain (.tmp 11) (.tmp 12))] [])
 (.cond (.tmp 13)
 .skip
 (.exit 0)))
 (.block 1 (.seq (.region [.op 0 (.mov 14 (.tmp 0)),
 .op 1 (.mov 15 (.tmp 7)),
 .op 2 (.mov 16 (.tmp 8)),
 .op 3 (.mov 17 (.tmp 2)),
 .op 4 (.call 18 51 [.tmp 14, .tmp 15, .tmp 16, .tmp 17])] [])
 (.seq (.region [.op 0 (.mov 19 (.tmp 8)),
 .op 1 (.mov 7 (.tmp 19))] [])
 (.region [.op 0 (.mov 20 (.tmp 8)),
 .op 1 (.mov 21 (.tmp 6)),
 .op 2 (.bin 22 .add .plain (.tmp 20) (.tmp 21)),
 .op 3 (.mov 8 (.tmp 22))] [])))))))
 (.seq (.region [.op 0 (.mov 23 (.tmp 0)),
 .op 1 (.mov 24 (.tmp 7)),
 .op 2 (.mov 25 (.tmp 1)),
 .op 3 (.mov 26 (.tmp 2)),
 .op 4 (.call 27 51 [.tmp 23, .tmp 24, .tmp 25, .tmp 26])] [])
 (.block 2 (.loop ⟨[0, 1, 2, 6], []⟩ [((.exit 2), ⟨[], []⟩)]
 (.seq (.seq (.region [.op 0 (.mov 28 (.tmp 6)),
 .op 1 (.mov 29 (.tmp 1)),
 .op 2 (.bin 30 .lss .plain (.tmp 28) (.tmp 29))] [])
 (.cond (.tmp 30)
 .skip
 (.exit 2)))
 (.block 3 (.seq (.region [.op 0 (.mov 31 (.tmp 6)),
 .op 1 (.bin 32 .mul .plain (.const (.int .i64 2)) (.tmp 31)),
 .op 2 (.mov 7 (.const (.int .i64 0))),
 .op 3 (.mov 8 (.tmp 32))] [])
 (.seq (.block 4 (.loop ⟨[0, 1, 2, 6, 7, 8], []⟩ [((.exit 4), ⟨[0, 1, 2, 6, 7], []⟩)]
 (.seq (.seq (.region [.op 0 (.mov 33 (.tmp 8)),
 .op 1 (.mov 34 (.tmp 1)),
 .op 2 (.bin 35 .leq .plain (.tmp 33) (.tmp 34))] [])
 (.cond (.tmp 35)
 .skip
 (.exit 4)))
 (.block 5 (.seq (.region [.op 0 (.mov 36 (.tmp 0)),
 .op 1 (.mov 37 (.tmp 7)),
 .op 2 (.mov 38 (.tmp 7)),
 .op 3 (.mov 39 (.tmp 6)),
 .op 4 (.bin 40 .add .plain (.tmp 38) (.tmp 39)),
 .op 5 (.mov 41 (.tmp 8)),
 .op 6 (.mov 42 (.tmp 2)),
 .op 7 (.call 43 52 [.tmp 36, .tmp 37, .tmp 40, .tmp 41, .tmp 42])] [])
 (.seq (.region [.op 0 (.mov 44 (.tmp 8)),
 .op 1 (.mov 7 (.tmp 44))] [])
 (.region [.op 0 (.mov 45 (.tmp 8)),
 .op 1 (.mov 46 (.tmp 6)),
 .op 2 (.bin 47 .mul .plain (.const (.int .i64 2)) (.tmp 46)),
 .op 3 (.bin 48 .add .plain (.tmp 45) (.tmp 47)),
 .op 4 (.mov 8 (.tmp 48))] [])))))))
 (.seq (.seq (.region [.op 0 (.mov 49 (.tmp 7)),
 .op 1 (.mov 50 (.tmp 6)),
 .op 2 (.bin 51 .add .plain (.tmp 49) (.tmp 50)),
 .op 3 (.mov 9 (.tmp 51))] [])
 (.seq (.region [.op 0 (.mov 52 (.tmp 9)),
 .op 1 (.mov 53 (.tmp 1)),
 .op 2 (.bin 54 .lss .plain (.tmp 52) (.tmp 53))] [])
 (.join [(.normal, ⟨[0, 1, 2, 6], []⟩)] (.cond (.tmp 54)
 (.region [.op 0 (.mov 55 (.tmp 0)),
 .op 1 (.mov 56 (.tmp 7)),
 .op 2 (.mov 57 (.tmp 9)),
 .op 3 (.mov 58 (.tmp 1)),
 .op 4 (.mov 59 (.tmp 2)),
 .op 5 (.call 60 52 [.tmp 55, .tmp 56, .tmp 57, .tmp 58, .tmp 59])] [])
 .skip))))
 (.region [.op 0 (.mov 61 (.tmp 6)),
 .op 1 (.bin 62 .mul .plain (.tmp 61) (.const (.int .i64 2))),
 .op 2 (.mov 6 (.tmp 62))] [])))))))))))),
 []⟩
theorem ok37 : funcOk Try.prog (drawOk Try.prog) Try.f37 A37 = true := by kernel_rfl
/-- xs: t0, t1, t2, t6, t7, t8 -/
noncomputable def L37_0 (call : Go.Fw.Call) (xs : List AVal) (h : Heap) : Option J :=
 (aBin .leq .plain (xs.getD 5 .undef) (xs.getD 1 .undef)).bind fun v1 =>
 condV v1
 ((call 51 [(xs.getD 0 .undef), (xs.getD 4 .undef), (xs.getD 5 .undef), (xs.getD 2 .undef)] h).bind fun r2 =>
 (aBin .add .plain (xs.getD 5 .undef) (xs.getD 3 .undef)).bind fun v3 =>
 some (0, [(xs.getD 0 .undef), (xs.getD 1 .undef), (xs.getD 2 .undef), (xs.getD 3 .undef), (xs.getD 5 .undef), v3], r2.2))
 (some (1, [(xs.getD 0 .undef), (xs.getD 1 .undef), (xs.getD 2 .undef), (xs.getD 3 .undef), (xs.getD 4 .undef)], h))
/-- xs: t0, t1, t2, t6, t7, t8 -/
noncomputable def L37_2 (call : Go.Fw.Call) (xs : List AVal) (h : Heap) : Option J :=
 (aBin .leq .plain (xs.getD 5 .undef) (xs.getD 1 .undef)).bind fun v8 =>
 condV v8
 ((aBin .add .plain (xs.getD 4 .undef) (xs.getD 3 .undef)).bind fun v9 =>
 (call 52 [(xs.getD 0 .undef), (xs.getD 4 .undef), v9, (xs.getD 5 .undef), (xs.getD 2 .undef)] h).bind fun r10 =>
 (aBin .mul .plain (.int .i64 2) (xs.getD 3 .undef)).bind fun v11 =>
 (aBin .add .plain (xs.getD 5 .undef) v11).bind fun v12 =>
 some (0, [(xs.getD 0 .undef), (xs.getD 1 .undef), (xs.getD 2 .undef), (xs.getD 3 .undef), (xs.getD 5 .undef), v12], r10.2))
 (some (1, [(xs.getD 0 .undef), (xs.getD 1 .undef), (xs.getD 2 .undef), (xs.getD 3 .undef), (xs.getD 4 .undef)], h))
/-- xs: t0, t1, t2, t6 -/
noncomputable def L37_1 (call : Go.Fw.Call) (xs : List AVal) (h : Heap) : Option J :=
 (aBin .lss .plain (xs.getD 3 .undef) (xs.getD 1 .undef)).bind fun v6 =>
 condV v6
 ((aBin .mul .plain (.int .i64 2) (xs.getD 3 .undef)).bind fun v7 =>
 (loop (L37_2 call) [(xs.getD 0 .undef), (xs.getD 1 .undef), (xs.getD 2 .undef), (xs.getD 3 .undef), (.int .i64 0), v7] h).bind fun x13 =>
 bif Nat.beq x13.1 1 then (aBin .add .plain (x13.2.1.getD 4 .undef) (x13.2.1.getD 3 .undef)).bind fun v14 =>
 (aBin .lss .plain v14 (x13.2.1.getD 1 .undef)).bind fun v15 =>
 (condV v15
 ((call 52 [(x13.2.1.getD 0 .undef), (x13.2.1.getD 4 .undef), v14, (x13.2.1.getD 1 .undef), (x13.2.1.getD 2 .undef)] x13.2.2).bind fun r16 =>
 some (0, [(x13.2.1.getD 0 .undef), (x13.2.1.getD 1 .undef), (x13.2.1.getD 2 .undef), (x13.2.1.getD 3 .undef)], r16.2))
 (some (0, [(x13.2.1.getD 0 .undef), (x13.2.1.getD 1 .undef), (x13.2.1.getD 2 .undef), (x13.2.1.getD 3 .undef)], x13.2.2))).bind fun x17 =>
 bif Nat.beq x17.1 0 then (aBin .mul .plain (x17.2.1.getD 3 .undef) (.int .i64 2)).bind fun v18 =>
 some (0, [(x17.2.1.getD 0 .undef), (x17.2.1.getD 1 .undef), (x17.2.1.getD 2 .undef), v18], x17.2.2) else
 none else
 none)
 (some (1, [], h))
noncomputable def S37 (call : Go.Fw.Call) (a0 a1 a2 : AVal) (h : Heap) : Option J :=
 (loop (L37_0 call) [a0, a1, a2, (.int .i64 20), (.int .i64 0), (.int .i64 20)] h).bind fun x4 =>
 bif Nat.beq x4.1 1 then (call 51 [(x4.2.1.getD 0 .undef), (x4.2.1.getD 4 .undef), (x4.2.1.getD 1 .undef), (x4.2.1.getD 2 .undef)] x4.2.2).bind fun r5 =>
 (loop (L37_1 call) [(x4.2.1.getD 0 .undef), (x4.2.1.getD 1 .undef), (x4.2.1.getD 2 .undef), (x4.2.1.getD 3 .undef)] r5.2).bind fun x19 =>
 bif Nat.beq x19.1 1 then some (0, [.tuple []], x19.2.2) else
 none else
 none
theorem run37 (call : Go.Fw.Call) (a0 a1 a2 : AVal) (h : Heap) : runFn call (.code A37) [a0, a1, a2] h = (S37 call a0 a1 a2 h).bind ansOf := by kernel_rfl

/-- cmp.Or[int] -/
noncomputable def A38 : AFunc := ⟨1, (.seq (.region [.op 0 (.mov 2 (.const (.int .i64 0)))] [])
 (.seq (.region [.op 0 (.mov 3 (.const (.int .i64 0)))] [])
 (.seq (.seq (.region [.op 0 (.mov 6 (.tmp 0)),
 .op 1 (.len 7 false (.tmp 6)),
 .op 2 (.mov 8 (.const (.int .i64 0)))] [])
 (.block 0 (.loop ⟨[3, 6, 7, 8], []⟩ [((.exit 0), ⟨[3], []⟩), (.ret, ⟨[2], []⟩)]
 (.seq (.region [.op 0 (.bin 9 .lss .plain (.tmp 8) (.tmp 7))] [])
 (.seq (.cond (.tmp 9)
 .skip
 (.exit 0))
 (.seq (.block 1 (.seq (.region [.op 0 (.iaddr 10 none 1 (.tmp 6) (.tmp 8)),
 .op 1 (.load 11 false 1 (.tmp 10)),
 .op 2 (.mov 5 (.tmp 11))] [])
 (.seq (.region [.op 0 (.mov 12 (.tmp 5)),
 .op 1 (.mov 13 (.tmp 3)),
 .op 2 (.bin 14 .neq .plain (.tmp 12) (.tmp 13))] [])
 (.cond (.tmp 14)
 (.seq (.region [.op 0 (.mov 15 (.tmp 5)),
 .op 1 (.mov 2 (.tmp 15))] [])
 .ret)
 .skip))))
 (.region [.op 0 (.bin 16 .add .plain (.tmp 8) (.const (.int .i64 1))),
 .op 1 (.mov 8 (.tmp 16))] [])))))))
 (.seq (.region [.op 0 (.mov 17 (.tmp 3)),
 .op 1 (.mov 2 (.tmp 17))] [])
 .ret)))),
 [.tmp 2]⟩
theorem ok38 : funcOk Try.prog (drawOk Try.prog) Try.f38 A38 = true := by kernel_rfl
/-- xs: t3, t6, t7, t8 -/
noncomputable def L38_0 (call : Go.Fw.Call) (xs : List AVal) (h : Heap) : Option J :=
 (aBin .lss .plain (xs.getD 3 .undef) (xs.getD 2 .undef)).bind fun v2 =>
 condV v2
 ((aIaddr 1 (xs.getD 1 .undef) (xs.getD 3 .undef)).bind fun v3 =>
 (aLoad h 1 v3).bind fun c4 =>
 (fromCells false c4).bind fun v5 =>
 (aBin .neq .plain v5 (xs.getD 0 .undef)).bind fun v6 =>
 condV v6
 (some (2, [v5], h))
 ((aBin .add .plain (xs.getD 3 .undef) (.int .i64 1)).bind fun v7 =>
 some (0, [(xs.getD 0 .undef), (xs.getD 1 .undef), (xs.getD 2 .undef), v7], h)))
 (some (1, [(xs.getD 0 .undef)], h))
noncomputable def S38 (call : Go.Fw.Call) (a0 : AVal) (h : Heap) : Option J :=
 (aLen false a0).bind fun v1 =>
 (loop (L38_0 call) [(.int .i64 0), a0, v1, (.int .i64 0)] h).bind fun x8 =>
 bif Nat.beq x8.1 1 then some (0, [(x8.2.1.getD 0 .undef)], x8.2.2) else
 bif Nat.beq x8.1 2 then some (0, [(x8.2.1.getD 0 .undef)], x8.2.2) else
 none
theorem run38 (call : Go.Fw.Call) (a0 : AVal) (h : Heap) : runFn call (.code A38) [a0] h = (S38 call a0 h).bind ansOf := by kernel_rfl

/-- cmp.Compare[string] -/
noncomputable def A39 : AFunc := ⟨2, (.seq (.region [.op 0 (.mov 4 (.const (.int .i64 0)))] [])
 (.seq (.region [.op 0 (.mov 7 (.tmp 0)),
 .op 1 (.call 8 53 [.tmp 7]),
 .op 2 (.mov 5 (.tmp 8))] [])
 (.seq (.region [.op 0 (.mov 9 (.tmp 1)),
 .op 1 (.call 10 53 [.tmp 9]),
 .op 2 (.mov 6 (.tmp 10))] [])
 (.seq (.seq (.region [.op 0 (.mov 11 (.tmp 5))] [])
 (.cond (.tmp 11)
 (.seq (.seq (.region [.op 0 (.mov 12 (.tmp 6))] [])
 (.cond (.tmp 12)
 (.seq (.region [.op 0 (.mov 4 (.const (.int .i64 0)))] [])
 .ret)
 .skip))
 (.seq (.region [.op 0 (.mov 4 (.const (.int .i64 (-1))))] [])
 .ret))
 .skip))
 (.seq (.seq (.region [.op 0 (.mov 13 (.tmp 6))] [])
 (.cond (.tmp 13)
 (.seq (.region [.op 0 (.mov 4 (.const (.int .i64 1)))] [])
 .ret)
 .skip))
 (.seq (.seq (.region [.op 0 (.mov 14 (.tmp 0)),
 .op 1 (.mov 15 (.tmp 1)),
 .op 2 (.bin 16 .lss .plain (.tmp 14) (.tmp 15))] [])
 (.cond (.tmp 16)
 (.seq (.region [.op 0 (.mov 4 (.const (.int .i64 (-1))))] [])
 .ret)
 .skip))
 (.seq (.seq (.region [.op 0 (.mov 17 (.tmp 0)),
 .op 1 (.mov 18 (.tmp 1)),
 .op 2 (.bin 19 .gtr .plain (.tmp 17) (.tmp 18))] [])
 (.cond (.tmp 19)
 (.seq (.region [.op 0 (.mov 4 (.const (.int .i64 1)))] [])
 .ret)
 .skip))
 (.seq (.region [.op 0 (.mov 4 (.const (.int .i64 0)))] [])
 .ret)))))))),
 [.tmp 4]⟩
theorem ok39 : funcOk Try.prog (drawOk Try.prog) Try.f39 A39 = true := by kernel_rfl
noncomputable def S39 (call : Go.Fw.Call) (a0 a1 : AVal) (h : Heap) : Option J :=
 (call 53 [a0] h).bind fun r1 =>
 (call 53 [a1] r1.2).bind fun r2 =>
 condV r1.1
 (condV r2.1
 (some (0, [(.int .i64 0)], r2.2))
 (some (0, [(.int .i64 (-1))], r2.2)))
 (condV r2.1
 (some (0, [(.int .i64 1)], r2.2))
 ((aBin .lss .plain a0 a1).bind fun v3 =>
 condV v3
 (some (0, [(.int .i64 (-1))], r2.2))
 ((aBin .gtr .plain a0 a1).bind fun v4 =>
 condV v4
 (some (0, [(.int .i64 1)], r2.2))
 (some (0, [(.int .i64 0)], r2.2)))))
theorem run39 (call : Go.Fw.Call) (a0 a1 : AVal) (h : Heap) : runFn call (.code A39) [a0, a1] h = (S39 call a0 a1 h).bind ansOf := by kernel_rfl

/-- slices.insertionSortOrdered[string] -/
noncomputable def A40 : AFunc := ⟨3, (.seq (.region [.op 0 (.mov 8 (.tmp 1)),
 .op 1 (.bin 9 .add .plain (.tmp 8) (.const (.int .i64 1))),
 .op 2 (.mov 6 (.tmp 9))] [])
 (.block 0 (.loop ⟨[0, 1, 2, 6], []⟩ [((.exit 0), ⟨[], []⟩)]
 (.seq (.seq (.region [.op 0 (.mov 10 (.tmp 6)),
 .op 1 (.mov 11 (.tmp 2)),
 .op 2 (.bin 12 .lss .plain (.tmp 10) (.tmp 11))] [])
 (.cond (.tmp 12)
 .skip
 (.exit 0)))
 (.seq (.block 1 (.seq (.region [.op 0 (.mov 15 (.tmp 6)),
 .op 1 (.mov 7 (.tmp 15))] [])
 (.block 2 (.loop ⟨[0, 1, 2, 6, 7], []⟩ [((.exit 2), ⟨[0, 1, 2, 6], []⟩)]
 (.seq (.seq (.region [.op 0 (.mov 16 (.tmp 7)),
 .op 1 (.mov 17 (.tmp 1)),
 .op 2 (.bin 18 .gtr .plain (.tmp 16) (.tmp 17)),
 .op 3 (.mov 19 (.tmp 18)),
 .guard 19 true [.op 4 (.mov 20 (.tmp 0)),
 .op 5 (.mov 21 (.tmp 7)),
 .op 6 (.iaddr 22 none 1 (.tmp 20) (.tmp 21)),
 .op 7 (.load 23 false 1 (.tmp 22)),
 .op 8 (.mov 24 (.tmp 0)),
 .op 9 (.mov 25 (.tmp 7)),
 .op 10 (.bin 26 .sub .plain (.tmp 25) (.const (.int .i64 1))),
 .op 11 (.iaddr 27 none 1 (.tmp 24) (.tmp 26)),
 .op 12 (.load 28 false 1 (.tmp 27)),
 .op 13 (.call 29 46 [.tmp 23, .tmp 28])] [] [29],
 .op 14 (.pick 30 (.tmp 19) (.tmp 29) (.const (.bool false)))] [])
 (.cond (.tmp 30)
 .skip
 (.exit 2)))
 (.seq (.block 3 (.region [.op 0 (.mov 33 (.tmp 0)),
 .op 1 (.mov 34 (.tmp 7)),
 .op 2 (.mov 35 (.tmp 0)),
 .op 3 (.mov 36 (.tmp 7)),
 .op 4 (.bin 37 .sub .plain (.tmp 36) (.const (.int .i64 1))),
 .op 5 (.mov 38 (.tmp 0)),
 .op 6 (.mov 39 (.tmp 7)),
 .op 7 (.bin 40 .sub .plain (.tmp 39) (.const (.int .i64 1))),
 .op 8 (.iaddr 41 none 1 (.tmp 38) (.tmp 40)),
 .op 9 (.load 42 false 1 (.tmp 41)),
 .op 10 (.mov 43 (.tmp 0)),
 .op 11 (.mov 44 (.tmp 7)),
 .op 12 (.iaddr 45 none 1 (.tmp 43) (.tmp 44)),
 .op 13 (.load 46 false 1 (.tmp 45)),
 .op 14 (.iaddr 47 none 1 (.tmp 33) (.tmp 34)),
 .op 15 (.store false 1 (.tmp 47) (.tmp 42)),
 .op 16 (.iaddr 48 none 1 (.tmp 35) (.tmp 37)),
 .op 17 (.store false 1 (.tmp 48) (.tmp 46))] []))
 (.region [.op 0 (.mov 31 (.tmp 7)),
 .op 1 (.bin 32 .sub .plain (.tmp 31) (.const (.int .i64 1))),
 .op 2 (.mov 7 (.tmp 32))] [])))))))
 (.region [.op 0 (.mov 13 (.tmp 6)),
 .op 1 (.bin 14 .add .plain (.tmp 13) (.const (.int .i64 1))),
 .op 2 (.mov 6 (.tmp 14))] [])))))),
 []⟩
theorem ok40 : funcOk Try.prog (drawOk Try.prog) Try.f40 A40 = true := by kernel_rfl
/-- xs: t0, t1, t2, t6, t7 -/
noncomputable def L40_1 (call : Go.Fw.Call) (xs : List AVal) (h : Heap) : Option J :=
 (aBin .gtr .plain (xs.getD 4 .undef) (xs.getD 1 .undef)).bind fun v3 =>
 (guardV v3 true
 ((aIaddr 1 (xs.getD 0 .undef) (xs.getD 4 .undef)).bind fun v4 =>
 (aLoad h 1 v4).bind fun c5 =>
 (fromCells false c5).bind fun v6 =>
 (aBin .sub .plain (xs.getD 4 .undef) (.int .i64 1)).bind fun v7 =>
 (aIaddr 1 (xs.getD 0 .undef) v7).bind fun v8 =>
 (aLoad h 1 v8).bind fun c9 =>
 (fromCells false c9).bind fun v10 =>
 (call 46 [v6, v10] h).bind fun r11 =>
 some (0, [r11.1], r11.2))
 (some (0, [skipV], h))).bind fun g12 =>
 (aPick v3 (g12.2.1.getD 0 .undef) (.bool false)).bind fun v13 =>
 condV v13
 ((aBin .sub .plain (xs.getD 4 .undef) (.int .i64 1)).bind fun v14 =>
 (aBin .sub .plain (xs.getD 4 .undef) (.int .i64 1)).bind fun v15 =>
 (aIaddr 1 (xs.getD 0 .undef) v15).bind fun v16 =>
 (aLoad g12.2.2 1 v16).bind fun c17 =>
 (fromCells false c17).bind fun v18 =>
 (aIaddr 1 (xs.getD 0 .undef) (xs.getD 4 .undef)).bind fun v19 =>
 (aLoad g12.2.2 1 v19).bind fun c20 =>
 (fromCells false c20).bind fun v21 =>
 (aIaddr 1 (xs.getD 0 .undef) (xs.getD 4 .undef)).bind fun v22 =>
 (aCells 1 v18).bind fun c23 =>
 (aStore g12.2.2 v22 c23).bind fun h24 =>
 (aIaddr 1 (xs.getD 0 .undef) v14).bind fun v25 =>
 (aCells 1 v21).bind fun c26 =>
 (aStore h24 v25 c26).bind fun h27 =>
 (aBin .sub .plain (xs.getD 4 .undef) (.int .i64 1)).bind fun v28 =>
 some (0, [(xs.getD 0 .undef), (xs.getD 1 .undef), (xs.getD 2 .undef), (xs.getD 3 .undef), v28], h27))
 (some (1, [(xs.getD 0 .undef), (xs.getD 1 .undef), (xs.getD 2 .undef), (xs.getD 3 .undef)], g12.2.2))
/-- xs: t0, t1, t2, t6 -/
noncomputable def L40_0 (call : Go.Fw.Call) (xs : List AVal) (h : Heap) : Option J :=
 (aBin .lss .plain (xs.getD 3 .undef) (xs.getD 2 .undef)).bind fun v2 =>
 condV v2
 ((loop (L40_1 call) [(xs.getD 0 .undef), (xs.getD 1 .undef), (xs.getD 2 .undef), (xs.getD 3 .undef), (xs.getD 3 .undef)] h).bind fun x29 =>
 bif Nat.beq x29.1 1 then (aBin .add .plain (x29.2.1.getD 3 .undef) (.int .i64 1)).bind fun v30 =>
 some (0, [(x29.2.1.getD 0 .undef), (x29.2.1.getD 1 .undef), (x29.2.1.getD 2 .undef), v30], x29.2.2) else
 none)
 (some (1, [], h))
noncomputable def S40 (call : Go.Fw.Call) (a0 a1 a2 : AVal) (h : Heap) : Option J :=
 (aBin .add .plain a1 (.int .i64 1)).bind fun v1 =>
 (loop (L40_0 call) [a0, a1, a2, v1] h).bind fun x31 =>
 bif Nat.beq x31.1 1 then some (0, [.tuple []], x31.2.2) else
 none
theorem run40 (call : Go.Fw.Call) (a0 a1 a2 : AVal) (h : Heap) : runFn call (.code A40) [a0, a1, a2] h = (S40 call a0 a1 a2 h).bind ansOf := by kernel_rfl

/-- slices.heapSortOrdered[string] -/
noncomputable def A41 : AFunc := ⟨3, (.seq (.region [.op 0 (.mov 11 (.tmp 1)),
 .op 1 (.mov 6 (.tmp 11))] [])
 (.seq (.region [.op 0 (.mov 7 (.const (.int .i64 0)))] [])
 (.seq (.region [.op 0 (.mov 12 (.tmp 2)),
 .op 1 (.mov 13 (.tmp 1)),
 .op 2 (.bin 14 .sub .plain (.tmp 12) (.tmp 13)),
 .op 3 (.mov 8 (.tmp 14))] [])
 (.seq (.seq (.region [.op 0 (.mov 15 (.tmp 8)),
 .op 1 (.bin 16 .sub .plain (.tmp 15) (.const (.int .i64 1))),
 .op 2 (.bin 17 .quo .plain (.tmp 16) (.const (.int .i64 2))),
 .op 3 (.mov 9 (.tmp 17))] [])
 (.block 0 (.loop ⟨[0, 6, 7, 8, 9], []⟩ [((.exit 0), ⟨[0, 6, 7, 8], []⟩)]
 (.seq (.seq (.region [.op 0 (.mov 18 (.tmp 9)),
 .op 1 (.bin 19 .geq .plain (.tmp 18) (.const (.int .i64 0)))] [])
 (.cond (.tmp 19)
 .skip
 (.exit 0)))
 (.seq (.block 1 (.region [.op 0 (.mov 22 (.tmp 0)),
 .op 1 (.mov 23 (.tmp 9)),
 .op 2 (.mov 24 (.tmp 8)),
 .op 3 (.mov 25 (.tmp 6)),
 .op 4 (.call 26 54 [.tmp 22, .tmp 23, .tmp 24, .tmp 25])] []))
 (.region [.op 0 (.mov 20 (.tmp 9)),
 .op 1 (.bin 21 .sub .plain (.tmp 20) (.const (.int .i64 1))),
 .op 2 (.mov 9 (.tmp 21))] []))))))
 (.seq (.region [.op 0 (.mov 27 (.tmp 8)),
 .op 1 (.bin 28 .sub .plain (.tmp 27) (.const (.int .i64 1))),
 .op 2 (.mov 10 (.tmp 28))] [])
 (.block 2 (.loop ⟨[0, 6, 7, 10], []⟩ [((.exit 2), ⟨[], []⟩)]
 (.seq (.seq (.region [.op 0 (.mov 29 (.tmp 10)),
 .op 1 (.bin 30 .geq .plain (.tmp 29) (.const (.int .i64 0)))] [])
 (.cond (.tmp 30)
 .skip
 (.exit 2)))
 (.seq (.block 3 (.seq (.region [.op 0 (.mov 33 (.tmp 0)),
 .op 1 (.mov 34 (.tmp 6)),
 .op 2 (.mov 35 (.tmp 0)),
 .op 3 (.mov 36 (.tmp 6)),
 .op 4 (.mov 37 (.tmp 10)),
 .op 5 (.bin 38 .add .plain (.tmp 36) (.tmp 37)),
 .op 6 (.mov 39 (.tmp 0)),
 .op 7 (.mov 40 (.tmp 6)),
 .op 8 (.mov 41 (.tmp 10)),
 .op 9 (.bin 42 .add .plain (.tmp 40) (.tmp 41)),
 .op 10 (.iaddr 43 none 1 (.tmp 39) (.tmp 42)),
 .op 11 (.load 44 false 1 (.tmp 43)),
 .op 12 (.mov 45 (.tmp 0)),
 .op 13 (.mov 46 (.tmp 6)),
 .op 14 (.iaddr 47 none 1 (.tmp 45) (.tmp 46)),
 .op 15 (.load 48 false 1 (.tmp 47)),
 .op 16 (.iaddr 49 none 1 (.tmp 33) (.tmp 34)),
 .op 17 (.store false 1 (.tmp 49) (.tmp 44)),
 .op 18 (.iaddr 50 none 1 (.tmp 35) (.tmp 38)),
 .op 19 (.store false 1 (.tmp 50) (.tmp 48))] [])
 (.region [.op 0 (.mov 51 (.tmp 0)),
 .op 1 (.mov 52 (.tmp 7)),
 .op 2 (.mov 53 (.tmp 10)),
 .op 3 (.mov 54 (.tmp 6)),
 .op 4 (.call 55 54 [.tmp 51, .tmp 52, .tmp 53, .tmp 54])] [])))
 (.region [.op 0 (.mov 31 (.tmp 10)),
 .op 1 (.bin 32 .sub .plain (.tmp 31) (.const (.int .i64 1))),
 .op 2 (.mov 10 (.tmp 32))] [])))))))))),
 []⟩
theorem ok41 : funcOk Try.prog (drawOk Try.prog) Try.f41 A41 = true := by kernel_rfl
/-- xs: t0, t6, t7, t8, t9 -/
noncomputable def L41_0 (call : Go.Fw.Call) (xs : List AVal) (h : Heap) : Option J :=
 (aBin .geq .plain (xs.getD 4 .undef) (.int .i64 0)).bind fun v4 =>
 condV v4
 ((call 54 [(xs.getD 0 .undef), (xs.getD 4 .undef), (xs.getD 3 .undef), (xs.getD 1 .undef)] h).bind fun r5 =>
 (aBin .sub .plain (xs.getD 4 .undef) (.int .i64 1)).bind fun v6 =>
 some (0, [(xs.getD 0 .undef), (xs.getD 1 .undef), (xs.getD 2 .undef), (xs.getD 3 .undef), v6], r5.2))
 (some (1, [(xs.getD 0 .undef), (xs.getD 1 .undef), (xs.getD 2 .undef), (xs.getD 3 .undef)], h))
/-- xs: t0, t6, t7, t10 -/
noncomputable def L41_1 (call : Go.Fw.Call) (xs : List AVal) (h : Heap) : Option J :=
 (aBin .geq .plain (xs.getD 3 .undef) (.int .i64 0)).bind fun v9 =>
 condV v9
 ((aBin .add .plain (xs.getD 1 .undef) (xs.getD 3 .undef)).bind fun v10 =>
 (aBin .add .plain (xs.getD 1 .undef) (xs.getD 3 .undef)).bind fun v11 =>
 (aIaddr 1 (xs.getD 0 .undef) v11).bind fun v12 =>
 (aLoad h 1 v12).bind fun c13 =>
 (fromCells false c13).bind fun v14 =>
 (aIaddr 1 (xs.getD 0 .undef) (xs.getD 1 .undef)).bind fun v15 =>
 (aLoad h 1 v15).bind fun c16 =>
 (fromCells false c16).bind fun v17 =>
 (aIaddr 1 (xs.getD 0 .undef) (xs.getD 1 .undef)).bind fun v18 =>
 (aCells 1 v14).bind fun c19 =>
 (aStore h v18 c19).bind fun h20 =>
 (aIaddr 1 (xs.getD 0 .undef) v10).bind fun v21 =>
 (aCells 1 v17).bind fun c22 =>
 (aStore h20 v21 c22).bind fun h23 =>
 (call 54 [(xs.getD 0 .undef), (xs.getD 2 .undef), (xs.getD 3 .undef), (xs.getD 1 .undef)] h23).bind fun r24 =>
 (aBin .sub .plain (xs.getD 3 .undef) (.int .i64 1)).bind fun v25 =>
 some (0, [(xs.getD 0 .undef), (xs.getD 1 .undef), (xs.getD 2 .undef), v25], r24.2))
 (some (1, [], h))
noncomputable def S41 (call : Go.Fw.Call) (a0 a1 a2 : AVal) (h : Heap) : Option J :=
 (aBin .sub .plain a2 a1).bind fun v1 =>
 (aBin .sub .plain v1 (.int .i64 1)).bind fun v2 =>
 (aBin .quo .plain v2 (.int .i64 2)).bind fun v3 =>
 (loop (L41_0 call) [a0, a1, (.int .i64 0), v1, v3] h).bind fun x7 =>
 bif Nat.beq x7.1 1 then (aBin .sub .plain (x7.2.1.getD 3 .undef) (.int .i64 1)).bind fun v8 =>
 (loop (L41_1 call) [(x7.2.1.getD 0 .undef), (x7.2.1.getD 1 .undef), (x7.2.1.getD 2 .undef), v8] x7.2.2).bind fun x26 =>
 bif Nat.beq x26.1 1 then some (0, [.tuple []], x26.2.2) else
 none else
 none
theorem run41 (call : Go.Fw.Call) (a0 a1 a2 : AVal) (h : Heap) : runFn call (.code A41) [a0, a1, a2] h = (S41 call a0 a1 a2 h).bind ansOf := by kernel_rfl

/-- slices.breakPatternsOrdered[string] -/
noncomputable def A42 : AFunc := ⟨3, (.seq (.region [.op 0 (.mov 11 (.tmp 2)),
 .op 1 (.mov 12 (.tmp 1)),
 .op 2 (.bin 13 .sub .plain (.tmp 11) (.tmp 12)),
 .op 3 (.mov 6 (.tmp 13))] [])
 (.seq (.region [.op 0 (.mov 14 (.tmp 6)),
 .op 1 (.bin 15 .geq .plain (.tmp 14) (.const (.int .i64 8)))] [])
 (.cond (.tmp 15)
 (.seq (.region [.op 0 (.mov 16 (.tmp 6)),
 .op 1 (.conv 17 (.toInt .u64) (.tmp 16)),
 .op 2 (.alloc 7 false [.int .u64 0]),
 .op 3 (.store false 1 (.tmp 7) (.tmp 17))] [])
 (.seq (.region [.op 0 (.mov 18 (.tmp 6)),
 .op 1 (.call 19 55 [.tmp 18]),
 .op 2 (.mov 8 (.tmp 19))] [])
 (.seq (.region [.op 0 (.mov 20 (.tmp 1)),
 .op 1 (.mov 21 (.tmp 6)),
 .op 2 (.bin 22 .quo .plain (.tmp 21) (.const (.int .i64 4))),
 .op 3 (.bin 23 .mul .plain (.tmp 22) (.const (.int .i64 2))),
 .op 4 (.bin 24 .add .plain (.tmp 20) (.tmp 23)),
 .op 5 (.bin 25 .sub .plain (.tmp 24) (.const (.int .i64 1))),
 .op 6 (.mov 9 (.tmp 25))] [])
 (.block 0 (.loop ⟨[0, 1, 6, 7, 8, 9], []⟩ [((.exit 0), ⟨[], []⟩)]
 (.seq (.seq (.region [.op 0 (.mov 26 (.tmp 9)),
 .op 1 (.mov 27 (.tmp 1)),
 .op 2 (.mov 28 (.tmp 6)),
 .op 3 (.bin 29 .quo .plain (.tmp 28) (.const (.int .i64 4))),
 .op 4 (.bin 30 .mul .plain (.tmp 29) (.const (.int .i64 2))),
 .op 5 (.bin 31 .add .plain (.tmp 27) (.tmp 30)),
 .op 6 (.bin 32 .add .plain (.tmp 31) (.const (.int .i64 1))),
 .op 7 (.bin 33 .leq .plain (.tmp 26) (.tmp 32))] [])
 (.cond (.tmp 33)
 .skip
 (.exit 0)))
 (.seq (.block 1 (.seq (.region [.op 0 (.call 36 56 [.tmp 7]),
 .op 1 (.mov 37 (.tmp 8)),
 .op 2 (.bin 38 .sub .plain (.tmp 37) (.const (.int .u64 1))),
 .op 3 (.bin 39 .and .plain (.tmp 36) (.tmp 38)),
 .op 4 (.conv 40 (.toInt .i64) (.tmp 39)),
 .op 5 (.mov 10 (.tmp 40))] [])
 (.seq (.seq (.region [.op 0 (.mov 41 (.tmp 10)),
 .op 1 (.mov 42 (.tmp 6)),
 .op 2 (.bin 43 .geq .plain (.tmp 41) (.tmp 42))] [])
 (.join [(.normal, ⟨[0, 1, 6, 7, 8, 9, 10], []⟩)] (.cond (.tmp 43)
 (.region [.op 0 (.mov 44 (.tmp 10)),
 .op 1 (.mov 45 (.tmp 6)),
 .op 2 (.bin 46 .sub .plain (.tmp 44) (.tmp 45)),
 .op 3 (.mov 10 (.tmp 46))] [])
 .skip)))
 (.region [.op 0 (.mov 47 (.tmp 0)),
 .op 1 (.mov 48 (.tmp 9)),
 .op 2 (.mov 49 (.tmp 0)),
 .op 3 (.mov 50 (.tmp 1)),
 .op 4 (.mov 51 (.tmp 10)),
 .op 5 (.bin 52 .add .plain (.tmp 50) (.tmp 51)),
 .op 6 (.mov 53 (.tmp 0)),
 .op 7 (.mov 54 (.tmp 1)),
 .op 8 (.mov 55 (.tmp 10)),
 .op 9 (.bin 56 .add .plain (.tmp 54) (.tmp 55)),
 .op 10 (.iaddr 57 none 1 (.tmp 53) (.tmp 56)),
 .op 11 (.load 58 false 1 (.tmp 57)),
 .op 12 (.mov 59 (.tmp 0)),
 .op 13 (.mov 60 (.tmp 9)),
 .op 14 (.iaddr 61 none 1 (.tmp 59) (.tmp 60)),
 .op 15 (.load 62 false 1 (.tmp 61)),
 .op 16 (.iaddr 63 none 1 (.tmp 47) (.tmp 48)),
 .op 17 (.store false 1 (.tmp 63) (.tmp 58)),
 .op 18 (.iaddr 64 none 1 (.tmp 49) (.tmp 52)),
 .op 19 (.store false 1 (.tmp 64) (.tmp 62))] []))))
 (.region [.op 0 (.mov 34 (.tmp 9)),
 .op 1 (.bin 35 .add .plain (.tmp 34) (.const (.int .i64 1))),
 .op 2 (.mov 9 (.tmp 35))] []))))))))
 .skip))),
 []⟩
theorem ok42 : funcOk Try.prog (drawOk Try.prog) Try.f42 A42 = true := by kernel_rfl
/-- xs: t0, t1, t6, t7, t8, t9 -/
noncomputable def L42_0 (call : Go.Fw.Call) (xs : List AVal) (h : Heap) : Option J :=
 (aBin .quo .plain (xs.getD 2 .undef) (.int .i64 4)).bind fun v11 =>
 (aBin .mul .plain v11 (.int .i64 2)).bind fun v12 =>
 (aBin .add .plain (xs.getD 1 .undef) v12).bind fun v13 =>
 (aBin .add .plain v13 (.int .i64 1)).bind fun v14 =>
 (aBin .leq .plain (xs.getD 5 .undef) v14).bind fun v15 =>
 condV v15
 ((call 56 [(xs.getD 3 .undef)] h).bind fun r16 =>
 (aBin .sub .plain (xs.getD 4 .undef) (.int .u64 1)).bind fun v17 =>
 (aBin .and .plain r16.1 v17).bind fun v18 =>
 (aConv (.toInt .i64) v18 r16.2).bind fun r19 =>
 (aBin .geq .plain r19.1 (xs.getD 2 .undef)).bind fun v20 =>
 (condV v20
 ((aBin .sub .plain r19.1 (xs.getD 2 .undef)).bind fun v21 =>
 some (0, [(xs.getD 0 .undef), (xs.getD 1 .undef), (xs.getD 2 .undef), (xs.getD 3 .undef), (xs.getD 4 .undef), (xs.getD 5 .undef), v21], r19.2))
 (some (0, [(xs.getD 0 .undef), (xs.getD 1 .undef), (xs.getD 2 .undef), (xs.getD 3 .undef), (xs.getD 4 .undef), (xs.getD 5 .undef), r19.1], r19.2))).bind fun x22 =>
 bif Nat.beq x22.1 0 then (aBin .add .plain (x22.2.1.getD 1 .undef) (x22.2.1.getD 6 .undef)).bind fun v23 =>
 (aBin .add .plain (x22.2.1.getD 1 .undef) (x22.2.1.getD 6 .undef)).bind fun v24 =>
 (aIaddr 1 (x22.2.1.getD 0 .undef) v24).bind fun v25 =>
 (aLoad x22.2.2 1 v25).bind fun c26 =>
 (fromCells false c26).bind fun v27 =>
 (aIaddr 1 (x22.2.1.getD 0 .undef) (x22.2.1.getD 5 .undef)).bind fun v28 =>
 (aLoad x22.2.2 1 v28).bind fun c29 =>
 (fromCells false c29).bind fun v30 =>
 (aIaddr 1 (x22.2.1.getD 0 .undef) (x22.2.1.getD 5 .undef)).bind fun v31 =>
 (aCells 1 v27).bind fun c32 =>
 (aStore x22.2.2 v31 c32).bind fun h33 =>
 (aIaddr 1 (x22.2.1.getD 0 .undef) v23).bind fun v34 =>
 (aCells 1 v30).bind fun c35 =>
 (aStore h33 v34 c35).bind fun h36 =>
 (aBin .add .plain (x22.2.1.getD 5 .undef) (.int .i64 1)).bind fun v37 =>
 some (0, [(x22.2.1.getD 0 .undef), (x22.2.1.getD 1 .undef), (x22.2.1.getD 2 .undef), (x22.2.1.getD 3 .undef), (x22.2.1.getD 4 .undef), v37], h36) else
 none)
 (some (1, [], h))
noncomputable def S42 (call : Go.Fw.Call) (a0 a1 a2 : AVal) (h : Heap) : Option J :=
 (aBin .sub .plain a2 a1).bind fun v1 =>
 (aBin .geq .plain v1 (.int .i64 8)).bind fun v2 =>
 condV v2
 ((aConv (.toInt .u64) v1 h).bind fun r3 =>
 (aCells 1 r3.1).bind fun c4 =>
 (aStore (r3.2.alloc [.int .u64 0]) (.ptr r3.2.next 0) c4).bind fun h5 =>
 (call 55 [v1] h5).bind fun r6 =>
 (aBin .quo .plain v1 (.int .i64 4)).bind fun v7 =>
 (aBin .mul .plain v7 (.int .i64 2)).bind fun v8 =>
 (aBin .add .plain a1 v8).bind fun v9 =>
 (aBin .sub .plain v9 (.int .i64 1)).bind fun v10 =>
 (loop (L42_0 call) [a0, a1, v1, (.ptr r3.2.next 0), r6.1, v10] r6.2).bind fun x38 =>
 bif Nat.beq x38.1 1 then some (0, [.tuple []], x38.2.2) else
 none)
 (some (0, [.tuple []], h))
theorem run42 (call : Go.Fw.Call) (a0 a1 a2 : AVal) (h : Heap) : runFn call (.code A42) [a0, a1, a2] h = (S42 call a0 a1 a2 h).bind ansOf := by kernel_rfl

/-- slices.choosePivotOrdered[string] -/
noncomputable def A43 : AFunc := ⟨3, (.seq (.region [.op 0 (.mov 6 (.const (.int .i64 0))),
 .op 1 (.mov 7 (.const (.int .i64 0)))] [])
 (.seq (.region [.op 0 (.mov 13 (.tmp 2)),
 .op 1 (.mov 14 (.tmp 1)),
 .op 2 (.bin 15 .sub .plain (.tmp 13) (.tmp 14)),
 .op 3 (.mov 8 (.tmp 15))] [])
 (.seq (.region [.op 0 (.alloc 9 false [.int .i64 0])] [])
 (.seq (.region [.op 0 (.mov 16 (.tmp 1)),
 .op 1 (.mov 17 (.tmp 8)),
 .op 2 (.bin 18 .quo .plain (.tmp 17) (.const (.int .i64 4))),
 .op 3 (.bin 19 .mul .plain (.tmp 18) (.const (.int .i64 1))),
 .op 4 (.bin 20 .add .plain (.tmp 16) (.tmp 19)),
 .op 5 (.mov 10 (.tmp 20))] [])
 (.seq (.region [.op 0 (.mov 21 (.tmp 1)),
 .op 1 (.mov 22 (.tmp 8)),
 .op 2 (.bin 23 .quo .plain (.tmp 22) (.const (.int .i64 4))),
 .op 3 (.bin 24 .mul .plain (.tmp 23) (.const (.int .i64 2))),
 .op 4 (.bin 25 .add .plain (.tmp 21) (.tmp 24)),
 .op 5 (.mov 11 (.tmp 25))] [])
 (.seq (.region [.op 0 (.mov 26 (.tmp 1)),
 .op 1 (.mov 27 (.tmp 8)),
 .op 2 (.bin 28 .quo .plain (.tmp 27) (.const (.int .i64 4))),
 .op 3 (.bin 29 .mul .plain (.tmp 28) (.const (.int .i64 3))),
 .op 4 (.bin 30 .add .plain (.tmp 26) (.tmp 29)),
 .op 5 (.mov 12 (.tmp 30))] [])
 (.seq (.seq (.region [.op 0 (.mov 31 (.tmp 8)),
 .op 1 (.bin 32 .geq .plain (.tmp 31) (.const (.int .i64 8)))] [])
 (.join [(.normal, ⟨[9, 11], []⟩)] (.cond (.tmp 32)
 (.seq (.seq (.region [.op 0 (.mov 33 (.tmp 8)),
 .op 1 (.bin 34 .geq .plain (.tmp 33) (.const (.int .i64 50)))] [])
 (.join [(.normal, ⟨[0, 9, 10, 11, 12], []⟩)] (.cond (.tmp 34)
 (.seq (.region [.op 0 (.mov 35 (.tmp 0)),
 .op 1 (.mov 36 (.tmp 10)),
 .op 2 (.call 37 57 [.tmp 35, .tmp 36, .tmp 9]),
 .op 3 (.mov 10 (.tmp 37))] [])
 (.seq (.region [.op 0 (.mov 38 (.tmp 0)),
 .op 1 (.mov 39 (.tmp 11)),
 .op 2 (.call 40 57 [.tmp 38, .tmp 39, .tmp 9]),
 .op 3 (.mov 11 (.tmp 40))] [])
 (.region [.op 0 (.mov 41 (.tmp 0)),
 .op 1 (.mov 42 (.tmp 12)),
 .op 2 (.call 43 57 [.tmp 41, .tmp 42, .tmp 9]),
 .op 3 (.mov 12 (.tmp 43))] [])))
 .skip)))
 (.region [.op 0 (.mov 44 (.tmp 0)),
 .op 1 (.mov 45 (.tmp 10)),
 .op 2 (.mov 46 (.tmp 11)),
 .op 3 (.mov 47 (.tmp 12)),
 .op 4 (.call 48 58 [.tmp 44, .tmp 45, .tmp 46, .tmp 47, .tmp 9]),
 .op 5 (.mov 11 (.tmp 48))] []))
 .skip)))
 (.seq (.region [.op 0 (.load 49 false 1 (.tmp 9))] [])
 (.block 0 (.seq (.region [.op 0 (.bin 52 .eql .plain (.tmp 49) (.const (.int .i64 0))),
 .op 1 (.mov 51 (.tmp 52))] [])
 (.cond (.tmp 51)
 (.seq (.region [.op 0 (.mov 53 (.tmp 11)),
 .op 1 (.mov 6 (.tmp 53)),
 .op 2 (.mov 7 (.const (.int .i64 1)))] [])
 .ret)
 (.seq (.region [.op 0 (.bin 55 .eql .plain (.tmp 49) (.const (.int .i64 12))),
 .op 1 (.mov 54 (.tmp 55))] [])
 (.cond (.tmp 54)
 (.seq (.region [.op 0 (.mov 56 (.tmp 11)),
 .op 1 (.mov 6 (.tmp 56)),
 .op 2 (.mov 7 (.const (.int .i64 2)))] [])
 .ret)
 (.seq (.region [.op 0 (.mov 50 (.tmp 11)),
 .op 1 (.mov 6 (.tmp 50)),
 .op 2 (.mov 7 (.const (.int .i64 0)))] [])
 .ret)))))))))))))),
 [.tmp 6, .tmp 7]⟩
theorem ok43 : funcOk Try.prog (drawOk Try.prog) Try.f43 A43 = true := by kernel_rfl
noncomputable def S43 (call : Go.Fw.Call) (a0 a1 a2 : AVal) (h : Heap) : Option J :=
 (aBin .sub .plain a2 a1).bind fun v1 =>
 (aBin .quo .plain v1 (.int .i64 4)).bind fun v2 =>
 (aBin .mul .plain v2 (.int .i64 1)).bind fun v3 =>
 (aBin .add .plain a1 v3).bind fun v4 =>
 (aBin .quo .plain v1 (.int .i64 4)).bind fun v5 =>
 (aBin .mul .plain v5 (.int .i64 2)).bind fun v6 =>
 (aBin .add .plain a1 v6).bind fun v7 =>
 (aBin .quo .plain v1 (.int .i64 4)).bind fun v8 =>
 (aBin .mul .plain v8 (.int .i64 3)).bind fun v9 =>
 (aBin .add .plain a1 v9).bind fun v10 =>
 (aBin .geq .plain v1 (.int .i64 8)).bind fun v11 =>
 (condV v11
 ((aBin .geq .plain v1 (.int .i64 50)).bind fun v12 =>
 (condV v12
 ((call 57 [a0, v4, (.ptr h.next 0)] (h.alloc [.int .i64 0])).bind fun r13 =>
 (call 57 [a0, v7, (.ptr h.next 0)] r13.2).bind fun r14 =>
 (call 57 [a0, v10, (.ptr h.next 0)] r14.2).bind fun r15 =>
 some (0, [a0, (.ptr h.next 0), r13.1, r14.1, r15.1], r15.2))
 (some (0, [a0, (.ptr h.next 0), v4, v7, v10], (h.alloc [.int .i64 0])))).bind fun x16 =>
 bif Nat.beq x16.1 0 then (call 58 [(x16.2.1.getD 0 .undef), (x16.2.1.getD 2 .undef), (x16.2.1.getD 3 .undef), (x16.2.1.getD 4 .undef), (x16.2.1.getD 1 .undef)] x16.2.2).bind fun r17 =>
 some (0, [(x16.2.1.getD 1 .undef), r17.1], r17.2) else
 none)
 (some (0, [(.ptr h.next 0), v7], (h.alloc [.int .i64 0])))).bind fun x18 =>
 bif Nat.beq x18.1 0 then (aLoad x18.2.2 1 (x18.2.1.getD 0 .undef)).bind fun c19 =>
 (fromCells false c19).bind fun v20 =>
 (aBin .eql .plain v20 (.int .i64 0)).bind fun v21 =>
 condV v21
 (some (0, [.tuple [(x18.2.1.getD 1 .undef), (.int .i64 1)]], x18.2.2))
 ((aBin .eql .plain v20 (.int .i64 12)).bind fun v22 =>
 condV v22
 (some (0, [.tuple [(x18.2.1.getD 1 .undef), (.int .i64 2)]], x18.2.2))
 (some (0, [.tuple [(x18.2.1.getD 1 .undef), (.int .i64 0)]], x18.2.2))) else
 none
theorem run43 (call : Go.Fw.Call) (a0 a1 a2 : AVal) (h : Heap) : runFn call (.code A43) [a0, a1, a2] h = (S43 call a0 a1 a2 h).bind ansOf := by kernel_rfl

/-- slices.reverseRangeOrdered[string] -/
noncomputable def A44 : AFunc := ⟨3, (.seq (.region [.op 0 (.mov 8 (.tmp 1)),
 .op 1 (.mov 6 (.tmp 8))] [])
 (.seq (.region [.op 0 (.mov 9 (.tmp 2)),
 .op 1 (.bin 10 .sub .plain (.tmp 9) (.const (.int .i64 1))),
 .op 2 (.mov 7 (.tmp 10))] [])
 (.block 0 (.loop ⟨[0, 6, 7], []⟩ [((.exit 0), ⟨[], []⟩)]
 (.seq (.seq (.region [.op 0 (.mov 11 (.tmp 6)),
 .op 1 (.mov 12 (.tmp 7)),
 .op 2 (.bin 13 .lss .plain (.tmp 11) (.tmp 12))] [])
 (.cond (.tmp 13)
 .skip
 (.exit 0)))
 (.block 1 (.seq (.region [.op 0 (.mov 14 (.tmp 0)),
 .op 1 (.mov 15 (.tmp 6)),
 .op 2 (.mov 16 (.tmp 0)),
 .op 3 (.mov 17 (.tmp 7)),
 .op 4 (.mov 18 (.tmp 0)),
 .op 5 (.mov 19 (.tmp 7)),
 .op 6 (.iaddr 20 none 1 (.tmp 18) (.tmp 19)),
 .op 7 (.load 21 false 1 (.tmp 20)),
 .op 8 (.mov 22 (.tmp 0)),
 .op 9 (.mov 23 (.tmp 6)),
 .op 10 (.iaddr 24 none 1 (.tmp 22) (.tmp 23)),
 .op 11 (.load 25 false 1 (.tmp 24)),
 .op 12 (.iaddr 26 none 1 (.tmp 14) (.tmp 15)),
 .op 13 (.store false 1 (.tmp 26) (.tmp 21)),
 .op 14 (.iaddr 27 none 1 (.tmp 16) (.tmp 17)),
 .op 15 (.store false 1 (.tmp 27) (.tmp 25))] [])
 (.seq (.region [.op 0 (.mov 28 (.tmp 6)),
 .op 1 (.bin 29 .add .plain (.tmp 28) (.const (.int .i64 1))),
 .op 2 (.mov 6 (.tmp 29))] [])
 (.region [.op 0 (.mov 30 (.tmp 7)),
 .op 1 (.bin 31 .sub .plain (.tmp 30) (.const (.int .i64 1))),
 .op 2 (.mov 7 (.tmp 31))] []))))))))),
 []⟩
theorem ok44 : funcOk Try.prog (drawOk Try.prog) Try.f44 A44 = true := by kernel_rfl
/-- xs: t0, t6, t7 -/
noncomputable def L44_0 (call : Go.Fw.Call) (xs : List AVal) (h : Heap) : Option J :=
 (aBin .lss .plain (xs.getD 1 .undef) (xs.getD 2 .undef)).bind fun v2 =>
 condV v2
 ((aIaddr 1 (xs.getD 0 .undef) (xs.getD 2 .undef)).bind fun v3 =>
 (aLoad h 1 v3).bind fun c4 =>
 (fromCells false c4).bind fun v5 =>
 (aIaddr 1 (xs.getD 0 .undef) (xs.getD 1 .undef)).bind fun v6 =>
 (aLoad h 1 v6).bind fun c7 =>
 (fromCells false c7).bind fun v8 =>
 (aIaddr 1 (xs.getD 0 .undef) (xs.getD 1 .undef)).bind fun v9 =>
 (aCells 1 v5).bind fun c10 =>
 (aStore h v9 c10).bind fun h11 =>
 (aIaddr 1 (xs.getD 0 .undef) (xs.getD 2 .undef)).bind fun v12 =>
 (aCells 1 v8).bind fun c13 =>
 (aStore h11 v12 c13).bind fun h14 =>
 (aBin .add .plain (xs.getD 1 .undef) (.int .i64 1)).bind fun v15 =>
 (aBin .sub .plain (xs.getD 2 .undef) (.int .i64 1)).bind fun v16 =>
 some (0, [(xs.getD 0 .undef), v15, v16], h14))
 (some (1, [], h))
noncomputable def S44 (call : Go.Fw.Call) (a0 a1 a2 : AVal) (h : Heap) : Option J :=
 (aBin .sub .plain a2 (.int .i64 1)).bind fun v1 =>
 (loop (L44_0 call) [a0, a1, v1] h).bind fun x17 =>
 bif Nat.beq x17.1 1 then some (0, [.tuple []], x17.2.2) else
 none
theorem run44 (call : Go.Fw.Call) (a0 a1 a2 : AVal) (h : Heap) : runFn call (.code A44) [a0, a1, a2] h = (S44 call a0 a1 a2 h).bind ansOf := by kernel_rfl

/-- slices.partialInsertionSortOrdered[string] -/
noncomputable def A45 : AFunc := ⟨3, (.seq (.region [.op 0 (.mov 6 (.const (.bool false)))] [])
 (.seq (.region [.op 0 (.mov 11 (.tmp 1)),
 .op 1 (.bin 12 .add .plain (.tmp 11) (.const (.int .i64 1))),
 .op 2 (.mov 7 (.tmp 12))] [])
 (.seq (.seq (.region [.op 0 (.mov 8 (.const (.int .i64 0)))] [])
 (.block 0 (.loop ⟨[0, 1, 2, 7, 8], []⟩ [((.exit 0), ⟨[], []⟩), (.ret, ⟨[6], []⟩)]
 (.seq (.seq (.region [.op 0 (.mov 13 (.tmp 8)),
 .op 1 (.bin 14 .lss .plain (.tmp 13) (.const (.int .i64 5)))] [])
 (.cond (.tmp 14)
 .skip
 (.exit 0)))
 (.seq (.block 1 (.seq (.block 2 (.loop ⟨[0, 1, 2, 7, 8], []⟩ [((.exit 2), ⟨[0, 1, 2, 7, 8], []⟩)]
 (.seq (.seq (.region [.op 0 (.mov 17 (.tmp 7)),
 .op 1 (.mov 18 (.tmp 2)),
 .op 2 (.bin 19 .lss .plain (.tmp 17) (.tmp 18)),
 .op 3 (.mov 20 (.tmp 19)),
 .guard 20 true [.op 4 (.mov 21 (.tmp 0)),
 .op 5 (.mov 22 (.tmp 7)),
 .op 6 (.iaddr 23 none 1 (.tmp 21) (.tmp 22)),
 .op 7 (.load 24 false 1 (.tmp 23)),
 .op 8 (.mov 25 (.tmp 0)),
 .op 9 (.mov 26 (.tmp 7)),
 .op 10 (.bin 27 .sub .plain (.tmp 26) (.const (.int .i64 1))),
 .op 11 (.iaddr 28 none 1 (.tmp 25) (.tmp 27)),
 .op 12 (.load 29 false 1 (.tmp 28)),
 .op 13 (.call 30 46 [.tmp 24, .tmp 29]),
 .op 14 (.un 31 .not (.tmp 30))] [] [31],
 .op 15 (.pick 32 (.tmp 20) (.tmp 31) (.const (.bool false)))] [])
 (.cond (.tmp 32)
 .skip
 (.exit 2)))
 (.block 3 (.region [.op 0 (.mov 33 (.tmp 7)),
 .op 1 (.bin 34 .add .plain (.tmp 33) (.const (.int .i64 1))),
 .op 2 (.mov 7 (.tmp 34))] [])))))
 (.seq (.seq (.region [.op 0 (.mov 35 (.tmp 7)),
 .op 1 (.mov 36 (.tmp 2)),
 .op 2 (.bin 37 .eql .plain (.tmp 35) (.tmp 36))] [])
 (.cond (.tmp 37)
 (.seq (.region [.op 0 (.mov 6 (.const (.bool true)))] [])
 .ret)
 .skip))
 (.seq (.seq (.region [.op 0 (.mov 38 (.tmp 2)),
 .op 1 (.mov 39 (.tmp 1)),
 .op 2 (.bin 40 .sub .plain (.tmp 38) (.tmp 39)),
 .op 3 (.bin 41 .lss .plain (.tmp 40) (.const (.int .i64 50)))] [])
 (.cond (.tmp 41)
 (.seq (.region [.op 0 (.mov 6 (.const (.bool false)))] [])
 .ret)
 .skip))
 (.seq (.region [.op 0 (.mov 42 (.tmp 0)),
 .op 1 (.mov 43 (.tmp 7)),
 .op 2 (.mov 44 (.tmp 0)),
 .op 3 (.mov 45 (.tmp 7)),
 .op 4 (.bin 46 .sub .plain (.tmp 45) (.const (.int .i64 1))),
 .op 5 (.mov 47 (.tmp 0)),
 .op 6 (.mov 48 (.tmp 7)),
 .op 7 (.bin 49 .sub .plain (.tmp 48) (.const (.int .i64 1))),
 .op 8 (.iaddr 50 none 1 (.tmp 47) (.tmp 49)),
 .op 9 (.load 51 false 1 (.tmp 50)),
 .op 10 (.mov 52 (.tmp 0)),
 .op 11 (.mov 53 (.tmp 7)),
 .op 12 (.iaddr 54 none 1 (.tmp 52) (.tmp 53)),
 .op 13 (.load 55 false 1 (.tmp 54)),
 .op 14 (.iaddr 56 none 1 (.tmp 42) (.tmp 43)),
 .op 15 (.store false 1 (.tmp 56) (.tmp 51)),
 .op 16 (.iaddr 57 none 1 (.tmp 44) (.tmp 46)),
 .op 17 (.store false 1 (.tmp 57) (.tmp 55))] [])
 (.seq (.seq (.region [.op 0 (.mov 58 (.tmp 7)),
 .op 1 (.mov 59 (.tmp 1)),
 .op 2 (.bin 60 .sub .plain (.tmp 58) (.tmp 59)),
 .op 3 (.bin 61 .geq .plain (.tmp 60) (.const (.int .i64 2)))] [])
 (.join [(.normal, ⟨[0, 1, 2, 7, 8], []⟩)] (.cond (.tmp 61)
 (.seq (.region [.op 0 (.mov 62 (.tmp 7)),
 .op 1 (.bin 63 .sub .plain (.tmp 62) (.const (.int .i64 1))),
 .op 2 (.mov 9 (.tmp 63))] [])
 (.block 4 (.loop ⟨[0, 1, 2, 7, 8, 9], []⟩ [((.exit 4), ⟨[0, 1, 2, 7, 8], []⟩)]
 (.seq (.seq (.region [.op 0 (.mov 64 (.tmp 9)),
 .op 1 (.bin 65 .geq .plain (.tmp 64) (.const (.int .i64 1)))] [])
 (.cond (.tmp 65)
 .skip
 (.exit 4)))
 (.seq (.block 5 (.seq (.seq (.region [.op 0 (.mov 68 (.tmp 0)),
 .op 1 (.mov 69 (.tmp 9)),
 .op 2 (.iaddr 70 none 1 (.tmp 68) (.tmp 69)),
 .op 3 (.load 71 false 1 (.tmp 70)),
 .op 4 (.mov 72 (.tmp 0)),
 .op 5 (.mov 73 (.tmp 9)),
 .op 6 (.bin 74 .sub .plain (.tmp 73) (.const (.int .i64 1))),
 .op 7 (.iaddr 75 none 1 (.tmp 72) (.tmp 74)),
 .op 8 (.load 76 false 1 (.tmp 75)),
 .op 9 (.call 77 46 [.tmp 71, .tmp 76]),
 .op 10 (.un 78 .not (.tmp 77))] [])
 (.cond (.tmp 78)
 (.exit 4)
 .skip))
 (.region [.op 0 (.mov 79 (.tmp 0)),
 .op 1 (.mov 80 (.tmp 9)),
 .op 2 (.mov 81 (.tmp 0)),
 .op 3 (.mov 82 (.tmp 9)),
 .op 4 (.bin 83 .sub .plain (.tmp 82) (.const (.int .i64 1))),
 .op 5 (.mov 84 (.tmp 0)),
 .op 6 (.mov 85 (.tmp 9)),
 .op 7 (.bin 86 .sub .plain (.tmp 85) (.const (.int .i64 1))),
 .op 8 (.iaddr 87 none 1 (.tmp 84) (.tmp 86)),
 .op 9 (.load 88 false 1 (.tmp 87)),
 .op 10 (.mov 89 (.tmp 0)),
 .op 11 (.mov 90 (.tmp 9)),
 .op 12 (.iaddr 91 none 1 (.tmp 89) (.tmp 90)),
 .op 13 (.load 92 false 1 (.tmp 91)),
 .op 14 (.iaddr 93 none 1 (.tmp 79) (.tmp 80)),
 .op 15 (.store false 1 (.tmp 93) (.tmp 88)),
 .op 16 (.iaddr 94 none 1 (.tmp 81) (.tmp 83)),
 .op 17 (.store false 1 (.tmp 94) (.tmp 92))] [])))
 (.region [.op 0 (.mov 66 (.tmp 9)),
 .op 1 (.bin 67 .sub .plain (.tmp 66) (.const (.int .i64 1))),
 .op 2 (.mov 9 (.tmp 67))] []))))))
 .skip)))
 (.seq (.region [.op 0 (.mov 95 (.tmp 2)),
 .op 1 (.mov 96 (.tmp 7)),
 .op 2 (.bin 97 .sub .plain (.tmp 95) (.tmp 96)),
 .op 3 (.bin 98 .geq .plain (.tmp 97) (.const (.int .i64 2)))] [])
 (.join [(.normal, ⟨[0, 1, 2, 7, 8], []⟩)] (.cond (.tmp 98)
 (.seq (.region [.op 0 (.mov 99 (.tmp 7)),
 .op 1 (.bin 100 .add .plain (.tmp 99) (.const (.int .i64 1))),
 .op 2 (.mov 10 (.tmp 100))] [])
 (.block 6 (.loop ⟨[0, 1, 2, 7, 8, 10], []⟩ [((.exit 6), ⟨[0, 1, 2, 7, 8], []⟩)]
 (.seq (.seq (.region [.op 0 (.mov 101 (.tmp 10)),
 .op 1 (.mov 102 (.tmp 2)),
 .op 2 (.bin 103 .lss .plain (.tmp 101) (.tmp 102))] [])
 (.cond (.tmp 103)
 .skip
 (.exit 6)))
 (.seq (.block 7 (.seq (.seq (.region [.op 0 (.mov 106 (.tmp 0)),
 .op 1 (.mov 107 (.tmp 10)),
 .op 2 (.iaddr 108 none 1 (.tmp 106) (.tmp 107)),
 .op 3 (.load 109 false 1 (.tmp 108)),
 .op 4 (.mov 110 (.tmp 0)),
 .op 5 (.mov 111 (.tmp 10)),
 .op 6 (.bin 112 .sub .plain (.tmp 111) (.const (.int .i64 1))),
 .op 7 (.iaddr 113 none 1 (.tmp 110) (.tmp 112)),
 .op 8 (.load 114 false 1 (.tmp 113)),
 .op 9 (.call 115 46 [.tmp 109, .tmp 114]),
 .op 10 (.un 116 .not (.tmp 115))] [])
 (.cond (.tmp 116)
 (.exit 6)
 .skip))
 (.region [.op 0 (.mov 117 (.tmp 0)),
 .op 1 (.mov 118 (.tmp 10)),
 .op 2 (.mov 119 (.tmp 0)),
 .op 3 (.mov 120 (.tmp 10)),
 .op 4 (.bin 121 .sub .plain (.tmp 120) (.const (.int .i64 1))),
 .op 5 (.mov 122 (.tmp 0)),
 .op 6 (.mov 123 (.tmp 10)),
 .op 7 (.bin 124 .sub .plain (.tmp 123) (.const (.int .i64 1))),
 .op 8 (.iaddr 125 none 1 (.tmp 122) (.tmp 124)),
 .op 9 (.load 126 false 1 (.tmp 125)),
 .op 10 (.mov 127 (.tmp 0)),
 .op 11 (.mov 128 (.tmp 10)),
 .op 12 (.iaddr 129 none 1 (.tmp 127) (.tmp 128)),
 .op 13 (.load 130 false 1 (.tmp 129)),
 .op 14 (.iaddr 131 none 1 (.tmp 117) (.tmp 118)),
 .op 15 (.store false 1 (.tmp 131) (.tmp 126)),
 .op 16 (.iaddr 132 none 1 (.tmp 119) (.tmp 121)),
 .op 17 (.store false 1 (.tmp 132) (.tmp 130))] [])))
 (.region [.op 0 (.mov 104 (.tmp 10)),
 .op 1 (.bin 105 .add .plain (.tmp 104) (.const (.int .i64 1))),
 .op 2 (.mov 10 (.tmp 105))] []))))))
 .skip)))))))))
 (.region [.op 0 (.mov 15 (.tmp 8)),
 .op 1 (.bin 16 .add .plain (.tmp 15) (.const (.int .i64 1))),
 .op 2 (.mov 8 (.tmp 16))] []))))))
 (.seq (.region [.op 0 (.mov 6 (.const (.bool false)))] [])
 .ret)))),
 [.tmp 6]⟩
theorem ok45 : funcOk Try.prog (drawOk Try.prog) Try.f45 A45 = true := by kernel_rfl
/-- xs: t0, t1, t2, t7, t8 -/
noncomputable def L45_1 (call : Go.Fw.Call) (xs : List AVal) (h : Heap) : Option J :=
 (aBin .lss .plain (xs.getD 3 .undef) (xs.getD 2 .undef)).bind fun v3 =>
 (guardV v3 true
 ((aIaddr 1 (xs.getD 0 .undef) (xs.getD 3 .undef)).bind fun v4 =>
 (aLoad h 1 v4).bind fun c5 =>
 (fromCells false c5).bind fun v6 =>
 (aBin .sub .plain (xs.getD 3 .undef) (.int .i64 1)).bind fun v7 =>
 (aIaddr 1 (xs.getD 0 .undef) v7).bind fun v8 =>
 (aLoad h 1 v8).bind fun c9 =>
 (fromCells false c9).bind fun v10 =>
 (call 46 [v6, v10] h).bind fun r11 =>
 (aUn .not r11.1).bind fun v12 =>
 some (0, [v12], r11.2))
 (some (0, [skipV], h))).bind fun g13 =>
 (aPick v3 (g13.2.1.getD 0 .undef) (.bool false)).bind fun v14 =>
 condV v14
 ((aBin .add .plain (xs.getD 3 .undef) (.int .i64 1)).bind fun v15 =>
 some (0, [(xs.getD 0 .undef), (xs.getD 1 .undef), (xs.getD 2 .undef), v15, (xs.getD 4 .undef)], g13.2.2))
 (some (1, [(xs.getD 0 .undef), (xs.getD 1 .undef), (xs.getD 2 .undef), (xs.getD 3 .undef), (xs.getD 4 .undef)], g13.2.2))
/-- xs: t0, t1, t2, t7, t8, t9 -/
noncomputable def L45_2 (call : Go.Fw.Call) (xs : List AVal) (h : Heap) : Option J :=
 (aBin .geq .plain (xs.getD 5 .undef) (.int .i64 1)).bind fun v37 =>
 condV v37
 ((aIaddr 1 (xs.getD 0 .undef) (xs.getD 5 .undef)).bind fun v38 =>
 (aLoad h 1 v38).bind fun c39 =>
 (fromCells false c39).bind fun v40 =>
 (aBin .sub .plain (xs.getD 5 .undef) (.int .i64 1)).bind fun v41 =>
 (aIaddr 1 (xs.getD 0 .undef) v41).bind fun v42 =>
 (aLoad h 1 v42).bind fun c43 =>
 (fromCells false c43).bind fun v44 =>
 (call 46 [v40, v44] h).bind fun r45 =>
 (aUn .not r45.1).bind fun v46 =>
 condV v46
 (some (1, [(xs.getD 0 .undef), (xs.getD 1 .undef), (xs.getD 2 .undef), (xs.getD 3 .undef), (xs.getD 4 .undef)], r45.2))
 ((aBin .sub .plain (xs.getD 5 .undef) (.int .i64 1)).bind fun v47 =>
 (aBin .sub .plain (xs.getD 5 .undef) (.int .i64 1)).bind fun v48 =>
 (aIaddr 1 (xs.getD 0 .undef) v48).bind fun v49 =>
 (aLoad r45.2 1 v49).bind fun c50 =>
 (fromCells false c50).bind fun v51 =>
 (aIaddr 1 (xs.getD 0 .undef) (xs.getD 5 .undef)).bind fun v52 =>
 (aLoad r45.2 1 v52).bind fun c53 =>
 (fromCells false c53).bind fun v54 =>
 (aIaddr 1 (xs.getD 0 .undef) (xs.getD 5 .undef)).bind fun v55 =>
 (aCells 1 v51).bind fun c56 =>
 (aStore r45.2 v55 c56).bind fun h57 =>
 (aIaddr 1 (xs.getD 0 .undef) v47).bind fun v58 =>
 (aCells 1 v54).bind fun c59 =>
 (aStore h57 v58 c59).bind fun h60 =>
 (aBin .sub .plain (xs.getD 5 .undef) (.int .i64 1)).bind fun v61 =>
 some (0, [(xs.getD 0 .undef), (xs.getD 1 .undef), (xs.getD 2 .undef), (xs.getD 3 .undef), (xs.getD 4 .undef), v61], h60)))
 (some (1, [(xs.getD 0 .undef), (xs.getD 1 .undef), (xs.getD 2 .undef), (xs.getD 3 .undef), (xs.getD 4 .undef)], h))
/-- xs: t0, t1, t2, t7, t8, t10 -/
noncomputable def L45_3 (call : Go.Fw.Call) (xs : List AVal) (h : Heap) : Option J :=
 (aBin .lss .plain (xs.getD 5 .undef) (xs.getD 2 .undef)).bind fun v67 =>
 condV v67
 ((aIaddr 1 (xs.getD 0 .undef) (xs.getD 5 .undef)).bind fun v68 =>
 (aLoad h 1 v68).bind fun c69 =>
 (fromCells false c69).bind fun v70 =>
 (aBin .sub .plain (xs.getD 5 .undef) (.int .i64 1)).bind fun v71 =>
 (aIaddr 1 (xs.getD 0 .undef) v71).bind fun v72 =>
 (aLoad h 1 v72).bind fun c73 =>
 (fromCells false c73).bind fun v74 =>
 (call 46 [v70, v74] h).bind fun r75 =>
 (aUn .not r75.1).bind fun v76 =>
 condV v76
 (some (1, [(xs.getD 0 .undef), (xs.getD 1 .undef), (xs.getD 2 .undef), (xs.getD 3 .undef), (xs.getD 4 .undef)], r75.2))
 ((aBin .sub .plain (xs.getD 5 .undef) (.int .i64 1)).bind fun v77 =>
 (aBin .sub .plain (xs.getD 5 .undef) (.int .i64 1)).bind fun v78 =>
 (aIaddr 1 (xs.getD 0 .undef) v78).bind fun v79 =>
 (aLoad r75.2 1 v79).bind fun c80 =>
 (fromCells false c80).bind fun v81 =>
 (aIaddr 1 (xs.getD 0 .undef) (xs.getD 5 .undef)).bind fun v82 =>
 (aLoad r75.2 1 v82).bind fun c83 =>
 (fromCells false c83).bind fun v84 =>
 (aIaddr 1 (xs.getD 0 .undef) (xs.getD 5 .undef)).bind fun v85 =>
 (aCells 1 v81).bind fun c86 =>
 (aStore r75.2 v85 c86).bind fun h87 =>
 (aIaddr 1 (xs.getD 0 .undef) v77).bind fun v88 =>
 (aCells 1 v84).bind fun c89 =>
 (aStore h87 v88 c89).bind fun h90 =>
 (aBin .add .plain (xs.getD 5 .undef) (.int .i64 1)).bind fun v91 =>
 some (0, [(xs.getD 0 .undef), (xs.getD 1 .undef), (xs.getD 2 .undef), (xs.getD 3 .undef), (xs.getD 4 .undef), v91], h90)))
 (some (1, [(xs.getD 0 .undef), (xs.getD 1 .undef), (xs.getD 2 .undef), (xs.getD 3 .undef), (xs.getD 4 .undef)], h))
/-- xs: t0, t1, t2, t7, t8 -/
noncomputable def L45_0 (call : Go.Fw.Call) (xs : List AVal) (h : Heap) : Option J :=
 (aBin .lss .plain (xs.getD 4 .undef) (.int .i64 5)).bind fun v2 =>
 condV v2
 ((loop (L45_1 call) [(xs.getD 0 .undef), (xs.getD 1 .undef), (xs.getD 2 .undef), (xs.getD 3 .undef), (xs.getD 4 .undef)] h).bind fun x16 =>
 bif Nat.beq x16.1 1 then (aBin .eql .plain (x16.2.1.getD 3 .undef) (x16.2.1.getD 2 .undef)).bind fun v17 =>
 condV v17
 (some (2, [(.bool true)], x16.2.2))
 ((aBin .sub .plain (x16.2.1.getD 2 .undef) (x16.2.1.getD 1 .undef)).bind fun v18 =>
 (aBin .lss .plain v18 (.int .i64 50)).bind fun v19 =>
 condV v19
 (some (2, [(.bool false)], x16.2.2))
 ((aBin .sub .plain (x16.2.1.getD 3 .undef) (.int .i64 1)).bind fun v20 =>
 (aBin .sub .plain (x16.2.1.getD 3 .undef) (.int .i64 1)).bind fun v21 =>
 (aIaddr 1 (x16.2.1.getD 0 .undef) v21).bind fun v22 =>
 (aLoad x16.2.2 1 v22).bind fun c23 =>
 (fromCells false c23).bind fun v24 =>
 (aIaddr 1 (x16.2.1.getD 0 .undef) (x16.2.1.getD 3 .undef)).bind fun v25 =>
 (aLoad x16.2.2 1 v25).bind fun c26 =>
 (fromCells false c26).bind fun v27 =>
 (aIaddr 1 (x16.2.1.getD 0 .undef) (x16.2.1.getD 3 .undef)).bind fun v28 =>
 (aCells 1 v24).bind fun c29 =>
 (aStore x16.2.2 v28 c29).bind fun h30 =>
 (aIaddr 1 (x16.2.1.getD 0 .undef) v20).bind fun v31 =>
 (aCells 1 v27).bind fun c32 =>
 (aStore h30 v31 c32).bind fun h33 =>
 (aBin .sub .plain (x16.2.1.getD 3 .undef) (x16.2.1.getD 1 .undef)).bind fun v34 =>
 (aBin .geq .plain v34 (.int .i64 2)).bind fun v35 =>
 (condV v35
 ((aBin .sub .plain (x16.2.1.getD 3 .undef) (.int .i64 1)).bind fun v36 =>
 (loop (L45_2 call) [(x16.2.1.getD 0 .undef), (x16.2.1.getD 1 .undef), (x16.2.1.getD 2 .undef), (x16.2.1.getD 3 .undef), (x16.2.1.getD 4 .undef), v36] h33).bind fun x62 =>
 bif Nat.beq x62.1 1 then some (0, [(x62.2.1.getD 0 .undef), (x62.2.1.getD 1 .undef), (x62.2.1.getD 2 .undef), (x62.2.1.getD 3 .undef), (x62.2.1.getD 4 .undef)], x62.2.2) else
 none)
 (some (0, [(x16.2.1.getD 0 .undef), (x16.2.1.getD 1 .undef), (x16.2.1.getD 2 .undef), (x16.2.1.getD 3 .undef), (x16.2.1.getD 4 .undef)], h33))).bind fun x63 =>
 bif Nat.beq x63.1 0 then (aBin .sub .plain (x63.2.1.getD 2 .undef) (x63.2.1.getD 3 .undef)).bind fun v64 =>
 (aBin .geq .plain v64 (.int .i64 2)).bind fun v65 =>
 (condV v65
 ((aBin .add .plain (x63.2.1.getD 3 .undef) (.int .i64 1)).bind fun v66 =>
 (loop (L45_3 call) [(x63.2.1.getD 0 .undef), (x63.2.1.getD 1 .undef), (x63.2.1.getD 2 .undef), (x63.2.1.getD 3 .undef), (x63.2.1.getD 4 .undef), v66] x63.2.2).bind fun x92 =>
 bif Nat.beq x92.1 1 then some (0, [(x92.2.1.getD 0 .undef), (x92.2.1.getD 1 .undef), (x92.2.1.getD 2 .undef), (x92.2.1.getD 3 .undef), (x92.2.1.getD 4 .undef)], x92.2.2) else
 none)
 (some (0, [(x63.2.1.getD 0 .undef), (x63.2.1.getD 1 .undef), (x63.2.1.getD 2 .undef), (x63.2.1.getD 3 .undef), (x63.2.1.getD 4 .undef)], x63.2.2))).bind fun x93 =>
 bif Nat.beq x93.1 0 then (aBin .add .plain (x93.2.1.getD 4 .undef) (.int .i64 1)).bind fun v94 =>
 some (0, [(x93.2.1.getD 0 .undef), (x93.2.1.getD 1 .undef), (x93.2.1.getD 2 .undef), (x93.2.1.getD 3 .undef), v94], x93.2.2) else
 none else
 none)) else
 none)
 (some (1, [], h))
noncomputable def S45 (call : Go.Fw.Call) (a0 a1 a2 : AVal) (h : Heap) : Option J :=
 (aBin .add .plain a1 (.int .i64 1)).bind fun v1 =>
 (loop (L45_0 call) [a0, a1, a2, v1, (.int .i64 0)] h).bind fun x95 =>
 bif Nat.beq x95.1 1 then some (0, [(.bool false)], x95.2.2) else
 bif Nat.beq x95.1 2 then some (0, [(x95.2.1.getD 0 .undef)], x95.2.2) else
 none
theorem run45 (call : Go.Fw.Call) (a0 a1 a2 : AVal) (h : Heap) : runFn call (.code A45) [a0, a1, a2] h = (S45 call a0 a1 a2 h).bind ansOf := by kernel_rfl

/-- cmp.Less[string] -/
noncomputable def A46 : AFunc := ⟨2, (.seq (.region [.op 0 (.mov 4 (.const (.bool false)))] [])
 (.seq (.region [.op 0 (.mov 5 (.tmp 0)),
 .op 1 (.call 6 53 [.tmp 5]),
 .op 2 (.mov 7 (.tmp 6)),
 .guard 7 true [.op 3 (.mov 8 (.tmp 1)),
 .op 4 (.call 9 53 [.tmp 8]),
 .op 5 (.un 10 .not (.tmp 9))] [] [10],
 .op 6 (.pick 11 (.tmp 7) (.tmp 10) (.const (.bool false))),
 .op 7 (.mov 12 (.tmp 11)),
 .guard 12 false [.op 8 (.mov 13 (.tmp 0)),
 .op 9 (.mov 14 (.tmp 1)),
 .op 10 (.bin 15 .lss .plain (.tmp 13) (.tmp 14))] [] [15],
 .op 11 (.pick 16 (.tmp 12) (.const (.bool true)) (.tmp 15)),
 .op 12 (.mov 4 (.tmp 16))] [])
 .ret)),
 [.tmp 4]⟩
theorem ok46 : funcOk Try.prog (drawOk Try.prog) Try.f46 A46 = true := by kernel_rfl
noncomputable def S46 (call : Go.Fw.Call) (a0 a1 : AVal) (h : Heap) : Option J :=
 (call 53 [a0] h).bind fun r1 =>
 (guardV r1.1 true
 ((call 53 [a1] r1.2).bind fun r2 =>
 (aUn .not r2.1).bind fun v3 =>
 some (0, [v3], r2.2))
 (some (0, [skipV], r1.2))).bind fun g4 =>
 (aPick r1.1 (g4.2.1.getD 0 .undef) (.bool false)).bind fun v5 =>
 (guardV v5 false
 ((aBin .lss .plain a0 a1).bind fun v6 =>
 some (0, [v6], g4.2.2))
 (some (0, [skipV], g4.2.2))).bind fun g7 =>
 (aPick v5 (.bool true) (g7.2.1.getD 0 .undef)).bind fun v8 =>
 some (0, [v8], g7.2.2)
theorem run46 (call : Go.Fw.Call) (a0 a1 : AVal) (h : Heap) : runFn call (.code A46) [a0, a1] h = (S46 call a0 a1 h).bind ansOf := by kernel_rfl

/-- slices.partitionEqualOrdered[string] -/
noncomputable def A47 : AFunc := ⟨4, (.seq (.region [.op 0 (.mov 8 (.const (.int .i64 0)))] [])
 (.seq (.region [.op 0 (.mov 11 (.tmp 0)),
 .op 1 (.mov 12 (.tmp 1)),
 .op 2 (.mov 13 (.tmp 0)),
 .op 3 (.mov 14 (.tmp 3)),
 .op 4 (.mov 15 (.tmp 0)),
 .op 5 (.mov 16 (.tmp 3)),
 .op 6 (.iaddr 17 none 1 (.tmp 15) (.tmp 16)),
 .op 7 (.load 18 false 1 (.tmp 17)),
 .op 8 (.mov 19 (.tmp 0)),
 .op 9 (.mov 20 (.tmp 1)),
 .op 10 (.iaddr 21 none 1 (.tmp 19) (.tmp 20)),
 .op 11 (.load 22 false 1 (.tmp 21)),
 .op 12 (.iaddr 23 none 1 (.tmp 11) (.tmp 12)),
 .op 13 (.store false 1 (.tmp 23) (.tmp 18)),
 .op 14 (.iaddr 24 none 1 (.tmp 13) (.tmp 14)),
 .op 15 (.store false 1 (.tmp 24) (.tmp 22))] [])
 (.seq (.region [.op 0 (.mov 25 (.tmp 1)),
 .op 1 (.bin 26 .add .plain (.tmp 25) (.const (.int .i64 1))),
 .op 2 (.mov 27 (.tmp 2)),
 .op 3 (.bin 28 .sub .plain (.tmp 27) (.const (.int .i64 1))),
 .op 4 (.mov 9 (.tmp 26)),
 .op 5 (.mov 10 (.tmp 28))] [])
 (.seq (.block 0 (.loop ⟨[0, 1, 9, 10], []⟩ [((.exit 0), ⟨[9], []⟩)]
 (.block 1 (.seq (.block 2 (.loop ⟨[0, 1, 9, 10], []⟩ [((.exit 2), ⟨[0, 1, 9, 10], []⟩)]
 (.seq (.seq (.region [.op 0 (.mov 29 (.tmp 9)),
 .op 1 (.mov 30 (.tmp 10)),
 .op 2 (.bin 31 .leq .plain (.tmp 29) (.tmp 30)),
 .op 3 (.mov 32 (.tmp 31)),
 .guard 32 true [.op 4 (.mov 33 (.tmp 0)),
 .op 5 (.mov 34 (.tmp 1)),
 .op 6 (.iaddr 35 none 1 (.tmp 33) (.tmp 34)),
 .op 7 (.load 36 false 1 (.tmp 35)),
 .op 8 (.mov 37 (.tmp 0)),
 .op 9 (.mov 38 (.tmp 9)),
 .op 10 (.iaddr 39 none 1 (.tmp 37) (.tmp 38)),
 .op 11 (.load 40 false 1 (.tmp 39)),
 .op 12 (.call 41 46 [.tmp 36, .tmp 40]),
 .op 13 (.un 42 .not (.tmp 41))] [] [42],
 .op 14 (.pick 43 (.tmp 32) (.tmp 42) (.const (.bool false)))] [])
 (.cond (.tmp 43)
 .skip
 (.exit 2)))
 (.block 3 (.region [.op 0 (.mov 44 (.tmp 9)),
 .op 1 (.bin 45 .add .plain (.tmp 44) (.const (.int .i64 1))),
 .op 2 (.mov 9 (.tmp 45))] [])))))
 (.seq (.block 4 (.loop ⟨[0, 1, 9, 10], []⟩ [((.exit 4), ⟨[0, 1, 9, 10], []⟩)]
 (.seq (.seq (.region [.op 0 (.mov 46 (.tmp 9)),
 .op 1 (.mov 47 (.tmp 10)),
 .op 2 (.bin 48 .leq .plain (.tmp 46) (.tmp 47)),
 .op 3 (.mov 49 (.tmp 48)),
 .guard 49 true [.op 4 (.mov 50 (.tmp 0)),
 .op 5 (.mov 51 (.tmp 1)),
 .op 6 (.iaddr 52 none 1 (.tmp 50) (.tmp 51)),
 .op 7 (.load 53 false 1 (.tmp 52)),
 .op 8 (.mov 54 (.tmp 0)),
 .op 9 (.mov 55 (.tmp 10)),
 .op 10 (.iaddr 56 none 1 (.tmp 54) (.tmp 55)),
 .op 11 (.load 57 false 1 (.tmp 56)),
 .op 12 (.call 58 46 [.tmp 53, .tmp 57])] [] [58],
 .op 13 (.pick 59 (.tmp 49) (.tmp 58) (.const (.bool false)))] [])
 (.cond (.tmp 59)
 .skip
 (.exit 4)))
 (.block 5 (.region [.op 0 (.mov 60 (.tmp 10)),
 .op 1 (.bin 61 .sub .plain (.tmp 60) (.const (.int .i64 1))),
 .op 2 (.mov 10 (.tmp 61))] [])))))
 (.seq (.seq (.region [.op 0 (.mov 62 (.tmp 9)),
 .op 1 (.mov 63 (.tmp 10)),
 .op 2 (.bin 64 .gtr .plain (.tmp 62) (.tmp 63))] [])
 (.cond (.tmp 64)
 (.exit 0)
 .skip))
 (.seq (.region [.op 0 (.mov 65 (.tmp 0)),
 .op 1 (.mov 66 (.tmp 9)),
 .op 2 (.mov 67 (.tmp 0)),
 .op 3 (.mov 68 (.tmp 10)),
 .op 4 (.mov 69 (.tmp 0)),
 .op 5 (.mov 70 (.tmp 10)),
 .op 6 (.iaddr 71 none 1 (.tmp 69) (.tmp 70)),
 .op 7 (.load 72 false 1 (.tmp 71)),
 .op 8 (.mov 73 (.tmp 0)),
 .op 9 (.mov 74 (.tmp 9)),
 .op 10 (.iaddr 75 none 1 (.tmp 73) (.tmp 74)),
 .op 11 (.load 76 false 1 (.tmp 75)),
 .op 12 (.iaddr 77 none 1 (.tmp 65) (.tmp 66)),
 .op 13 (.store false 1 (.tmp 77) (.tmp 72)),
 .op 14 (.iaddr 78 none 1 (.tmp 67) (.tmp 68)),
 .op 15 (.store false 1 (.tmp 78) (.tmp 76))] [])
 (.seq (.region [.op 0 (.mov 79 (.tmp 9)),
 .op 1 (.bin 80 .add .plain (.tmp 79) (.const (.int .i64 1))),
 .op 2 (.mov 9 (.tmp 80))] [])
 (.region [.op 0 (.mov 81 (.tmp 10)),
 .op 1 (.bin 82 .sub .plain (.tmp 81) (.const (.int .i64 1))),
 .op 2 (.mov 10 (.tmp 82))] [])))))))))
 (.seq (.region [.op 0 (.mov 83 (.tmp 9)),
 .op 1 (.mov 8 (.tmp 83))] [])
 .ret))))),
 [.tmp 8]⟩
theorem ok47 : funcOk Try.prog (drawOk Try.prog) Try.f47 A47 = true := by kernel_rfl
/-- xs: t0, t1, t9, t10 -/
noncomputable def L47_1 (call : Go.Fw.Call) (xs : List AVal) (h : Heap) : Option J :=
 (aBin .leq .plain (xs.getD 2 .undef) (xs.getD 3 .undef)).bind fun v15 =>
 (guardV v15 true
 ((aIaddr 1 (xs.getD 0 .undef) (xs.getD 1 .undef)).bind fun v16 =>
 (aLoad h 1 v16).bind fun c17 =>
 (fromCells false c17).bind fun v18 =>
 (aIaddr 1 (xs.getD 0 .undef) (xs.getD 2 .undef)).bind fun v19 =>
 (aLoad h 1 v19).bind fun c20 =>
 (fromCells false c20).bind fun v21 =>
 (call 46 [v18, v21] h).bind fun r22 =>
 (aUn .not r22.1).bind fun v23 =>
 some (0, [v23], r22.2))
 (some (0, [skipV], h))).bind fun g24 =>
 (aPick v15 (g24.2.1.getD 0 .undef) (.bool false)).bind fun v25 =>
 condV v25
 ((aBin .add .plain (xs.getD 2 .undef) (.int .i64 1)).bind fun v26 =>
 some (0, [(xs.getD 0 .undef), (xs.getD 1 .undef), v26, (xs.getD 3 .undef)], g24.2.2))
 (some (1, [(xs.getD 0 .undef), (xs.getD 1 .undef), (xs.getD 2 .undef), (xs.getD 3 .undef)], g24.2.2))
/-- xs: t0, t1, t9, t10 -/
noncomputable def L47_2 (call : Go.Fw.Call) (xs : List AVal) (h : Heap) : Option J :=
 (aBin .leq .plain (xs.getD 2 .undef) (xs.getD 3 .undef)).bind fun v28 =>
 (guardV v28 true
 ((aIaddr 1 (xs.getD 0 .undef) (xs.getD 1 .undef)).bind fun v29 =>
 (aLoad h 1 v29).bind fun c30 =>
 (fromCells false c30).bind fun v31 =>
 (aIaddr 1 (xs.getD 0 .undef) (xs.getD 3 .undef)).bind fun v32 =>
 (aLoad h 1 v32).bind fun c33 =>
 (fromCells false c33).bind fun v34 =>
 (call 46 [v31, v34] h).bind fun r35 =>
 some (0, [r35.1], r35.2))
 (some (0, [skipV], h))).bind fun g36 =>
 (aPick v28 (g36.2.1.getD 0 .undef) (.bool false)).bind fun v37 =>
 condV v37
 ((aBin .sub .plain (xs.getD 3 .undef) (.int .i64 1)).bind fun v38 =>
 some (0, [(xs.getD 0 .undef), (xs.getD 1 .undef), (xs.getD 2 .undef), v38], g36.2.2))
 (some (1, [(xs.getD 0 .undef), (xs.getD 1 .undef), (xs.getD 2 .undef), (xs.getD 3 .undef)], g36.2.2))
/-- xs: t0, t1, t9, t10 -/
noncomputable def L47_0 (call : Go.Fw.Call) (xs : List AVal) (h : Heap) : Option J :=
 (loop (L47_1 call) [(xs.getD 0 .undef), (xs.getD 1 .undef), (xs.getD 2 .undef), (xs.getD 3 .undef)] h).bind fun x27 =>
 bif Nat.beq x27.1 1 then (loop (L47_2 call) [(x27.2.1.getD 0 .undef), (x27.2.1.getD 1 .undef), (x27.2.1.getD 2 .undef), (x27.2.1.getD 3 .undef)] x27.2.2).bind fun x39 =>
 bif Nat.beq x39.1 1 then (aBin .gtr .plain (x39.2.1.getD 2 .undef) (x39.2.1.getD 3 .undef)).bind fun v40 =>
 condV v40
 (some (1, [(x39.2.1.getD 2 .undef)], x39.2.2))
 ((aIaddr 1 (x39.2.1.getD 0 .undef) (x39.2.1.getD 3 .undef)).bind fun v41 =>
 (aLoad x39.2.2 1 v41).bind fun c42 =>
 (fromCells false c42).bind fun v43 =>
 (aIaddr 1 (x39.2.1.getD 0 .undef) (x39.2.1.getD 2 .undef)).bind fun v44 =>
 (aLoad x39.2.2 1 v44).bind fun c45 =>
 (fromCells false c45).bind fun v46 =>
 (aIaddr 1 (x39.2.1.getD 0 .undef) (x39.2.1.getD 2 .undef)).bind fun v47 =>
 (aCells 1 v43).bind fun c48 =>
 (aStore x39.2.2 v47 c48).bind fun h49 =>
 (aIaddr 1 (x39.2.1.getD 0 .undef) (x39.2.1.getD 3 .undef)).bind fun v50 =>
 (aCells 1 v46).bind fun c51 =>
 (aStore h49 v50 c51).bind fun h52 =>
 (aBin .add .plain (x39.2.1.getD 2 .undef) (.int .i64 1)).bind fun v53 =>
 (aBin .sub .plain (x39.2.1.getD 3 .undef) (.int .i64 1)).bind fun v54 =>
 some (0, [(x39.2.1.getD 0 .undef), (x39.2.1.getD 1 .undef), v53, v54], h52)) else
 none else
 none
noncomputable def S47 (call : Go.Fw.Call) (a0 a1 a2 a3 : AVal) (h : Heap) : Option J :=
 (aIaddr 1 a0 a3).bind fun v1 =>
 (aLoad h 1 v1).bind fun c2 =>
 (fromCells false c2).bind fun v3 =>
 (aIaddr 1 a0 a1).bind fun v4 =>
 (aLoad h 1 v4).bind fun c5 =>
 (fromCells false c5).bind fun v6 =>
 (aIaddr 1 a0 a1).bind fun v7 =>
 (aCells 1 v3).bind fun c8 =>
 (aStore h v7 c8).bind fun h9 =>
 (aIaddr 1 a0 a3).bind fun v10 =>
 (aCells 1 v6).bind fun c11 =>
 (aStore h9 v10 c11).bind fun h12 =>
 (aBin .add .plain a1 (.int .i64 1)).bind fun v13 =>
 (aBin .sub .plain a2 (.int .i64 1)).bind fun v14 =>
 (loop (L47_0 call) [a0, a1, v13, v14] h12).bind fun x55 =>
 bif Nat.beq x55.1 1 then some (0, [(x55.2.1.getD 0 .undef)], x55.2.2) else
 none
theorem run47 (call : Go.Fw.Call) (a0 a1 a2 a3 : AVal) (h : Heap) : runFn call (.code A47) [a0, a1, a2, a3] h = (S47 call a0 a1 a2 a3 h).bind ansOf := by kernel_rfl

/-- slices.partitionOrdered[string] -/
noncomputable def A48 : AFunc := ⟨4, (.seq (.region [.op 0 (.mov 8 (.const (.int .i64 0))),
 .op 1 (.mov 9 (.const (.bool false)))] [])
 (.seq (.region [.op 0 (.mov 12 (.tmp 0)),
 .op 1 (.mov 13 (.tmp 1)),
 .op 2 (.mov 14 (.tmp 0)),
 .op 3 (.mov 15 (.tmp 3)),
 .op 4 (.mov 16 (.tmp 0)),
 .op 5 (.mov 17 (.tmp 3)),
 .op 6 (.iaddr 18 none 1 (.tmp 16) (.tmp 17)),
 .op 7 (.load 19 false 1 (.tmp 18)),
 .op 8 (.mov 20 (.tmp 0)),
 .op 9 (.mov 21 (.tmp 1)),
 .op 10 (.iaddr 22 none 1 (.tmp 20) (.tmp 21)),
 .op 11 (.load 23 false 1 (.tmp 22)),
 .op 12 (.iaddr 24 none 1 (.tmp 12) (.tmp 13)),
 .op 13 (.store false 1 (.tmp 24) (.tmp 19)),
 .op 14 (.iaddr 25 none 1 (.tmp 14) (.tmp 15)),
 .op 15 (.store false 1 (.tmp 25) (.tmp 23))] [])
 (.seq (.region [.op 0 (.mov 26 (.tmp 1)),
 .op 1 (.bin 27 .add .plain (.tmp 26) (.const (.int .i64 1))),
 .op 2 (.mov 28 (.tmp 2)),
 .op 3 (.bin 29 .sub .plain (.tmp 28) (.const (.int .i64 1))),
 .op 4 (.mov 10 (.tmp 27)),
 .op 5 (.mov 11 (.tmp 29))] [])
 (.seq (.block 0 (.loop ⟨[0, 1, 10, 11], []⟩ [((.exit 0), ⟨[0, 1, 10, 11], []⟩)]
 (.seq (.seq (.region [.op 0 (.mov 30 (.tmp 10)),
 .op 1 (.mov 31 (.tmp 11)),
 .op 2 (.bin 32 .leq .plain (.tmp 30) (.tmp 31)),
 .op 3 (.mov 33 (.tmp 32)),
 .guard 33 true [.op 4 (.mov 34 (.tmp 0)),
 .op 5 (.mov 35 (.tmp 10)),
 .op 6 (.iaddr 36 none 1 (.tmp 34) (.tmp 35)),
 .op 7 (.load 37 false 1 (.tmp 36)),
 .op 8 (.mov 38 (.tmp 0)),
 .op 9 (.mov 39 (.tmp 1)),
 .op 10 (.iaddr 40 none 1 (.tmp 38) (.tmp 39)),
 .op 11 (.load 41 false 1 (.tmp 40)),
 .op 12 (.call 42 46 [.tmp 37, .tmp 41])] [] [42],
 .op 13 (.pick 43 (.tmp 33) (.tmp 42) (.const (.bool false)))] [])
 (.cond (.tmp 43)
 .skip
 (.exit 0)))
 (.block 1 (.region [.op 0 (.mov 44 (.tmp 10)),
 .op 1 (.bin 45 .add .plain (.tmp 44) (.const (.int .i64 1))),
 .op 2 (.mov 10 (.tmp 45))] [])))))
 (.seq (.block 2 (.loop ⟨[0, 1, 10, 11], []⟩ [((.exit 2), ⟨[0, 1, 10, 11], []⟩)]
 (.seq (.seq (.region [.op 0 (.mov 46 (.tmp 10)),
 .op 1 (.mov 47 (.tmp 11)),
 .op 2 (.bin 48 .leq .plain (.tmp 46) (.tmp 47)),
 .op 3 (.mov 49 (.tmp 48)),
 .guard 49 true [.op 4 (.mov 50 (.tmp 0)),
 .op 5 (.mov 51 (.tmp 11)),
 .op 6 (.iaddr 52 none 1 (.tmp 50) (.tmp 51)),
 .op 7 (.load 53 false 1 (.tmp 52)),
 .op 8 (.mov 54 (.tmp 0)),
 .op 9 (.mov 55 (.tmp 1)),
 .op 10 (.iaddr 56 none 1 (.tmp 54) (.tmp 55)),
 .op 11 (.load 57 false 1 (.tmp 56)),
 .op 12 (.call 58 46 [.tmp 53, .tmp 57]),
 .op 13 (.un 59 .not (.tmp 58))] [] [59],
 .op 14 (.pick 60 (.tmp 49) (.tmp 59) (.const (.bool false)))] [])
 (.cond (.tmp 60)
 .skip
 (.exit 2)))
 (.block 3 (.region [.op 0 (.mov 61 (.tmp 11)),
 .op 1 (.bin 62 .sub .plain (.tmp 61) (.const (.int .i64 1))),
 .op 2 (.mov 11 (.tmp 62))] [])))))
 (.seq (.seq (.region [.op 0 (.mov 63 (.tmp 10)),
 .op 1 (.mov 64 (.tmp 11)),
 .op 2 (.bin 65 .gtr .plain (.tmp 63) (.tmp 64))] [])
 (.cond (.tmp 65)
 (.seq (.region [.op 0 (.mov 66 (.tmp 0)),
 .op 1 (.mov 67 (.tmp 11)),
 .op 2 (.mov 68 (.tmp 0)),
 .op 3 (.mov 69 (.tmp 1)),
 .op 4 (.mov 70 (.tmp 0)),
 .op 5 (.mov 71 (.tmp 1)),
 .op 6 (.iaddr 72 none 1 (.tmp 70) (.tmp 71)),
 .op 7 (.load 73 false 1 (.tmp 72)),
 .op 8 (.mov 74 (.tmp 0)),
 .op 9 (.mov 75 (.tmp 11)),
 .op 10 (.iaddr 76 none 1 (.tmp 74) (.tmp 75)),
 .op 11 (.load 77 false 1 (.tmp 76)),
 .op 12 (.iaddr 78 none 1 (.tmp 66) (.tmp 67)),
 .op 13 (.store false 1 (.tmp 78) (.tmp 73)),
 .op 14 (.iaddr 79 none 1 (.tmp 68) (.tmp 69)),
 .op 15 (.store false 1 (.tmp 79) (.tmp 77))] [])
 (.seq (.region [.op 0 (.mov 80 (.tmp 11)),
 .op 1 (.mov 8 (.tmp 80)),
 .op 2 (.mov 9 (.const (.bool true)))] [])
 .ret))
 .skip))
 (.seq (.region [.op 0 (.mov 81 (.tmp 0)),
 .op 1 (.mov 82 (.tmp 10)),
 .op 2 (.mov 83 (.tmp 0)),
 .op 3 (.mov 84 (.tmp 11)),
 .op 4 (.mov 85 (.tmp 0)),
 .op 5 (.mov 86 (.tmp 11)),
 .op 6 (.iaddr 87 none 1 (.tmp 85) (.tmp 86)),
 .op 7 (.load 88 false 1 (.tmp 87)),
 .op 8 (.mov 89 (.tmp 0)),
 .op 9 (.mov 90 (.tmp 10)),
 .op 10 (.iaddr 91 none 1 (.tmp 89) (.tmp 90)),
 .op 11 (.load 92 false 1 (.tmp 91)),
 .op 12 (.iaddr 93 none 1 (.tmp 81) (.tmp 82)),
 .op 13 (.store false 1 (.tmp 93) (.tmp 88)),
 .op 14 (.iaddr 94 none 1 (.tmp 83) (.tmp 84)),
 .op 15 (.store false 1 (.tmp 94) (.tmp 92))] [])
 (.seq (.region [.op 0 (.mov 95 (.tmp 10)),
 .op 1 (.bin 96 .add .plain (.tmp 95) (.const (.int .i64 1))),
 .op 2 (.mov 10 (.tmp 96))] [])
 (.seq (.region [.op 0 (.mov 97 (.tmp 11)),
 .op 1 (.bin 98 .sub .plain (.tmp 97) (.const (.int .i64 1))),
 .op 2 (.mov 11 (.tmp 98))] [])
 (.seq (.block 4 (.loop ⟨[0, 1, 10, 11], []⟩ [((.exit 4), ⟨[0, 1, 11], []⟩)]
 (.block 5 (.seq (.block 6 (.loop ⟨[0, 1, 10, 11], []⟩ [((.exit 6), ⟨[0, 1, 10, 11], []⟩)]
 (.seq (.seq (.region [.op 0 (.mov 99 (.tmp 10)),
 .op 1 (.mov 100 (.tmp 11)),
 .op 2 (.bin 101 .leq .plain (.tmp 99) (.tmp 100)),
 .op 3 (.mov 102 (.tmp 101)),
 .guard 102 true [.op 4 (.mov 103 (.tmp 0)),
 .op 5 (.mov 104 (.tmp 10)),
 .op 6 (.iaddr 105 none 1 (.tmp 103) (.tmp 104)),
 .op 7 (.load 106 false 1 (.tmp 105)),
 .op 8 (.mov 107 (.tmp 0)),
 .op 9 (.mov 108 (.tmp 1)),
 .op 10 (.iaddr 109 none 1 (.tmp 107) (.tmp 108)),
 .op 11 (.load 110 false 1 (.tmp 109)),
 .op 12 (.call 111 46 [.tmp 106, .tmp 110])] [] [111],
 .op 13 (.pick 112 (.tmp 102) (.tmp 111) (.const (.bool false)))] [])
 (.cond (.tmp 112)
 .skip
 (.exit 6)))
 (.block 7 (.region [.op 0 (.mov 113 (.tmp 10)),
 .op 1 (.bin 114 .add .plain (.tmp 113) (.const (.int .i64 1))),
 .op 2 (.mov 10 (.tmp 114))] [])))))
 (.seq (.block 8 (.loop ⟨[0, 1, 10, 11], []⟩ [((.exit 8), ⟨[0, 1, 10, 11], []⟩)]
 (.seq (.seq (.region [.op 0 (.mov 115 (.tmp 10)),
 .op 1 (.mov 116 (.tmp 11)),
 .op 2 (.bin 117 .leq .plain (.tmp 115) (.tmp 116)),
 .op 3 (.mov 118 (.tmp 117)),
 .guard 118 true [.op 4 (.mov 119 (.tmp 0)),
 .op 5 (.mov 120 (.tmp 11)),
 .op 6 (.iaddr 121 none 1 (.tmp 119) (.tmp 120)),
 .op 7 (.load 122 false 1 (.tmp 121)),
 .op 8 (.mov 123 (.tmp 0)),
 .op 9 (.mov 124 (.tmp 1)),
 .op 10 (.iaddr 125 none 1 (.tmp 123) (.tmp 124)),
 .op 11 (.load 126 false 1 (.tmp 125)),
 .op 12 (.call 127 46 [.tmp 122, .tmp 126]),
 .op 13 (.un 128 .not (.tmp 127))] [] [128],
 .op 14 (.pick 129 (.tmp 118) (.tmp 128) (.const (.bool false)))] [])
 (.cond (.tmp 129)
 .skip
 (.exit 8)))
 (.block 9 (.region [.op 0 (.mov 130 (.tmp 11)),
 .op 1 (.bin 131 .sub .plain (.tmp 130) (.const (.int .i64 1))),
 .op 2 (.mov 11 (.tmp 131))] [])))))
 (.seq (.seq (.region [.op 0 (.mov 132 (.tmp 10)),
 .op 1 (.mov 133 (.tmp 11)),
 .op 2 (.bin 134 .gtr .plain (.tmp 132) (.tmp 133))] [])
 (.cond (.tmp 134)
 (.exit 4)
 .skip))
 (.seq (.region [.op 0 (.mov 135 (.tmp 0)),
 .op 1 (.mov 136 (.tmp 10)),
 .op 2 (.mov 137 (.tmp 0)),
 .op 3 (.mov 138 (.tmp 11)),
 .op 4 (.mov 139 (.tmp 0)),
 .op 5 (.mov 140 (.tmp 11)),
 .op 6 (.iaddr 141 none 1 (.tmp 139) (.tmp 140)),
 .op 7 (.load 142 false 1 (.tmp 141)),
 .op 8 (.mov 143 (.tmp 0)),
 .op 9 (.mov 144 (.tmp 10)),
 .op 10 (.iaddr 145 none 1 (.tmp 143) (.tmp 144)),
 .op 11 (.load 146 false 1 (.tmp 145)),
 .op 12 (.iaddr 147 none 1 (.tmp 135) (.tmp 136)),
 .op 13 (.store false 1 (.tmp 147) (.tmp 142)),
 .op 14 (.iaddr 148 none 1 (.tmp 137) (.tmp 138)),
 .op 15 (.store false 1 (.tmp 148) (.tmp 146))] [])
 (.seq (.region [.op 0 (.mov 149 (.tmp 10)),
 .op 1 (.bin 150 .add .plain (.tmp 149) (.const (.int .i64 1))),
 .op 2 (.mov 10 (.tmp 150))] [])
 (.region [.op 0 (.mov 151 (.tmp 11)),
 .op 1 (.bin 152 .sub .plain (.tmp 151) (.const (.int .i64 1))),
 .op 2 (.mov 11 (.tmp 152))] [])))))))))
 (.seq (.region [.op 0 (.mov 153 (.tmp 0)),
 .op 1 (.mov 154 (.tmp 11)),
 .op 2 (.mov 155 (.tmp 0)),
 .op 3 (.mov 156 (.tmp 1)),
 .op 4 (.mov 157 (.tmp 0)),
 .op 5 (.mov 158 (.tmp 1)),
 .op 6 (.iaddr 159 none 1 (.tmp 157) (.tmp 158)),
 .op 7 (.load 160 false 1 (.tmp 159)),
 .op 8 (.mov 161 (.tmp 0)),
 .op 9 (.mov 162 (.tmp 11)),
 .op 10 (.iaddr 163 none 1 (.tmp 161) (.tmp 162)),
 .op 11 (.load 164 false 1 (.tmp 163)),
 .op 12 (.iaddr 165 none 1 (.tmp 153) (.tmp 154)),
 .op 13 (.store false 1 (.tmp 165) (.tmp 160)),
 .op 14 (.iaddr 166 none 1 (.tmp 155) (.tmp 156)),
 .op 15 (.store false 1 (.tmp 166) (.tmp 164))] [])
 (.seq (.region [.op 0 (.mov 167 (.tmp 11)),
 .op 1 (.mov 8 (.tmp 167)),
 .op 2 (.mov 9 (.const (.bool false)))] [])
 .ret)))))))))))),
 [.tmp 8, .tmp 9]⟩
theorem ok48 : funcOk Try.prog (drawOk Try.prog) Try.f48 A48 = true := by kernel_rfl
/-- xs: t0, t1, t10, t11 -/
noncomputable def L48_0 (call : Go.Fw.Call) (xs : List AVal) (h : Heap) : Option J :=
 (aBin .leq .plain (xs.getD 2 .undef) (xs.getD 3 .undef)).bind fun v15 =>
 (guardV v15 true
 ((aIaddr 1 (xs.getD 0 .undef) (xs.getD 2 .undef)).bind fun v16 =>
 (aLoad h 1 v16).bind fun c17 =>
 (fromCells false c17).bind fun v18 =>
 (aIaddr 1 (xs.getD 0 .undef) (xs.getD 1 .undef)).bind fun v19 =>
 (aLoad h 1 v19).bind fun c20 =>
 (fromCells false c20).bind fun v21 =>
 (call 46 [v18, v21] h).bind fun r22 =>
 some (0, [r22.1], r22.2))
 (some (0, [skipV], h))).bind fun g23 =>
 (aPick v15 (g23.2.1.getD 0 .undef) (.bool false)).bind fun v24 =>
 condV v24
 ((aBin .add .plain (xs.getD 2 .undef) (.int .i64 1)).bind fun v25 =>
 some (0, [(xs.getD 0 .undef), (xs.getD 1 .undef), v25, (xs.getD 3 .undef)], g23.2.2))
 (some (1, [(xs.getD 0 .undef), (xs.getD 1 .undef), (xs.getD 2 .undef), (xs.getD 3 .undef)], g23.2.2))
/-- xs: t0, t1, t10, t11 -/
noncomputable def L48_1 (call : Go.Fw.Call) (xs : List AVal) (h : Heap) : Option J :=
 (aBin .leq .plain (xs.getD 2 .undef) (xs.getD 3 .undef)).bind fun v27 =>
 (guardV v27 true
 ((aIaddr 1 (xs.getD 0 .undef) (xs.getD 3 .undef)).bind fun v28 =>
 (aLoad h 1 v28).bind fun c29 =>
 (fromCells false c29).bind fun v30 =>
 (aIaddr 1 (xs.getD 0 .undef) (xs.getD 1 .undef)).bind fun v31 =>
 (aLoad h 1 v31).bind fun c32 =>
 (fromCells false c32).bind fun v33 =>
 (call 46 [v30, v33] h).bind fun r34 =>
 (aUn .not r34.1).bind fun v35 =>
 some (0, [v35], r34.2))
 (some (0, [skipV], h))).bind fun g36 =>
 (aPick v27 (g36.2.1.getD 0 .undef) (.bool false)).bind fun v37 =>
 condV v37
 ((aBin .sub .plain (xs.getD 3 .undef) (.int .i64 1)).bind fun v38 =>
 some (0, [(xs.getD 0 .undef), (xs.getD 1 .undef), (xs.getD 2 .undef), v38], g36.2.2))
 (some (1, [(xs.getD 0 .undef), (xs.getD 1 .undef), (xs.getD 2 .undef), (xs.getD 3 .undef)], g36.2.2))
/-- xs: t0, t1, t10, t11 -/
noncomputable def L48_3 (call : Go.Fw.Call) (xs : List AVal) (h : Heap) : Option J :=
 (aBin .leq .plain (xs.getD 2 .undef) (xs.getD 3 .undef)).bind fun v67 =>
 (guardV v67 true
 ((aIaddr 1 (xs.getD 0 .undef) (xs.getD 2 .undef)).bind fun v68 =>
 (aLoad h 1 v68).bind fun c69 =>
 (fromCells false c69).bind fun v70 =>
 (aIaddr 1 (xs.getD 0 .undef) (xs.getD 1 .undef)).bind fun v71 =>
 (aLoad h 1 v71).bind fun c72 =>
 (fromCells false c72).bind fun v73 =>
 (call 46 [v70, v73] h).bind fun r74 =>
 some (0, [r74.1], r74.2))
 (some (0, [skipV], h))).bind fun g75 =>
 (aPick v67 (g75.2.1.getD 0 .undef) (.bool false)).bind fun v76 =>
 condV v76
 ((aBin .add .plain (xs.getD 2 .undef) (.int .i64 1)).bind fun v77 =>
 some (0, [(xs.getD 0 .undef), (xs.getD 1 .undef), v77, (xs.getD 3 .undef)], g75.2.2))
 (some (1, [(xs.getD 0 .undef), (xs.getD 1 .undef), (xs.getD 2 .undef), (xs.getD 3 .undef)], g75.2.2))
/-- xs: t0, t1, t10, t11 -/
noncomputable def L48_4 (call : Go.Fw.Call) (xs : List AVal) (h : Heap) : Option J :=
 (aBin .leq .plain (xs.getD 2 .undef) (xs.getD 3 .undef)).bind fun v79 =>
 (guardV v79 true
 ((aIaddr 1 (xs.getD 0 .undef) (xs.getD 3 .undef)).bind fun v80 =>
 (aLoad h 1 v80).bind fun c81 =>
 (fromCells false c81).bind fun v82 =>
 (aIaddr 1 (xs.getD 0 .undef) (xs.getD 1 .undef)).bind fun v83 =>
 (aLoad h 1 v83).bind fun c84 =>
 (fromCells false c84).bind fun v85 =>
 (call 46 [v82, v85] h).bind fun r86 =>
 (aUn .not r86.1).bind fun v87 =>
 some (0, [v87], r86.2))
 (some (0, [skipV], h))).bind fun g88 =>
 (aPick v79 (g88.2.1.getD 0 .undef) (.bool false)).bind fun v89 =>
 condV v89
 ((aBin .sub .plain (xs.getD 3 .undef) (.int .i64 1)).bind fun v90 =>
 some (0, [(xs.getD 0 .undef), (xs.getD 1 .undef), (xs.getD 2 .undef), v90], g88.2.2))
 (some (1, [(xs.getD 0 .undef), (xs.getD 1 .undef), (xs.getD 2 .undef), (xs.getD 3 .undef)], g88.2.2))
/-- xs: t0, t1, t10, t11 -/
noncomputable def L48_2 (call : Go.Fw.Call) (xs : List AVal) (h : Heap) : Option J :=
 (loop (L48_3 call) [(xs.getD 0 .undef), (xs.getD 1 .undef), (xs.getD 2 .undef), (xs.getD 3 .undef)] h).bind fun x78 =>
 bif Nat.beq x78.1 1 then (loop (L48_4 call) [(x78.2.1.getD 0 .undef), (x78.2.1.getD 1 .undef), (x78.2.1.getD 2 .undef), (x78.2.1.getD 3 .undef)] x78.2.2).bind fun x91 =>
 bif Nat.beq x91.1 1 then (aBin .gtr .plain (x91.2.1.getD 2 .undef) (x91.2.1.getD 3 .undef)).bind fun v92 =>
 condV v92
 (some (1, [(x91.2.1.getD 0 .undef), (x91.2.1.getD 1 .undef), (x91.2.1.getD 3 .undef)], x91.2.2))
 ((aIaddr 1 (x91.2.1.getD 0 .undef) (x91.2.1.getD 3 .undef)).bind fun v93 =>
 (aLoad x91.2.2 1 v93).bind fun c94 =>
 (fromCells false c94).bind fun v95 =>
 (aIaddr 1 (x91.2.1.getD 0 .undef) (x91.2.1.getD 2 .undef)).bind fun v96 =>
 (aLoad x91.2.2 1 v96).bind fun c97 =>
 (fromCells false c97).bind fun v98 =>
 (aIaddr 1 (x91.2.1.getD 0 .undef) (x91.2.1.getD 2 .undef)).bind fun v99 =>
 (aCells 1 v95).bind fun c100 =>
 (aStore x91.2.2 v99 c100).bind fun h101 =>
 (aIaddr 1 (x91.2.1.getD 0 .undef) (x91.2.1.getD 3 .undef)).bind fun v102 =>
 (aCells 1 v98).bind fun c103 =>
 (aStore h101 v102 c103).bind fun h104 =>
 (aBin .add .plain (x91.2.1.getD 2 .undef) (.int .i64 1)).bind fun v105 =>
 (aBin .sub .plain (x91.2.1.getD 3 .undef) (.int .i64 1)).bind fun v106 =>
 some (0, [(x91.2.1.getD 0 .undef), (x91.2.1.getD 1 .undef), v105, v106], h104)) else
 none else
 none
noncomputable def S48 (call : Go.Fw.Call) (a0 a1 a2 a3 : AVal) (h : Heap) : Option J :=
 (aIaddr 1 a0 a3).bind fun v1 =>
 (aLoad h 1 v1).bind fun c2 =>
 (fromCells false c2).bind fun v3 =>
 (aIaddr 1 a0 a1).bind fun v4 =>
 (aLoad h 1 v4).bind fun c5 =>
 (fromCells false c5).bind fun v6 =>
 (aIaddr 1 a0 a1).bind fun v7 =>
 (aCells 1 v3).bind fun c8 =>
 (aStore h v7 c8).bind fun h9 =>
 (aIaddr 1 a0 a3).bind fun v10 =>
 (aCells 1 v6).bind fun c11 =>
 (aStore h9 v10 c11).bind fun h12 =>
 (aBin .add .plain a1 (.int .i64 1)).bind fun v13 =>
 (aBin .sub .plain a2 (.int .i64 1)).bind fun v14 =>
 (loop (L48_0 call) [a0, a1, v13, v14] h12).bind fun x26 =>
 bif Nat.beq x26.1 1 then (loop (L48_1 call) [(x26.2.1.getD 0 .undef), (x26.2.1.getD 1 .undef), (x26.2.1.getD 2 .undef), (x26.2.1.getD 3 .undef)] x26.2.2).bind fun x39 =>
 bif Nat.beq x39.1 1 then (aBin .gtr .plain (x39.2.1.getD 2 .undef) (x39.2.1.getD 3 .undef)).bind fun v40 =>
 condV v40
 ((aIaddr 1 (x39.2.1.getD 0 .undef) (x39.2.1.getD 1 .undef)).bind fun v41 =>
 (aLoad x39.2.2 1 v41).bind fun c42 =>
 (fromCells false c42).bind fun v43 =>
 (aIaddr 1 (x39.2.1.getD 0 .undef) (x39.2.1.getD 3 .undef)).bind fun v44 =>
 (aLoad x39.2.2 1 v44).bind fun c45 =>
 (fromCells false c45).bind fun v46 =>
 (aIaddr 1 (x39.2.1.getD 0 .undef) (x39.2.1.getD 3 .undef)).bind fun v47 =>
 (aCells 1 v43).bind fun c48 =>
 (aStore x39.2.2 v47 c48).bind fun h49 =>
 (aIaddr 1 (x39.2.1.getD 0 .undef) (x39.2.1.getD 1 .undef)).bind fun v50 =>
 (aCells 1 v46).bind fun c51 =>
 (aStore h49 v50 c51).bind fun h52 =>
 some (0, [.tuple [(x39.2.1.getD 3 .undef), (.bool true)]], h52))
 ((aIaddr 1 (x39.2.1.getD 0 .undef) (x39.2.1.getD 3 .undef)).bind fun v53 =>
 (aLoad x39.2.2 1 v53).bind fun c54 =>
 (fromCells false c54).bind fun v55 =>
 (aIaddr 1 (x39.2.1.getD 0 .undef) (x39.2.1.getD 2 .undef)).bind fun v56 =>
 (aLoad x39.2.2 1 v56).bind fun c57 =>
 (fromCells false c57).bind fun v58 =>
 (aIaddr 1 (x39.2.1.getD 0 .undef) (x39.2.1.getD 2 .undef)).bind fun v59 =>
 (aCells 1 v55).bind fun c60 =>
 (aStore x39.2.2 v59 c60).bind fun h61 =>
 (aIaddr 1 (x39.2.1.getD 0 .undef) (x39.2.1.getD 3 .undef)).bind fun v62 =>
 (aCells 1 v58).bind fun c63 =>
 (aStore h61 v62 c63).bind fun h64 =>
 (aBin .add .plain (x39.2.1.getD 2 .undef) (.int .i64 1)).bind fun v65 =>
 (aBin .sub .plain (x39.2.1.getD 3 .undef) (.int .i64 1)).bind fun v66 =>
 (loop (L48_2 call) [(x39.2.1.getD 0 .undef), (x39.2.1.getD 1 .undef), v65, v66] h64).bind fun x107 =>
 bif Nat.beq x107.1 1 then (aIaddr 1 (x107.2.1.getD 0 .undef) (x107.2.1.getD 1 .undef)).bind fun v108 =>
 (aLoad x107.2.2 1 v108).bind fun c109 =>
 (fromCells false c109).bind fun v110 =>
 (aIaddr 1 (x107.2.1.getD 0 .undef) (x107.2.1.getD 2 .undef)).bind fun v111 =>
 (aLoad x107.2.2 1 v111).bind fun c112 =>
 (fromCells false c112).bind fun v113 =>
 (aIaddr 1 (x107.2.1.getD 0 .undef) (x107.2.1.getD 2 .undef)).bind fun v114 =>
 (aCells 1 v110).bind fun c115 =>
 (aStore x107.2.2 v114 c115).bind fun h116 =>
 (aIaddr 1 (x107.2.1.getD 0 .undef) (x107.2.1.getD 1 .undef)).bind fun v117 =>
 (aCells 1 v113).bind fun c118 =>
 (aStore h116 v117 c118).bind fun h119 =>
 some (0, [.tuple [(x107.2.1.getD 2 .undef), (.bool false)]], h119) else
 none) else
 none else
 none
theorem run48 (call : Go.Fw.Call) (a0 a1 a2 a3 : AVal) (h : Heap) : runFn call (.code A48) [a0, a1, a2, a3] h = (S48 call a0 a1 a2 a3 h).bind ansOf := by kernel_rfl

/-- math/bits.Len32 -/
noncomputable def A49 : AFunc := ⟨1, (.seq (.region [.op 0 (.mov 2 (.const (.int .i64 0)))] [])
 (.seq (.seq (.region [.op 0 (.mov 3 (.tmp 0)),
 .op 1 (.bin 4 .geq .plain (.tmp 3) (.const (.int .u32 65536)))] [])
 (.join [(.normal, ⟨[0, 2], []⟩)] (.cond (.tmp 4)
 (.seq (.region [.op 0 (.mov 5 (.tmp 0)),
 .op 1 (.bin 6 .shr .plain (.tmp 5) (.const (.int .u64 16))),
 .op 2 (.mov 0 (.tmp 6))] [])
 (.region [.op 0 (.mov 2 (.const (.int .i64 16)))] []))
 .skip)))
 (.seq (.seq (.region [.op 0 (.mov 7 (.tmp 0)),
 .op 1 (.bin 8 .geq .plain (.tmp 7) (.const (.int .u32 256)))] [])
 (.join [(.normal, ⟨[0, 2], []⟩)] (.cond (.tmp 8)
 (.seq (.region [.op 0 (.mov 9 (.tmp 0)),
 .op 1 (.bin 10 .shr .plain (.tmp 9) (.const (.int .u64 8))),
 .op 2 (.mov 0 (.tmp 10))] [])
 (.region [.op 0 (.mov 11 (.tmp 2)),
 .op 1 (.bin 12 .add .plain (.tmp 11) (.const (.int .i64 8))),
 .op 2 (.mov 2 (.tmp 12))] []))
 .skip)))
 (.seq (.region [.op 0 (.mov 13 (.tmp 2)),
 .op 1 (.mov 14 (.tmp 0)),
 .op 2 (.conv 15 (.toInt .u8) (.tmp 14)),
 .op 3 (.index 16 .str (.const (.str [0, 1, 2, 2, 3, 3, 3, 3, 4, 4, 4, 4, 4, 4, 4, 4, 5, 5, 5, 5, 5, 5, 5, 5, 5, 5, 5, 5, 5, 5, 5, 5, 6, 6, 6, 6, 6, 6, 6, 6, 6, 6, 6, 6, 6, 6, 6, 6, 6, 6, 6, 6, 6, 6, 6, 6, 6, 6, 6, 6, 6, 6, 6, 6, 7, 7, 7, 7, 7, 7, 7, 7, 7, 7, 7, 7, 7, 7, 7, 7, 7, 7, 7, 7, 7, 7, 7, 7, 7, 7, 7, 7, 7, 7, 7, 7, 7, 7, 7, 7, 7, 7, 7, 7, 7, 7, 7, 7, 7, 7, 7, 7, 7, 7, 7, 7, 7, 7, 7, 7, 7, 7, 7, 7, 7, 7, 7, 7, 8, 8, 8, 8, 8, 8, 8, 8, 8, 8, 8, 8, 8, 8, 8, 8, 8, 8, 8, 8, 8, 8, 8, 8, 8, 8, 8, 8, 8, 8, 8, 8, 8, 8, 8, 8, 8, 8, 8, 8, 8, 8, 8, 8, 8, 8, 8, 8, 8, 8, 8, 8, 8, 8, 8, 8, 8, 8, 8, 8, 8, 8, 8, 8, 8, 8, 8, 8, 8, 8, 8, 8, 8, 8, 8, 8, 8, 8, 8, 8, 8, 8, 8, 8, 8, 8, 8, 8, 8, 8, 8, 8, 8, 8, 8, 8, 8, 8, 8, 8, 8, 8, 8, 8, 8, 8, 8, 8, 8, 8, 8, 8, 8, 8, 8, 8, 8, 8, 8, 8, 8, 8, 8, 8, 8, 8, 8, 8])) (.tmp 15)),
 .op 4 (.conv 17 (.toInt .i64) (.tmp 16)),
 .op 5 (.bin 18 .add .plain (.tmp 13) (.tmp 17)),
 .op 6 (.mov 2 (.tmp 18))] [])
 .ret)))),
 [.tmp 2]⟩
theorem ok49 : funcOk Try.prog (drawOk Try.prog) Try.f49 A49 = true := by kernel_rfl
noncomputable def S49 (call : Go.Fw.Call) (a0 : AVal) (h : Heap) : Option J :=
 (aBin .geq .plain a0 (.int .u32 65536)).bind fun v1 =>
 (condV v1
 ((aBin .shr .plain a0 (.int .u64 16)).bind fun v2 =>
 some (0, [v2, (.int .i64 16)], h))
 (some (0, [a0, (.int .i64 0)], h))).bind fun x3 =>
 bif Nat.beq x3.1 0 then (aBin .geq .plain (x3.2.1.getD 0 .undef) (.int .u32 256)).bind fun v4 =>
 (condV v4
 ((aBin .shr .plain (x3.2.1.getD 0 .undef) (.int .u64 8)).bind fun v5 =>
 (aBin .add .plain (x3.2.1.getD 1 .undef) (.int .i64 8)).bind fun v6 =>
 some (0, [v5, v6], x3.2.2))
 (some (0, [(x3.2.1.getD 0 .undef), (x3.2.1.getD 1 .undef)], x3.2.2))).bind fun x7 =>
 bif Nat.beq x7.1 0 then (aConv (.toInt .u8) (x7.2.1.getD 0 .undef) x7.2.2).bind fun r8 =>
 (aIndexStr (.str [0, 1, 2, 2, 3, 3, 3, 3, 4, 4, 4, 4, 4, 4, 4, 4, 5, 5, 5, 5, 5, 5, 5, 5, 5, 5, 5, 5, 5, 5, 5, 5, 6, 6, 6, 6, 6, 6, 6, 6, 6, 6, 6, 6, 6, 6, 6, 6, 6, 6, 6, 6, 6, 6, 6, 6, 6, 6, 6, 6, 6, 6, 6, 6, 7, 7, 7, 7, 7, 7, 7, 7, 7, 7, 7, 7, 7, 7, 7, 7, 7, 7, 7, 7, 7, 7, 7, 7, 7, 7, 7, 7, 7, 7, 7, 7, 7, 7, 7, 7, 7, 7, 7, 7, 7, 7, 7, 7, 7, 7, 7, 7, 7, 7, 7, 7, 7, 7, 7, 7, 7, 7, 7, 7, 7, 7, 7, 7, 8, 8, 8, 8, 8, 8, 8, 8, 8, 8, 8, 8, 8, 8, 8, 8, 8, 8, 8, 8, 8, 8, 8, 8, 8, 8, 8, 8, 8, 8, 8, 8, 8, 8, 8, 8, 8, 8, 8, 8, 8, 8, 8, 8, 8, 8, 8, 8, 8, 8, 8, 8, 8, 8, 8, 8, 8, 8, 8, 8, 8, 8, 8, 8, 8, 8, 8, 8, 8, 8, 8, 8, 8, 8, 8, 8, 8, 8, 8, 8, 8, 8, 8, 8, 8, 8, 8, 8, 8, 8, 8, 8, 8, 8, 8, 8, 8, 8, 8, 8, 8, 8, 8, 8, 8, 8, 8, 8, 8, 8, 8, 8, 8, 8, 8, 8, 8, 8, 8, 8, 8, 8, 8, 8, 8, 8, 8, 8]) r8.1).bind fun v9 =>
 (aConv (.toInt .i64) v9 r8.2).bind fun r10 =>
 (aBin .add .plain (x7.2.1.getD 1 .undef) r10.1).bind fun v11 =>
 some (0, [v11], r10.2) else
 none else
 none
theorem run49 (call : Go.Fw.Call) (a0 : AVal) (h : Heap) : runFn call (.code A49) [a0] h = (S49 call a0 h).bind ansOf := by kernel_rfl

/-- math/bits.Len64 -/
noncomputable def A50 : AFunc := ⟨1, (.seq (.region [.op 0 (.mov 2 (.const (.int .i64 0)))] [])
 (.seq (.seq (.region [.op 0 (.mov 3 (.tmp 0)),
 .op 1 (.bin 4 .geq .plain (.tmp 3) (.const (.int .u64 4294967296)))] [])
 (.join [(.normal, ⟨[0, 2], []⟩)] (.cond (.tmp 4)
 (.seq (.region [.op 0 (.mov 5 (.tmp 0)),
 .op 1 (.bin 6 .shr .plain (.tmp 5) (.const (.int .u64 32))),
 .op 2 (.mov 0 (.tmp 6))] [])
 (.region [.op 0 (.mov 2 (.const (.int .i64 32)))] []))
 .skip)))
 (.seq (.seq (.region [.op 0 (.mov 7 (.tmp 0)),
 .op 1 (.bin 8 .geq .plain (.tmp 7) (.const (.int .u64 65536)))] [])
 (.join [(.normal, ⟨[0, 2], []⟩)] (.cond (.tmp 8)
 (.seq (.region [.op 0 (.mov 9 (.tmp 0)),
 .op 1 (.bin 10 .shr .plain (.tmp 9) (.const (.int .u64 16))),
 .op 2 (.mov 0 (.tmp 10))] [])
 (.region [.op 0 (.mov 11 (.tmp 2)),
 .op 1 (.bin 12 .add .plain (.tmp 11) (.const (.int .i64 16))),
 .op 2 (.mov 2 (.tmp 12))] []))
 .skip)))
 (.seq (.seq (.region [.op 0 (.mov 13 (.tmp 0)),
 .op 1 (.bin 14 .geq .plain (.tmp 13) (.const (.int .u64 256)))] [])
 (.join [(.normal, ⟨[0, 2], []⟩)] (.cond (.tmp 14)
 (.seq (.region [.op 0 (.mov 15 (.tmp 0)),
 .op 1 (.bin 16 .shr .plain (.tmp 15) (.const (.int .u64 8))),
 .op 2 (.mov 0 (.tmp 16))] [])
 (.region [.op 0 (.mov 17 (.tmp 2)),
 .op 1 (.bin 18 .add .plain (.tmp 17) (.const (.int .i64 8))),
 .op 2 (.mov 2 (.tmp 18))] []))
 .skip)))
 (.seq (.region [.op 0 (.mov 19 (.tmp 2)),
 .op 1 (.mov 20 (.tmp 0)),
 .op 2 (.conv 21 (.toInt .u8) (.tmp 20)),
 .op 3 (.index 22 .str (.const (.str [0, 1, 2, 2, 3, 3, 3, 3, 4, 4, 4, 4, 4, 4, 4, 4, 5, 5, 5, 5, 5, 5, 5, 5, 5, 5, 5, 5, 5, 5, 5, 5, 6, 6, 6, 6, 6, 6, 6, 6, 6, 6, 6, 6, 6, 6, 6, 6, 6, 6, 6, 6, 6, 6, 6, 6, 6, 6, 6, 6, 6, 6, 6, 6, 7, 7, 7, 7, 7, 7, 7, 7, 7, 7, 7, 7, 7, 7, 7, 7, 7, 7, 7, 7, 7, 7, 7, 7, 7, 7, 7, 7, 7, 7, 7, 7, 7, 7, 7, 7, 7, 7, 7, 7, 7, 7, 7, 7, 7, 7, 7, 7, 7, 7, 7, 7, 7, 7, 7, 7, 7, 7, 7, 7, 7, 7, 7, 7, 8, 8, 8, 8, 8, 8, 8, 8, 8, 8, 8, 8, 8, 8, 8, 8, 8, 8, 8, 8, 8, 8, 8, 8, 8, 8, 8, 8, 8, 8, 8, 8, 8, 8, 8, 8, 8, 8, 8, 8, 8, 8, 8, 8, 8, 8, 8, 8, 8, 8, 8, 8, 8, 8, 8, 8, 8, 8, 8, 8, 8, 8, 8, 8, 8, 8, 8, 8, 8, 8, 8, 8, 8, 8, 8, 8, 8, 8, 8, 8, 8, 8, 8, 8, 8, 8, 8, 8, 8, 8, 8, 8, 8, 8, 8, 8, 8, 8, 8, 8, 8, 8, 8, 8, 8, 8, 8, 8, 8, 8, 8, 8, 8, 8, 8, 8, 8, 8, 8, 8, 8, 8, 8, 8, 8, 8, 8, 8])) (.tmp 21)),
 .op 4 (.conv 23 (.toInt .i64) (.tmp 22)),
 .op 5 (.bin 24 .add .plain (.tmp 19) (.tmp 23)),
 .op 6 (.mov 2 (.tmp 24))] [])
 .ret))))),
 [.tmp 2]⟩
theorem ok50 : funcOk Try.prog (drawOk Try.prog) Try.f50 A50 = true := by kernel_rfl
noncomputable def S50 (call : Go.Fw.Call) (a0 : AVal) (h : Heap) : Option J :=
 (aBin .geq .plain a0 (.int .u64 4294967296)).bind fun v1 =>
 (condV v1
 ((aBin .shr .plain a0 (.int .u64 32)).bind fun v2 =>
 some (0, [v2, (.int .i64 32)], h))
 (some (0, [a0, (.int .i64 0)], h))).bind fun x3 =>
 bif Nat.beq x3.1 0 then (aBin .geq .plain (x3.2.1.getD 0 .undef) (.int .u64 65536)).bind fun v4 =>
 (condV v4
 ((aBin .shr .plain (x3.2.1.getD 0 .undef) (.int .u64 16)).bind fun v5 =>
 (aBin .add .plain (x3.2.1.getD 1 .undef) (.int .i64 16)).bind fun v6 =>
 some (0, [v5, v6], x3.2.2))
 (some (0, [(x3.2.1.getD 0 .undef), (x3.2.1.getD 1 .undef)], x3.2.2))).bind fun x7 =>
 bif Nat.beq x7.1 0 then (aBin .geq .plain (x7.2.1.getD 0 .undef) (.int .u64 256)).bind fun v8 =>
 (condV v8
 ((aBin .shr .plain (x7.2.1.getD 0 .undef) (.int .u64 8)).bind fun v9 =>
 (aBin .add .plain (x7.2.1.getD 1 .undef) (.int .i64 8)).bind fun v10 =>
 some (0, [v9, v10], x7.2.2))
 (some (0, [(x7.2.1.getD 0 .undef), (x7.2.1.getD 1 .undef)], x7.2.2))).bind fun x11 =>
 bif Nat.beq x11.1 0 then (aConv (.toInt .u8) (x11.2.1.getD 0 .undef) x11.2.2).bind fun r12 =>
 (aIndexStr (.str [0, 1, 2, 2, 3, 3, 3, 3, 4, 4, 4, 4, 4, 4, 4, 4, 5, 5, 5, 5, 5, 5, 5, 5, 5, 5, 5, 5, 5, 5, 5, 5, 6, 6, 6, 6, 6, 6, 6, 6, 6, 6, 6, 6, 6, 6, 6, 6, 6, 6, 6, 6, 6, 6, 6, 6, 6, 6, 6, 6, 6, 6, 6, 6, 7, 7, 7, 7, 7, 7, 7, 7, 7, 7, 7, 7, 7, 7, 7, 7, 7, 7, 7, 7, 7, 7, 7, 7, 7, 7, 7, 7, 7, 7, 7, 7, 7, 7, 7, 7, 7, 7, 7, 7, 7, 7, 7, 7, 7, 7, 7, 7, 7, 7, 7, 7, 7, 7, 7, 7, 7, 7, 7, 7, 7, 7, 7, 7, 8, 8, 8, 8, 8, 8, 8, 8, 8, 8, 8, 8, 8, 8, 8, 8, 8, 8, 8, 8, 8, 8, 8, 8, 8, 8, 8, 8, 8, 8, 8, 8, 8, 8, 8, 8, 8, 8, 8, 8, 8, 8, 8, 8, 8, 8, 8, 8, 8, 8, 8, 8, 8, 8, 8, 8, 8, 8, 8, 8, 8, 8, 8, 8, 8, 8, 8, 8, 8, 8, 8, 8, 8, 8, 8, 8, 8, 8, 8, 8, 8, 8, 8, 8, 8, 8, 8, 8, 8, 8, 8, 8, 8, 8, 8, 8, 8, 8, 8, 8, 8, 8, 8, 8, 8, 8, 8, 8, 8, 8, 8, 8, 8, 8, 8, 8, 8, 8, 8, 8, 8, 8, 8, 8, 8, 8, 8, 8]) r12.1).bind fun v13 =>
 (aConv (.toInt .i64) v13 r12.2).bind fun r14 =>
 (aBin .add .plain (x11.2.1.getD 1 .undef) r14.1).bind fun v15 =>
 some (0, [v15], r14.2) else
 none else
 none else
 none
theorem run50 (call : Go.Fw.Call) (a0 : AVal) (h : Heap) : runFn call (.code A50) [a0] h = (S50 call a0 h).bind ansOf := by kernel_rfl

/-- slices.insertionSortCmpFunc[frankpledge/api.Card] -/
noncomputable def A51 : AFunc := ⟨4, (.seq (.region [.op 0 (.mov 10 (.tmp 1)),
 .op 1 (.bin 11 .add .plain (.tmp 10) (.const (.int .i64 1))),
 .op 2 (.mov 8 (.tmp 11))] [])
 (.block 0 (.loop ⟨[0, 1, 2, 3, 8], []⟩ [((.exit 0), ⟨[], []⟩)]
 (.seq (.seq (.region [.op 0 (.mov 12 (.tmp 8)),
 .op 1 (.mov 13 (.tmp 2)),
 .op 2 (.bin 14 .lss .plain (.tmp 12) (.tmp 13))] [])
 (.cond (.tmp 14)
 .skip
 (.exit 0)))
 (.seq (.block 1 (.seq (.region [.op 0 (.mov 17 (.tmp 8)),
 .op 1 (.mov 9 (.tmp 17))] [])
 (.block 2 (.loop ⟨[0, 1, 2, 3, 8, 9], []⟩ [((.exit 2), ⟨[0, 1, 2, 3, 8], []⟩)]
 (.seq (.seq (.region [.op 0 (.mov 18 (.tmp 9)),
 .op 1 (.mov 19 (.tmp 1)),
 .op 2 (.bin 20 .gtr .plain (.tmp 18) (.tmp 19)),
 .op 3 (.mov 21 (.tmp 20)),
 .guard 21 true [.op 4 (.mov 22 (.tmp 3)),
 .op 5 (.mov 23 (.tmp 0)),
 .op 6 (.mov 24 (.tmp 9)),
 .op 7 (.iaddr 25 none 9 (.tmp 23) (.tmp 24)),
 .op 8 (.load 26 true 9 (.tmp 25)),
 .op 9 (.mov 27 (.tmp 0)),
 .op 10 (.mov 28 (.tmp 9)),
 .op 11 (.bin 29 .sub .plain (.tmp 28) (.const (.int .i64 1))),
 .op 12 (.iaddr 30 none 9 (.tmp 27) (.tmp 29)),
 .op 13 (.load 31 true 9 (.tmp 30)),
 .op 14 (.callv 32 (.tmp 22) [.tmp 26, .tmp 31]),
 .op 15 (.bin 33 .lss .plain (.tmp 32) (.const (.int .i64 0)))] [] [33],
 .op 16 (.pick 34 (.tmp 21) (.tmp 33) (.const (.bool false)))] [])
 (.cond (.tmp 34)
 .skip
 (.exit 2)))
 (.seq (.block 3 (.region [.op 0 (.mov 37 (.tmp 0)),
 .op 1 (.mov 38 (.tmp 9)),
 .op 2 (.mov 39 (.tmp 0)),
 .op 3 (.mov 40 (.tmp 9)),
 .op 4 (.bin 41 .sub .plain (.tmp 40) (.const (.int .i64 1))),
 .op 5 (.mov 42 (.tmp 0)),
 .op 6 (.mov 43 (.tmp 9)),
 .op 7 (.bin 44 .sub .plain (.tmp 43) (.const (.int .i64 1))),
 .op 8 (.iaddr 45 none 9 (.tmp 42) (.tmp 44)),
 .op 9 (.load 46 true 9 (.tmp 45)),
 .op 10 (.mov 47 (.tmp 0)),
 .op 11 (.mov 48 (.tmp 9)),
 .op 12 (.iaddr 49 none 9 (.tmp 47) (.tmp 48)),
 .op 13 (.load 50 true 9 (.tmp 49)),
 .op 14 (.iaddr 51 none 9 (.tmp 37) (.tmp 38)),
 .op 15 (.store true 9 (.tmp 51) (.tmp 46)),
 .op 16 (.iaddr 52 none 9 (.tmp 39) (.tmp 41)),
 .op 17 (.store true 9 (.tmp 52) (.tmp 50))] []))
 (.region [.op 0 (.mov 35 (.tmp 9)),
 .op 1 (.bin 36 .sub .plain (.tmp 35) (.const (.int .i64 1))),
 .op 2 (.mov 9 (.tmp 36))] [])))))))
 (.region [.op 0 (.mov 15 (.tmp 8)),
 .op 1 (.bin 16 .add .plain (.tmp 15) (.const (.int .i64 1))),
 .op 2 (.mov 8 (.tmp 16))] [])))))),
 []⟩
theorem ok51 : funcOk Try.prog (drawOk Try.prog) Try.f51 A51 = true := by kernel_rfl
/-- xs: t0, t1, t2, t3, t8, t9 -/
noncomputable def L51_1 (call : Go.Fw.Call) (xs : List AVal) (h : Heap) : Option J :=
 (aBin .gtr .plain (xs.getD 5 .undef) (xs.getD 1 .undef)).bind fun v3 =>
 (guardV v3 true
 ((aIaddr 9 (xs.getD 0 .undef) (xs.getD 5 .undef)).bind fun v4 =>
 (aLoad h 9 v4).bind fun c5 =>
 (fromCells true c5).bind fun v6 =>
 (aBin .sub .plain (xs.getD 5 .undef) (.int .i64 1)).bind fun v7 =>
 (aIaddr 9 (xs.getD 0 .undef) v7).bind fun v8 =>
 (aLoad h 9 v8).bind fun c9 =>
 (fromCells true c9).bind fun v10 =>
 (aFn (xs.getD 3 .undef)).bind fun q11 =>
 (call q11.1 ([v6, v10] ++ q11.2) h).bind fun r12 =>
 (aBin .lss .plain r12.1 (.int .i64 0)).bind fun v13 =>
 some (0, [v13], r12.2))
 (some (0, [skipV], h))).bind fun g14 =>
 (aPick v3 (g14.2.1.getD 0 .undef) (.bool false)).bind fun v15 =>
 condV v15
 ((aBin .sub .plain (xs.getD 5 .undef) (.int .i64 1)).bind fun v16 =>
 (aBin .sub .plain (xs.getD 5 .undef) (.int .i64 1)).bind fun v17 =>
 (aIaddr 9 (xs.getD 0 .undef) v17).bind fun v18 =>
 (aLoad g14.2.2 9 v18).bind fun c19 =>
 (fromCells true c19).bind fun v20 =>
 (aIaddr 9 (xs.getD 0 .undef) (xs.getD 5 .undef)).bind fun v21 =>
 (aLoad g14.2.2 9 v21).bind fun c22 =>
 (fromCells true c22).bind fun v23 =>
 (aIaddr 9 (xs.getD 0 .undef) (xs.getD 5 .undef)).bind fun v24 =>
 (aCells 9 v20).bind fun c25 =>
 (aStore g14.2.2 v24 c25).bind fun h26 =>
 (aIaddr 9 (xs.getD 0 .undef) v16).bind fun v27 =>
 (aCells 9 v23).bind fun c28 =>
 (aStore h26 v27 c28).bind fun h29 =>
 (aBin .sub .plain (xs.getD 5 .undef) (.int .i64 1)).bind fun v30 =>
 some (0, [(xs.getD 0 .undef), (xs.getD 1 .undef), (xs.getD 2 .undef), (xs.getD 3 .undef), (xs.getD 4 .undef), v30], h29))
 (some (1, [(xs.getD 0 .undef), (xs.getD 1 .undef), (xs.getD 2 .undef), (xs.getD 3 .undef), (xs.getD 4 .undef)], g14.2.2))
/-- xs: t0, t1, t2, t3, t8 -/
noncomputable def L51_0 (call : Go.Fw.Call) (xs : List AVal) (h : Heap) : Option J :=
 (aBin .lss .plain (xs.getD 4 .undef) (xs.getD 2 .undef)).bind fun v2 =>
 condV v2
 ((loop (L51_1 call) [(xs.getD 0 .undef), (xs.getD 1 .undef), (xs.getD 2 .undef), (xs.getD 3 .undef), (xs.getD 4 .undef), (xs.getD 4 .undef)] h).bind fun x31 =>
 bif Nat.beq x31.1 1 then (aBin .add .plain (x31.2.1.getD 4 .undef) (.int .i64 1)).bind fun v32 =>
 some (0, [(x31.2.1.getD 0 .undef), (x31.2.1.getD 1 .undef), (x31.2.1.getD 2 .undef), (x31.2.1.getD 3 .undef), v32], x31.2.2) else
 none)
 (some (1, [], h))
noncomputable def S51 (call : Go.Fw.Call) (a0 a1 a2 a3 : AVal) (h : Heap) : Option J :=
 (aBin .add .plain a1 (.int .i64 1)).bind fun v1 =>
 (loop (L51_0 call) [a0, a1, a2, a3, v1] h).bind fun x33 =>
 bif Nat.beq x33.1 1 then some (0, [.tuple []], x33.2.2) else
 none
theorem run51 (call : Go.Fw.Call) (a0 a1 a2 a3 : AVal) (h : Heap) : runFn call (.code A51) [a0, a1, a2, a3] h = (S51 call a0 a1 a2 a3 h).bind ansOf := by kernel_rfl

/-- slices.symMergeCmpFunc[frankpledge/api.Card] -/
noncomputable def A52 : AFunc := ⟨5, (.seq (.seq (.region [.op 0 (.mov 25 (.tmp 2)),
 .op 1 (.mov 26 (.tmp 1)),
 .op 2 (.bin 27 .sub .plain (.tmp 25) (.tmp 26)),
 .op 3 (.bin 28 .eql .plain (.tmp 27) (.const (.int .i64 1)))] [])
 (.cond (.tmp 28)
 (.seq (.region [.op 0 (.mov 29 (.tmp 2)),
 .op 1 (.mov 10 (.tmp 29))] [])
 (.seq (.region [.op 0 (.mov 30 (.tmp 3)),
 .op 1 (.mov 11 (.tmp 30))] [])
 (.seq (.block 0 (.loop ⟨[0, 1, 4, 10, 11], []⟩ [((.exit 0), ⟨[0, 1, 10], []⟩)]
 (.seq (.seq (.region [.op 0 (.mov 31 (.tmp 10)),
 .op 1 (.mov 32 (.tmp 11)),
 .op 2 (.bin 33 .lss .plain (.tmp 31) (.tmp 32))] [])
 (.cond (.tmp 33)
 .skip
 (.exit 0)))
 (.block 1 (.seq (.region [.op 0 (.mov 34 (.tmp 10)),
 .op 1 (.mov 35 (.tmp 11)),
 .op 2 (.bin 36 .add .plain (.tmp 34) (.tmp 35)),
 .op 3 (.conv 37 (.toInt .u64) (.tmp 36)),
 .op 4 (.bin 38 .shr .plain (.tmp 37) (.const (.int .u64 1))),
 .op 5 (.conv 39 (.toInt .i64) (.tmp 38)),
 .op 6 (.mov 12 (.tmp 39))] [])
 (.seq (.region [.op 0 (.mov 40 (.tmp 4)),
 .op 1 (.mov 41 (.tmp 0)),
 .op 2 (.mov 42 (.tmp 12)),
 .op 3 (.iaddr 43 none 9 (.tmp 41) (.tmp 42)),
 .op 4 (.load 44 true 9 (.tmp 43)),
 .op 5 (.mov 45 (.tmp 0)),
 .op 6 (.mov 46 (.tmp 1)),
 .op 7 (.iaddr 47 none 9 (.tmp 45) (.tmp 46)),
 .op 8 (.load 48 true 9 (.tmp 47)),
 .op 9 (.callv 49 (.tmp 40) [.tmp 44, .tmp 48]),
 .op 10 (.bin 50 .lss .plain (.tmp 49) (.const (.int .i64 0)))] [])
 (.cond (.tmp 50)
 (.region [.op 0 (.mov 51 (.tmp 12)),
 .op 1 (.bin 52 .add .plain (.tmp 51) (.const (.int .i64 1))),
 .op 2 (.mov 10 (.tmp 52))] [])
 (.region [.op 0 (.mov 53 (.tmp 12)),
 .op 1 (.mov 11 (.tmp 53))] []))))))))
 (.seq (.seq (.region [.op 0 (.mov 54 (.tmp 1)),
 .op 1 (.mov 13 (.tmp 54))] [])
 (.block 2 (.loop ⟨[0, 10, 13], []⟩ [((.exit 2), ⟨[], []⟩)]
 (.seq (.seq (.region [.op 0 (.mov 55 (.tmp 13)),
 .op 1 (.mov 56 (.tmp 10)),
 .op 2 (.bin 57 .sub .plain (.tmp 56) (.const (.int .i64 1))),
 .op 3 (.bin 58 .lss .plain (.tmp 55) (.tmp 57))] [])
 (.cond (.tmp 58)
 .skip
 (.exit 2)))
 (.seq (.block 3 (.region [.op 0 (.mov 61 (.tmp 0)),
 .op 1 (.mov 62 (.tmp 13)),
 .op 2 (.mov 63 (.tmp 0)),
 .op 3 (.mov 64 (.tmp 13)),
 .op 4 (.bin 65 .add .plain (.tmp 64) (.const (.int .i64 1))),
 .op 5 (.mov 66 (.tmp 0)),
 .op 6 (.mov 67 (.tmp 13)),
 .op 7 (.bin 68 .add .plain (.tmp 67) (.const (.int .i64 1))),
 .op 8 (.iaddr 69 none 9 (.tmp 66) (.tmp 68)),
 .op 9 (.load 70 true 9 (.tmp 69)),
 .op 10 (.mov 71 (.tmp 0)),
 .op 11 (.mov 72 (.tmp 13)),
 .op 12 (.iaddr 73 none 9 (.tmp 71) (.tmp 72)),
 .op 13 (.load 74 true 9 (.tmp 73)),
 .op 14 (.iaddr 75 none 9 (.tmp 61) (.tmp 62)),
 .op 15 (.store true 9 (.tmp 75) (.tmp 70)),
 .op 16 (.iaddr 76 none 9 (.tmp 63) (.tmp 65)),
 .op 17 (.store true 9 (.tmp 76) (.tmp 74))] []))
 (.region [.op 0 (.mov 59 (.tmp 13)),
 .op 1 (.bin 60 .add .plain (.tmp 59) (.const (.int .i64 1))),
 .op 2 (.mov 13 (.tmp 60))] []))))))
 .ret))))
 .skip))
 (.seq (.seq (.region [.op 0 (.mov 77 (.tmp 3)),
 .op 1 (.mov 78 (.tmp 2)),
 .op 2 (.bin 79 .sub .plain (.tmp 77) (.tmp 78)),
 .op 3 (.bin 80 .eql .plain (.tmp 79) (.const (.int .i64 1)))] [])
 (.cond (.tmp 80)
 (.seq (.region [.op 0 (.mov 81 (.tmp 1)),
 .op 1 (.mov 14 (.tmp 81))] [])
 (.seq (.region [.op 0 (.mov 82 (.tmp 2)),
 .op 1 (.mov 15 (.tmp 82))] [])
 (.seq (.block 4 (.loop ⟨[0, 2, 4, 14, 15], []⟩ [((.exit 4), ⟨[0, 2, 14], []⟩)]
 (.seq (.seq (.region [.op 0 (.mov 83 (.tmp 14)),
 .op 1 (.mov 84 (.tmp 15)),
 .op 2 (.bin 85 .lss .plain (.tmp 83) (.tmp 84))] [])
 (.cond (.tmp 85)
 .skip
 (.exit 4)))
 (.block 5 (.seq (.region [.op 0 (.mov 86 (.tmp 14)),
 .op 1 (.mov 87 (.tmp 15)),
 .op 2 (.bin 88 .add .plain (.tmp 86) (.tmp 87)),
 .op 3 (.conv 89 (.toInt .u64) (.tmp 88)),
 .op 4 (.bin 90 .shr .plain (.tmp 89) (.const (.int .u64 1))),
 .op 5 (.conv 91 (.toInt .i64) (.tmp 90)),
 .op 6 (.mov 16 (.tmp 91))] [])
 (.seq (.region [.op 0 (.mov 92 (.tmp 4)),
 .op 1 (.mov 93 (.tmp 0)),
 .op 2 (.mov 94 (.tmp 2)),
 .op 3 (.iaddr 95 none 9 (.tmp 93) (.tmp 94)),
 .op 4 (.load 96 true 9 (.tmp 95)),
 .op 5 (.mov 97 (.tmp 0)),
 .op 6 (.mov 98 (.tmp 16)),
 .op 7 (.iaddr 99 none 9 (.tmp 97) (.tmp 98)),
 .op 8 (.load 100 true 9 (.tmp 99)),
 .op 9 (.callv 101 (.tmp 92) [.tmp 96, .tmp 100]),
 .op 10 (.bin 102 .lss .plain (.tmp 101) (.const (.int .i64 0))),
 .op 11 (.un 103 .not (.tmp 102))] [])
 (.cond (.tmp 103)
 (.region [.op 0 (.mov 104 (.tmp 16)),
 .op 1 (.bin 105 .add .plain (.tmp 104) (.const (.int .i64 1))),
 .op 2 (.mov 14 (.tmp 105))] [])
 (.region [.op 0 (.mov 106 (.tmp 16)),
 .op 1 (.mov 15 (.tmp 106))] []))))))))
 (.seq (.seq (.region [.op 0 (.mov 107 (.tmp 2)),
 .op 1 (.mov 17 (.tmp 107))] [])
 (.block 6 (.loop ⟨[0, 14, 17], []⟩ [((.exit 6), ⟨[], []⟩)]
 (.seq (.seq (.region [.op 0 (.mov 108 (.tmp 17)),
 .op 1 (.mov 109 (.tmp 14)),
 .op 2 (.bin 110 .gtr .plain (.tmp 108) (.tmp 109))] [])
 (.cond (.tmp 110)
 .skip
 (.exit 6)))
 (.seq (.block 7 (.region [.op 0 (.mov 113 (.tmp 0)),
 .op 1 (.mov 114 (.tmp 17)),
 .op 2 (.mov 115 (.tmp 0)),
 .op 3 (.mov 116 (.tmp 17)),
 .op 4 (.bin 117 .sub .plain (.tmp 116) (.const (.int .i64 1))),
 .op 5 (.mov 118 (.tmp 0)),
 .op 6 (.mov 119 (.tmp 17)),
 .op 7 (.bin 120 .sub .plain (.tmp 119) (.const (.int .i64 1))),
 .op 8 (.iaddr 121 none 9 (.tmp 118) (.tmp 120)),
 .op 9 (.load 122 true 9 (.tmp 121)),
 .op 10 (.mov 123 (.tmp 0)),
 .op 11 (.mov 124 (.tmp 17)),
 .op 12 (.iaddr 125 none 9 (.tmp 123) (.tmp 124)),
 .op 13 (.load 126 true 9 (.tmp 125)),
 .op 14 (.iaddr 127 none 9 (.tmp 113) (.tmp 114)),
 .op 15 (.store true 9 (.tmp 127) (.tmp 122)),
 .op 16 (.iaddr 128 none 9 (.tmp 115) (.tmp 117)),
 .op 17 (.store true 9 (.tmp 128) (.tmp 126))] []))
 (.region [.op 0 (.mov 111 (.tmp 17)),
 .op 1 (.bin 112 .sub .plain (.tmp 111) (.const (.int .i64 1))),
 .op 2 (.mov 17 (.tmp 112))] []))))))
 .ret))))
 .skip))
 (.seq (.region [.op 0 (.mov 129 (.tmp 1)),
 .op 1 (.mov 130 (.tmp 3)),
 .op 2 (.bin 131 .add .plain (.tmp 129) (.tmp 130)),
 .op 3 (.conv 132 (.toInt .u64) (.tmp 131)),
 .op 4 (.bin 133 .shr .plain (.tmp 132) (.const (.int .u64 1))),
 .op 5 (.conv 134 (.toInt .i64) (.tmp 133)),
 .op 6 (.mov 18 (.tmp 134))] [])
 (.seq (.region [.op 0 (.mov 135 (.tmp 18)),
 .op 1 (.mov 136 (.tmp 2)),
 .op 2 (.bin 137 .add .plain (.tmp 135) (.tmp 136)),
 .op 3 (.mov 19 (.tmp 137))] [])
 (.seq (.region [.op 0 (.mov 20 (.const (.int .i64 0))),
 .op 1 (.mov 21 (.const (.int .i64 0)))] [])
 (.seq (.seq (.region [.op 0 (.mov 138 (.tmp 2)),
 .op 1 (.mov 139 (.tmp 18)),
 .op 2 (.bin 140 .gtr .plain (.tmp 138) (.tmp 139))] [])
 (.join [(.normal, ⟨[0, 1, 2, 3, 4, 18, 19, 20, 21], []⟩)] (.cond (.tmp 140)
 (.seq (.region [.op 0 (.mov 141 (.tmp 19)),
 .op 1 (.mov 142 (.tmp 3)),
 .op 2 (.bin 143 .sub .plain (.tmp 141) (.tmp 142)),
 .op 3 (.mov 20 (.tmp 143))] [])
 (.region [.op 0 (.mov 144 (.tmp 18)),
 .op 1 (.mov 21 (.tmp 144))] []))
 (.seq (.region [.op 0 (.mov 145 (.tmp 1)),
 .op 1 (.mov 20 (.tmp 145))] [])
 (.region [.op 0 (.mov 146 (.tmp 2)),
 .op 1 (.mov 21 (.tmp 146))] [])))))
 (.seq (.region [.op 0 (.mov 147 (.tmp 19)),
 .op 1 (.bin 148 .sub .plain (.tmp 147) (.const (.int .i64 1))),
 .op 2 (.mov 22 (.tmp 148))] [])
 (.seq (.block 8 (.loop ⟨[0, 1, 2, 3, 4, 18, 19, 20, 21, 22], []⟩ [((.exit 8), ⟨[0, 1, 2, 3, 4, 18, 19, 20], []⟩)]
 (.seq (.seq (.region [.op 0 (.mov 149 (.tmp 20)),
 .op 1 (.mov 150 (.tmp 21)),
 .op 2 (.bin 151 .lss .plain (.tmp 149) (.tmp 150))] [])
 (.cond (.tmp 151)
 .skip
 (.exit 8)))
 (.block 9 (.seq (.region [.op 0 (.mov 152 (.tmp 20)),
 .op 1 (.mov 153 (.tmp 21)),
 .op 2 (.bin 154 .add .plain (.tmp 152) (.tmp 153)),
 .op 3 (.conv 155 (.toInt .u64) (.tmp 154)),
 .op 4 (.bin 156 .shr .plain (.tmp 155) (.const (.int .u64 1))),
 .op 5 (.conv 157 (.toInt .i64) (.tmp 156)),
 .op 6 (.mov 23 (.tmp 157))] [])
 (.seq (.region [.op 0 (.mov 158 (.tmp 4)),
 .op 1 (.mov 159 (.tmp 0)),
 .op 2 (.mov 160 (.tmp 22)),
 .op 3 (.mov 161 (.tmp 23)),
 .op 4 (.bin 162 .sub .plain (.tmp 160) (.tmp 161)),
 .op 5 (.iaddr 163 none 9 (.tmp 159) (.tmp 162)),
 .op 6 (.load 164 true 9 (.tmp 163)),
 .op 7 (.mov 165 (.tmp 0)),
 .op 8 (.mov 166 (.tmp 23)),
 .op 9 (.iaddr 167 none 9 (.tmp 165) (.tmp 166)),
 .op 10 (.load 168 true 9 (.tmp 167)),
 .op 11 (.callv 169 (.tmp 158) [.tmp 164, .tmp 168]),
 .op 12 (.bin 170 .lss .plain (.tmp 169) (.const (.int .i64 0))),
 .op 13 (.un 171 .not (.tmp 170))] [])
 (.cond (.tmp 171)
 (.region [.op 0 (.mov 172 (.tmp 23)),
 .op 1 (.bin 173 .add .plain (.tmp 172) (.const (.int .i64 1))),
 .op 2 (.mov 20 (.tmp 173))] [])
 (.region [.op 0 (.mov 174 (.tmp 23)),
 .op 1 (.mov 21 (.tmp 174))] []))))))))
 (.seq (.region [.op 0 (.mov 175 (.tmp 19)),
 .op 1 (.mov 176 (.tmp 20)),
 .op 2 (.bin 177 .sub .plain (.tmp 175) (.tmp 176)),
 .op 3 (.mov 24 (.tmp 177))] [])
 (.seq (.seq (.region [.op 0 (.mov 178 (.tmp 20)),
 .op 1 (.mov 179 (.tmp 2)),
 .op 2 (.bin 180 .lss .plain (.tmp 178) (.tmp 179)),
 .op 3 (.mov 181 (.tmp 180)),
 .guard 181 true [.op 4 (.mov 182 (.tmp 2)),
 .op 5 (.mov 183 (.tmp 24)),
 .op 6 (.bin 184 .lss .plain (.tmp 182) (.tmp 183))] [] [184],
 .op 7 (.pick 185 (.tmp 181) (.tmp 184) (.const (.bool false)))] [])
 (.join [(.normal, ⟨[0, 1, 3, 4, 18, 20, 24], []⟩)] (.cond (.tmp 185)
 (.region [.op 0 (.mov 186 (.tmp 0)),
 .op 1 (.mov 187 (.tmp 20)),
 .op 2 (.mov 188 (.tmp 2)),
 .op 3 (.mov 189 (.tmp 24)),
 .op 4 (.mov 190 (.tmp 4)),
 .op 5 (.call 191 59 [.tmp 186, .tmp 187, .tmp 188, .tmp 189, .tmp 190])] [])
 .skip)))
 (.seq (.seq (.region [.op 0 (.mov 192 (.tmp 1)),
 .op 1 (.mov 193 (.tmp 20)),
 .op 2 (.bin 194 .lss .plain (.tmp 192) (.tmp 193)),
 .op 3 (.mov 195 (.tmp 194)),
 .guard 195 true [.op 4 (.mov 196 (.tmp 20)),
 .op 5 (.mov 197 (.tmp 18)),
 .op 6 (.bin 198 .lss .plain (.tmp 196) (.tmp 197))] [] [198],
 .op 7 (.pick 199 (.tmp 195) (.tmp 198) (.const (.bool false)))] [])
 (.join [(.normal, ⟨[0, 3, 4, 18, 24], []⟩)] (.cond (.tmp 199)
 (.region [.op 0 (.mov 200 (.tmp 0)),
 .op 1 (.mov 201 (.tmp 1)),
 .op 2 (.mov 202 (.tmp 20)),
 .op 3 (.mov 203 (.tmp 18)),
 .op 4 (.mov 204 (.tmp 4)),
 .op 5 (.call 205 52 [.tmp 200, .tmp 201, .tmp 202, .tmp 203, .tmp 204])] [])
 .skip)))
 (.seq (.region [.op 0 (.mov 206 (.tmp 18)),
 .op 1 (.mov 207 (.tmp 24)),
 .op 2 (.bin 208 .lss .plain (.tmp 206) (.tmp 207)),
 .op 3 (.mov 209 (.tmp 208)),
 .guard 209 true [.op 4 (.mov 210 (.tmp 24)),
 .op 5 (.mov 211 (.tmp 3)),
 .op 6 (.bin 212 .lss .plain (.tmp 210) (.tmp 211))] [] [212],
 .op 7 (.pick 213 (.tmp 209) (.tmp 212) (.const (.bool false)))] [])
 (.cond (.tmp 213)
 (.region [.op 0 (.mov 214 (.tmp 0)),
 .op 1 (.mov 215 (.tmp 18)),
 .op 2 (.mov 216 (.tmp 24)),
 .op 3 (.mov 217 (.tmp 3)),
 .op 4 (.mov 218 (.tmp 4)),
 .op 5 (.call 219 52 [.tmp 214, .tmp 215, .tmp 216, .tmp 217, .tmp 218])] [])
 .skip))))))))))))),
 []⟩
theorem ok52 : funcOk Try.prog (drawOk Try.prog) Try.f52 A52 = true := by kernel_rfl
/-- xs: t0, t1, t4, t10, t11 -/
noncomputable def L52_0 (call : Go.Fw.Call) (xs : List AVal) (h : Heap) : Option J :=
 (aBin .lss .plain (xs.getD 3 .undef) (xs.getD 4 .undef)).bind fun v3 =>
 condV v3
 ((aBin .add .plain (xs.getD 3 .undef) (xs.getD 4 .undef)).bind fun v4 =>
 (aConv (.toInt .u64) v4 h).bind fun r5 =>
 (aBin .shr .plain r5.1 (.int .u64 1)).bind fun v6 =>
 (aConv (.toInt .i64) v6 r5.2).bind fun r7 =>
 (aIaddr 9 (xs.getD 0 .undef) r7.1).bind fun v8 =>
 (aLoad r7.2 9 v8).bind fun c9 =>
 (fromCells true c9).bind fun v10 =>
 (aIaddr 9 (xs.getD 0 .undef) (xs.getD 1 .undef)).bind fun v11 =>
 (aLoad r7.2 9 v11).bind fun c12 =>
 (fromCells true c12).bind fun v13 =>
 (aFn (xs.getD 2 .undef)).bind fun q14 =>
 (call q14.1 ([v10, v13] ++ q14.2) r7.2).bind fun r15 =>
 (aBin .lss .plain r15.1 (.int .i64 0)).bind fun v16 =>
 condV v16
 ((aBin .add .plain r7.1 (.int .i64 1)).bind fun v17 =>
 some (0, [(xs.getD 0 .undef), (xs.getD 1 .undef), (xs.getD 2 .undef), v17, (xs.getD 4 .undef)], r15.2))
 (some (0, [(xs.getD 0 .undef), (xs.getD 1 .undef), (xs.getD 2 .undef), (xs.getD 3 .undef), r7.1], r15.2)))
 (some (1, [(xs.getD 0 .undef), (xs.getD 1 .undef), (xs.getD 3 .undef)], h))
/-- xs: t0, t10, t13 -/
noncomputable def L52_1 (call : Go.Fw.Call) (xs : List AVal) (h : Heap) : Option J :=
 (aBin .sub .plain (xs.getD 1 .undef) (.int .i64 1)).bind fun v19 =>
 (aBin .lss .plain (xs.getD 2 .undef) v19).bind fun v20 =>
 condV v20
 ((aBin .add .plain (xs.getD 2 .undef) (.int .i64 1)).bind fun v21 =>
 (aBin .add .plain (xs.getD 2 .undef) (.int .i64 1)).bind fun v22 =>
 (aIaddr 9 (xs.getD 0 .undef) v22).bind fun v23 =>
 (aLoad h 9 v23).bind fun c24 =>
 (fromCells true c24).bind fun v25 =>
 (aIaddr 9 (xs.getD 0 .undef) (xs.getD 2 .undef)).bind fun v26 =>
 (aLoad h 9 v26).bind fun c27 =>
 (fromCells true c27).bind fun v28 =>
 (aIaddr 9 (xs.getD 0 .undef) (xs.getD 2 .undef)).bind fun v29 =>
 (aCells 9 v25).bind fun c30 =>
 (aStore h v29 c30).bind fun h31 =>
 (aIaddr 9 (xs.getD 0 .undef) v21).bind fun v32 =>
 (aCells 9 v28).bind fun c33 =>
 (aStore h31 v32 c33).bind fun h34 =>
 (aBin .add .plain (xs.getD 2 .undef) (.int .i64 1)).bind fun v35 =>
 some (0, [(xs.getD 0 .undef), (xs.getD 1 .undef), v35], h34))
 (some (1, [], h))
/-- xs: t0, t2, t4, t14, t15 -/
noncomputable def L52_2 (call : Go.Fw.Call) (xs : List AVal) (h : Heap) : Option J :=
 (aBin .lss .plain (xs.getD 3 .undef) (xs.getD 4 .undef)).bind fun v39 =>
 condV v39
 ((aBin .add .plain (xs.getD 3 .undef) (xs.getD 4 .undef)).bind fun v40 =>
 (aConv (.toInt .u64) v40 h).bind fun r41 =>
 (aBin .shr .plain r41.1 (.int .u64 1)).bind fun v42 =>
 (aConv (.toInt .i64) v42 r41.2).bind fun r43 =>
 (aIaddr 9 (xs.getD 0 .undef) (xs.getD 1 .undef)).bind fun v44 =>
 (aLoad r43.2 9 v44).bind fun c45 =>
 (fromCells true c45).bind fun v46 =>
 (aIaddr 9 (xs.getD 0 .undef) r43.1).bind fun v47 =>
 (aLoad r43.2 9 v47).bind fun c48 =>
 (fromCells true c48).bind fun v49 =>
 (aFn (xs.getD 2 .undef)).bind fun q50 =>
 (call q50.1 ([v46, v49] ++ q50.2) r43.2).bind fun r51 =>
 (aBin .lss .plain r51.1 (.int .i64 0)).bind fun v52 =>
 (aUn .not v52).bind fun v53 =>
 condV v53
 ((aBin .add .plain r43.1 (.int .i64 1)).bind fun v54 =>
 some (0, [(xs.getD 0 .undef), (xs.getD 1 .undef), (xs.getD 2 .undef), v54, (xs.getD 4 .undef)], r51.2))
 (some (0, [(xs.getD 0 .undef), (xs.getD 1 .undef), (xs.getD 2 .undef), (xs.getD 3 .undef), r43.1], r51.2)))
 (some (1, [(xs.getD 0 .undef), (xs.getD 1 .undef), (xs.getD 3 .undef)], h))
/-- xs: t0, t14, t17 -/
noncomputable def L52_3 (call : Go.Fw.Call) (xs : List AVal) (h : Heap) : Option J :=
 (aBin .gtr .plain (xs.getD 2 .undef) (xs.getD 1 .undef)).bind fun v56 =>
 condV v56
 ((aBin .sub .plain (xs.getD 2 .undef) (.int .i64 1)).bind fun v57 =>
 (aBin .sub .plain (xs.getD 2 .undef) (.int .i64 1)).bind fun v58 =>
 (aIaddr 9 (xs.getD 0 .undef) v58).bind fun v59 =>
 (aLoad h 9 v59).bind fun c60 =>
 (fromCells true c60).bind fun v61 =>
 (aIaddr 9 (xs.getD 0 .undef) (xs.getD 2 .undef)).bind fun v62 =>
 (aLoad h 9 v62).bind fun c63 =>
 (fromCells true c63).bind fun v64 =>
 (aIaddr 9 (xs.getD 0 .undef) (xs.getD 2 .undef)).bind fun v65 =>
 (aCells 9 v61).bind fun c66 =>
 (aStore h v65 c66).bind fun h67 =>
 (aIaddr 9 (xs.getD 0 .undef) v57).bind fun v68 =>
 (aCells 9 v64).bind fun c69 =>
 (aStore h67 v68 c69).bind fun h70 =>
 (aBin .sub .plain (xs.getD 2 .undef) (.int .i64 1)).bind fun v71 =>
 some (0, [(xs.getD 0 .undef), (xs.getD 1 .undef), v71], h70))
 (some (1, [], h))
/-- xs: t0, t1, t2, t3, t4, t18, t19, t20, t21, t22 -/
noncomputable def L52_4 (call : Go.Fw.Call) (xs : List AVal) (h : Heap) : Option J :=
 (aBin .lss .plain (xs.getD 7 .undef) (xs.getD 8 .undef)).bind fun v82 =>
 condV v82
 ((aBin .add .plain (xs.getD 7 .undef) (xs.getD 8 .undef)).bind fun v83 =>
 (aConv (.toInt .u64) v83 h).bind fun r84 =>
 (aBin .shr .plain r84.1 (.int .u64 1)).bind fun v85 =>
 (aConv (.toInt .i64) v85 r84.2).bind fun r86 =>
 (aBin .sub .plain (xs.getD 9 .undef) r86.1).bind fun v87 =>
 (aIaddr 9 (xs.getD 0 .undef) v87).bind fun v88 =>
 (aLoad r86.2 9 v88).bind fun c89 =>
 (fromCells true c89).bind fun v90 =>
 (aIaddr 9 (xs.getD 0 .undef) r86.1).bind fun v91 =>
 (aLoad r86.2 9 v91).bind fun c92 =>
 (fromCells true c92).bind fun v93 =>
 (aFn (xs.getD 4 .undef)).bind fun q94 =>
 (call q94.1 ([v90, v93] ++ q94.2) r86.2).bind fun r95 =>
 (aBin .lss .plain r95.1 (.int .i64 0)).bind fun v96 =>
 (aUn .not v96).bind fun v97 =>
 condV v97
 ((aBin .add .plain r86.1 (.int .i64 1)).bind fun v98 =>
 some (0, [(xs.getD 0 .undef), (xs.getD 1 .undef), (xs.getD 2 .undef), (xs.getD 3 .undef), (xs.getD 4 .undef), (xs.getD 5 .undef), (xs.getD 6 .undef), v98, (xs.getD 8 .undef), (xs.getD 9 .undef)], r95.2))
 (some (0, [(xs.getD 0 .undef), (xs.getD 1 .undef), (xs.getD 2 .undef), (xs.getD 3 .undef), (xs.getD 4 .undef), (xs.getD 5 .undef), (xs.getD 6 .undef), (xs.getD 7 .undef), r86.1, (xs.getD 9 .undef)], r95.2)))
 (some (1, [(xs.getD 0 .undef), (xs.getD 1 .undef), (xs.getD 2 .undef), (xs.getD 3 .undef), (xs.getD 4 .undef), (xs.getD 5 .undef), (xs.getD 6 .undef), (xs.getD 7 .undef)], h))
noncomputable def S52 (call : Go.Fw.Call) (a0 a1 a2 a3 a4 : AVal) (h : Heap) : Option J :=
 (aBin .sub .plain a2 a1).bind fun v1 =>
 (aBin .eql .plain v1 (.int .i64 1)).bind fun v2 =>
 condV v2
 ((loop (L52_0 call) [a0, a1, a4, a2, a3] h).bind fun x18 =>
 bif Nat.beq x18.1 1 then (loop (L52_1 call) [(x18.2.1.getD 0 .undef), (x18.2.1.getD 2 .undef), (x18.2.1.getD 1 .undef)] x18.2.2).bind fun x36 =>
 bif Nat.beq x36.1 1 then some (0, [.tuple []], x36.2.2) else
 none else
 none)
 ((aBin .sub .plain a3 a2).bind fun v37 =>
 (aBin .eql .plain v37 (.int .i64 1)).bind fun v38 =>
 condV v38
 ((loop (L52_2 call) [a0, a2, a4, a1, a2] h).bind fun x55 =>
 bif Nat.beq x55.1 1 then (loop (L52_3 call) [(x55.2.1.getD 0 .undef), (x55.2.1.getD 2 .undef), (x55.2.1.getD 1 .undef)] x55.2.2).bind fun x72 =>
 bif Nat.beq x72.1 1 then some (0, [.tuple []], x72.2.2) else
 none else
 none)
 ((aBin .add .plain a1 a3).bind fun v73 =>
 (aConv (.toInt .u64) v73 h).bind fun r74 =>
 (aBin .shr .plain r74.1 (.int .u64 1)).bind fun v75 =>
 (aConv (.toInt .i64) v75 r74.2).bind fun r76 =>
 (aBin .add .plain r76.1 a2).bind fun v77 =>
 (aBin .gtr .plain a2 r76.1).bind fun v78 =>
 (condV v78
 ((aBin .sub .plain v77 a3).bind fun v79 =>
 some (0, [a0, a1, a2, a3, a4, r76.1, v77, v79, r76.1], r76.2))
 (some (0, [a0, a1, a2, a3, a4, r76.1, v77, a1, a2], r76.2))).bind fun x80 =>
 bif Nat.beq x80.1 0 then (aBin .sub .plain (x80.2.1.getD 6 .undef) (.int .i64 1)).bind fun v81 =>
 (loop (L52_4 call) [(x80.2.1.getD 0 .undef), (x80.2.1.getD 1 .undef), (x80.2.1.getD 2 .undef), (x80.2.1.getD 3 .undef), (x80.2.1.getD 4 .undef), (x80.2.1.getD 5 .undef), (x80.2.1.getD 6 .undef), (x80.2.1.getD 7 .undef), (x80.2.1.getD 8 .undef), v81] x80.2.2).bind fun x99 =>
 bif Nat.beq x99.1 1 then (aBin .sub .plain (x99.2.1.getD 6 .undef) (x99.2.1.getD 7 .undef)).bind fun v100 =>
 (aBin .lss .plain (x99.2.1.getD 7 .undef) (x99.2.1.getD 2 .undef)).bind fun v101 =>
 (guardV v101 true
 ((aBin .lss .plain (x99.2.1.getD 2 .undef) v100).bind fun v102 =>
 some (0, [v102], x99.2.2))
 (some (0, [skipV], x99.2.2))).bind fun g103 =>
 (aPick v101 (g103.2.1.getD 0 .undef) (.bool false)).bind fun v104 =>
 (condV v104
 ((call 59 [(x99.2.1.getD 0 .undef), (x99.2.1.getD 7 .undef), (x99.2.1.getD 2 .undef), v100, (x99.2.1.getD 4 .undef)] g103.2.2).bind fun r105 =>
 some (0, [(x99.2.1.getD 0 .undef), (x99.2.1.getD 1 .undef), (x99.2.1.getD 3 .undef), (x99.2.1.getD 4 .undef), (x99.2.1.getD 5 .undef), (x99.2.1.getD 7 .undef), v100], r105.2))
 (some (0, [(x99.2.1.getD 0 .undef), (x99.2.1.getD 1 .undef), (x99.2.1.getD 3 .undef), (x99.2.1.getD 4 .undef), (x99.2.1.getD 5 .undef), (x99.2.1.getD 7 .undef), v100], g103.2.2))).bind fun x106 =>
 bif Nat.beq x106.1 0 then (aBin .lss .plain (x106.2.1.getD 1 .undef) (x106.2.1.getD 5 .undef)).bind fun v107 =>
 (guardV v107 true
 ((aBin .lss .plain (x106.2.1.getD 5 .undef) (x106.2.1.getD 4 .undef)).bind fun v108 =>
 some (0, [v108], x106.2.2))
 (some (0, [skipV], x106.2.2))).bind fun g109 =>
 (aPick v107 (g109.2.1.getD 0 .undef) (.bool false)).bind fun v110 =>
 (condV v110
 ((call 52 [(x106.2.1.getD 0 .undef), (x106.2.1.getD 1 .undef), (x106.2.1.getD 5 .undef), (x106.2.1.getD 4 .undef), (x106.2.1.getD 3 .undef)] g109.2.2).bind fun r111 =>
 some (0, [(x106.2.1.getD 0 .undef), (x106.2.1.getD 2 .undef), (x106.2.1.getD 3 .undef), (x106.2.1.getD 4 .undef), (x106.2.1.getD 6 .undef)], r111.2))
 (some (0, [(x106.2.1.getD 0 .undef), (x106.2.1.getD 2 .undef), (x106.2.1.getD 3 .undef), (x106.2.1.getD 4 .undef), (x106.2.1.getD 6 .undef)], g109.2.2))).bind fun x112 =>
 bif Nat.beq x112.1 0 then (aBin .lss .plain (x112.2.1.getD 3 .undef) (x112.2.1.getD 4 .undef)).bind fun v113 =>
 (guardV v113 true
 ((aBin .lss .plain (x112.2.1.getD 4 .undef) (x112.2.1.getD 1 .undef)).bind fun v114 =>
 some (0, [v114], x112.2.2))
 (some (0, [skipV], x112.2.2))).bind fun g115 =>
 (aPick v113 (g115.2.1.getD 0 .undef) (.bool false)).bind fun v116 =>
 condV v116
 ((call 52 [(x112.2.1.getD 0 .undef), (x112.2.1.getD 3 .undef), (x112.2.1.getD 4 .undef), (x112.2.1.getD 1 .undef), (x112.2.1.getD 2 .undef)] g115.2.2).bind fun r117 =>
 some (0, [.tuple []], r117.2))
 (some (0, [.tuple []], g115.2.2)) else
 none else
 none else
 none else
 none))
theorem run52 (call : Go.Fw.Call) (a0 a1 a2 a3 a4 : AVal) (h : Heap) : runFn call (.code A52) [a0, a1, a2, a3, a4] h = (S52 call a0 a1 a2 a3 a4 h).bind ansOf := by kernel_rfl

/-- cmp.isNaN[string] -/
noncomputable def A53 : AFunc := ⟨1, (.seq (.region [.op 0 (.mov 2 (.const (.bool false)))] [])
 (.seq (.region [.op 0 (.mov 3 (.tmp 0)),
 .op 1 (.mov 4 (.tmp 0)),
 .op 2 (.bin 5 .neq .plain (.tmp 3) (.tmp 4)),
 .op 3 (.mov 2 (.tmp 5))] [])
 .ret)),
 [.tmp 2]⟩
theorem ok53 : funcOk Try.prog (drawOk Try.prog) Try.f53 A53 = true := by kernel_rfl
noncomputable def S53 (call : Go.Fw.Call) (a0 : AVal) (h : Heap) : Option J :=
 (aBin .neq .plain a0 a0).bind fun v1 =>
 some (0, [v1], h)
theorem run53 (call : Go.Fw.Call) (a0 : AVal) (h : Heap) : runFn call (.code A53) [a0] h = (S53 call a0 h).bind ansOf := by kernel_rfl

/-- slices.siftDownOrdered[string] -/
noncomputable def A54 : AFunc := ⟨4, (.seq (.region [.op 0 (.mov 10 (.tmp 1)),
 .op 1 (.mov 8 (.tmp 10))] [])
 (.block 0 (.loop ⟨[0, 2, 3, 8], []⟩ [((.exit 0), ⟨[], []⟩), (.ret, ⟨[], []⟩)]
 (.block 1 (.seq (.region [.op 0 (.mov 11 (.tmp 8)),
 .op 1 (.bin 12 .mul .plain (.const (.int .i64 2)) (.tmp 11)),
 .op 2 (.bin 13 .add .plain (.tmp 12) (.const (.int .i64 1))),
 .op 3 (.mov 9 (.tmp 13))] [])
 (.seq (.seq (.region [.op 0 (.mov 14 (.tmp 9)),
 .op 1 (.mov 15 (.tmp 2)),
 .op 2 (.bin 16 .geq .plain (.tmp 14) (.tmp 15))] [])
 (.cond (.tmp 16)
 (.exit 0)
 .skip))
 (.seq (.seq (.region [.op 0 (.mov 17 (.tmp 9)),
 .op 1 (.bin 18 .add .plain (.tmp 17) (.const (.int .i64 1))),
 .op 2 (.mov 19 (.tmp 2)),
 .op 3 (.bin 20 .lss .plain (.tmp 18) (.tmp 19)),
 .op 4 (.mov 21 (.tmp 20)),
 .guard 21 true [.op 5 (.mov 22 (.tmp 0)),
 .op 6 (.mov 23 (.tmp 3)),
 .op 7 (.mov 24 (.tmp 9)),
 .op 8 (.bin 25 .add .plain (.tmp 23) (.tmp 24)),
 .op 9 (.iaddr 26 none 1 (.tmp 22) (.tmp 25)),
 .op 10 (.load 27 false 1 (.tmp 26)),
 .op 11 (.mov 28 (.tmp 0)),
 .op 12 (.mov 29 (.tmp 3)),
 .op 13 (.mov 30 (.tmp 9)),
 .op 14 (.bin 31 .add .plain (.tmp 29) (.tmp 30)),
 .op 15 (.bin 32 .add .plain (.tmp 31) (.const (.int .i64 1))),
 .op 16 (.iaddr 33 none 1 (.tmp 28) (.tmp 32)),
 .op 17 (.load 34 false 1 (.tmp 33)),
 .op 18 (.call 35 46 [.tmp 27, .tmp 34])] [] [35],
 .op 19 (.pick 36 (.tmp 21) (.tmp 35) (.const (.bool false)))] [])
 (.join [(.normal, ⟨[0, 2, 3, 8, 9], []⟩)] (.cond (.tmp 36)
 (.region [.op 0 (.mov 37 (.tmp 9)),
 .op 1 (.bin 38 .add .plain (.tmp 37) (.const (.int .i64 1))),
 .op 2 (.mov 9 (.tmp 38))] [])
 .skip)))
 (.seq (.seq (.region [.op 0 (.mov 39 (.tmp 0)),
 .op 1 (.mov 40 (.tmp 3)),
 .op 2 (.mov 41 (.tmp 8)),
 .op 3 (.bin 42 .add .plain (.tmp 40) (.tmp 41)),
 .op 4 (.iaddr 43 none 1 (.tmp 39) (.tmp 42)),
 .op 5 (.load 44 false 1 (.tmp 43)),
 .op 6 (.mov 45 (.tmp 0)),
 .op 7 (.mov 46 (.tmp 3)),
 .op 8 (.mov 47 (.tmp 9)),
 .op 9 (.bin 48 .add .plain (.tmp 46) (.tmp 47)),
 .op 10 (.iaddr 49 none 1 (.tmp 45) (.tmp 48)),
 .op 11 (.load 50 false 1 (.tmp 49)),
 .op 12 (.call 51 46 [.tmp 44, .tmp 50]),
 .op 13 (.un 52 .not (.tmp 51))] [])
 (.cond (.tmp 52)
 .ret
 .skip))
 (.seq (.region [.op 0 (.mov 53 (.tmp 0)),
 .op 1 (.mov 54 (.tmp 3)),
 .op 2 (.mov 55 (.tmp 8)),
 .op 3 (.bin 56 .add .plain (.tmp 54) (.tmp 55)),
 .op 4 (.mov 57 (.tmp 0)),
 .op 5 (.mov 58 (.tmp 3)),
 .op 6 (.mov 59 (.tmp 9)),
 .op 7 (.bin 60 .add .plain (.tmp 58) (.tmp 59)),
 .op 8 (.mov 61 (.tmp 0)),
 .op 9 (.mov 62 (.tmp 3)),
 .op 10 (.mov 63 (.tmp 9)),
 .op 11 (.bin 64 .add .plain (.tmp 62) (.tmp 63)),
 .op 12 (.iaddr 65 none 1 (.tmp 61) (.tmp 64)),
 .op 13 (.load 66 false 1 (.tmp 65)),
 .op 14 (.mov 67 (.tmp 0)),
 .op 15 (.mov 68 (.tmp 3)),
 .op 16 (.mov 69 (.tmp 8)),
 .op 17 (.bin 70 .add .plain (.tmp 68) (.tmp 69)),
 .op 18 (.iaddr 71 none 1 (.tmp 67) (.tmp 70)),
 .op 19 (.load 72 false 1 (.tmp 71)),
 .op 20 (.iaddr 73 none 1 (.tmp 53) (.tmp 56)),
 .op 21 (.store false 1 (.tmp 73) (.tmp 66)),
 .op 22 (.iaddr 74 none 1 (.tmp 57) (.tmp 60)),
 .op 23 (.store false 1 (.tmp 74) (.tmp 72))] [])
 (.region [.op 0 (.mov 75 (.tmp 9)),
 .op 1 (.mov 8 (.tmp 75))] [])))))))))),
 []⟩
theorem ok54 : funcOk Try.prog (drawOk Try.prog) Try.f54 A54 = true := by kernel_rfl
/-- xs: t0, t2, t3, t8 -/
noncomputable def L54_0 (call : Go.Fw.Call) (xs : List AVal) (h : Heap) : Option J :=
 (aBin .mul .plain (.int .i64 2) (xs.getD 3 .undef)).bind fun v1 =>
 (aBin .add .plain v1 (.int .i64 1)).bind fun v2 =>
 (aBin .geq .plain v2 (xs.getD 1 .undef)).bind fun v3 =>
 condV v3
 (some (1, [], h))
 ((aBin .add .plain v2 (.int .i64 1)).bind fun v4 =>
 (aBin .lss .plain v4 (xs.getD 1 .undef)).bind fun v5 =>
 (guardV v5 true
 ((aBin .add .plain (xs.getD 2 .undef) v2).bind fun v6 =>
 (aIaddr 1 (xs.getD 0 .undef) v6).bind fun v7 =>
 (aLoad h 1 v7).bind fun c8 =>
 (fromCells false c8).bind fun v9 =>
 (aBin .add .plain (xs.getD 2 .undef) v2).bind fun v10 =>
 (aBin .add .plain v10 (.int .i64 1)).bind fun v11 =>
 (aIaddr 1 (xs.getD 0 .undef) v11).bind fun v12 =>
 (aLoad h 1 v12).bind fun c13 =>
 (fromCells false c13).bind fun v14 =>
 (call 46 [v9, v14] h).bind fun r15 =>
 some (0, [r15.1], r15.2))
 (some (0, [skipV], h))).bind fun g16 =>
 (aPick v5 (g16.2.1.getD 0 .undef) (.bool false)).bind fun v17 =>
 (condV v17
 ((aBin .add .plain v2 (.int .i64 1)).bind fun v18 =>
 some (0, [(xs.getD 0 .undef), (xs.getD 1 .undef), (xs.getD 2 .undef), (xs.getD 3 .undef), v18], g16.2.2))
 (some (0, [(xs.getD 0 .undef), (xs.getD 1 .undef), (xs.getD 2 .undef), (xs.getD 3 .undef), v2], g16.2.2))).bind fun x19 =>
 bif Nat.beq x19.1 0 then (aBin .add .plain (x19.2.1.getD 2 .undef) (x19.2.1.getD 3 .undef)).bind fun v20 =>
 (aIaddr 1 (x19.2.1.getD 0 .undef) v20).bind fun v21 =>
 (aLoad x19.2.2 1 v21).bind fun c22 =>
 (fromCells false c22).bind fun v23 =>
 (aBin .add .plain (x19.2.1.getD 2 .undef) (x19.2.1.getD 4 .undef)).bind fun v24 =>
 (aIaddr 1 (x19.2.1.getD 0 .undef) v24).bind fun v25 =>
 (aLoad x19.2.2 1 v25).bind fun c26 =>
 (fromCells false c26).bind fun v27 =>
 (call 46 [v23, v27] x19.2.2).bind fun r28 =>
 (aUn .not r28.1).bind fun v29 =>
 condV v29
 (some (2, [], r28.2))
 ((aBin .add .plain (x19.2.1.getD 2 .undef) (x19.2.1.getD 3 .undef)).bind fun v30 =>
 (aBin .add .plain (x19.2.1.getD 2 .undef) (x19.2.1.getD 4 .undef)).bind fun v31 =>
 (aBin .add .plain (x19.2.1.getD 2 .undef) (x19.2.1.getD 4 .undef)).bind fun v32 =>
 (aIaddr 1 (x19.2.1.getD 0 .undef) v32).bind fun v33 =>
 (aLoad r28.2 1 v33).bind fun c34 =>
 (fromCells false c34).bind fun v35 =>
 (aBin .add .plain (x19.2.1.getD 2 .undef) (x19.2.1.getD 3 .undef)).bind fun v36 =>
 (aIaddr 1 (x19.2.1.getD 0 .undef) v36).bind fun v37 =>
 (aLoad r28.2 1 v37).bind fun c38 =>
 (fromCells false c38).bind fun v39 =>
 (aIaddr 1 (x19.2.1.getD 0 .undef) v30).bind fun v40 =>
 (aCells 1 v35).bind fun c41 =>
 (aStore r28.2 v40 c41).bind fun h42 =>
 (aIaddr 1 (x19.2.1.getD 0 .undef) v31).bind fun v43 =>
 (aCells 1 v39).bind fun c44 =>
 (aStore h42 v43 c44).bind fun h45 =>
 some (0, [(x19.2.1.getD 0 .undef), (x19.2.1.getD 1 .undef), (x19.2.1.getD 2 .undef), (x19.2.1.getD 4 .undef)], h45)) else
 none)
noncomputable def S54 (call : Go.Fw.Call) (a0 a1 a2 a3 : AVal) (h : Heap) : Option J :=
 (loop (L54_0 call) [a0, a2, a3, a1] h).bind fun x46 =>
 bif Nat.beq x46.1 1 then some (0, [.tuple []], x46.2.2) else
 bif Nat.beq x46.1 2 then some (0, [.tuple []], x46.2.2) else
 none
theorem run54 (call : Go.Fw.Call) (a0 a1 a2 a3 : AVal) (h : Heap) : runFn call (.code A54) [a0, a1, a2, a3] h = (S54 call a0 a1 a2 a3 h).bind ansOf := by kernel_rfl

/-- slices.nextPowerOfTwo -/
noncomputable def A55 : AFunc := ⟨1, (.seq (.region [.op 0 (.mov 2 (.const (.int .u64 0)))] [])
 (.seq (.region [.op 0 (.mov 3 (.tmp 0)),
 .op 1 (.conv 4 (.toInt .u64) (.tmp 3)),
 .op 2 (.call 5 36 [.tmp 4]),
 .op 3 (.bin 6 .shl .plain (.const (.int .u64 1)) (.tmp 5)),
 .op 4 (.mov 2 (.tmp 6))] [])
 .ret)),
 [.tmp 2]⟩
theorem ok55 : funcOk Try.prog (drawOk Try.prog) Try.f55 A55 = true := by kernel_rfl
noncomputable def S55 (call : Go.Fw.Call) (a0 : AVal) (h : Heap) : Option J :=
 (aConv (.toInt .u64) a0 h).bind fun r1 =>
 (call 36 [r1.1] r1.2).bind fun r2 =>
 (aBin .shl .plain (.int .u64 1) r2.1).bind fun v3 =>
 some (0, [v3], r2.2)
theorem run55 (call : Go.Fw.Call) (a0 : AVal) (h : Heap) : runFn call (.code A55) [a0] h = (S55 call a0 h).bind ansOf := by kernel_rfl

/-- (*slices.xorshift).Next -/
noncomputable def A56 : AFunc := ⟨1, (.seq (.region [.op 0 (.mov 2 (.const (.int .u64 0)))] [])
 (.seq (.region [.op 0 (.mov 3 (.tmp 0)),
 .op 1 (.nilchk 4 (.tmp 3)),
 .op 2 (.load 5 false 1 (.tmp 4)),
 .op 3 (.mov 6 (.tmp 0)),
 .op 4 (.nilchk 7 (.tmp 6)),
 .op 5 (.load 8 false 1 (.tmp 7)),
 .op 6 (.bin 9 .shl .plain (.tmp 8) (.const (.int .u64 13))),
 .op 7 (.bin 10 .xor .plain (.tmp 5) (.tmp 9)),
 .op 8 (.nilchk 11 (.tmp 3)),
 .op 9 (.store false 1 (.tmp 11) (.tmp 10))] [])
 (.seq (.region [.op 0 (.mov 12 (.tmp 0)),
 .op 1 (.nilchk 13 (.tmp 12)),
 .op 2 (.load 14 false 1 (.tmp 13)),
 .op 3 (.mov 15 (.tmp 0)),
 .op 4 (.nilchk 16 (.tmp 15)),
 .op 5 (.load 17 false 1 (.tmp 16)),
 .op 6 (.bin 18 .shr .plain (.tmp 17) (.const (.int .u64 7))),
 .op 7 (.bin 19 .xor .plain (.tmp 14) (.tmp 18)),
 .op 8 (.nilchk 20 (.tmp 12)),
 .op 9 (.store false 1 (.tmp 20) (.tmp 19))] [])
 (.seq (.region [.op 0 (.mov 21 (.tmp 0)),
 .op 1 (.nilchk 22 (.tmp 21)),
 .op 2 (.load 23 false 1 (.tmp 22)),
 .op 3 (.mov 24 (.tmp 0)),
 .op 4 (.nilchk 25 (.tmp 24)),
 .op 5 (.load 26 false 1 (.tmp 25)),
 .op 6 (.bin 27 .shl .plain (.tmp 26) (.const (.int .u64 17))),
 .op 7 (.bin 28 .xor .plain (.tmp 23) (.tmp 27)),
 .op 8 (.nilchk 29 (.tmp 21)),
 .op 9 (.store false 1 (.tmp 29) (.tmp 28))] [])
 (.seq (.region [.op 0 (.mov 30 (.tmp 0)),
 .op 1 (.nilchk 31 (.tmp 30)),
 .op 2 (.load 32 false 1 (.tmp 31)),
 .op 3 (.mov 2 (.tmp 32))] [])
 .ret))))),
 [.tmp 2]⟩
theorem ok56 : funcOk Try.prog (drawOk Try.prog) Try.f56 A56 = true := by kernel_rfl
noncomputable def S56 (call : Go.Fw.Call) (a0 : AVal) (h : Heap) : Option J :=
 (aNilchk a0).bind fun v1 =>
 (aLoad h 1 v1).bind fun c2 =>
 (fromCells false c2).bind fun v3 =>
 (aNilchk a0).bind fun v4 =>
 (aLoad h 1 v4).bind fun c5 =>
 (fromCells false c5).bind fun v6 =>
 (aBin .shl .plain v6 (.int .u64 13)).bind fun v7 =>
 (aBin .xor .plain v3 v7).bind fun v8 =>
 (aNilchk a0).bind fun v9 =>
 (aCells 1 v8).bind fun c10 =>
 (aStore h v9 c10).bind fun h11 =>
 (aNilchk a0).bind fun v12 =>
 (aLoad h11 1 v12).bind fun c13 =>
 (fromCells false c13).bind fun v14 =>
 (aNilchk a0).bind fun v15 =>
 (aLoad h11 1 v15).bind fun c16 =>
 (fromCells false c16).bind fun v17 =>
 (aBin .shr .plain v17 (.int .u64 7)).bind fun v18 =>
 (aBin .xor .plain v14 v18).bind fun v19 =>
 (aNilchk a0).bind fun v20 =>
 (aCells 1 v19).bind fun c21 =>
 (aStore h11 v20 c21).bind fun h22 =>
 (aNilchk a0).bind fun v23 =>
 (aLoad h22 1 v23).bind fun c24 =>
 (fromCells false c24).bind fun v25 =>
 (aNilchk a0).bind fun v26 =>
 (aLoad h22 1 v26).bind fun c27 =>
 (fromCells false c27).bind fun v28 =>
 (aBin .shl .plain v28 (.int .u64 17)).bind fun v29 =>
 (aBin .xor .plain v25 v29).bind fun v30 =>
 (aNilchk a0).bind fun v31 =>
 (aCells 1 v30).bind fun c32 =>
 (aStore h22 v31 c32).bind fun h33 =>
 (aNilchk a0).bind fun v34 =>
 (aLoad h33 1 v34).bind fun c35 =>
 (fromCells false c35).bind fun v36 =>
 some (0, [v36], h33)
theorem run56 (call : Go.Fw.Call) (a0 : AVal) (h : Heap) : runFn call (.code A56) [a0] h = (S56 call a0 h).bind ansOf := by kernel_rfl

/-- slices.medianAdjacentOrdered[string] -/
noncomputable def A57 : AFunc := ⟨3, (.seq (.region [.op 0 (.mov 6 (.const (.int .i64 0)))] [])
 (.seq (.region [.op 0 (.mov 7 (.tmp 0)),
 .op 1 (.mov 8 (.tmp 1)),
 .op 2 (.bin 9 .sub .plain (.tmp 8) (.const (.int .i64 1))),
 .op 3 (.mov 10 (.tmp 1)),
 .op 4 (.mov 11 (.tmp 1)),
 .op 5 (.bin 12 .add .plain (.tmp 11) (.const (.int .i64 1))),
 .op 6 (.mov 13 (.tmp 2)),
 .op 7 (.call 14 58 [.tmp 7, .tmp 9, .tmp 10, .tmp 12, .tmp 13]),
 .op 8 (.mov 6 (.tmp 14))] [])
 .ret)),
 [.tmp 6]⟩
theorem ok57 : funcOk Try.prog (drawOk Try.prog) Try.f57 A57 = true := by kernel_rfl
noncomputable def S57 (call : Go.Fw.Call) (a0 a1 a2 : AVal) (h : Heap) : Option J :=
 (aBin .sub .plain a1 (.int .i64 1)).bind fun v1 =>
 (aBin .add .plain a1 (.int .i64 1)).bind fun v2 =>
 (call 58 [a0, v1, a1, v2, a2] h).bind fun r3 =>
 some (0, [r3.1], r3.2)
theorem run57 (call : Go.Fw.Call) (a0 a1 a2 : AVal) (h : Heap) : runFn call (.code A57) [a0, a1, a2] h = (S57 call a0 a1 a2 h).bind ansOf := by kernel_rfl

/-- slices.medianOrdered[string] -/
noncomputable def A58 : AFunc := ⟨5, (.seq (.region [.op 0 (.mov 10 (.const (.int .i64 0)))] [])
 (.seq (.region [.op 0 (.mov 12 (.tmp 0)),
 .op 1 (.mov 13 (.tmp 1)),
 .op 2 (.mov 14 (.tmp 2)),
 .op 3 (.mov 15 (.tmp 4)),
 .op 4 (.call 16 60 [.tmp 12, .tmp 13, .tmp 14, .tmp 15]),
 .op 5 (.mov 11 (.tmp 16)),
 .op 6 (.extract 17 (.tmp 11) 0),
 .op 7 (.extract 18 (.tmp 11) 1),
 .op 8 (.mov 1 (.tmp 17)),
 .op 9 (.mov 2 (.tmp 18))] [])
 (.seq (.region [.op 0 (.mov 20 (.tmp 0)),
 .op 1 (.mov 21 (.tmp 2)),
 .op 2 (.mov 22 (.tmp 3)),
 .op 3 (.mov 23 (.tmp 4)),
 .op 4 (.call 24 60 [.tmp 20, .tmp 21, .tmp 22, .tmp 23]),
 .op 5 (.mov 19 (.tmp 24)),
 .op 6 (.extract 25 (.tmp 19) 0),
 .op 7 (.extract 26 (.tmp 19) 1),
 .op 8 (.mov 2 (.tmp 25)),
 .op 9 (.mov 3 (.tmp 26))] [])
 (.seq (.region [.op 0 (.mov 28 (.tmp 0)),
 .op 1 (.mov 29 (.tmp 1)),
 .op 2 (.mov 30 (.tmp 2)),
 .op 3 (.mov 31 (.tmp 4)),
 .op 4 (.call 32 60 [.tmp 28, .tmp 29, .tmp 30, .tmp 31]),
 .op 5 (.mov 27 (.tmp 32)),
 .op 6 (.extract 33 (.tmp 27) 0),
 .op 7 (.extract 34 (.tmp 27) 1),
 .op 8 (.mov 1 (.tmp 33)),
 .op 9 (.mov 2 (.tmp 34))] [])
 (.seq (.region [.op 0 (.mov 35 (.tmp 2)),
 .op 1 (.mov 10 (.tmp 35))] [])
 .ret))))),
 [.tmp 10]⟩
theorem ok58 : funcOk Try.prog (drawOk Try.prog) Try.f58 A58 = true := by kernel_rfl
noncomputable def S58 (call : Go.Fw.Call) (a0 a1 a2 a3 a4 : AVal) (h : Heap) : Option J :=
 (call 60 [a0, a1, a2, a4] h).bind fun r1 =>
 (aExtract 0 r1.1).bind fun v2 =>
 (aExtract 1 r1.1).bind fun v3 =>
 (call 60 [a0, v3, a3, a4] r1.2).bind fun r4 =>
 (aExtract 0 r4.1).bind fun v5 =>
 (aExtract 1 r4.1).bind fun v6 =>
 (call 60 [a0, v2, v5, a4] r4.2).bind fun r7 =>
 (aExtract 0 r7.1).bind fun v8 =>
 (aExtract 1 r7.1).bind fun v9 =>
 some (0, [v9], r7.2)
theorem run58 (call : Go.Fw.Call) (a0 a1 a2 a3 a4 : AVal) (h : Heap) : runFn call (.code A58) [a0, a1, a2, a3, a4] h = (S58 call a0 a1 a2 a3 a4 h).bind ansOf := by kernel_rfl

/-- slices.rotateCmpFunc[frankpledge/api.Card] -/
noncomputable def A59 : AFunc := ⟨5, (.seq (.region [.op 0 (.mov 12 (.tmp 2)),
 .op 1 (.mov 13 (.tmp 1)),
 .op 2 (.bin 14 .sub .plain (.tmp 12) (.tmp 13)),
 .op 3 (.mov 10 (.tmp 14))] [])
 (.seq (.region [.op 0 (.mov 15 (.tmp 3)),
 .op 1 (.mov 16 (.tmp 2)),
 .op 2 (.bin 17 .sub .plain (.tmp 15) (.tmp 16)),
 .op 3 (.mov 11 (.tmp 17))] [])
 (.seq (.block 0 (.loop ⟨[0, 2, 4, 10, 11], []⟩ [((.exit 0), ⟨[0, 2, 4, 10], []⟩)]
 (.seq (.seq (.region [.op 0 (.mov 18 (.tmp 10)),
 .op 1 (.mov 19 (.tmp 11)),
 .op 2 (.bin 20 .neq .plain (.tmp 18) (.tmp 19))] [])
 (.cond (.tmp 20)
 .skip
 (.exit 0)))
 (.block 1 (.seq (.region [.op 0 (.mov 21 (.tmp 10)),
 .op 1 (.mov 22 (.tmp 11)),
 .op 2 (.bin 23 .gtr .plain (.tmp 21) (.tmp 22))] [])
 (.cond (.tmp 23)
 (.seq (.region [.op 0 (.mov 24 (.tmp 0)),
 .op 1 (.mov 25 (.tmp 2)),
 .op 2 (.mov 26 (.tmp 10)),
 .op 3 (.bin 27 .sub .plain (.tmp 25) (.tmp 26)),
 .op 4 (.mov 28 (.tmp 2)),
 .op 5 (.mov 29 (.tmp 11)),
 .op 6 (.mov 30 (.tmp 4)),
 .op 7 (.call 31 61 [.tmp 24, .tmp 27, .tmp 28, .tmp 29, .tmp 30])] [])
 (.region [.op 0 (.mov 32 (.tmp 10)),
 .op 1 (.mov 33 (.tmp 11)),
 .op 2 (.bin 34 .sub .plain (.tmp 32) (.tmp 33)),
 .op 3 (.mov 10 (.tmp 34))] []))
 (.seq (.region [.op 0 (.mov 35 (.tmp 0)),
 .op 1 (.mov 36 (.tmp 2)),
 .op 2 (.mov 37 (.tmp 10)),
 .op 3 (.bin 38 .sub .plain (.tmp 36) (.tmp 37)),
 .op 4 (.mov 39 (.tmp 2)),
 .op 5 (.mov 40 (.tmp 11)),
 .op 6 (.bin 41 .add .plain (.tmp 39) (.tmp 40)),
 .op 7 (.mov 42 (.tmp 10)),
 .op 8 (.bin 43 .sub .plain (.tmp 41) (.tmp 42)),
 .op 9 (.mov 44 (.tmp 10)),
 .op 10 (.mov 45 (.tmp 4)),
 .op 11 (.call 46 61 [.tmp 35, .tmp 38, .tmp 43, .tmp 44, .tmp 45])] [])
 (.region [.op 0 (.mov 47 (.tmp 11)),
 .op 1 (.mov 48 (.tmp 10)),
 .op 2 (.bin 49 .sub .plain (.tmp 47) (.tmp 48)),
 .op 3 (.mov 11 (.tmp 49))] []))))))))
 (.region [.op 0 (.mov 50 (.tmp 0)),
 .op 1 (.mov 51 (.tmp 2)),
 .op 2 (.mov 52 (.tmp 10)),
 .op 3 (.bin 53 .sub .plain (.tmp 51) (.tmp 52)),
 .op 4 (.mov 54 (.tmp 2)),
 .op 5 (.mov 55 (.tmp 10)),
 .op 6 (.mov 56 (.tmp 4)),
 .op 7 (.call 57 61 [.tmp 50, .tmp 53, .tmp 54, .tmp 55, .tmp 56])] [])))),
 []⟩
theorem ok59 : funcOk Try.prog (drawOk Try.prog) Try.f59 A59 = true := by kernel_rfl
/-- xs: t0, t2, t4, t10, t11 -/
noncomputable def L59_0 (call : Go.Fw.Call) (xs : List AVal) (h : Heap) : Option J :=
 (aBin .neq .plain (xs.getD 3 .undef) (xs.getD 4 .undef)).bind fun v3 =>
 condV v3
 ((aBin .gtr .plain (xs.getD 3 .undef) (xs.getD 4 .undef)).bind fun v4 =>
 condV v4
 ((aBin .sub .plain (xs.getD 1 .undef) (xs.getD 3 .undef)).bind fun v5 =>
 (call 61 [(xs.getD 0 .undef), v5, (xs.getD 1 .undef), (xs.getD 4 .undef), (xs.getD 2 .undef)] h).bind fun r6 =>
 (aBin .sub .plain (xs.getD 3 .undef) (xs.getD 4 .undef)).bind fun v7 =>
 some (0, [(xs.getD 0 .undef), (xs.getD 1 .undef), (xs.getD 2 .undef), v7, (xs.getD 4 .undef)], r6.2))
 ((aBin .sub .plain (xs.getD 1 .undef) (xs.getD 3 .undef)).bind fun v8 =>
 (aBin .add .plain (xs.getD 1 .undef) (xs.getD 4 .undef)).bind fun v9 =>
 (aBin .sub .plain v9 (xs.getD 3 .undef)).bind fun v10 =>
 (call 61 [(xs.getD 0 .undef), v8, v10, (xs.getD 3 .undef), (xs.getD 2 .undef)] h).bind fun r11 =>
 (aBin .sub .plain (xs.getD 4 .undef) (xs.getD 3 .undef)).bind fun v12 =>
 some (0, [(xs.getD 0 .undef), (xs.getD 1 .undef), (xs.getD 2 .undef), (xs.getD 3 .undef), v12], r11.2)))
 (some (1, [(xs.getD 0 .undef), (xs.getD 1 .undef), (xs.getD 2 .undef), (xs.getD 3 .undef)], h))
noncomputable def S59 (call : Go.Fw.Call) (a0 a1 a2 a3 a4 : AVal) (h : Heap) : Option J :=
 (aBin .sub .plain a2 a1).bind fun v1 =>
 (aBin .sub .plain a3 a2).bind fun v2 =>
 (loop (L59_0 call) [a0, a2, a4, v1, v2] h).bind fun x13 =>
 bif Nat.beq x13.1 1 then (aBin .sub .plain (x13.2.1.getD 1 .undef) (x13.2.1.getD 3 .undef)).bind fun v14 =>
 (call 61 [(x13.2.1.getD 0 .undef), v14, (x13.2.1.getD 1 .undef), (x13.2.1.getD 3 .undef), (x13.2.1.getD 2 .undef)] x13.2.2).bind fun r15 =>
 some (0, [.tuple []], r15.2) else
 none
theorem run59 (call : Go.Fw.Call) (a0 a1 a2 a3 a4 : AVal) (h : Heap) : runFn call (.code A59) [a0, a1, a2, a3, a4] h = (S59 call a0 a1 a2 a3 a4 h).bind ansOf := by kernel_rfl

/-- slices.order2Ordered[string] -/
noncomputable def A60 : AFunc := ⟨4, (.seq (.region [.op 0 (.mov 8 (.const (.int .i64 0))),
 .op 1 (.mov 9 (.const (.int .i64 0)))] [])
 (.seq (.seq (.region [.op 0 (.mov 10 (.tmp 0)),
 .op 1 (.mov 11 (.tmp 2)),
 .op 2 (.iaddr 12 none 1 (.tmp 10) (.tmp 11)),
 .op 3 (.load 13 false 1 (.tmp 12)),
 .op 4 (.mov 14 (.tmp 0)),
 .op 5 (.mov 15 (.tmp 1)),
 .op 6 (.iaddr 16 none 1 (.tmp 14) (.tmp 15)),
 .op 7 (.load 17 false 1 (.tmp 16)),
 .op 8 (.call 18 46 [.tmp 13, .tmp 17])] [])
 (.cond (.tmp 18)
 (.seq (.region [.op 0 (.mov 19 (.tmp 3)),
 .op 1 (.nilchk 20 (.tmp 19)),
 .op 2 (.load 21 false 1 (.tmp 20)),
 .op 3 (.bin 22 .add .plain (.tmp 21) (.const (.int .i64 1))),
 .op 4 (.nilchk 23 (.tmp 19)),
 .op 5 (.store false 1 (.tmp 23) (.tmp 22))] [])
 (.seq (.region [.op 0 (.mov 24 (.tmp 2)),
 .op 1 (.mov 25 (.tmp 1)),
 .op 2 (.mov 8 (.tmp 24)),
 .op 3 (.mov 9 (.tmp 25))] [])
 .ret))
 .skip))
 (.seq (.region [.op 0 (.mov 26 (.tmp 1)),
 .op 1 (.mov 27 (.tmp 2)),
 .op 2 (.mov 8 (.tmp 26)),
 .op 3 (.mov 9 (.tmp 27))] [])
 .ret))),
 [.tmp 8, .tmp 9]⟩
theorem ok60 : funcOk Try.prog (drawOk Try.prog) Try.f60 A60 = true := by kernel_rfl
noncomputable def S60 (call : Go.Fw.Call) (a0 a1 a2 a3 : AVal) (h : Heap) : Option J :=
 (aIaddr 1 a0 a2).bind fun v1 =>
 (aLoad h 1 v1).bind fun c2 =>
 (fromCells false c2).bind fun v3 =>
 (aIaddr 1 a0 a1).bind fun v4 =>
 (aLoad h 1 v4).bind fun c5 =>
 (fromCells false c5).bind fun v6 =>
 (call 46 [v3, v6] h).bind fun r7 =>
 condV r7.1
 ((aNilchk a3).bind fun v8 =>
 (aLoad r7.2 1 v8).bind fun c9 =>
 (fromCells false c9).bind fun v10 =>
 (aBin .add .plain v10 (.int .i64 1)).bind fun v11 =>
 (aNilchk a3).bind fun v12 =>
 (aCells 1 v11).bind fun c13 =>
 (aStore r7.2 v12 c13).bind fun h14 =>
 some (0, [.tuple [a2, a1]], h14))
 (some (0, [.tuple [a1, a2]], r7.2))
theorem run60 (call : Go.Fw.Call) (a0 a1 a2 a3 : AVal) (h : Heap) : runFn call (.code A60) [a0, a1, a2, a3] h = (S60 call a0 a1 a2 a3 h).bind ansOf := by kernel_rfl

/-- slices.swapRangeCmpFunc[frankpledge/api.Card] -/
noncomputable def A61 : AFunc := ⟨5, (.seq (.region [.op 0 (.mov 10 (.const (.int .i64 0)))] [])
 (.block 0 (.loop ⟨[0, 1, 2, 3, 10], []⟩ [((.exit 0), ⟨[], []⟩)]
 (.seq (.seq (.region [.op 0 (.mov 11 (.tmp 10)),
 .op 1 (.mov 12 (.tmp 3)),
 .op 2 (.bin 13 .lss .plain (.tmp 11) (.tmp 12))] [])
 (.cond (.tmp 13)
 .skip
 (.exit 0)))
 (.seq (.block 1 (.region [.op 0 (.mov 16 (.tmp 0)),
 .op 1 (.mov 17 (.tmp 1)),
 .op 2 (.mov 18 (.tmp 10)),
 .op 3 (.bin 19 .add .plain (.tmp 17) (.tmp 18)),
 .op 4 (.mov 20 (.tmp 0)),
 .op 5 (.mov 21 (.tmp 2)),
 .op 6 (.mov 22 (.tmp 10)),
 .op 7 (.bin 23 .add .plain (.tmp 21) (.tmp 22)),
 .op 8 (.mov 24 (.tmp 0)),
 .op 9 (.mov 25 (.tmp 2)),
 .op 10 (.mov 26 (.tmp 10)),
 .op 11 (.bin 27 .add .plain (.tmp 25) (.tmp 26)),
 .op 12 (.iaddr 28 none 9 (.tmp 24) (.tmp 27)),
 .op 13 (.load 29 true 9 (.tmp 28)),
 .op 14 (.mov 30 (.tmp 0)),
 .op 15 (.mov 31 (.tmp 1)),
 .op 16 (.mov 32 (.tmp 10)),
 .op 17 (.bin 33 .add .plain (.tmp 31) (.tmp 32)),
 .op 18 (.iaddr 34 none 9 (.tmp 30) (.tmp 33)),
 .op 19 (.load 35 true 9 (.tmp 34)),
 .op 20 (.iaddr 36 none 9 (.tmp 16) (.tmp 19)),
 .op 21 (.store true 9 (.tmp 36) (.tmp 29)),
 .op 22 (.iaddr 37 none 9 (.tmp 20) (.tmp 23)),
 .op 23 (.store true 9 (.tmp 37) (.tmp 35))] []))
 (.region [.op 0 (.mov 14 (.tmp 10)),
 .op 1 (.bin 15 .add .plain (.tmp 14) (.const (.int .i64 1))),
 .op 2 (.mov 10 (.tmp 15))] [])))))),
 []⟩
theorem ok61 : funcOk Try.prog (drawOk Try.prog) Try.f61 A61 = true := by kernel_rfl
/-- xs: t0, t1, t2, t3, t10 -/
noncomputable def L61_0 (call : Go.Fw.Call) (xs : List AVal) (h : Heap) : Option J :=
 (aBin .lss .plain (xs.getD 4 .undef) (xs.getD 3 .undef)).bind fun v1 =>
 condV v1
 ((aBin .add .plain (xs.getD 1 .undef) (xs.getD 4 .undef)).bind fun v2 =>
 (aBin .add .plain (xs.getD 2 .undef) (xs.getD 4 .undef)).bind fun v3 =>
 (aBin .add .plain (xs.getD 2 .undef) (xs.getD 4 .undef)).bind fun v4 =>
 (aIaddr 9 (xs.getD 0 .undef) v4).bind fun v5 =>
 (aLoad h 9 v5).bind fun c6 =>
 (fromCells true c6).bind fun v7 =>
 (aBin .add .plain (xs.getD 1 .undef) (xs.getD 4 .undef)).bind fun v8 =>
 (aIaddr 9 (xs.getD 0 .undef) v8).bind fun v9 =>
 (aLoad h 9 v9).bind fun c10 =>
 (fromCells true c10).bind fun v11 =>
 (aIaddr 9 (xs.getD 0 .undef) v2).bind fun v12 =>
 (aCells 9 v7).bind fun c13 =>
 (aStore h v12 c13).bind fun h14 =>
 (aIaddr 9 (xs.getD 0 .undef) v3).bind fun v15 =>
 (aCells 9 v11).bind fun c16 =>
 (aStore h14 v15 c16).bind fun h17 =>
 (aBin .add .plain (xs.getD 4 .undef) (.int .i64 1)).bind fun v18 =>
 some (0, [(xs.getD 0 .undef), (xs.getD 1 .undef), (xs.getD 2 .undef), (xs.getD 3 .undef), v18], h17))
 (some (1, [], h))
noncomputable def S61 (call : Go.Fw.Call) (a0 a1 a2 a3 a4 : AVal) (h : Heap) : Option J :=
 (loop (L61_0 call) [a0, a1, a2, a3, (.int .i64 0)] h).bind fun x19 =>
 bif Nat.beq x19.1 1 then some (0, [.tuple []], x19.2.2) else
 none
theorem run61 (call : Go.Fw.Call) (a0 a1 a2 a3 a4 : AVal) (h : Heap) : runFn call (.code A61) [a0, a1, a2, a3, a4] h = (S61 call a0 a1 a2 a3 a4 h).bind ansOf := by kernel_rfl

noncomputable def tbl (f : Nat) : Option AFn :=
 match f with
 | 5 => some (.code A5)
 | 6 => some (.code A6)
 | 7 => some (.code A7)
 | 8 => some (.code A8)
 | 9 => some (.code A9)
 | 10 => some (.code A10)
 | 11 => some (.code A11)
 | 12 => some (.code A12)
 | 13 => some (.code A13)
 | 14 => some (.code A14)
 | 15 => some (.code A15)
 | 16 => some (.code A16)
 | 17 => some (.code A17)
 | 18 => some (.code A18)
 | 19 => some (.code A19)
 | 20 => some (.code A20)
 | 21 => some (.code A21)
 | 22 => some (.code A22)
 | 23 => some (.code A23)
 | 24 => some (.code A24)
 | 25 => some (.code A25)
 | 26 => some (.code A26)
 | 27 => some (.code A27)
 | 28 => some (.code A28)
 | 29 => some (.code A29)
 | 30 => some (.code A30)
 | 31 => some (.code A31)
 | 32 => some (.code A32)
 | 33 => some (.code A33)
 | 34 => some (.code A34)
 | 35 => some (.code A35)
 | 36 => some (.code A36)
 | 37 => some (.code A37)
 | 38 => some (.code A38)
 | 39 => some (.code A39)
 | 40 => some (.code A40)
 | 41 => some (.code A41)
 | 42 => some (.code A42)
 | 43 => some (.code A43)
 | 44 => some (.code A44)
 | 45 => some (.code A45)
 | 46 => some (.code A46)
 | 47 => some (.code A47)
 | 48 => some (.code A48)
 | 49 => some (.code A49)
 | 50 => some (.code A50)
 | 51 => some (.code A51)
 | 52 => some (.code A52)
 | 53 => some (.code A53)
 | 54 => some (.code A54)
 | 55 => some (.code A55)
 | 56 => some (.code A56)
 | 57 => some (.code A57)
 | 58 => some (.code A58)
 | 59 => some (.code A59)
 | 60 => some (.code A60)
 | 61 => some (.code A61)
 | _ => none
theorem c5 (a0 : AVal) (h : Heap) : E tbl 5 [a0] h = (S5 (E tbl) a0 h).bind ansOf := (E_eq tbl 5 [a0] h).trans (run5 (E tbl) a0 h)
theorem c6 (a0 a1 : AVal) (h : Heap) : E tbl 6 [a0, a1] h = (S6 (E tbl) a0 a1 h).bind ansOf := (E_eq tbl 6 [a0, a1] h).trans (run6 (E tbl) a0 a1 h)
theorem c7 (a0 a1 a2 : AVal) (h : Heap) : E tbl 7 [a0, a1, a2] h = (S7 (E tbl) a0 a1 a2 h).bind ansOf := (E_eq tbl 7 [a0, a1, a2] h).trans (run7 (E tbl) a0 a1 a2 h)
theorem c8 (h : Heap) : E tbl 8 [] h = (S8 (E tbl)  h).bind ansOf := (E_eq tbl 8 [] h).trans (run8 (E tbl)  h)
theorem c9 (a0 : AVal) (h : Heap) : E tbl 9 [a0] h = (S9 (E tbl) a0 h).bind ansOf := (E_eq tbl 9 [a0] h).trans (run9 (E tbl) a0 h)
theorem c10 (a0 a1 : AVal) (h : Heap) : E tbl 10 [a0, a1] h = (S10 (E tbl) a0 a1 h).bind ansOf := (E_eq tbl 10 [a0, a1] h).trans (run10 (E tbl) a0 a1 h)
theorem c11 (a0 a1 a2 : AVal) (h : Heap) : E tbl 11 [a0, a1, a2] h = (S11 (E tbl) a0 a1 a2 h).bind ansOf := (E_eq tbl 11 [a0, a1, a2] h).trans (run11 (E tbl) a0 a1 a2 h)
theorem c12 (a0 : AVal) (h : Heap) : E tbl 12 [a0] h = (S12 (E tbl) a0 h).bind ansOf := (E_eq tbl 12 [a0] h).trans (run12 (E tbl) a0 h)
theorem c13 (a0 : AVal) (h : Heap) : E tbl 13 [a0] h = (S13 (E tbl) a0 h).bind ansOf := (E_eq tbl 13 [a0] h).trans (run13 (E tbl) a0 h)
theorem c14 (a0 : AVal) (h : Heap) : E tbl 14 [a0] h = (S14 (E tbl) a0 h).bind ansOf := (E_eq tbl 14 [a0] h).trans (run14 (E tbl) a0 h)
theorem c15 (a0 a1 : AVal) (h : Heap) : E tbl 15 [a0, a1] h = (S15 (E tbl) a0 a1 h).bind ansOf := (E_eq tbl 15 [a0, a1] h).trans (run15 (E tbl) a0 a1 h)
theorem c16 (a0 : AVal) (h : Heap) : E tbl 16 [a0] h = (S16 (E tbl) a0 h).bind ansOf := (E_eq tbl 16 [a0] h).trans (run16 (E tbl) a0 h)
theorem c17 (a0 a1 : AVal) (h : Heap) : E tbl 17 [a0, a1] h = (S17 (E tbl) a0 a1 h).bind ansOf := (E_eq tbl 17 [a0, a1] h).trans (run17 (E tbl) a0 a1 h)
theorem c18 (a0 a1 : AVal) (h : Heap) : E tbl 18 [a0, a1] h = (S18 (E tbl) a0 a1 h).bind ansOf := (E_eq tbl 18 [a0, a1] h).trans (run18 (E tbl) a0 a1 h)
theorem c19 (a0 : AVal) (h : Heap) : E tbl 19 [a0] h = (S19 (E tbl) a0 h).bind ansOf := (E_eq tbl 19 [a0] h).trans (run19 (E tbl) a0 h)
theorem c20 (a0 : AVal) (h : Heap) : E tbl 20 [a0] h = (S20 (E tbl) a0 h).bind ansOf := (E_eq tbl 20 [a0] h).trans (run20 (E tbl) a0 h)
theorem c21 (a0 : AVal) (h : Heap) : E tbl 21 [a0] h = (S21 (E tbl) a0 h).bind ansOf := (E_eq tbl 21 [a0] h).trans (run21 (E tbl) a0 h)
theorem c22 (a0 : AVal) (h : Heap) : E tbl 22 [a0] h = (S22 (E tbl) a0 h).bind ansOf := (E_eq tbl 22 [a0] h).trans (run22 (E tbl) a0 h)
theorem c23 (a0 : AVal) (h : Heap) : E tbl 23 [a0] h = (S23 (E tbl) a0 h).bind ansOf := (E_eq tbl 23 [a0] h).trans (run23 (E tbl) a0 h)
theorem c24 (a0 : AVal) (h : Heap) : E tbl 24 [a0] h = (S24 (E tbl) a0 h).bind ansOf := (E_eq tbl 24 [a0] h).trans (run24 (E tbl) a0 h)
theorem c25 (a0 : AVal) (h : Heap) : E tbl 25 [a0] h = (S25 (E tbl) a0 h).bind ansOf := (E_eq tbl 25 [a0] h).trans (run25 (E tbl) a0 h)
theorem c26 (a0 a1 a2 : AVal) (h : Heap) : E tbl 26 [a0, a1, a2] h = (S26 (E tbl) a0 a1 a2 h).bind ansOf := (E_eq tbl 26 [a0, a1, a2] h).trans (run26 (E tbl) a0 a1 a2 h)
theorem c27 (a0 : AVal) (h : Heap) : E tbl 27 [a0] h = (S27 (E tbl) a0 h).bind ansOf := (E_eq tbl 27 [a0] h).trans (run27 (E tbl) a0 h)
theorem c28 (a0 : AVal) (h : Heap) : E tbl 28 [a0] h = (S28 (E tbl) a0 h).bind ansOf := (E_eq tbl 28 [a0] h).trans (run28 (E tbl) a0 h)
theorem c29 (a0 a1 : AVal) (h : Heap) : E tbl 29 [a0, a1] h = (S29 (E tbl) a0 a1 h).bind ansOf := (E_eq tbl 29 [a0, a1] h).trans (run29 (E tbl) a0 a1 h)
theorem c30 (a0 : AVal) (h : Heap) : E tbl 30 [a0] h = (S30 (E tbl) a0 h).bind ansOf := (E_eq tbl 30 [a0] h).trans (run30 (E tbl) a0 h)
theorem c31 (a0 a1 : AVal) (h : Heap) : E tbl 31 [a0, a1] h = (S31 (E tbl) a0 a1 h).bind ansOf := (E_eq tbl 31 [a0, a1] h).trans (run31 (E tbl) a0 a1 h)
theorem c32 (a0 a1 : AVal) (h : Heap) : E tbl 32 [a0, a1] h = (S32 (E tbl) a0 a1 h).bind ansOf := (E_eq tbl 32 [a0, a1] h).trans (run32 (E tbl) a0 a1 h)
theorem c33 (a0 a1 : AVal) (h : Heap) : E tbl 33 [a0, a1] h = (S33 (E tbl) a0 a1 h).bind ansOf := (E_eq tbl 33 [a0, a1] h).trans (run33 (E tbl) a0 a1 h)
theorem c34 (a0 : AVal) (h : Heap) : E tbl 34 [a0] h = (S34 (E tbl) a0 h).bind ansOf := (E_eq tbl 34 [a0] h).trans (run34 (E tbl) a0 h)
theorem c35 (a0 a1 a2 a3 : AVal) (h : Heap) : E tbl 35 [a0, a1, a2, a3] h = (S35 (E tbl) a0 a1 a2 a3 h).bind ansOf := (E_eq tbl 35 [a0, a1, a2, a3] h).trans (run35 (E tbl) a0 a1 a2 a3 h)
theorem c36 (a0 : AVal) (h : Heap) : E tbl 36 [a0] h = (S36 (E tbl) a0 h).bind ansOf := (E_eq tbl 36 [a0] h).trans (run36 (E tbl) a0 h)
theorem c37 (a0 a1 a2 : AVal) (h : Heap) : E tbl 37 [a0, a1, a2] h = (S37 (E tbl) a0 a1 a2 h).bind ansOf := (E_eq tbl 37 [a0, a1, a2] h).trans (run37 (E tbl) a0 a1 a2 h)
theorem c38 (a0 : AVal) (h : Heap) : E tbl 38 [a0] h = (S38 (E tbl) a0 h).bind ansOf := (E_eq tbl 38 [a0] h).trans (run38 (E tbl) a0 h)
theorem c39 (a0 a1 : AVal) (h : Heap) : E tbl 39 [a0, a1] h = (S39 (E tbl) a0 a1 h).bind ansOf := (E_eq tbl 39 [a0, a1] h).trans (run39 (E tbl) a0 a1 h)
theorem c40 (a0 a1 a2 : AVal) (h : Heap) : E tbl 40 [a0, a1, a2] h = (S40 (E tbl) a0 a1 a2 h).bind ansOf := (E_eq tbl 40 [a0, a1, a2] h).trans (run40 (E tbl) a0 a1 a2 h)
theorem c41 (a0 a1 a2 : AVal) (h : Heap) : E tbl 41 [a0, a1, a2] h = (S41 (E tbl) a0 a1 a2 h).bind ansOf := (E_eq tbl 41 [a0, a1, a2] h).trans (run41 (E tbl) a0 a1 a2 h)
theorem c42 (a0 a1 a2 : AVal) (h : Heap) : E tbl 42 [a0, a1, a2] h = (S42 (E tbl) a0 a1 a2 h).bind ansOf := (E_eq tbl 42 [a0, a1, a2] h).trans (run42 (E tbl) a0 a1 a2 h)
theorem c43 (a0 a1 a2 : AVal) (h : Heap) : E tbl 43 [a0, a1, a2] h = (S43 (E tbl) a0 a1 a2 h).bind ansOf := (E_eq tbl 43 [a0, a1, a2] h).trans (run43 (E tbl) a0 a1 a2 h)
theorem c44 (a0 a1 a2 : AVal) (h : Heap) : E tbl 44 [a0, a1, a2] h = (S44 (E tbl) a0 a1 a2 h).bind ansOf := (E_eq tbl 44 [a0, a1, a2] h).trans (run44 (E tbl) a0 a1 a2 h)
theorem c45 (a0 a1 a2 : AVal) (h : Heap) : E tbl 45 [a0, a1, a2] h = (S45 (E tbl) a0 a1 a2 h).bind ansOf := (E_eq tbl 45 [a0, a1, a2] h).trans (run45 (E tbl) a0 a1 a2 h)
theorem c46 (a0 a1 : AVal) (h : Heap) : E tbl 46 [a0, a1] h = (S46 (E tbl) a0 a1 h).bind ansOf := (E_eq tbl 46 [a0, a1] h).trans (run46 (E tbl) a0 a1 h)
theorem c47 (a0 a1 a2 a3 : AVal) (h : Heap) : E tbl 47 [a0, a1, a2, a3] h = (S47 (E tbl) a0 a1 a2 a3 h).bind ansOf := (E_eq tbl 47 [a0, a1, a2, a3] h).trans (run47 (E tbl) a0 a1 a2 a3 h)
theorem c48 (a0 a1 a2 a3 : AVal) (h : Heap) : E tbl 48 [a0, a1, a2, a3] h = (S48 (E tbl) a0 a1 a2 a3 h).bind ansOf := (E_eq tbl 48 [a0, a1, a2, a3] h).trans (run48 (E tbl) a0 a1 a2 a3 h)
theorem c49 (a0 : AVal) (h : Heap) : E tbl 49 [a0] h = (S49 (E tbl) a0 h).bind ansOf := (E_eq tbl 49 [a0] h).trans (run49 (E tbl) a0 h)
theorem c50 (a0 : AVal) (h : Heap) : E tbl 50 [a0] h = (S50 (E tbl) a0 h).bind ansOf := (E_eq tbl 50 [a0] h).trans (run50 (E tbl) a0 h)
theorem c51 (a0 a1 a2 a3 : AVal) (h : Heap) : E tbl 51 [a0, a1, a2, a3] h = (S51 (E tbl) a0 a1 a2 a3 h).bind ansOf := (E_eq tbl 51 [a0, a1, a2, a3] h).trans (run51 (E tbl) a0 a1 a2 a3 h)
theorem c52 (a0 a1 a2 a3 a4 : AVal) (h : Heap) : E tbl 52 [a0, a1, a2, a3, a4] h = (S52 (E tbl) a0 a1 a2 a3 a4 h).bind ansOf := (E_eq tbl 52 [a0, a1, a2, a3, a4] h).trans (run52 (E tbl) a0 a1 a2 a3 a4 h)
theorem c53 (a0 : AVal) (h : Heap) : E tbl 53 [a0] h = (S53 (E tbl) a0 h).bind ansOf := (E_eq tbl 53 [a0] h).trans (run53 (E tbl) a0 h)
theorem c54 (a0 a1 a2 a3 : AVal) (h : Heap) : E tbl 54 [a0, a1, a2, a3] h = (S54 (E tbl) a0 a1 a2 a3 h).bind ansOf := (E_eq tbl 54 [a0, a1, a2, a3] h).trans (run54 (E tbl) a0 a1 a2 a3 h)
theorem c55 (a0 : AVal) (h : Heap) : E tbl 55 [a0] h = (S55 (E tbl) a0 h).bind ansOf := (E_eq tbl 55 [a0] h).trans (run55 (E tbl) a0 h)
theorem c56 (a0 : AVal) (h : Heap) : E tbl 56 [a0] h = (S56 (E tbl) a0 h).bind ansOf := (E_eq tbl 56 [a0] h).trans (run56 (E tbl) a0 h)
theorem c57 (a0 a1 a2 : AVal) (h : Heap) : E tbl 57 [a0, a1, a2] h = (S57 (E tbl) a0 a1 a2 h).bind ansOf := (E_eq tbl 57 [a0, a1, a2] h).trans (run57 (E tbl) a0 a1 a2 h)
theorem c58 (a0 a1 a2 a3 a4 : AVal) (h : Heap) : E tbl 58 [a0, a1, a2, a3, a4] h = (S58 (E tbl) a0 a1 a2 a3 a4 h).bind ansOf := (E_eq tbl 58 [a0, a1, a2, a3, a4] h).trans (run58 (E tbl) a0 a1 a2 a3 a4 h)
theorem c59 (a0 a1 a2 a3 a4 : AVal) (h : Heap) : E tbl 59 [a0, a1, a2, a3, a4] h = (S59 (E tbl) a0 a1 a2 a3 a4 h).bind ansOf := (E_eq tbl 59 [a0, a1, a2, a3, a4] h).trans (run59 (E tbl) a0 a1 a2 a3 a4 h)
theorem c60 (a0 a1 a2 a3 : AVal) (h : Heap) : E tbl 60 [a0, a1, a2, a3] h = (S60 (E tbl) a0 a1 a2 a3 h).bind ansOf := (E_eq tbl 60 [a0, a1, a2, a3] h).trans (run60 (E tbl) a0 a1 a2 a3 h)
theorem c61 (a0 a1 a2 a3 a4 : AVal) (h : Heap) : E tbl 61 [a0, a1, a2, a3, a4] h = (S61 (E tbl) a0 a1 a2 a3 a4 h).bind ansOf := (E_eq tbl 61 [a0, a1, a2, a3, a4] h).trans (run61 (E tbl) a0 a1 a2 a3 a4 h)
theorem tbl_ok : ∀ f a, tbl f = some a → FnOk Try.prog (drawOk Try.prog) f a := by
  intro f a h
  unfold tbl at h
  split at h
  · cases h; exact ⟨_, Try.func5, by decide +kernel, ok5⟩
  · cases h; exact ⟨_, Try.func6, by decide +kernel, ok6⟩
  · cases h; exact ⟨_, Try.func7, by decide +kernel, ok7⟩
  · cases h; exact ⟨_, Try.func8, by decide +kernel, ok8⟩
  · cases h; exact ⟨_, Try.func9, by decide +kernel, ok9⟩
  · cases h; exact ⟨_, Try.func10, by decide +kernel, ok10⟩
  · cases h; exact ⟨_, Try.func11, by decide +kernel, ok11⟩
  · cases h; exact ⟨_, Try.func12, by decide +kernel, ok12⟩
  · cases h; exact ⟨_, Try.func13, by decide +kernel, ok13⟩
  · cases h; exact ⟨_, Try.func14, by decide +kernel, ok14⟩
  · cases h; exact ⟨_, Try.func15, by decide +kernel, ok15⟩
  · cases h; exact ⟨_, Try.func16, by decide +kernel, ok16⟩
  · cases h; exact ⟨_, Try.func17, by decide +kernel, ok17⟩
  · cases h; exact ⟨_, Try.func18, by decide +kernel, ok18⟩
  · cases h; exact ⟨_, Try.func19, by decide +kernel, ok19⟩
  · cases h; exact ⟨_, Try.func20, by decide +kernel, ok20⟩
  · cases h; exact ⟨_, Try.func21, by decide +kernel, ok21⟩
  · cases h; exact ⟨_, Try.func22, by decide +kernel, ok22⟩
  · cases h; exact ⟨_, Try.func23, by decide +kernel, ok23⟩
  · cases h; exact ⟨_, Try.func24, by decide +kernel, ok24⟩
  · cases h; exact ⟨_, Try.func25, by decide +kernel, ok25⟩
  · cases h; exact ⟨_, Try.func26, by decide +kernel, ok26⟩
  · cases h; exact ⟨_, Try.func27, by decide +kernel, ok27⟩
  · cases h; exact ⟨_, Try.func28, by decide +kernel, ok28⟩
  · cases h; exact ⟨_, Try.func29, by decide +kernel, ok29⟩
  · cases h; exact ⟨_, Try.func30, by decide +kernel, ok30⟩
  · cases h; exact ⟨_, Try.func31, by decide +kernel, ok31⟩
  · cases h; exact ⟨_, Try.func32, by decide +kernel, ok32⟩
  · cases h; exact ⟨_, Try.func33, by decide +kernel, ok33⟩
  · cases h; exact ⟨_, Try.func34, by decide +kernel, ok34⟩
  · cases h; exact ⟨_, Try.func35, by decide +kernel, ok35⟩
  · cases h; exact ⟨_, Try.func36, by decide +kernel, ok36⟩
  · cases h; exact ⟨_, Try.func37, by decide +kernel, ok37⟩
  · cases h; exact ⟨_, Try.func38, by decide +kernel, ok38⟩
  · cases h; exact ⟨_, Try.func39, by decide +kernel, ok39⟩
  · cases h; exact ⟨_, Try.func40, by decide +kernel, ok40⟩
  · cases h; exact ⟨_, Try.func41, by decide +kernel, ok41⟩
  · cases h; exact ⟨_, Try.func42, by decide +kernel, ok42⟩
  · cases h; exact ⟨_, Try.func43, by decide +kernel, ok43⟩
  · cases h; exact ⟨_, Try.func44, by decide +kernel, ok44⟩
  · cases h; exact ⟨_, Try.func45, by decide +kernel, ok45⟩
  · cases h; exact ⟨_, Try.func46, by decide +kernel, ok46⟩
  · cases h; exact ⟨_, Try.func47, by decide +kernel, ok47⟩
  · cases h; exact ⟨_, Try.func48, by decide +kernel, ok48⟩
  · cases h; exact ⟨_, Try.func49, by decide +kernel, ok49⟩
  · cases h; exact ⟨_, Try.func50, by decide +kernel, ok50⟩
  · cases h; exact ⟨_, Try.func51, by decide +kernel, ok51⟩
  · cases h; exact ⟨_, Try.func52, by decide +kernel, ok52⟩
  · cases h; exact ⟨_, Try.func53, by decide +kernel, ok53⟩
  · cases h; exact ⟨_, Try.func54, by decide +kernel, ok54⟩
  · cases h; exact ⟨_, Try.func55, by decide +kernel, ok55⟩
  · cases h; exact ⟨_, Try.func56, by decide +kernel, ok56⟩
  · cases h; exact ⟨_, Try.func57, by decide +kernel, ok57⟩
  · cases h; exact ⟨_, Try.func58, by decide +kernel, ok58⟩
  · cases h; exact ⟨_, Try.func59, by decide +kernel, ok59⟩
  · cases h; exact ⟨_, Try.func60, by decide +kernel, ok60⟩
  · cases h; exact ⟨_, Try.func61, by decide +kernel, ok61⟩
  · cases h
theorem prog_ok : CallOk Try.prog (E tbl) := E_ok tbl_ok
end Go.Proofs.Ytllogmedpmanoaa.Code
