import Derived.Test.YtbfemhpgiilimaaProg
import Derived.Test.YtbfemhpgiilimaaFwZc
import Derived.KernelRfl
namespace Go.Proofs.Ytbfemhpgiilimaa.Code
set_option linter.unusedSimpArgs false
set_option linter.unusedVariables false
open Go.Fw
/-- frankpledge/frankpledgelaw4.StampNumbers -/
noncomputable def A3 : AFunc := ⟨0, (.seq (.region [.op 0 (.mov 0 (.const (.bool false)))] [])
 (.seq (.region [.op 0 (.call 6 7 []),
 .op 1 (.mov 1 (.tmp 6))] [])
 (.seq (.seq (.region [.op 0 (.mov 7 (.tmp 1)),
 .op 1 (.len 8 false (.tmp 7)),
 .op 2 (.mov 9 (.const (.int .i64 0)))] [])
 (.block 0 (.loop ⟨[1, 7, 8, 9], []⟩ [((.exit 0), ⟨[], []⟩), (.ret, ⟨[0], []⟩)]
 (.seq (.region [.op 0 (.bin 10 .lss .plain (.tmp 9) (.tmp 8))] [])
 (.seq (.cond (.tmp 10)
 .skip
 (.exit 0))
 (.seq (.block 1 (.seq (.region [.op 0 (.iaddr 11 none 3 (.tmp 7) (.tmp 9)),
 .op 1 (.load 12 true 3 (.tmp 11)),
 .op 2 (.alloc 3 true [.int .i64 0, .int .i64 0, .int .i64 0]),
 .op 3 (.store true 3 (.tmp 3) (.tmp 12))] [])
 (.seq (.region [.op 0 (.mov 13 (.tmp 1)),
 .op 1 (.len 14 false (.tmp 13)),
 .op 2 (.mov 15 (.const (.int .i64 0)))] [])
 (.block 2 (.loop ⟨[1, 7, 8, 9, 13, 14, 15], [3]⟩ [((.exit 2), ⟨[1, 7, 8, 9], []⟩), (.ret, ⟨[0], []⟩)]
 (.seq (.region [.op 0 (.bin 16 .lss .plain (.tmp 15) (.tmp 14))] [])
 (.seq (.cond (.tmp 16)
 .skip
 (.exit 2))
 (.seq (.block 3 (.seq (.region [.op 0 (.iaddr 17 none 3 (.tmp 13) (.tmp 15)),
 .op 1 (.load 18 true 3 (.tmp 17)),
 .op 2 (.alloc 5 true [.int .i64 0, .int .i64 0, .int .i64 0]),
 .op 3 (.store true 3 (.tmp 5) (.tmp 18))] [])
 (.seq (.region [.op 0 (.load 19 true 3 (.tmp 3)),
 .op 1 (.load 20 true 3 (.tmp 5)),
 .op 2 (.faddr 21 0 (.tmp 5)),
 .op 3 (.load 22 false 1 (.tmp 21)),
 .op 4 (.faddr 23 1 (.tmp 3)),
 .op 5 (.load 24 false 1 (.tmp 23)),
 .op 6 (.call 25 8 [.tmp 19, .tmp 20, .tmp 22, .tmp 24]),
 .op 7 (.un 26 .not (.tmp 25))] [])
 (.cond (.tmp 26)
 (.seq (.region [.op 0 (.mov 0 (.const (.bool false)))] [])
 .ret)
 .skip))))
 (.region [.op 0 (.bin 27 .add .plain (.tmp 15) (.const (.int .i64 1))),
 .op 1 (.mov 15 (.tmp 27))] [])))))))))
 (.region [.op 0 (.bin 28 .add .plain (.tmp 9) (.const (.int .i64 1))),
 .op 1 (.mov 9 (.tmp 28))] [])))))))
 (.seq (.region [.op 0 (.call 29 9 []),
 .op 1 (.mov 0 (.tmp 29))] [])
 .ret)))),
 [.tmp 0]⟩
theorem ok3 : funcOk Try.prog (drawOk Try.prog) Try.f3 A3 = true := by kernel_rfl
/-- xs: t1, t7, t8, t9, t13, t14, t15, cells of 3 -/
noncomputable def L3_1 (call : Go.Fw.Call) (xs : List AVal) (h : Heap) : Option J :=
 (aBin .lss .plain (xs.getD 6 .undef) (xs.getD 5 .undef)).bind fun v9 =>
 condV v9
 ((aIaddr 3 (xs.getD 4 .undef) (xs.getD 6 .undef)).bind fun v10 =>
 (aLoad h 3 v10).bind fun c11 =>
 (fromCells true c11).bind fun v12 =>
 (aCells 3 v12).bind fun c13 =>
 bif Nat.ble ((0) + 3) (List.length (α := AVal) [.int .i64 0, .int .i64 0, .int .i64 0]) then (rdL (AVal.aggCells (xs.getD 7 .undef)) 0 3).bind fun c14 =>
 (fromCells true c14).bind fun v15 =>
 (rdL (splice [.int .i64 0, .int .i64 0, .int .i64 0] (0) c13) 0 3).bind fun c16 =>
 (fromCells true c16).bind fun v17 =>
 (rdL (splice [.int .i64 0, .int .i64 0, .int .i64 0] (0) c13) 0 1).bind fun c18 =>
 (fromCells false c18).bind fun v19 =>
 (rdL (AVal.aggCells (xs.getD 7 .undef)) 1 1).bind fun c20 =>
 (fromCells false c20).bind fun v21 =>
 (call 8 [v15, v17, v19, v21] h).bind fun r22 =>
 (aUn .not r22.1).bind fun v23 =>
 condV v23
 (some (2, [(.bool false)], r22.2))
 ((aBin .add .plain (xs.getD 6 .undef) (.int .i64 1)).bind fun v24 =>
 some (0, [(xs.getD 0 .undef), (xs.getD 1 .undef), (xs.getD 2 .undef), (xs.getD 3 .undef), (xs.getD 4 .undef), (xs.getD 5 .undef), v24, (.agg (AVal.aggCells (xs.getD 7 .undef)))], r22.2)) else none)
 (some (1, [(xs.getD 0 .undef), (xs.getD 1 .undef), (xs.getD 2 .undef), (xs.getD 3 .undef)], h))
/-- xs: t1, t7, t8, t9 -/
noncomputable def L3_0 (call : Go.Fw.Call) (xs : List AVal) (h : Heap) : Option J :=
 (aBin .lss .plain (xs.getD 3 .undef) (xs.getD 2 .undef)).bind fun v3 =>
 condV v3
 ((aIaddr 3 (xs.getD 1 .undef) (xs.getD 3 .undef)).bind fun v4 =>
 (aLoad h 3 v4).bind fun c5 =>
 (fromCells true c5).bind fun v6 =>
 (aCells 3 v6).bind fun c7 =>
 bif Nat.ble ((0) + 3) (List.length (α := AVal) [.int .i64 0, .int .i64 0, .int .i64 0]) then (aLen false (xs.getD 0 .undef)).bind fun v8 =>
 (loop (L3_1 call) [(xs.getD 0 .undef), (xs.getD 1 .undef), (xs.getD 2 .undef), (xs.getD 3 .undef), (xs.getD 0 .undef), v8, (.int .i64 0), (.agg (splice [.int .i64 0, .int .i64 0, .int .i64 0] (0) c7))] h).bind fun x25 =>
 bif Nat.beq x25.1 1 then (aBin .add .plain (x25.2.1.getD 3 .undef) (.int .i64 1)).bind fun v26 =>
 some (0, [(x25.2.1.getD 0 .undef), (x25.2.1.getD 1 .undef), (x25.2.1.getD 2 .undef), v26], x25.2.2) else
 bif Nat.beq x25.1 2 then some (2, [(x25.2.1.getD 0 .undef)], x25.2.2) else
 none else none)
 (some (1, [], h))
noncomputable def S3 (call : Go.Fw.Call) (h : Heap) : Option J :=
 (call 7 [] h).bind fun r1 =>
 (aLen false r1.1).bind fun v2 =>
 (loop (L3_0 call) [r1.1, r1.1, v2, (.int .i64 0)] r1.2).bind fun x27 =>
 bif Nat.beq x27.1 1 then (call 9 [] x27.2.2).bind fun r28 =>
 some (0, [r28.1], r28.2) else
 bif Nat.beq x27.1 2 then some (0, [(x27.2.1.getD 0 .undef)], x27.2.2) else
 none
theorem run3 (call : Go.Fw.Call) (h : Heap) : runFn call (.code A3) [] h = (S3 call  h).bind ansOf := by kernel_rfl

/-- frankpledge/frankpledgelaw4.StampTells -/
noncomputable def A4 : AFunc := ⟨4, (.seq (.region [.op 0 (.box 4 true (.tmp 0)),
 .op 1 (.box 5 true (.tmp 1)),
 .op 2 (.mov 8 (.const (.bool false)))] [])
 (.seq (.region [.op 0 (.faddr 11 0 (.tmp 4)),
 .op 1 (.load 12 false 1 (.tmp 11)),
 .op 2 (.bin 13 .and .plain (.tmp 12) (.const (.int .i64 3))),
 .op 3 (.faddr 14 2 (.tmp 5)),
 .op 4 (.load 15 false 1 (.tmp 14)),
 .op 5 (.bin 16 .and .plain (.tmp 15) (.const (.int .i64 3))),
 .op 6 (.faddr 17 1 (.tmp 4)),
 .op 7 (.load 18 false 1 (.tmp 17)),
 .op 8 (.bin 19 .and .plain (.tmp 18) (.const (.int .i64 1))),
 .op 9 (.build 20 [.int .i64 0, .int .i64 0, .int .i64 0] [(0, 1, .tmp 13), (2, 1, .tmp 16), (1, 1, .tmp 19)]),
 .op 10 (.alloc 9 true [.int .i64 0, .int .i64 0, .int .i64 0]),
 .op 11 (.store true 3 (.tmp 9) (.tmp 20))] [])
 (.seq (.region [.op 0 (.faddr 21 0 (.tmp 5)),
 .op 1 (.load 22 false 1 (.tmp 21)),
 .op 2 (.bin 23 .and .plain (.tmp 22) (.const (.int .i64 3))),
 .op 3 (.faddr 24 2 (.tmp 4)),
 .op 4 (.load 25 false 1 (.tmp 24)),
 .op 5 (.bin 26 .and .plain (.tmp 25) (.const (.int .i64 3))),
 .op 6 (.faddr 27 1 (.tmp 5)),
 .op 7 (.load 28 false 1 (.tmp 27)),
 .op 8 (.bin 29 .and .plain (.tmp 28) (.const (.int .i64 1))),
 .op 9 (.build 30 [.int .i64 0, .int .i64 0, .int .i64 0] [(0, 1, .tmp 23), (2, 1, .tmp 26), (1, 1, .tmp 29)]),
 .op 10 (.alloc 10 true [.int .i64 0, .int .i64 0, .int .i64 0]),
 .op 11 (.store true 3 (.tmp 10) (.tmp 30))] [])
 (.seq (.region [.op 0 (.load 31 true 3 (.tmp 4)),
 .op 1 (.load 32 true 3 (.tmp 5)),
 .op 2 (.mov 33 (.tmp 2)),
 .op 3 (.mov 34 (.tmp 3)),
 .op 4 (.call 35 8 [.tmp 31, .tmp 32, .tmp 33, .tmp 34]),
 .op 5 (.mov 36 (.tmp 35)),
 .guard 36 true [.op 6 (.load 37 true 3 (.tmp 9)),
 .op 7 (.load 38 true 3 (.tmp 10)),
 .op 8 (.mov 39 (.tmp 2)),
 .op 9 (.bin 40 .and .plain (.tmp 39) (.const (.int .i64 7))),
 .op 10 (.mov 41 (.tmp 3)),
 .op 11 (.bin 42 .and .plain (.tmp 41) (.const (.int .i64 7))),
 .op 12 (.call 43 8 [.tmp 37, .tmp 38, .tmp 40, .tmp 42])] [] [43],
 .op 13 (.pick 44 (.tmp 36) (.tmp 43) (.const (.bool false))),
 .op 14 (.mov 45 (.tmp 44)),
 .guard 45 true [.op 15 (.call 46 9 [])] [] [46],
 .op 16 (.pick 47 (.tmp 45) (.tmp 46) (.const (.bool false))),
 .op 17 (.mov 8 (.tmp 47))] [])
 .ret)))),
 [.tmp 8]⟩
theorem ok4 : funcOk Try.prog (drawOk Try.prog) Try.f4 A4 = true := by kernel_rfl
noncomputable def S4 (call : Go.Fw.Call) (a0 a1 a2 a3 : AVal) (h : Heap) : Option J :=
 (AVal.cells? a0).bind fun c1 =>
 (AVal.cells? a1).bind fun c2 =>
 (rdL c1 0 1).bind fun c3 =>
 (fromCells false c3).bind fun v4 =>
 (aBin .and .plain v4 (.int .i64 3)).bind fun v5 =>
 (rdL c2 2 1).bind fun c6 =>
 (fromCells false c6).bind fun v7 =>
 (aBin .and .plain v7 (.int .i64 3)).bind fun v8 =>
 (rdL c1 1 1).bind fun c9 =>
 (fromCells false c9).bind fun v10 =>
 (aBin .and .plain v10 (.int .i64 1)).bind fun v11 =>
 (aFill [.int .i64 0, .int .i64 0, .int .i64 0] [(0, 1, v5), (2, 1, v8), (1, 1, v11)]).bind fun c12 =>
 (aCells 3 (.agg c12)).bind fun c13 =>
 bif Nat.ble ((0) + 3) (List.length (α := AVal) [.int .i64 0, .int .i64 0, .int .i64 0]) then (rdL c2 0 1).bind fun c14 =>
 (fromCells false c14).bind fun v15 =>
 (aBin .and .plain v15 (.int .i64 3)).bind fun v16 =>
 (rdL c1 2 1).bind fun c17 =>
 (fromCells false c17).bind fun v18 =>
 (aBin .and .plain v18 (.int .i64 3)).bind fun v19 =>
 (rdL c2 1 1).bind fun c20 =>
 (fromCells false c20).bind fun v21 =>
 (aBin .and .plain v21 (.int .i64 1)).bind fun v22 =>
 (aFill [.int .i64 0, .int .i64 0, .int .i64 0] [(0, 1, v16), (2, 1, v19), (1, 1, v22)]).bind fun c23 =>
 (aCells 3 (.agg c23)).bind fun c24 =>
 bif Nat.ble ((0) + 3) (List.length (α := AVal) [.int .i64 0, .int .i64 0, .int .i64 0]) then (rdL c1 0 3).bind fun c25 =>
 (fromCells true c25).bind fun v26 =>
 (rdL c2 0 3).bind fun c27 =>
 (fromCells true c27).bind fun v28 =>
 (call 8 [v26, v28, a2, a3] h).bind fun r29 =>
 (guardV r29.1 true
 ((rdL (splice [.int .i64 0, .int .i64 0, .int .i64 0] (0) c13) 0 3).bind fun c30 =>
 (fromCells true c30).bind fun v31 =>
 (rdL (splice [.int .i64 0, .int .i64 0, .int .i64 0] (0) c24) 0 3).bind fun c32 =>
 (fromCells true c32).bind fun v33 =>
 (aBin .and .plain a2 (.int .i64 7)).bind fun v34 =>
 (aBin .and .plain a3 (.int .i64 7)).bind fun v35 =>
 (call 8 [v31, v33, v34, v35] r29.2).bind fun r36 =>
 some (0, [r36.1], r36.2))
 (some (0, [skipV], r29.2))).bind fun g37 =>
 (aPick r29.1 (g37.2.1.getD 0 .undef) (.bool false)).bind fun v38 =>
 (guardV v38 true
 ((call 9 [] g37.2.2).bind fun r39 =>
 some (0, [r39.1], r39.2))
 (some (0, [skipV], g37.2.2))).bind fun g40 =>
 (aPick v38 (g40.2.1.getD 0 .undef) (.bool false)).bind fun v41 =>
 some (0, [v41], g40.2.2) else none else none
theorem run4 (call : Go.Fw.Call) (a0 a1 a2 a3 : AVal) (h : Heap) : runFn call (.code A4) [a0, a1, a2, a3] h = (S4 call a0 a1 a2 a3 h).bind ansOf := by kernel_rfl

/-- frankpledge/frankpledgelaw4.StampOrder -/
noncomputable def A5 : AFunc := ⟨5, (.seq (.region [.op 0 (.box 5 true (.tmp 0)),
 .op 1 (.box 6 true (.tmp 1)),
 .op 2 (.box 7 true (.tmp 2)),
 .op 3 (.mov 10 (.const (.bool false)))] [])
 (.seq (.region [.op 0 (.faddr 12 0 (.tmp 5)),
 .op 1 (.load 13 false 1 (.tmp 12)),
 .op 2 (.bin 14 .and .plain (.tmp 13) (.const (.int .i64 3))),
 .op 3 (.faddr 15 2 (.tmp 5)),
 .op 4 (.load 16 false 1 (.tmp 15)),
 .op 5 (.bin 17 .and .plain (.tmp 16) (.const (.int .i64 3))),
 .op 6 (.faddr 18 0 (.tmp 6)),
 .op 7 (.load 19 false 1 (.tmp 18)),
 .op 8 (.bin 20 .and .plain (.tmp 19) (.const (.int .i64 3))),
 .op 9 (.faddr 21 2 (.tmp 6)),
 .op 10 (.load 22 false 1 (.tmp 21)),
 .op 11 (.bin 23 .and .plain (.tmp 22) (.const (.int .i64 3))),
 .op 12 (.faddr 24 0 (.tmp 7)),
 .op 13 (.load 25 false 1 (.tmp 24)),
 .op 14 (.bin 26 .and .plain (.tmp 25) (.const (.int .i64 3))),
 .op 15 (.faddr 27 2 (.tmp 7)),
 .op 16 (.load 28 false 1 (.tmp 27)),
 .op 17 (.bin 29 .and .plain (.tmp 28) (.const (.int .i64 3))),
 .op 18 (.faddr 30 0 (.tmp 5)),
 .op 19 (.store false 1 (.tmp 30) (.tmp 14)),
 .op 20 (.faddr 31 2 (.tmp 5)),
 .op 21 (.store false 1 (.tmp 31) (.tmp 17)),
 .op 22 (.faddr 32 0 (.tmp 6)),
 .op 23 (.store false 1 (.tmp 32) (.tmp 20)),
 .op 24 (.faddr 33 2 (.tmp 6)),
 .op 25 (.store false 1 (.tmp 33) (.tmp 23)),
 .op 26 (.faddr 34 0 (.tmp 7)),
 .op 27 (.store false 1 (.tmp 34) (.tmp 26)),
 .op 28 (.faddr 35 2 (.tmp 7)),
 .op 29 (.store false 1 (.tmp 35) (.tmp 29))] [(7, 19), (7, 21), (13, 19), (13, 21), (13, 23), (13, 25)])
 (.seq (.region [.op 0 (.faddr 36 1 (.tmp 5)),
 .op 1 (.load 37 false 1 (.tmp 36)),
 .op 2 (.bin 38 .and .plain (.tmp 37) (.const (.int .i64 1))),
 .op 3 (.faddr 39 1 (.tmp 6)),
 .op 4 (.load 40 false 1 (.tmp 39)),
 .op 5 (.bin 41 .and .plain (.tmp 40) (.const (.int .i64 1))),
 .op 6 (.faddr 42 1 (.tmp 7)),
 .op 7 (.load 43 false 1 (.tmp 42)),
 .op 8 (.bin 44 .and .plain (.tmp 43) (.const (.int .i64 1))),
 .op 9 (.faddr 45 1 (.tmp 5)),
 .op 10 (.store false 1 (.tmp 45) (.tmp 38)),
 .op 11 (.faddr 46 1 (.tmp 6)),
 .op 12 (.store false 1 (.tmp 46) (.tmp 41)),
 .op 13 (.faddr 47 1 (.tmp 7)),
 .op 14 (.store false 1 (.tmp 47) (.tmp 44))] [(4, 10), (7, 10), (7, 12)])
 (.seq (.region [.op 0 (.load 48 true 3 (.tmp 5)),
 .op 1 (.mov 49 (.tmp 3)),
 .op 2 (.mov 50 (.tmp 4)),
 .op 3 (.call 51 10 [.tmp 48, .tmp 49, .tmp 50]),
 .op 4 (.alloc 11 true [.int .i64 0, .int .i64 0, .int .i64 0]),
 .op 5 (.store true 3 (.tmp 11) (.tmp 51))] [])
 (.seq (.seq (.region [.op 0 (.load 52 true 3 (.tmp 5)),
 .op 1 (.load 53 true 3 (.tmp 11)),
 .op 2 (.call 54 11 [.tmp 52, .tmp 53]),
 .op 3 (.un 55 .not (.tmp 54)),
 .op 4 (.mov 56 (.tmp 55)),
 .guard 56 false [.op 5 (.load 57 true 3 (.tmp 11)),
 .op 6 (.load 58 true 3 (.tmp 5)),
 .op 7 (.call 59 11 [.tmp 57, .tmp 58])] [] [59],
 .op 8 (.pick 60 (.tmp 56) (.const (.bool true)) (.tmp 59))] [])
 (.cond (.tmp 60)
 (.seq (.region [.op 0 (.mov 10 (.const (.bool false)))] [])
 .ret)
 .skip))
 (.seq (.seq (.region [.op 0 (.load 61 true 3 (.tmp 5)),
 .op 1 (.load 62 true 3 (.tmp 6)),
 .op 2 (.call 63 11 [.tmp 61, .tmp 62]),
 .op 3 (.mov 64 (.tmp 63)),
 .guard 64 true [.op 4 (.load 65 true 3 (.tmp 6)),
 .op 5 (.load 66 true 3 (.tmp 5)),
 .op 6 (.call 67 11 [.tmp 65, .tmp 66])] [] [67],
 .op 7 (.pick 68 (.tmp 64) (.tmp 67) (.const (.bool false))),
 .op 8 (.mov 69 (.tmp 68)),
 .guard 69 false [.op 9 (.load 70 true 3 (.tmp 5)),
 .op 10 (.load 71 true 3 (.tmp 6)),
 .op 11 (.call 72 11 [.tmp 70, .tmp 71]),
 .op 12 (.un 73 .not (.tmp 72)),
 .op 13 (.mov 74 (.tmp 73)),
 .guard 74 true [.op 14 (.load 75 true 3 (.tmp 6)),
 .op 15 (.load 76 true 3 (.tmp 5)),
 .op 16 (.call 77 11 [.tmp 75, .tmp 76]),
 .op 17 (.un 78 .not (.tmp 77))] [] [78],
 .op 18 (.pick 79 (.tmp 74) (.tmp 78) (.const (.bool false))),
 .op 19 (.mov 80 (.tmp 79)),
 .guard 80 true [.op 20 (.load 81 true 3 (.tmp 5)),
 .op 21 (.load 82 true 3 (.tmp 6)),
 .op 22 (.bin 83 .neq (.cells [1, 1, 1]) (.tmp 81) (.tmp 82))] [] [83],
 .op 23 (.pick 84 (.tmp 80) (.tmp 83) (.const (.bool false)))] [] [84],
 .op 24 (.pick 85 (.tmp 69) (.const (.bool true)) (.tmp 84)),
 .op 25 (.mov 86 (.tmp 85)),
 .guard 86 false [.op 26 (.load 87 true 3 (.tmp 5)),
 .op 27 (.load 88 true 3 (.tmp 6)),
 .op 28 (.call 89 11 [.tmp 87, .tmp 88]),
 .op 29 (.mov 90 (.tmp 89)),
 .guard 90 true [.op 30 (.load 91 true 3 (.tmp 6)),
 .op 31 (.load 92 true 3 (.tmp 7)),
 .op 32 (.call 93 11 [.tmp 91, .tmp 92])] [] [93],
 .op 33 (.pick 94 (.tmp 90) (.tmp 93) (.const (.bool false))),
 .op 34 (.mov 95 (.tmp 94)),
 .guard 95 true [.op 35 (.load 96 true 3 (.tmp 5)),
 .op 36 (.load 97 true 3 (.tmp 7)),
 .op 37 (.call 98 11 [.tmp 96, .tmp 97]),
 .op 38 (.un 99 .not (.tmp 98))] [] [99],
 .op 39 (.pick 100 (.tmp 95) (.tmp 99) (.const (.bool false)))] [] [100],
 .op 40 (.pick 101 (.tmp 86) (.const (.bool true)) (.tmp 100))] [])
 (.cond (.tmp 101)
 (.seq (.region [.op 0 (.mov 10 (.const (.bool false)))] [])
 .ret)
 .skip))
 (.seq (.region [.op 0 (.load 102 true 3 (.tmp 5)),
 .op 1 (.load 103 true 3 (.tmp 6)),
 .op 2 (.call 104 12 [.tmp 102, .tmp 103]),
 .op 3 (.load 105 true 3 (.tmp 6)),
 .op 4 (.load 106 true 3 (.tmp 5)),
 .op 5 (.call 107 12 [.tmp 105, .tmp 106]),
 .op 6 (.bin 108 .eql (.cells [1, 1, 1]) (.tmp 104) (.tmp 107)),
 .op 7 (.mov 109 (.tmp 108)),
 .guard 109 true [.op 8 (.load 110 true 3 (.tmp 5)),
 .op 9 (.load 111 true 3 (.tmp 6)),
 .op 10 (.load 112 true 3 (.tmp 7)),
 .op 11 (.call 113 12 [.tmp 111, .tmp 112]),
 .op 12 (.call 114 12 [.tmp 110, .tmp 113]),
 .op 13 (.load 115 true 3 (.tmp 5)),
 .op 14 (.load 116 true 3 (.tmp 6)),
 .op 15 (.call 117 12 [.tmp 115, .tmp 116]),
 .op 16 (.load 118 true 3 (.tmp 7)),
 .op 17 (.call 119 12 [.tmp 117, .tmp 118]),
 .op 18 (.bin 120 .eql (.cells [1, 1, 1]) (.tmp 114) (.tmp 119))] [(8, 11), (13, 11), (13, 12), (14, 11), (14, 12), (16, 11), (16, 12), (16, 15)] [120],
 .op 19 (.pick 121 (.tmp 109) (.tmp 120) (.const (.bool false))),
 .op 20 (.mov 122 (.tmp 121)),
 .guard 122 true [.op 21 (.call 123 9 [])] [] [123],
 .op 22 (.pick 124 (.tmp 122) (.tmp 123) (.const (.bool false))),
 .op 23 (.mov 10 (.tmp 124))] [(3, 2), (4, 2)])
 .ret))))))),
 [.tmp 10]⟩
theorem ok5 : funcOk Try.prog (drawOk Try.prog) Try.f5 A5 = true := by kernel_rfl
noncomputable def S5 (call : Go.Fw.Call) (a0 a1 a2 a3 a4 : AVal) (h : Heap) : Option J :=
 (AVal.cells? a0).bind fun c1 =>
 (AVal.cells? a1).bind fun c2 =>
 (AVal.cells? a2).bind fun c3 =>
 (rdL c1 0 1).bind fun c4 =>
 (fromCells false c4).bind fun v5 =>
 (aBin .and .plain v5 (.int .i64 3)).bind fun v6 =>
 (rdL c1 2 1).bind fun c7 =>
 (fromCells false c7).bind fun v8 =>
 (aBin .and .plain v8 (.int .i64 3)).bind fun v9 =>
 (rdL c2 0 1).bind fun c10 =>
 (fromCells false c10).bind fun v11 =>
 (aBin .and .plain v11 (.int .i64 3)).bind fun v12 =>
 (rdL c2 2 1).bind fun c13 =>
 (fromCells false c13).bind fun v14 =>
 (aBin .and .plain v14 (.int .i64 3)).bind fun v15 =>
 (rdL c3 0 1).bind fun c16 =>
 (fromCells false c16).bind fun v17 =>
 (aBin .and .plain v17 (.int .i64 3)).bind fun v18 =>
 (rdL c3 2 1).bind fun c19 =>
 (fromCells false c19).bind fun v20 =>
 (aBin .and .plain v20 (.int .i64 3)).bind fun v21 =>
 (aCells 1 v6).bind fun c22 =>
 bif Nat.ble ((0) + 1) (List.length (α := AVal) c1) then (aCells 1 v9).bind fun c23 =>
 bif Nat.ble ((2) + 1) (List.length (α := AVal) (splice c1 (0) c22)) then (aCells 1 v12).bind fun c24 =>
 bif Nat.ble ((0) + 1) (List.length (α := AVal) c2) then (aCells 1 v15).bind fun c25 =>
 bif Nat.ble ((2) + 1) (List.length (α := AVal) (splice c2 (0) c24)) then (aCells 1 v18).bind fun c26 =>
 bif Nat.ble ((0) + 1) (List.length (α := AVal) c3) then (aCells 1 v21).bind fun c27 =>
 bif Nat.ble ((2) + 1) (List.length (α := AVal) (splice c3 (0) c26)) then bif checkPairs [(25, some (.ef [(7, c3), (6, (splice c2 (0) c24)), (5, (splice (splice c1 (0) c22) (2) c23))] h [(7, c3), (6, (splice (splice c2 (0) c24) (2) c25)), (5, (splice (splice c1 (0) c22) (2) c23))] h)), (23, some (.ef [(7, c3), (6, c2), (5, (splice (splice c1 (0) c22) (2) c23))] h [(7, c3), (6, (splice c2 (0) c24)), (5, (splice (splice c1 (0) c22) (2) c23))] h)), (21, some (.ef [(7, c3), (6, c2), (5, (splice c1 (0) c22))] h [(7, c3), (6, c2), (5, (splice (splice c1 (0) c22) (2) c23))] h)), (19, some (.ef [(7, c3), (6, c2), (5, c1)] h [(7, c3), (6, c2), (5, (splice c1 (0) c22))] h)), (13, some (.lrd 7 (0) 1)), (7, some (.lrd 6 (0) 1))] [(7, 19), (7, 21), (13, 19), (13, 21), (13, 23), (13, 25)] then (rdL (splice (splice c1 (0) c22) (2) c23) 1 1).bind fun c28 =>
 (fromCells false c28).bind fun v29 =>
 (aBin .and .plain v29 (.int .i64 1)).bind fun v30 =>
 (rdL (splice (splice c2 (0) c24) (2) c25) 1 1).bind fun c31 =>
 (fromCells false c31).bind fun v32 =>
 (aBin .and .plain v32 (.int .i64 1)).bind fun v33 =>
 (rdL (splice (splice c3 (0) c26) (2) c27) 1 1).bind fun c34 =>
 (fromCells false c34).bind fun v35 =>
 (aBin .and .plain v35 (.int .i64 1)).bind fun v36 =>
 (aCells 1 v30).bind fun c37 =>
 bif Nat.ble ((1) + 1) (List.length (α := AVal) (splice (splice c1 (0) c22) (2) c23)) then (aCells 1 v33).bind fun c38 =>
 bif Nat.ble ((1) + 1) (List.length (α := AVal) (splice (splice c2 (0) c24) (2) c25)) then (aCells 1 v36).bind fun c39 =>
 bif Nat.ble ((1) + 1) (List.length (α := AVal) (splice (splice c3 (0) c26) (2) c27)) then bif checkPairs [(12, some (.ef [(7, (splice (splice c3 (0) c26) (2) c27)), (6, (splice (splice c2 (0) c24) (2) c25)), (5, (splice (splice (splice c1 (0) c22) (2) c23) (1) c37))] h [(7, (splice (splice c3 (0) c26) (2) c27)), (6, (splice (splice (splice c2 (0) c24) (2) c25) (1) c38)), (5, (splice (splice (splice c1 (0) c22) (2) c23) (1) c37))] h)), (10, some (.ef [(7, (splice (splice c3 (0) c26) (2) c27)), (6, (splice (splice c2 (0) c24) (2) c25)), (5, (splice (splice c1 (0) c22) (2) c23))] h [(7, (splice (splice c3 (0) c26) (2) c27)), (6, (splice (splice c2 (0) c24) (2) c25)), (5, (splice (splice (splice c1 (0) c22) (2) c23) (1) c37))] h)), (7, some (.lrd 7 (1) 1)), (4, some (.lrd 6 (1) 1))] [(4, 10), (7, 10), (7, 12)] then (rdL (splice (splice (splice c1 (0) c22) (2) c23) (1) c37) 0 3).bind fun c40 =>
 (fromCells true c40).bind fun v41 =>
 (call 10 [v41, a3, a4] h).bind fun r42 =>
 (aCells 3 r42.1).bind fun c43 =>
 bif Nat.ble ((0) + 3) (List.length (α := AVal) [.int .i64 0, .int .i64 0, .int .i64 0]) then (rdL (splice (splice (splice c1 (0) c22) (2) c23) (1) c37) 0 3).bind fun c44 =>
 (fromCells true c44).bind fun v45 =>
 (rdL (splice [.int .i64 0, .int .i64 0, .int .i64 0] (0) c43) 0 3).bind fun c46 =>
 (fromCells true c46).bind fun v47 =>
 (call 11 [v45, v47] r42.2).bind fun r48 =>
 (aUn .not r48.1).bind fun v49 =>
 (guardV v49 false
 ((rdL (splice [.int .i64 0, .int .i64 0, .int .i64 0] (0) c43) 0 3).bind fun c50 =>
 (fromCells true c50).bind fun v51 =>
 (rdL (splice (splice (splice c1 (0) c22) (2) c23) (1) c37) 0 3).bind fun c52 =>
 (fromCells true c52).bind fun v53 =>
 (call 11 [v51, v53] r48.2).bind fun r54 =>
 some (0, [r54.1], r54.2))
 (some (0, [skipV], r48.2))).bind fun g55 =>
 (aPick v49 (.bool true) (g55.2.1.getD 0 .undef)).bind fun v56 =>
 condV v56
 (some (0, [(.bool false)], g55.2.2))
 ((rdL (splice (splice (splice c1 (0) c22) (2) c23) (1) c37) 0 3).bind fun c57 =>
 (fromCells true c57).bind fun v58 =>
 (rdL (splice (splice (splice c2 (0) c24) (2) c25) (1) c38) 0 3).bind fun c59 =>
 (fromCells true c59).bind fun v60 =>
 (call 11 [v58, v60] g55.2.2).bind fun r61 =>
 (guardV r61.1 true
 ((rdL (splice (splice (splice c2 (0) c24) (2) c25) (1) c38) 0 3).bind fun c62 =>
 (fromCells true c62).bind fun v63 =>
 (rdL (splice (splice (splice c1 (0) c22) (2) c23) (1) c37) 0 3).bind fun c64 =>
 (fromCells true c64).bind fun v65 =>
 (call 11 [v63, v65] r61.2).bind fun r66 =>
 some (0, [r66.1], r66.2))
 (some (0, [skipV], r61.2))).bind fun g67 =>
 (aPick r61.1 (g67.2.1.getD 0 .undef) (.bool false)).bind fun v68 =>
 (guardV v68 false
 ((rdL (splice (splice (splice c1 (0) c22) (2) c23) (1) c37) 0 3).bind fun c69 =>
 (fromCells true c69).bind fun v70 =>
 (rdL (splice (splice (splice c2 (0) c24) (2) c25) (1) c38) 0 3).bind fun c71 =>
 (fromCells true c71).bind fun v72 =>
 (call 11 [v70, v72] g67.2.2).bind fun r73 =>
 (aUn .not r73.1).bind fun v74 =>
 (guardV v74 true
 ((rdL (splice (splice (splice c2 (0) c24) (2) c25) (1) c38) 0 3).bind fun c75 =>
 (fromCells true c75).bind fun v76 =>
 (rdL (splice (splice (splice c1 (0) c22) (2) c23) (1) c37) 0 3).bind fun c77 =>
 (fromCells true c77).bind fun v78 =>
 (call 11 [v76, v78] r73.2).bind fun r79 =>
 (aUn .not r79.1).bind fun v80 =>
 some (0, [v80], r79.2))
 (some (0, [skipV], r73.2))).bind fun g81 =>
 (aPick v74 (g81.2.1.getD 0 .undef) (.bool false)).bind fun v82 =>
 (guardV v82 true
 ((rdL (splice (splice (splice c1 (0) c22) (2) c23) (1) c37) 0 3).bind fun c83 =>
 (fromCells true c83).bind fun v84 =>
 (rdL (splice (splice (splice c2 (0) c24) (2) c25) (1) c38) 0 3).bind fun c85 =>
 (fromCells true c85).bind fun v86 =>
 (aBin .neq (.cells [1, 1, 1]) v84 v86).bind fun v87 =>
 some (0, [v87], g81.2.2))
 (some (0, [skipV], g81.2.2))).bind fun g88 =>
 (aPick v82 (g88.2.1.getD 0 .undef) (.bool false)).bind fun v89 =>
 some (0, [v89], g88.2.2))
 (some (0, [skipV], g67.2.2))).bind fun g90 =>
 (aPick v68 (.bool true) (g90.2.1.getD 0 .undef)).bind fun v91 =>
 (guardV v91 false
 ((rdL (splice (splice (splice c1 (0) c22) (2) c23) (1) c37) 0 3).bind fun c92 =>
 (fromCells true c92).bind fun v93 =>
 (rdL (splice (splice (splice c2 (0) c24) (2) c25) (1) c38) 0 3).bind fun c94 =>
 (fromCells true c94).bind fun v95 =>
 (call 11 [v93, v95] g90.2.2).bind fun r96 =>
 (guardV r96.1 true
 ((rdL (splice (splice (splice c2 (0) c24) (2) c25) (1) c38) 0 3).bind fun c97 =>
 (fromCells true c97).bind fun v98 =>
 (rdL (splice (splice (splice c3 (0) c26) (2) c27) (1) c39) 0 3).bind fun c99 =>
 (fromCells true c99).bind fun v100 =>
 (call 11 [v98, v100] r96.2).bind fun r101 =>
 some (0, [r101.1], r101.2))
 (some (0, [skipV], r96.2))).bind fun g102 =>
 (aPick r96.1 (g102.2.1.getD 0 .undef) (.bool false)).bind fun v103 =>
 (guardV v103 true
 ((rdL (splice (splice (splice c1 (0) c22) (2) c23) (1) c37) 0 3).bind fun c104 =>
 (fromCells true c104).bind fun v105 =>
 (rdL (splice (splice (splice c3 (0) c26) (2) c27) (1) c39) 0 3).bind fun c106 =>
 (fromCells true c106).bind fun v107 =>
 (call 11 [v105, v107] g102.2.2).bind fun r108 =>
 (aUn .not r108.1).bind fun v109 =>
 some (0, [v109], r108.2))
 (some (0, [skipV], g102.2.2))).bind fun g110 =>
 (aPick v103 (g110.2.1.getD 0 .undef) (.bool false)).bind fun v111 =>
 some (0, [v111], g110.2.2))
 (some (0, [skipV], g90.2.2))).bind fun g112 =>
 (aPick v91 (.bool true) (g112.2.1.getD 0 .undef)).bind fun v113 =>
 condV v113
 (some (0, [(.bool false)], g112.2.2))
 ((rdL (splice (splice (splice c1 (0) c22) (2) c23) (1) c37) 0 3).bind fun c114 =>
 (fromCells true c114).bind fun v115 =>
 (rdL (splice (splice (splice c2 (0) c24) (2) c25) (1) c38) 0 3).bind fun c116 =>
 (fromCells true c116).bind fun v117 =>
 (call 12 [v115, v117] g112.2.2).bind fun r118 =>
 (rdL (splice (splice (splice c2 (0) c24) (2) c25) (1) c38) 0 3).bind fun c119 =>
 (fromCells true c119).bind fun v120 =>
 (rdL (splice (splice (splice c1 (0) c22) (2) c23) (1) c37) 0 3).bind fun c121 =>
 (fromCells true c121).bind fun v122 =>
 (call 12 [v120, v122] r118.2).bind fun r123 =>
 (aBin .eql (.cells [1, 1, 1]) r118.1 r123.1).bind fun v124 =>
 (guardV v124 true
 ((rdL (splice (splice (splice c1 (0) c22) (2) c23) (1) c37) 0 3).bind fun c125 =>
 (fromCells true c125).bind fun v126 =>
 (rdL (splice (splice (splice c2 (0) c24) (2) c25) (1) c38) 0 3).bind fun c127 =>
 (fromCells true c127).bind fun v128 =>
 (rdL (splice (splice (splice c3 (0) c26) (2) c27) (1) c39) 0 3).bind fun c129 =>
 (fromCells true c129).bind fun v130 =>
 (call 12 [v128, v130] r123.2).bind fun r131 =>
 (call 12 [v126, r131.1] r131.2).bind fun r132 =>
 (rdL (splice (splice (splice c1 (0) c22) (2) c23) (1) c37) 0 3).bind fun c133 =>
 (fromCells true c133).bind fun v134 =>
 (rdL (splice (splice (splice c2 (0) c24) (2) c25) (1) c38) 0 3).bind fun c135 =>
 (fromCells true c135).bind fun v136 =>
 (call 12 [v134, v136] r132.2).bind fun r137 =>
 (rdL (splice (splice (splice c3 (0) c26) (2) c27) (1) c39) 0 3).bind fun c138 =>
 (fromCells true c138).bind fun v139 =>
 (call 12 [r137.1, v139] r137.2).bind fun r140 =>
 (aBin .eql (.cells [1, 1, 1]) r132.1 r140.1).bind fun v141 =>
 bif checkPairs [(16, some (.lrd 7 (0) 3)), (15, some (.ef [(11, (splice [.int .i64 0, .int .i64 0, .int .i64 0] (0) c43)), (7, (splice (splice (splice c3 (0) c26) (2) c27) (1) c39)), (6, (splice (splice (splice c2 (0) c24) (2) c25) (1) c38)), (5, (splice (splice (splice c1 (0) c22) (2) c23) (1) c37))] r132.2 [(11, (splice [.int .i64 0, .int .i64 0, .int .i64 0] (0) c43)), (7, (splice (splice (splice c3 (0) c26) (2) c27) (1) c39)), (6, (splice (splice (splice c2 (0) c24) (2) c25) (1) c38)), (5, (splice (splice (splice c1 (0) c22) (2) c23) (1) c37))] r137.2)), (14, some (.lrd 6 (0) 3)), (13, some (.lrd 5 (0) 3)), (12, some (.ef [(11, (splice [.int .i64 0, .int .i64 0, .int .i64 0] (0) c43)), (7, (splice (splice (splice c3 (0) c26) (2) c27) (1) c39)), (6, (splice (splice (splice c2 (0) c24) (2) c25) (1) c38)), (5, (splice (splice (splice c1 (0) c22) (2) c23) (1) c37))] r131.2 [(11, (splice [.int .i64 0, .int .i64 0, .int .i64 0] (0) c43)), (7, (splice (splice (splice c3 (0) c26) (2) c27) (1) c39)), (6, (splice (splice (splice c2 (0) c24) (2) c25) (1) c38)), (5, (splice (splice (splice c1 (0) c22) (2) c23) (1) c37))] r132.2)), (11, some (.ef [(11, (splice [.int .i64 0, .int .i64 0, .int .i64 0] (0) c43)), (7, (splice (splice (splice c3 (0) c26) (2) c27) (1) c39)), (6, (splice (splice (splice c2 (0) c24) (2) c25) (1) c38)), (5, (splice (splice (splice c1 (0) c22) (2) c23) (1) c37))] r123.2 [(11, (splice [.int .i64 0, .int .i64 0, .int .i64 0] (0) c43)), (7, (splice (splice (splice c3 (0) c26) (2) c27) (1) c39)), (6, (splice (splice (splice c2 (0) c24) (2) c25) (1) c38)), (5, (splice (splice (splice c1 (0) c22) (2) c23) (1) c37))] r131.2)), (8, some (.lrd 5 (0) 3))] [(8, 11), (13, 11), (13, 12), (14, 11), (14, 12), (16, 11), (16, 12), (16, 15)] then some (0, [v141], r140.2) else none)
 (some (0, [skipV], r123.2))).bind fun g142 =>
 (aPick v124 (g142.2.1.getD 0 .undef) (.bool false)).bind fun v143 =>
 (guardV v143 true
 ((call 9 [] g142.2.2).bind fun r144 =>
 some (0, [r144.1], r144.2))
 (some (0, [skipV], g142.2.2))).bind fun g145 =>
 (aPick v143 (g145.2.1.getD 0 .undef) (.bool false)).bind fun v146 =>
 bif checkPairs [(4, some (.lrd 5 (0) 3)), (3, some (.lrd 6 (0) 3)), (2, some (.ef [(11, (splice [.int .i64 0, .int .i64 0, .int .i64 0] (0) c43)), (7, (splice (splice (splice c3 (0) c26) (2) c27) (1) c39)), (6, (splice (splice (splice c2 (0) c24) (2) c25) (1) c38)), (5, (splice (splice (splice c1 (0) c22) (2) c23) (1) c37))] g112.2.2 [(11, (splice [.int .i64 0, .int .i64 0, .int .i64 0] (0) c43)), (7, (splice (splice (splice c3 (0) c26) (2) c27) (1) c39)), (6, (splice (splice (splice c2 (0) c24) (2) c25) (1) c38)), (5, (splice (splice (splice c1 (0) c22) (2) c23) (1) c37))] r118.2))] [(3, 2), (4, 2)] then some (0, [v146], g145.2.2) else none)) else none else none else none else none else none else none else none else none else none else none else none else none
theorem run5 (call : Go.Fw.Call) (a0 a1 a2 a3 a4 : AVal) (h : Heap) : runFn call (.code A5) [a0, a1, a2, a3, a4] h = (S5 call a0 a1 a2 a3 a4 h).bind ansOf := by kernel_rfl

/-- frankpledge/frankpledgelaw4.StampNexts -/
noncomputable def A6 : AFunc := ⟨2, (.seq (.region [.op 0 (.mov 4 (.const (.bool false)))] [])
 (.seq (.region [.op 0 (.mov 5 (.const (.int .i64 0)))] [])
 (.seq (.seq (.region [.op 0 (.mov 9 (.tmp 1)),
 .op 1 (.bin 10 .gtr .plain (.tmp 9) (.const (.int .i64 0)))] [])
 (.join [(.normal, ⟨[0, 5], []⟩)] (.cond (.tmp 10)
 (.region [.op 0 (.mov 11 (.tmp 1)),
 .op 1 (.bin 12 .rem .plain (.tmp 11) (.const (.int .i64 6))),
 .op 2 (.mov 5 (.tmp 12))] [])
 .skip)))
 (.seq (.region [.op 0 (.mov 13 (.tmp 5)),
 .op 1 (.build 14 [.int .i64 0, .int .i64 0, .int .i64 0] [(1, 1, .tmp 13)]),
 .op 2 (.alloc 6 true [.int .i64 0, .int .i64 0, .int .i64 0]),
 .op 3 (.store true 3 (.tmp 6) (.tmp 14))] [])
 (.seq (.seq (.region [.op 0 (.mov 7 (.const (.int .i64 0)))] [])
 (.block 0 (.loop ⟨[0, 5, 7], [6]⟩ [((.exit 0), ⟨[], []⟩), (.ret, ⟨[4], []⟩)]
 (.seq (.seq (.region [.op 0 (.mov 15 (.tmp 7)),
 .op 1 (.mov 16 (.tmp 0)),
 .op 2 (.len 17 false (.tmp 16)),
 .op 3 (.bin 18 .lss .plain (.tmp 15) (.tmp 17)),
 .op 4 (.mov 19 (.tmp 18)),
 .guard 19 true [.op 5 (.mov 20 (.tmp 7)),
 .op 6 (.bin 21 .lss .plain (.tmp 20) (.const (.int .i64 30)))] [] [21],
 .op 7 (.pick 22 (.tmp 19) (.tmp 21) (.const (.bool false)))] [])
 (.cond (.tmp 22)
 .skip
 (.exit 0)))
 (.seq (.block 1 (.seq (.regionF 1 [.op 0 (.load 25 true 3 (.tmp 6)),
 .op 1 (.mov 26 (.tmp 0)),
 .op 2 (.mov 27 (.tmp 7)),
 .op 3 (.iaddr 28 none 1 (.tmp 26) (.tmp 27)),
 .op 4 (.load 29 false 1 (.tmp 28)),
 .op 5 (.mov 30 (.tmp 5)),
 .op 6 (.call 31 10 [.tmp 25, .tmp 29, .tmp 30]),
 .op 7 (.fl 8 0 none [.int .i64 0, .int .i64 0, .int .i64 0] []),
 .op 8 (.store true 3 (.tmp 8) (.tmp 31))] [])
 (.seq (.seq (.region [.op 0 (.load 32 true 3 (.tmp 6)),
 .op 1 (.load 33 true 3 (.tmp 8)),
 .op 2 (.call 34 11 [.tmp 32, .tmp 33]),
 .op 3 (.un 35 .not (.tmp 34)),
 .op 4 (.mov 36 (.tmp 35)),
 .guard 36 false [.op 5 (.load 37 true 3 (.tmp 6)),
 .op 6 (.load 38 true 3 (.tmp 8)),
 .op 7 (.call 39 12 [.tmp 37, .tmp 38]),
 .op 8 (.load 40 true 3 (.tmp 8)),
 .op 9 (.bin 41 .neq (.cells [1, 1, 1]) (.tmp 39) (.tmp 40))] [(8, 7)] [41],
 .op 10 (.pick 42 (.tmp 36) (.const (.bool true)) (.tmp 41)),
 .op 11 (.mov 43 (.tmp 42)),
 .guard 43 false [.op 12 (.load 44 true 3 (.tmp 8)),
 .op 13 (.call 45 13 [.tmp 44]),
 .op 14 (.un 46 .not (.tmp 45))] [] [46],
 .op 15 (.pick 47 (.tmp 43) (.const (.bool true)) (.tmp 46)),
 .op 16 (.mov 48 (.tmp 47)),
 .guard 48 false [.op 17 (.faddr 49 2 (.tmp 8)),
 .op 18 (.load 50 false 1 (.tmp 49)),
 .op 19 (.mov 51 (.tmp 7)),
 .op 20 (.bin 52 .add .plain (.tmp 51) (.const (.int .i64 1))),
 .op 21 (.bin 53 .neq .plain (.tmp 50) (.tmp 52))] [] [53],
 .op 22 (.pick 54 (.tmp 48) (.const (.bool true)) (.tmp 53)),
 .op 23 (.mov 55 (.tmp 54)),
 .guard 55 false [.op 24 (.faddr 56 0 (.tmp 8)),
 .op 25 (.load 57 false 1 (.tmp 56)),
 .op 26 (.mov 58 (.tmp 0)),
 .op 27 (.mov 59 (.tmp 7)),
 .op 28 (.iaddr 60 none 1 (.tmp 58) (.tmp 59)),
 .op 29 (.load 61 false 1 (.tmp 60)),
 .op 30 (.bin 62 .lss .plain (.tmp 57) (.tmp 61))] [] [62],
 .op 31 (.pick 63 (.tmp 55) (.const (.bool true)) (.tmp 62)),
 .op 32 (.mov 64 (.tmp 63)),
 .guard 64 false [.op 33 (.faddr 65 0 (.tmp 8)),
 .op 34 (.load 66 false 1 (.tmp 65)),
 .op 35 (.faddr 67 0 (.tmp 6)),
 .op 36 (.load 68 false 1 (.tmp 67)),
 .op 37 (.bin 69 .lss .plain (.tmp 66) (.tmp 68))] [] [69],
 .op 38 (.pick 70 (.tmp 64) (.const (.bool true)) (.tmp 69))] [])
 (.cond (.tmp 70)
 (.seq (.region [.op 0 (.mov 4 (.const (.bool false)))] [])
 .ret)
 .skip))
 (.region [.op 0 (.load 71 true 3 (.tmp 8)),
 .op 1 (.store true 3 (.tmp 6) (.tmp 71))] []))))
 (.region [.op 0 (.mov 23 (.tmp 7)),
 .op 1 (.bin 24 .add .plain (.tmp 23) (.const (.int .i64 1))),
 .op 2 (.mov 7 (.tmp 24))] []))))))
 (.seq (.region [.op 0 (.call 72 9 []),
 .op 1 (.mov 4 (.tmp 72))] [])
 .ret)))))),
 [.tmp 4]⟩
theorem ok6 : funcOk Try.prog (drawOk Try.prog) Try.f6 A6 = true := by kernel_rfl
/-- xs: t0, t5, t7, cells of 6 -/
noncomputable def L6_0 (call : Go.Fw.Call) (xs : List AVal) (h : Heap) : Option J :=
 (aLen false (xs.getD 0 .undef)).bind fun v6 =>
 (aBin .lss .plain (xs.getD 2 .undef) v6).bind fun v7 =>
 (guardV v7 true
 ((aBin .lss .plain (xs.getD 2 .undef) (.int .i64 30)).bind fun v8 =>
 some (0, [v8], h))
 (some (0, [skipV], h))).bind fun g9 =>
 (aPick v7 (g9.2.1.getD 0 .undef) (.bool false)).bind fun v10 =>
 condV v10
 ((rdL (AVal.aggCells (xs.getD 3 .undef)) 0 3).bind fun c11 =>
 (fromCells true c11).bind fun v12 =>
 (aIaddr 1 (xs.getD 0 .undef) (xs.getD 2 .undef)).bind fun v13 =>
 (aLoad (g9.2.2.res 1) 1 v13).bind fun c14 =>
 (fromCells false c14).bind fun v15 =>
 (call 10 [v12, v15, (xs.getD 1 .undef)] (g9.2.2.res 1)).bind fun r16 =>
 (aCells 3 r16.1).bind fun c17 =>
 (aStore (r16.2.setBlk (g9.2.2.next + 0) (some ⟨[.int .i64 0, .int .i64 0, .int .i64 0], true⟩)) (.ptr (g9.2.2.next + 0) 0) c17).bind fun h18 =>
 (rdL (AVal.aggCells (xs.getD 3 .undef)) 0 3).bind fun c19 =>
 (fromCells true c19).bind fun v20 =>
 (aLoad h18 3 (.ptr (g9.2.2.next + 0) 0)).bind fun c21 =>
 (fromCells true c21).bind fun v22 =>
 (call 11 [v20, v22] h18).bind fun r23 =>
 (aUn .not r23.1).bind fun v24 =>
 (guardV v24 false
 ((rdL (AVal.aggCells (xs.getD 3 .undef)) 0 3).bind fun c25 =>
 (fromCells true c25).bind fun v26 =>
 (aLoad r23.2 3 (.ptr (g9.2.2.next + 0) 0)).bind fun c27 =>
 (fromCells true c27).bind fun v28 =>
 (call 12 [v26, v28] r23.2).bind fun r29 =>
 (aLoad r29.2 3 (.ptr (g9.2.2.next + 0) 0)).bind fun c30 =>
 (fromCells true c30).bind fun v31 =>
 (aBin .neq (.cells [1, 1, 1]) r29.1 v31).bind fun v32 =>
 bif checkPairs [(8, logRd (.ptr (g9.2.2.next + 0) 0) 3), (7, some (.ef [(6, (AVal.aggCells (xs.getD 3 .undef)))] r23.2 [(6, (AVal.aggCells (xs.getD 3 .undef)))] r29.2))] [(8, 7)] then some (0, [v32], r29.2) else none)
 (some (0, [skipV], r23.2))).bind fun g33 =>
 (aPick v24 (.bool true) (g33.2.1.getD 0 .undef)).bind fun v34 =>
 (guardV v34 false
 ((aLoad g33.2.2 3 (.ptr (g9.2.2.next + 0) 0)).bind fun c35 =>
 (fromCells true c35).bind fun v36 =>
 (call 13 [v36] g33.2.2).bind fun r37 =>
 (aUn .not r37.1).bind fun v38 =>
 some (0, [v38], r37.2))
 (some (0, [skipV], g33.2.2))).bind fun g39 =>
 (aPick v34 (.bool true) (g39.2.1.getD 0 .undef)).bind fun v40 =>
 (guardV v40 false
 ((aFaddr 2 (.ptr (g9.2.2.next + 0) 0)).bind fun v41 =>
 (aLoad g39.2.2 1 v41).bind fun c42 =>
 (fromCells false c42).bind fun v43 =>
 (aBin .add .plain (xs.getD 2 .undef) (.int .i64 1)).bind fun v44 =>
 (aBin .neq .plain v43 v44).bind fun v45 =>
 some (0, [v45], g39.2.2))
 (some (0, [skipV], g39.2.2))).bind fun g46 =>
 (aPick v40 (.bool true) (g46.2.1.getD 0 .undef)).bind fun v47 =>
 (guardV v47 false
 ((aFaddr 0 (.ptr (g9.2.2.next + 0) 0)).bind fun v48 =>
 (aLoad g46.2.2 1 v48).bind fun c49 =>
 (fromCells false c49).bind fun v50 =>
 (aIaddr 1 (xs.getD 0 .undef) (xs.getD 2 .undef)).bind fun v51 =>
 (aLoad g46.2.2 1 v51).bind fun c52 =>
 (fromCells false c52).bind fun v53 =>
 (aBin .lss .plain v50 v53).bind fun v54 =>
 some (0, [v54], g46.2.2))
 (some (0, [skipV], g46.2.2))).bind fun g55 =>
 (aPick v47 (.bool true) (g55.2.1.getD 0 .undef)).bind fun v56 =>
 (guardV v56 false
 ((aFaddr 0 (.ptr (g9.2.2.next + 0) 0)).bind fun v57 =>
 (aLoad g55.2.2 1 v57).bind fun c58 =>
 (fromCells false c58).bind fun v59 =>
 (rdL (AVal.aggCells (xs.getD 3 .undef)) 0 1).bind fun c60 =>
 (fromCells false c60).bind fun v61 =>
 (aBin .lss .plain v59 v61).bind fun v62 =>
 some (0, [v62], g55.2.2))
 (some (0, [skipV], g55.2.2))).bind fun g63 =>
 (aPick v56 (.bool true) (g63.2.1.getD 0 .undef)).bind fun v64 =>
 condV v64
 (some (2, [(.bool false)], g63.2.2))
 ((aLoad g63.2.2 3 (.ptr (g9.2.2.next + 0) 0)).bind fun c65 =>
 (fromCells true c65).bind fun v66 =>
 (aCells 3 v66).bind fun c67 =>
 bif Nat.ble ((0) + 3) (List.length (α := AVal) (AVal.aggCells (xs.getD 3 .undef))) then (aBin .add .plain (xs.getD 2 .undef) (.int .i64 1)).bind fun v68 =>
 some (0, [(xs.getD 0 .undef), (xs.getD 1 .undef), v68, (.agg (splice (AVal.aggCells (xs.getD 3 .undef)) (0) c67))], g63.2.2) else none))
 (some (1, [], g9.2.2))
noncomputable def S6 (call : Go.Fw.Call) (a0 a1 : AVal) (h : Heap) : Option J :=
 (aBin .gtr .plain a1 (.int .i64 0)).bind fun v1 =>
 (condV v1
 ((aBin .rem .plain a1 (.int .i64 6)).bind fun v2 =>
 some (0, [a0, v2], h))
 (some (0, [a0, (.int .i64 0)], h))).bind fun x3 =>
 bif Nat.beq x3.1 0 then (aFill [.int .i64 0, .int .i64 0, .int .i64 0] [(1, 1, (x3.2.1.getD 1 .undef))]).bind fun c4 =>
 (aCells 3 (.agg c4)).bind fun c5 =>
 bif Nat.ble ((0) + 3) (List.length (α := AVal) [.int .i64 0, .int .i64 0, .int .i64 0]) then (loop (L6_0 call) [(x3.2.1.getD 0 .undef), (x3.2.1.getD 1 .undef), (.int .i64 0), (.agg (splice [.int .i64 0, .int .i64 0, .int .i64 0] (0) c5))] x3.2.2).bind fun x69 =>
 bif Nat.beq x69.1 1 then (call 9 [] x69.2.2).bind fun r70 =>
 some (0, [r70.1], r70.2) else
 bif Nat.beq x69.1 2 then some (0, [(x69.2.1.getD 0 .undef)], x69.2.2) else
 none else none else
 none
theorem run6 (call : Go.Fw.Call) (a0 a1 : AVal) (h : Heap) : runFn call (.code A6) [a0, a1] h = (S6 call a0 a1 h).bind ansOf := by kernel_rfl

/-- frankpledge/frankpledgelaw4.stamps -/
noncomputable def A7 : AFunc := ⟨0, (.seq (.region [.op 0 (.mov 0 (.const (.nilSlice)))] [])
 (.seq (.region [.op 0 (.mov 1 (.const (.nilSlice)))] [])
 (.seq (.seq (.region [.op 0 (.buildSl 8 [.int .i64 0] 1 4 [(0, .const (.int .i64 (-1))), (1, .const (.int .i64 0)), (2, .const (.int .i64 1)), (3, .const (.int .i64 9223372036854775807))]),
 .op 1 (.len 9 false (.tmp 8)),
 .op 2 (.mov 10 (.const (.int .i64 0)))] [])
 (.block 0 (.loop ⟨[1, 8, 9, 10], []⟩ [((.exit 0), ⟨[1], []⟩)]
 (.seq (.region [.op 0 (.bin 11 .lss .plain (.tmp 10) (.tmp 9))] [])
 (.seq (.cond (.tmp 11)
 .skip
 (.exit 0))
 (.seq (.block 1 (.seq (.region [.op 0 (.iaddr 12 none 1 (.tmp 8) (.tmp 10)),
 .op 1 (.load 13 false 1 (.tmp 12)),
 .op 2 (.mov 3 (.tmp 13))] [])
 (.seq (.region [.op 0 (.buildSl 14 [.int .i64 0] 1 4 [(0, .const (.int .i64 (-1))), (1, .const (.int .i64 0)), (2, .const (.int .i64 1)), (3, .const (.int .i64 9223372036854775807))]),
 .op 1 (.len 15 false (.tmp 14)),
 .op 2 (.mov 16 (.const (.int .i64 0)))] [])
 (.block 2 (.loop ⟨[1, 3, 8, 9, 10, 14, 15, 16], []⟩ [((.exit 2), ⟨[1, 8, 9, 10], []⟩)]
 (.seq (.region [.op 0 (.bin 17 .lss .plain (.tmp 16) (.tmp 15))] [])
 (.seq (.cond (.tmp 17)
 .skip
 (.exit 2))
 (.seq (.block 3 (.seq (.region [.op 0 (.iaddr 18 none 1 (.tmp 14) (.tmp 16)),
 .op 1 (.load 19 false 1 (.tmp 18)),
 .op 2 (.mov 5 (.tmp 19))] [])
 (.seq (.region [.op 0 (.buildSl 20 [.int .i64 0] 1 4 [(0, .const (.int .i64 (-1))), (1, .const (.int .i64 0)), (2, .const (.int .i64 1)), (3, .const (.int .i64 6))]),
 .op 1 (.len 21 false (.tmp 20)),
 .op 2 (.mov 22 (.const (.int .i64 0)))] [])
 (.block 4 (.loop ⟨[1, 3, 5, 8, 9, 10, 14, 15, 16, 20, 21, 22], []⟩ [((.exit 4), ⟨[1, 3, 8, 9, 10, 14, 15, 16], []⟩)]
 (.seq (.region [.op 0 (.bin 23 .lss .plain (.tmp 22) (.tmp 21))] [])
 (.seq (.cond (.tmp 23)
 .skip
 (.exit 4))
 (.seq (.block 5 (.seq (.region [.op 0 (.iaddr 24 none 1 (.tmp 20) (.tmp 22)),
 .op 1 (.load 25 false 1 (.tmp 24)),
 .op 2 (.mov 7 (.tmp 25))] [])
 (.region [.op 0 (.mov 26 (.tmp 1)),
 .op 1 (.mov 27 (.tmp 3)),
 .op 2 (.mov 28 (.tmp 5)),
 .op 3 (.mov 29 (.tmp 7)),
 .op 4 (.build 30 [.int .i64 0, .int .i64 0, .int .i64 0] [(0, 1, .tmp 27), (2, 1, .tmp 28), (1, 1, .tmp 29)]),
 .op 5 (.buildSl 31 [.int .i64 0, .int .i64 0, .int .i64 0] 3 1 [(0, .tmp 30)]),
 .op 6 (.append 32 3 24 [.int .i64 0, .int .i64 0, .int .i64 0] false (.tmp 26) (.tmp 31)),
 .op 7 (.mov 1 (.tmp 32))] [])))
 (.region [.op 0 (.bin 33 .add .plain (.tmp 22) (.const (.int .i64 1))),
 .op 1 (.mov 22 (.tmp 33))] [])))))))))
 (.region [.op 0 (.bin 34 .add .plain (.tmp 16) (.const (.int .i64 1))),
 .op 1 (.mov 16 (.tmp 34))] [])))))))))
 (.region [.op 0 (.bin 35 .add .plain (.tmp 10) (.const (.int .i64 1))),
 .op 1 (.mov 10 (.tmp 35))] [])))))))
 (.seq (.region [.op 0 (.mov 36 (.tmp 1)),
 .op 1 (.mov 0 (.tmp 36))] [])
 .ret)))),
 [.tmp 0]⟩
theorem ok7 : funcOk Try.prog (drawOk Try.prog) Try.f7 A7 = true := by kernel_rfl
/-- xs: t1, t3, t5, t8, t9, t10, t14, t15, t16, t20, t21, t22 -/
noncomputable def L7_2 (call : Go.Fw.Call) (xs : List AVal) (h : Heap) : Option J :=
 (aBin .lss .plain (xs.getD 11 .undef) (xs.getD 10 .undef)).bind fun v15 =>
 condV v15
 ((aIaddr 1 (xs.getD 9 .undef) (xs.getD 11 .undef)).bind fun v16 =>
 (aLoad h 1 v16).bind fun c17 =>
 (fromCells false c17).bind fun v18 =>
 (aFill [.int .i64 0, .int .i64 0, .int .i64 0] [(0, 1, (xs.getD 1 .undef)), (2, 1, (xs.getD 2 .undef)), (1, 1, v18)]).bind fun c19 =>
 (aFill (reps [.int .i64 0, .int .i64 0, .int .i64 0] 1) [(0, 3, (.agg c19))]).bind fun c20 =>
 (aAppend 3 24 [.int .i64 0, .int .i64 0, .int .i64 0] false (xs.getD 0 .undef) (.slice h.next 0 1 1 3 true) (h.alloc c20)).bind fun r21 =>
 (aBin .add .plain (xs.getD 11 .undef) (.int .i64 1)).bind fun v22 =>
 some (0, [r21.1, (xs.getD 1 .undef), (xs.getD 2 .undef), (xs.getD 3 .undef), (xs.getD 4 .undef), (xs.getD 5 .undef), (xs.getD 6 .undef), (xs.getD 7 .undef), (xs.getD 8 .undef), (xs.getD 9 .undef), (xs.getD 10 .undef), v22], r21.2))
 (some (1, [(xs.getD 0 .undef), (xs.getD 1 .undef), (xs.getD 3 .undef), (xs.getD 4 .undef), (xs.getD 5 .undef), (xs.getD 6 .undef), (xs.getD 7 .undef), (xs.getD 8 .undef)], h))
/-- xs: t1, t3, t8, t9, t10, t14, t15, t16 -/
noncomputable def L7_1 (call : Go.Fw.Call) (xs : List AVal) (h : Heap) : Option J :=
 (aBin .lss .plain (xs.getD 7 .undef) (xs.getD 6 .undef)).bind fun v9 =>
 condV v9
 ((aIaddr 1 (xs.getD 5 .undef) (xs.getD 7 .undef)).bind fun v10 =>
 (aLoad h 1 v10).bind fun c11 =>
 (fromCells false c11).bind fun v12 =>
 (aFill (reps [.int .i64 0] 4) [(0, 1, (.int .i64 (-1))), (1, 1, (.int .i64 0)), (2, 1, (.int .i64 1)), (3, 1, (.int .i64 6))]).bind fun c13 =>
 (aLen false (.slice h.next 0 4 4 1 true)).bind fun v14 =>
 (loop (L7_2 call) [(xs.getD 0 .undef), (xs.getD 1 .undef), v12, (xs.getD 2 .undef), (xs.getD 3 .undef), (xs.getD 4 .undef), (xs.getD 5 .undef), (xs.getD 6 .undef), (xs.getD 7 .undef), (.slice h.next 0 4 4 1 true), v14, (.int .i64 0)] (h.alloc c13)).bind fun x23 =>
 bif Nat.beq x23.1 1 then (aBin .add .plain (x23.2.1.getD 7 .undef) (.int .i64 1)).bind fun v24 =>
 some (0, [(x23.2.1.getD 0 .undef), (x23.2.1.getD 1 .undef), (x23.2.1.getD 2 .undef), (x23.2.1.getD 3 .undef), (x23.2.1.getD 4 .undef), (x23.2.1.getD 5 .undef), (x23.2.1.getD 6 .undef), v24], x23.2.2) else
 none)
 (some (1, [(xs.getD 0 .undef), (xs.getD 2 .undef), (xs.getD 3 .undef), (xs.getD 4 .undef)], h))
/-- xs: t1, t8, t9, t10 -/
noncomputable def L7_0 (call : Go.Fw.Call) (xs : List AVal) (h : Heap) : Option J :=
 (aBin .lss .plain (xs.getD 3 .undef) (xs.getD 2 .undef)).bind fun v3 =>
 condV v3
 ((aIaddr 1 (xs.getD 1 .undef) (xs.getD 3 .undef)).bind fun v4 =>
 (aLoad h 1 v4).bind fun c5 =>
 (fromCells false c5).bind fun v6 =>
 (aFill (reps [.int .i64 0] 4) [(0, 1, (.int .i64 (-1))), (1, 1, (.int .i64 0)), (2, 1, (.int .i64 1)), (3, 1, (.int .i64 9223372036854775807))]).bind fun c7 =>
 (aLen false (.slice h.next 0 4 4 1 true)).bind fun v8 =>
 (loop (L7_1 call) [(xs.getD 0 .undef), v6, (xs.getD 1 .undef), (xs.getD 2 .undef), (xs.getD 3 .undef), (.slice h.next 0 4 4 1 true), v8, (.int .i64 0)] (h.alloc c7)).bind fun x25 =>
 bif Nat.beq x25.1 1 then (aBin .add .plain (x25.2.1.getD 3 .undef) (.int .i64 1)).bind fun v26 =>
 some (0, [(x25.2.1.getD 0 .undef), (x25.2.1.getD 1 .undef), (x25.2.1.getD 2 .undef), v26], x25.2.2) else
 none)
 (some (1, [(xs.getD 0 .undef)], h))
noncomputable def S7 (call : Go.Fw.Call) (h : Heap) : Option J :=
 (aFill (reps [.int .i64 0] 4) [(0, 1, (.int .i64 (-1))), (1, 1, (.int .i64 0)), (2, 1, (.int .i64 1)), (3, 1, (.int .i64 9223372036854775807))]).bind fun c1 =>
 (aLen false (.slice h.next 0 4 4 1 true)).bind fun v2 =>
 (loop (L7_0 call) [(.nilSlice), (.slice h.next 0 4 4 1 true), v2, (.int .i64 0)] (h.alloc c1)).bind fun x27 =>
 bif Nat.beq x27.1 1 then some (0, [(x27.2.1.getD 0 .undef)], x27.2.2) else
 none
theorem run7 (call : Go.Fw.Call) (h : Heap) : runFn call (.code A7) [] h = (S7 call  h).bind ansOf := by kernel_rfl

/-- frankpledge/frankpledgelaw4.same -/
noncomputable def A8 : AFunc := ⟨4, (.seq (.region [.op 0 (.box 4 true (.tmp 0)),
 .op 1 (.box 5 true (.tmp 1)),
 .op 2 (.mov 8 (.const (.bool false)))] [])
 (.seq (.region [.op 0 (.load 10 true 3 (.tmp 4)),
 .op 1 (.alloc 9 true [.int .i64 0, .int .i64 0, .int .i64 0]),
 .op 2 (.store true 3 (.tmp 9) (.tmp 10))] [])
 (.seq (.seq (.region [.op 0 (.load 11 true 3 (.tmp 4)),
 .op 1 (.load 12 true 3 (.tmp 5)),
 .op 2 (.call 13 14 [.tmp 11, .tmp 12])] [])
 (.join [(.normal, ⟨[2, 3], [4, 5, 9]⟩)] (.cond (.tmp 13)
 (.region [.op 0 (.load 14 true 3 (.tmp 5)),
 .op 1 (.store true 3 (.tmp 9) (.tmp 14))] [])
 .skip)))
 (.seq (.region [.op 0 (.load 15 true 3 (.tmp 4)),
 .op 1 (.load 16 true 3 (.tmp 5)),
 .op 2 (.call 17 11 [.tmp 15, .tmp 16]),
 .op 3 (.load 18 true 3 (.tmp 4)),
 .op 4 (.load 19 true 3 (.tmp 5)),
 .op 5 (.call 20 14 [.tmp 18, .tmp 19]),
 .op 6 (.bin 21 .eql .bool (.tmp 17) (.tmp 20)),
 .op 7 (.mov 22 (.tmp 21)),
 .guard 22 true [.op 8 (.load 23 true 3 (.tmp 4)),
 .op 9 (.load 24 true 3 (.tmp 5)),
 .op 10 (.call 25 12 [.tmp 23, .tmp 24]),
 .op 11 (.load 26 true 3 (.tmp 9)),
 .op 12 (.bin 27 .eql (.cells [1, 1, 1]) (.tmp 25) (.tmp 26))] [(11, 10)] [27],
 .op 13 (.pick 28 (.tmp 22) (.tmp 27) (.const (.bool false))),
 .op 14 (.mov 29 (.tmp 28)),
 .guard 29 true [.op 15 (.load 30 true 3 (.tmp 4)),
 .op 16 (.mov 31 (.tmp 2)),
 .op 17 (.mov 32 (.tmp 3)),
 .op 18 (.call 33 10 [.tmp 30, .tmp 31, .tmp 32]),
 .op 19 (.load 34 true 3 (.tmp 4)),
 .op 20 (.mov 35 (.tmp 2)),
 .op 21 (.mov 36 (.tmp 3)),
 .op 22 (.call 37 15 [.tmp 34, .tmp 35, .tmp 36]),
 .op 23 (.bin 38 .eql (.cells [1, 1, 1]) (.tmp 33) (.tmp 37))] [(19, 18)] [38],
 .op 24 (.pick 39 (.tmp 29) (.tmp 38) (.const (.bool false))),
 .op 25 (.mov 40 (.tmp 39)),
 .guard 40 true [.op 26 (.load 41 true 3 (.tmp 4)),
 .op 27 (.call 42 13 [.tmp 41]),
 .op 28 (.load 43 true 3 (.tmp 4)),
 .op 29 (.call 44 16 [.tmp 43]),
 .op 30 (.bin 45 .eql .bool (.tmp 42) (.tmp 44))] [(28, 27)] [45],
 .op 31 (.pick 46 (.tmp 40) (.tmp 45) (.const (.bool false))),
 .op 32 (.mov 8 (.tmp 46))] [(3, 2), (4, 2)])
 .ret)))),
 [.tmp 8]⟩
theorem ok8 : funcOk Try.prog (drawOk Try.prog) Try.f8 A8 = true := by kernel_rfl
noncomputable def S8 (call : Go.Fw.Call) (a0 a1 a2 a3 : AVal) (h : Heap) : Option J :=
 (AVal.cells? a0).bind fun c1 =>
 (AVal.cells? a1).bind fun c2 =>
 (rdL c1 0 3).bind fun c3 =>
 (fromCells true c3).bind fun v4 =>
 (aCells 3 v4).bind fun c5 =>
 bif Nat.ble ((0) + 3) (List.length (α := AVal) [.int .i64 0, .int .i64 0, .int .i64 0]) then (rdL c1 0 3).bind fun c6 =>
 (fromCells true c6).bind fun v7 =>
 (rdL c2 0 3).bind fun c8 =>
 (fromCells true c8).bind fun v9 =>
 (call 14 [v7, v9] h).bind fun r10 =>
 (condV r10.1
 ((rdL c2 0 3).bind fun c11 =>
 (fromCells true c11).bind fun v12 =>
 (aCells 3 v12).bind fun c13 =>
 bif Nat.ble ((0) + 3) (List.length (α := AVal) (splice [.int .i64 0, .int .i64 0, .int .i64 0] (0) c5)) then some (0, [a2, a3, (.agg c1), (.agg c2), (.agg (splice (splice [.int .i64 0, .int .i64 0, .int .i64 0] (0) c5) (0) c13))], r10.2) else none)
 (some (0, [a2, a3, (.agg c1), (.agg c2), (.agg (splice [.int .i64 0, .int .i64 0, .int .i64 0] (0) c5))], r10.2))).bind fun x14 =>
 bif Nat.beq x14.1 0 then (rdL (AVal.aggCells (x14.2.1.getD 2 .undef)) 0 3).bind fun c15 =>
 (fromCells true c15).bind fun v16 =>
 (rdL (AVal.aggCells (x14.2.1.getD 3 .undef)) 0 3).bind fun c17 =>
 (fromCells true c17).bind fun v18 =>
 (call 11 [v16, v18] x14.2.2).bind fun r19 =>
 (rdL (AVal.aggCells (x14.2.1.getD 2 .undef)) 0 3).bind fun c20 =>
 (fromCells true c20).bind fun v21 =>
 (rdL (AVal.aggCells (x14.2.1.getD 3 .undef)) 0 3).bind fun c22 =>
 (fromCells true c22).bind fun v23 =>
 (call 14 [v21, v23] r19.2).bind fun r24 =>
 (aBin .eql .bool r19.1 r24.1).bind fun v25 =>
 (guardV v25 true
 ((rdL (AVal.aggCells (x14.2.1.getD 2 .undef)) 0 3).bind fun c26 =>
 (fromCells true c26).bind fun v27 =>
 (rdL (AVal.aggCells (x14.2.1.getD 3 .undef)) 0 3).bind fun c28 =>
 (fromCells true c28).bind fun v29 =>
 (call 12 [v27, v29] r24.2).bind fun r30 =>
 (rdL (AVal.aggCells (x14.2.1.getD 4 .undef)) 0 3).bind fun c31 =>
 (fromCells true c31).bind fun v32 =>
 (aBin .eql (.cells [1, 1, 1]) r30.1 v32).bind fun v33 =>
 bif checkPairs [(11, some (.lrd 9 (0) 3)), (10, some (.ef [(4, (AVal.aggCells (x14.2.1.getD 2 .undef))), (5, (AVal.aggCells (x14.2.1.getD 3 .undef))), (9, (AVal.aggCells (x14.2.1.getD 4 .undef)))] r24.2 [(4, (AVal.aggCells (x14.2.1.getD 2 .undef))), (5, (AVal.aggCells (x14.2.1.getD 3 .undef))), (9, (AVal.aggCells (x14.2.1.getD 4 .undef)))] r30.2))] [(11, 10)] then some (0, [v33], r30.2) else none)
 (some (0, [skipV], r24.2))).bind fun g34 =>
 (aPick v25 (g34.2.1.getD 0 .undef) (.bool false)).bind fun v35 =>
 (guardV v35 true
 ((rdL (AVal.aggCells (x14.2.1.getD 2 .undef)) 0 3).bind fun c36 =>
 (fromCells true c36).bind fun v37 =>
 (call 10 [v37, (x14.2.1.getD 0 .undef), (x14.2.1.getD 1 .undef)] g34.2.2).bind fun r38 =>
 (rdL (AVal.aggCells (x14.2.1.getD 2 .undef)) 0 3).bind fun c39 =>
 (fromCells true c39).bind fun v40 =>
 (call 15 [v40, (x14.2.1.getD 0 .undef), (x14.2.1.getD 1 .undef)] r38.2).bind fun r41 =>
 (aBin .eql (.cells [1, 1, 1]) r38.1 r41.1).bind fun v42 =>
 bif checkPairs [(19, some (.lrd 4 (0) 3)), (18, some (.ef [(4, (AVal.aggCells (x14.2.1.getD 2 .undef))), (5, (AVal.aggCells (x14.2.1.getD 3 .undef))), (9, (AVal.aggCells (x14.2.1.getD 4 .undef)))] g34.2.2 [(4, (AVal.aggCells (x14.2.1.getD 2 .undef))), (5, (AVal.aggCells (x14.2.1.getD 3 .undef))), (9, (AVal.aggCells (x14.2.1.getD 4 .undef)))] r38.2))] [(19, 18)] then some (0, [v42], r41.2) else none)
 (some (0, [skipV], g34.2.2))).bind fun g43 =>
 (aPick v35 (g43.2.1.getD 0 .undef) (.bool false)).bind fun v44 =>
 (guardV v44 true
 ((rdL (AVal.aggCells (x14.2.1.getD 2 .undef)) 0 3).bind fun c45 =>
 (fromCells true c45).bind fun v46 =>
 (call 13 [v46] g43.2.2).bind fun r47 =>
 (rdL (AVal.aggCells (x14.2.1.getD 2 .undef)) 0 3).bind fun c48 =>
 (fromCells true c48).bind fun v49 =>
 (call 16 [v49] r47.2).bind fun r50 =>
 (aBin .eql .bool r47.1 r50.1).bind fun v51 =>
 bif checkPairs [(28, some (.lrd 4 (0) 3)), (27, some (.ef [(4, (AVal.aggCells (x14.2.1.getD 2 .undef))), (5, (AVal.aggCells (x14.2.1.getD 3 .undef))), (9, (AVal.aggCells (x14.2.1.getD 4 .undef)))] g43.2.2 [(4, (AVal.aggCells (x14.2.1.getD 2 .undef))), (5, (AVal.aggCells (x14.2.1.getD 3 .undef))), (9, (AVal.aggCells (x14.2.1.getD 4 .undef)))] r47.2))] [(28, 27)] then some (0, [v51], r50.2) else none)
 (some (0, [skipV], g43.2.2))).bind fun g52 =>
 (aPick v44 (g52.2.1.getD 0 .undef) (.bool false)).bind fun v53 =>
 bif checkPairs [(4, some (.lrd 5 (0) 3)), (3, some (.lrd 4 (0) 3)), (2, some (.ef [(4, (AVal.aggCells (x14.2.1.getD 2 .undef))), (5, (AVal.aggCells (x14.2.1.getD 3 .undef))), (9, (AVal.aggCells (x14.2.1.getD 4 .undef)))] x14.2.2 [(4, (AVal.aggCells (x14.2.1.getD 2 .undef))), (5, (AVal.aggCells (x14.2.1.getD 3 .undef))), (9, (AVal.aggCells (x14.2.1.getD 4 .undef)))] r19.2))] [(3, 2), (4, 2)] then some (0, [v53], g52.2.2) else none else
 none else none
theorem run8 (call : Go.Fw.Call) (a0 a1 a2 a3 : AVal) (h : Heap) : runFn call (.code A8) [a0, a1, a2, a3] h = (S8 call a0 a1 a2 a3 h).bind ansOf := by kernel_rfl

/-- frankpledge/frankpledgelaw4.known -/
noncomputable def A9 : AFunc := ⟨0, (.seq (.region [.op 0 (.mov 0 (.const (.bool false)))] [])
 (.seq (.region [.op 0 (.build 3 [.int .i64 0, .int .i64 0, .int .i64 0] [(0, 1, .const (.int .i64 5)), (2, 1, .const (.int .i64 3))]),
 .op 1 (.alloc 1 true [.int .i64 0, .int .i64 0, .int .i64 0]),
 .op 2 (.store true 3 (.tmp 1) (.tmp 3))] [])
 (.seq (.region [.op 0 (.load 4 true 3 (.tmp 1)),
 .op 1 (.call 5 10 [.tmp 4, .const (.int .i64 2), .const (.int .i64 4)]),
 .op 2 (.alloc 2 true [.int .i64 0, .int .i64 0, .int .i64 0]),
 .op 3 (.store true 3 (.tmp 2) (.tmp 5))] [])
 (.seq (.region [.op 0 (.faddr 6 0 (.tmp 2)),
 .op 1 (.load 7 false 1 (.tmp 6)),
 .op 2 (.bin 8 .eql .plain (.tmp 7) (.const (.int .i64 5))),
 .op 3 (.mov 9 (.tmp 8)),
 .guard 9 true [.op 4 (.faddr 10 2 (.tmp 2)),
 .op 5 (.load 11 false 1 (.tmp 10)),
 .op 6 (.bin 12 .eql .plain (.tmp 11) (.const (.int .i64 4)))] [] [12],
 .op 7 (.pick 13 (.tmp 9) (.tmp 12) (.const (.bool false))),
 .op 8 (.mov 14 (.tmp 13)),
 .guard 14 true [.op 9 (.faddr 15 1 (.tmp 2)),
 .op 10 (.load 16 false 1 (.tmp 15)),
 .op 11 (.bin 17 .eql .plain (.tmp 16) (.const (.int .i64 4)))] [] [17],
 .op 12 (.pick 18 (.tmp 14) (.tmp 17) (.const (.bool false))),
 .op 13 (.mov 19 (.tmp 18)),
 .guard 19 true [.op 14 (.load 20 true 3 (.tmp 1)),
 .op 15 (.load 21 true 3 (.tmp 1)),
 .op 16 (.call 22 11 [.tmp 20, .tmp 21]),
 .op 17 (.un 23 .not (.tmp 22))] [] [23],
 .op 18 (.pick 24 (.tmp 19) (.tmp 23) (.const (.bool false))),
 .op 19 (.mov 25 (.tmp 24)),
 .guard 25 true [.op 20 (.load 26 true 3 (.tmp 1)),
 .op 21 (.load 27 true 3 (.tmp 2)),
 .op 22 (.call 28 12 [.tmp 26, .tmp 27]),
 .op 23 (.load 29 true 3 (.tmp 2)),
 .op 24 (.bin 30 .eql (.cells [1, 1, 1]) (.tmp 28) (.tmp 29))] [(23, 22)] [30],
 .op 25 (.pick 31 (.tmp 25) (.tmp 30) (.const (.bool false))),
 .op 26 (.mov 32 (.tmp 31)),
 .guard 32 true [.op 27 (.load 33 true 3 (.tmp 1)),
 .op 28 (.call 34 13 [.tmp 33])] [] [34],
 .op 29 (.pick 35 (.tmp 32) (.tmp 34) (.const (.bool false))),
 .op 30 (.mov 36 (.tmp 35)),
 .guard 36 true [.op 31 (.build 37 [.int .i64 0, .int .i64 0, .int .i64 0] [(1, 1, .const (.int .i64 6))]),
 .op 32 (.call 38 13 [.tmp 37]),
 .op 33 (.un 39 .not (.tmp 38))] [] [39],
 .op 34 (.pick 40 (.tmp 36) (.tmp 39) (.const (.bool false))),
 .op 35 (.mov 0 (.tmp 40))] [])
 .ret)))),
 [.tmp 0]⟩
theorem ok9 : funcOk Try.prog (drawOk Try.prog) Try.f9 A9 = true := by kernel_rfl
noncomputable def S9 (call : Go.Fw.Call) (h : Heap) : Option J :=
 (aFill [.int .i64 0, .int .i64 0, .int .i64 0] [(0, 1, (.int .i64 5)), (2, 1, (.int .i64 3))]).bind fun c1 =>
 (aCells 3 (.agg c1)).bind fun c2 =>
 bif Nat.ble ((0) + 3) (List.length (α := AVal) [.int .i64 0, .int .i64 0, .int .i64 0]) then (rdL (splice [.int .i64 0, .int .i64 0, .int .i64 0] (0) c2) 0 3).bind fun c3 =>
 (fromCells true c3).bind fun v4 =>
 (call 10 [v4, (.int .i64 2), (.int .i64 4)] h).bind fun r5 =>
 (aCells 3 r5.1).bind fun c6 =>
 bif Nat.ble ((0) + 3) (List.length (α := AVal) [.int .i64 0, .int .i64 0, .int .i64 0]) then (rdL (splice [.int .i64 0, .int .i64 0, .int .i64 0] (0) c6) 0 1).bind fun c7 =>
 (fromCells false c7).bind fun v8 =>
 (aBin .eql .plain v8 (.int .i64 5)).bind fun v9 =>
 (guardV v9 true
 ((rdL (splice [.int .i64 0, .int .i64 0, .int .i64 0] (0) c6) 2 1).bind fun c10 =>
 (fromCells false c10).bind fun v11 =>
 (aBin .eql .plain v11 (.int .i64 4)).bind fun v12 =>
 some (0, [v12], r5.2))
 (some (0, [skipV], r5.2))).bind fun g13 =>
 (aPick v9 (g13.2.1.getD 0 .undef) (.bool false)).bind fun v14 =>
 (guardV v14 true
 ((rdL (splice [.int .i64 0, .int .i64 0, .int .i64 0] (0) c6) 1 1).bind fun c15 =>
 (fromCells false c15).bind fun v16 =>
 (aBin .eql .plain v16 (.int .i64 4)).bind fun v17 =>
 some (0, [v17], g13.2.2))
 (some (0, [skipV], g13.2.2))).bind fun g18 =>
 (aPick v14 (g18.2.1.getD 0 .undef) (.bool false)).bind fun v19 =>
 (guardV v19 true
 ((rdL (splice [.int .i64 0, .int .i64 0, .int .i64 0] (0) c2) 0 3).bind fun c20 =>
 (fromCells true c20).bind fun v21 =>
 (rdL (splice [.int .i64 0, .int .i64 0, .int .i64 0] (0) c2) 0 3).bind fun c22 =>
 (fromCells true c22).bind fun v23 =>
 (call 11 [v21, v23] g18.2.2).bind fun r24 =>
 (aUn .not r24.1).bind fun v25 =>
 some (0, [v25], r24.2))
 (some (0, [skipV], g18.2.2))).bind fun g26 =>
 (aPick v19 (g26.2.1.getD 0 .undef) (.bool false)).bind fun v27 =>
 (guardV v27 true
 ((rdL (splice [.int .i64 0, .int .i64 0, .int .i64 0] (0) c2) 0 3).bind fun c28 =>
 (fromCells true c28).bind fun v29 =>
 (rdL (splice [.int .i64 0, .int .i64 0, .int .i64 0] (0) c6) 0 3).bind fun c30 =>
 (fromCells true c30).bind fun v31 =>
 (call 12 [v29, v31] g26.2.2).bind fun r32 =>
 (rdL (splice [.int .i64 0, .int .i64 0, .int .i64 0] (0) c6) 0 3).bind fun c33 =>
 (fromCells true c33).bind fun v34 =>
 (aBin .eql (.cells [1, 1, 1]) r32.1 v34).bind fun v35 =>
 bif checkPairs [(23, some (.lrd 2 (0) 3)), (22, some (.ef [(2, (splice [.int .i64 0, .int .i64 0, .int .i64 0] (0) c6)), (1, (splice [.int .i64 0, .int .i64 0, .int .i64 0] (0) c2))] g26.2.2 [(2, (splice [.int .i64 0, .int .i64 0, .int .i64 0] (0) c6)), (1, (splice [.int .i64 0, .int .i64 0, .int .i64 0] (0) c2))] r32.2))] [(23, 22)] then some (0, [v35], r32.2) else none)
 (some (0, [skipV], g26.2.2))).bind fun g36 =>
 (aPick v27 (g36.2.1.getD 0 .undef) (.bool false)).bind fun v37 =>
 (guardV v37 true
 ((rdL (splice [.int .i64 0, .int .i64 0, .int .i64 0] (0) c2) 0 3).bind fun c38 =>
 (fromCells true c38).bind fun v39 =>
 (call 13 [v39] g36.2.2).bind fun r40 =>
 some (0, [r40.1], r40.2))
 (some (0, [skipV], g36.2.2))).bind fun g41 =>
 (aPick v37 (g41.2.1.getD 0 .undef) (.bool false)).bind fun v42 =>
 (guardV v42 true
 ((aFill [.int .i64 0, .int .i64 0, .int .i64 0] [(1, 1, (.int .i64 6))]).bind fun c43 =>
 (call 13 [(.agg c43)] g41.2.2).bind fun r44 =>
 (aUn .not r44.1).bind fun v45 =>
 some (0, [v45], r44.2))
 (some (0, [skipV], g41.2.2))).bind fun g46 =>
 (aPick v42 (g46.2.1.getD 0 .undef) (.bool false)).bind fun v47 =>
 some (0, [v47], g46.2.2) else none else none
theorem run9 (call : Go.Fw.Call) (h : Heap) : runFn call (.code A9) [] h = (S9 call  h).bind ansOf := by kernel_rfl

/-- frankpledge/stamp.Next -/
noncomputable def A10 : AFunc := ⟨3, (.seq (.region [.op 0 (.box 3 true (.tmp 0)),
 .op 1 (.alloc 6 true [.int .i64 0, .int .i64 0, .int .i64 0])] [])
 (.seq (.region [.op 0 (.faddr 8 2 (.tmp 3)),
 .op 1 (.load 9 false 1 (.tmp 8)),
 .op 2 (.mov 7 (.tmp 9))] [])
 (.seq (.seq (.region [.op 0 (.mov 10 (.tmp 7)),
 .op 1 (.bin 11 .lss .plain (.tmp 10) (.const (.int .i64 9223372036854775807)))] [])
 (.join [(.normal, ⟨[1, 2, 7], [3, 6]⟩)] (.cond (.tmp 11)
 (.region [.op 0 (.mov 12 (.tmp 7)),
 .op 1 (.bin 13 .add .plain (.tmp 12) (.const (.int .i64 1))),
 .op 2 (.mov 7 (.tmp 13))] [])
 .skip)))
 (.seq (.region [.op 0 (.faddr 14 0 (.tmp 3)),
 .op 1 (.load 15 false 1 (.tmp 14)),
 .op 2 (.mov 16 (.tmp 1)),
 .op 3 (.minmax 17 true [.tmp 15, .tmp 16]),
 .op 4 (.mov 18 (.tmp 2)),
 .op 5 (.mov 19 (.tmp 7)),
 .op 6 (.build 20 [.int .i64 0, .int .i64 0, .int .i64 0] [(0, 1, .tmp 17), (1, 1, .tmp 18), (2, 1, .tmp 19)]),
 .op 7 (.store true 3 (.tmp 6) (.tmp 20))] [])
 .ret)))),
 [.cell 6 true 3]⟩
theorem ok10 : funcOk Try.prog (drawOk Try.prog) Try.f10 A10 = true := by kernel_rfl
noncomputable def S10 (call : Go.Fw.Call) (a0 a1 a2 : AVal) (h : Heap) : Option J :=
 (AVal.cells? a0).bind fun c1 =>
 (rdL c1 2 1).bind fun c2 =>
 (fromCells false c2).bind fun v3 =>
 (aBin .lss .plain v3 (.int .i64 9223372036854775807)).bind fun v4 =>
 (condV v4
 ((aBin .add .plain v3 (.int .i64 1)).bind fun v5 =>
 some (0, [a1, a2, v5, (.agg c1), (.agg [.int .i64 0, .int .i64 0, .int .i64 0])], h))
 (some (0, [a1, a2, v3, (.agg c1), (.agg [.int .i64 0, .int .i64 0, .int .i64 0])], h))).bind fun x6 =>
 bif Nat.beq x6.1 0 then (rdL (AVal.aggCells (x6.2.1.getD 3 .undef)) 0 1).bind fun c7 =>
 (fromCells false c7).bind fun v8 =>
 (aMinMaxL true [v8, (x6.2.1.getD 0 .undef)]).bind fun v9 =>
 (aFill [.int .i64 0, .int .i64 0, .int .i64 0] [(0, 1, v9), (1, 1, (x6.2.1.getD 1 .undef)), (2, 1, (x6.2.1.getD 2 .undef))]).bind fun c10 =>
 (aCells 3 (.agg c10)).bind fun c11 =>
 bif Nat.ble ((0) + 3) (List.length (α := AVal) (AVal.aggCells (x6.2.1.getD 4 .undef))) then (((rdL (splice (AVal.aggCells (x6.2.1.getD 4 .undef)) (0) c11) (0) 3).bind fun cs => fromCells true cs).bind fun v => (some []).bind fun vs => some (v :: vs)).bind fun vs => some (0, [oneOr vs], x6.2.2) else none else
 none
theorem run10 (call : Go.Fw.Call) (a0 a1 a2 : AVal) (h : Heap) : runFn call (.code A10) [a0, a1, a2] h = (S10 call a0 a1 a2 h).bind ansOf := by kernel_rfl

/-- frankpledge/stamp.Less -/
noncomputable def A11 : AFunc := ⟨2, (.seq (.region [.op 0 (.box 2 true (.tmp 0)),
 .op 1 (.box 3 true (.tmp 1)),
 .op 2 (.mov 4 (.const (.bool false)))] [])
 (.seq (.region [.op 0 (.faddr 5 0 (.tmp 2)),
 .op 1 (.load 6 false 1 (.tmp 5)),
 .op 2 (.faddr 7 0 (.tmp 3)),
 .op 3 (.load 8 false 1 (.tmp 7)),
 .op 4 (.call 9 18 [.tmp 6, .tmp 8]),
 .op 5 (.faddr 10 2 (.tmp 2)),
 .op 6 (.load 11 false 1 (.tmp 10)),
 .op 7 (.faddr 12 2 (.tmp 3)),
 .op 8 (.load 13 false 1 (.tmp 12)),
 .op 9 (.call 14 18 [.tmp 11, .tmp 13]),
 .op 10 (.faddr 15 1 (.tmp 2)),
 .op 11 (.load 16 false 1 (.tmp 15)),
 .op 12 (.faddr 17 1 (.tmp 3)),
 .op 13 (.load 18 false 1 (.tmp 17)),
 .op 14 (.call 19 19 [.tmp 16, .tmp 18]),
 .op 15 (.buildSl 20 [.int .i64 0] 1 3 [(0, .tmp 9), (1, .tmp 14), (2, .tmp 19)]),
 .op 16 (.call 21 17 [.tmp 20]),
 .op 17 (.bin 22 .lss .plain (.tmp 21) (.const (.int .i64 0))),
 .op 18 (.mov 4 (.tmp 22))] [(6, 4), (8, 4), (11, 4), (11, 9), (13, 4), (13, 9)])
 .ret)),
 [.tmp 4]⟩
theorem ok11 : funcOk Try.prog (drawOk Try.prog) Try.f11 A11 = true := by kernel_rfl
noncomputable def S11 (call : Go.Fw.Call) (a0 a1 : AVal) (h : Heap) : Option J :=
 (AVal.cells? a0).bind fun c1 =>
 (AVal.cells? a1).bind fun c2 =>
 (rdL c1 0 1).bind fun c3 =>
 (fromCells false c3).bind fun v4 =>
 (rdL c2 0 1).bind fun c5 =>
 (fromCells false c5).bind fun v6 =>
 (call 18 [v4, v6] h).bind fun r7 =>
 (rdL c1 2 1).bind fun c8 =>
 (fromCells false c8).bind fun v9 =>
 (rdL c2 2 1).bind fun c10 =>
 (fromCells false c10).bind fun v11 =>
 (call 18 [v9, v11] r7.2).bind fun r12 =>
 (rdL c1 1 1).bind fun c13 =>
 (fromCells false c13).bind fun v14 =>
 (rdL c2 1 1).bind fun c15 =>
 (fromCells false c15).bind fun v16 =>
 (call 19 [v14, v16] r12.2).bind fun r17 =>
 (aFill (reps [.int .i64 0] 3) [(0, 1, r7.1), (1, 1, r12.1), (2, 1, r17.1)]).bind fun c18 =>
 (call 17 [(.slice r17.2.next 0 3 3 1 true)] (r17.2.alloc c18)).bind fun r19 =>
 (aBin .lss .plain r19.1 (.int .i64 0)).bind fun v20 =>
 bif checkPairs [(13, some (.lrd 3 (1) 1)), (11, some (.lrd 2 (1) 1)), (9, some (.ef [(3, c2), (2, c1)] r7.2 [(3, c2), (2, c1)] r12.2)), (8, some (.lrd 3 (2) 1)), (6, some (.lrd 2 (2) 1)), (4, some (.ef [(3, c2), (2, c1)] h [(3, c2), (2, c1)] r7.2))] [(6, 4), (8, 4), (11, 4), (11, 9), (13, 4), (13, 9)] then some (0, [v20], r19.2) else none
theorem run11 (call : Go.Fw.Call) (a0 a1 : AVal) (h : Heap) : runFn call (.code A11) [a0, a1] h = (S11 call a0 a1 h).bind ansOf := by kernel_rfl

/-- frankpledge/stamp.Max -/
noncomputable def A12 : AFunc := ⟨2, (.seq (.region [.op 0 (.box 2 true (.tmp 0)),
 .op 1 (.box 3 true (.tmp 1)),
 .op 2 (.alloc 4 true [.int .i64 0, .int .i64 0, .int .i64 0])] [])
 (.seq (.block 0 (.seq (.join [((.exit 0), ⟨[], [3, 4]⟩), (.normal, ⟨[], [2, 4]⟩)] (.block 2 (.block 1 (.seq (.seq (.seq (.region [.op 0 (.load 6 true 3 (.tmp 3)),
 .op 1 (.load 7 true 3 (.tmp 2)),
 .op 2 (.call 8 11 [.tmp 6, .tmp 7]),
 .op 3 (.mov 5 (.tmp 8))] [])
 (.cond (.tmp 5)
 (.exit 1)
 .skip))
 (.seq (.region [.op 0 (.load 10 true 3 (.tmp 2)),
 .op 1 (.load 11 true 3 (.tmp 3)),
 .op 2 (.bin 12 .eql (.cells [1, 1, 1]) (.tmp 10) (.tmp 11)),
 .op 3 (.mov 9 (.tmp 12))] [])
 (.cond (.tmp 9)
 (.exit 2)
 .skip)))
 (.exit 0)))))
 (.seq (.seq (.region [.op 0 (.load 13 true 3 (.tmp 2)),
 .op 1 (.store true 3 (.tmp 4) (.tmp 13))] [])
 .ret)
 (.exit 0))))
 (.seq (.region [.op 0 (.load 14 true 3 (.tmp 3)),
 .op 1 (.store true 3 (.tmp 4) (.tmp 14))] [])
 .ret))),
 [.cell 4 true 3]⟩
theorem ok12 : funcOk Try.prog (drawOk Try.prog) Try.f12 A12 = true := by kernel_rfl
noncomputable def S12 (call : Go.Fw.Call) (a0 a1 : AVal) (h : Heap) : Option J :=
 (AVal.cells? a0).bind fun c1 =>
 (AVal.cells? a1).bind fun c2 =>
 ((rdL c2 0 3).bind fun c3 =>
 (fromCells true c3).bind fun v4 =>
 (rdL c1 0 3).bind fun c5 =>
 (fromCells true c5).bind fun v6 =>
 (call 11 [v4, v6] h).bind fun r7 =>
 condV r7.1
 (some (1, [(.agg c1), (.agg [.int .i64 0, .int .i64 0, .int .i64 0])], r7.2))
 ((rdL c1 0 3).bind fun c8 =>
 (fromCells true c8).bind fun v9 =>
 (rdL c2 0 3).bind fun c10 =>
 (fromCells true c10).bind fun v11 =>
 (aBin .eql (.cells [1, 1, 1]) v9 v11).bind fun v12 =>
 condV v12
 (some (1, [(.agg c1), (.agg [.int .i64 0, .int .i64 0, .int .i64 0])], r7.2))
 (some (0, [(.agg c2), (.agg [.int .i64 0, .int .i64 0, .int .i64 0])], r7.2)))).bind fun x13 =>
 bif Nat.beq x13.1 0 then (rdL (AVal.aggCells (x13.2.1.getD 0 .undef)) 0 3).bind fun c14 =>
 (fromCells true c14).bind fun v15 =>
 (aCells 3 v15).bind fun c16 =>
 bif Nat.ble ((0) + 3) (List.length (α := AVal) (AVal.aggCells (x13.2.1.getD 1 .undef))) then (((rdL (splice (AVal.aggCells (x13.2.1.getD 1 .undef)) (0) c16) (0) 3).bind fun cs => fromCells true cs).bind fun v => (some []).bind fun vs => some (v :: vs)).bind fun vs => some (0, [oneOr vs], x13.2.2) else none else
 bif Nat.beq x13.1 1 then (rdL (AVal.aggCells (x13.2.1.getD 0 .undef)) 0 3).bind fun c17 =>
 (fromCells true c17).bind fun v18 =>
 (aCells 3 v18).bind fun c19 =>
 bif Nat.ble ((0) + 3) (List.length (α := AVal) (AVal.aggCells (x13.2.1.getD 1 .undef))) then (((rdL (splice (AVal.aggCells (x13.2.1.getD 1 .undef)) (0) c19) (0) 3).bind fun cs => fromCells true cs).bind fun v => (some []).bind fun vs => some (v :: vs)).bind fun vs => some (0, [oneOr vs], x13.2.2) else none else
 none
theorem run12 (call : Go.Fw.Call) (a0 a1 : AVal) (h : Heap) : runFn call (.code A12) [a0, a1] h = (S12 call a0 a1 h).bind ansOf := by kernel_rfl

/-- frankpledge/stamp.Right -/
noncomputable def A13 : AFunc := ⟨1, (.seq (.region [.op 0 (.box 1 true (.tmp 0)),
 .op 1 (.mov 2 (.const (.bool false)))] [])
 (.seq (.region [.op 0 (.faddr 3 0 (.tmp 1)),
 .op 1 (.load 4 false 1 (.tmp 3)),
 .op 2 (.bin 5 .geq .plain (.tmp 4) (.const (.int .i64 0))),
 .op 3 (.mov 6 (.tmp 5)),
 .guard 6 true [.op 4 (.faddr 7 2 (.tmp 1)),
 .op 5 (.load 8 false 1 (.tmp 7)),
 .op 6 (.bin 9 .geq .plain (.tmp 8) (.const (.int .i64 0)))] [] [9],
 .op 7 (.pick 10 (.tmp 6) (.tmp 9) (.const (.bool false))),
 .op 8 (.mov 11 (.tmp 10)),
 .guard 11 true [.op 9 (.faddr 12 1 (.tmp 1)),
 .op 10 (.load 13 false 1 (.tmp 12)),
 .op 11 (.bin 14 .geq .plain (.tmp 13) (.const (.int .i64 0)))] [] [14],
 .op 12 (.pick 15 (.tmp 11) (.tmp 14) (.const (.bool false))),
 .op 13 (.mov 16 (.tmp 15)),
 .guard 16 true [.op 14 (.faddr 17 1 (.tmp 1)),
 .op 15 (.load 18 false 1 (.tmp 17)),
 .op 16 (.bin 19 .lss .plain (.tmp 18) (.const (.int .i64 6)))] [] [19],
 .op 17 (.pick 20 (.tmp 16) (.tmp 19) (.const (.bool false))),
 .op 18 (.mov 2 (.tmp 20))] [])
 .ret)),
 [.tmp 2]⟩
theorem ok13 : funcOk Try.prog (drawOk Try.prog) Try.f13 A13 = true := by kernel_rfl
noncomputable def S13 (call : Go.Fw.Call) (a0 : AVal) (h : Heap) : Option J :=
 (AVal.cells? a0).bind fun c1 =>
 (rdL c1 0 1).bind fun c2 =>
 (fromCells false c2).bind fun v3 =>
 (aBin .geq .plain v3 (.int .i64 0)).bind fun v4 =>
 (guardV v4 true
 ((rdL c1 2 1).bind fun c5 =>
 (fromCells false c5).bind fun v6 =>
 (aBin .geq .plain v6 (.int .i64 0)).bind fun v7 =>
 some (0, [v7], h))
 (some (0, [skipV], h))).bind fun g8 =>
 (aPick v4 (g8.2.1.getD 0 .undef) (.bool false)).bind fun v9 =>
 (guardV v9 true
 ((rdL c1 1 1).bind fun c10 =>
 (fromCells false c10).bind fun v11 =>
 (aBin .geq .plain v11 (.int .i64 0)).bind fun v12 =>
 some (0, [v12], g8.2.2))
 (some (0, [skipV], g8.2.2))).bind fun g13 =>
 (aPick v9 (g13.2.1.getD 0 .undef) (.bool false)).bind fun v14 =>
 (guardV v14 true
 ((rdL c1 1 1).bind fun c15 =>
 (fromCells false c15).bind fun v16 =>
 (aBin .lss .plain v16 (.int .i64 6)).bind fun v17 =>
 some (0, [v17], g13.2.2))
 (some (0, [skipV], g13.2.2))).bind fun g18 =>
 (aPick v14 (g18.2.1.getD 0 .undef) (.bool false)).bind fun v19 =>
 some (0, [v19], g18.2.2)
theorem run13 (call : Go.Fw.Call) (a0 : AVal) (h : Heap) : runFn call (.code A13) [a0] h = (S13 call a0 h).bind ansOf := by kernel_rfl

/-- frankpledge/frankpledgeref5.Less -/
noncomputable def A14 : AFunc := ⟨2, (.seq (.region [.op 0 (.box 2 true (.tmp 0)),
 .op 1 (.box 3 true (.tmp 1)),
 .op 2 (.mov 4 (.const (.bool false)))] [])
 (.seq (.seq (.region [.op 0 (.faddr 5 0 (.tmp 2)),
 .op 1 (.load 6 false 1 (.tmp 5)),
 .op 2 (.faddr 7 0 (.tmp 3)),
 .op 3 (.load 8 false 1 (.tmp 7)),
 .op 4 (.bin 9 .neq .plain (.tmp 6) (.tmp 8))] [])
 (.cond (.tmp 9)
 (.seq (.region [.op 0 (.faddr 10 0 (.tmp 2)),
 .op 1 (.load 11 false 1 (.tmp 10)),
 .op 2 (.faddr 12 0 (.tmp 3)),
 .op 3 (.load 13 false 1 (.tmp 12)),
 .op 4 (.bin 14 .lss .plain (.tmp 11) (.tmp 13)),
 .op 5 (.mov 4 (.tmp 14))] [])
 .ret)
 .skip))
 (.seq (.seq (.region [.op 0 (.faddr 15 2 (.tmp 2)),
 .op 1 (.load 16 false 1 (.tmp 15)),
 .op 2 (.faddr 17 2 (.tmp 3)),
 .op 3 (.load 18 false 1 (.tmp 17)),
 .op 4 (.bin 19 .neq .plain (.tmp 16) (.tmp 18))] [])
 (.cond (.tmp 19)
 (.seq (.region [.op 0 (.faddr 20 2 (.tmp 2)),
 .op 1 (.load 21 false 1 (.tmp 20)),
 .op 2 (.faddr 22 2 (.tmp 3)),
 .op 3 (.load 23 false 1 (.tmp 22)),
 .op 4 (.bin 24 .lss .plain (.tmp 21) (.tmp 23)),
 .op 5 (.mov 4 (.tmp 24))] [])
 .ret)
 .skip))
 (.seq (.region [.op 0 (.faddr 25 1 (.tmp 2)),
 .op 1 (.load 26 false 1 (.tmp 25)),
 .op 2 (.faddr 27 1 (.tmp 3)),
 .op 3 (.load 28 false 1 (.tmp 27)),
 .op 4 (.bin 29 .lss .plain (.tmp 26) (.tmp 28)),
 .op 5 (.mov 4 (.tmp 29))] [])
 .ret)))),
 [.tmp 4]⟩
theorem ok14 : funcOk Try.prog (drawOk Try.prog) Try.f14 A14 = true := by kernel_rfl
noncomputable def S14 (call : Go.Fw.Call) (a0 a1 : AVal) (h : Heap) : Option J :=
 (AVal.cells? a0).bind fun c1 =>
 (AVal.cells? a1).bind fun c2 =>
 (rdL c1 0 1).bind fun c3 =>
 (fromCells false c3).bind fun v4 =>
 (rdL c2 0 1).bind fun c5 =>
 (fromCells false c5).bind fun v6 =>
 (aBin .neq .plain v4 v6).bind fun v7 =>
 condV v7
 ((rdL c1 0 1).bind fun c8 =>
 (fromCells false c8).bind fun v9 =>
 (rdL c2 0 1).bind fun c10 =>
 (fromCells false c10).bind fun v11 =>
 (aBin .lss .plain v9 v11).bind fun v12 =>
 some (0, [v12], h))
 ((rdL c1 2 1).bind fun c13 =>
 (fromCells false c13).bind fun v14 =>
 (rdL c2 2 1).bind fun c15 =>
 (fromCells false c15).bind fun v16 =>
 (aBin .neq .plain v14 v16).bind fun v17 =>
 condV v17
 ((rdL c1 2 1).bind fun c18 =>
 (fromCells false c18).bind fun v19 =>
 (rdL c2 2 1).bind fun c20 =>
 (fromCells false c20).bind fun v21 =>
 (aBin .lss .plain v19 v21).bind fun v22 =>
 some (0, [v22], h))
 ((rdL c1 1 1).bind fun c23 =>
 (fromCells false c23).bind fun v24 =>
 (rdL c2 1 1).bind fun c25 =>
 (fromCells false c25).bind fun v26 =>
 (aBin .lss .plain v24 v26).bind fun v27 =>
 some (0, [v27], h)))
theorem run14 (call : Go.Fw.Call) (a0 a1 : AVal) (h : Heap) : runFn call (.code A14) [a0, a1] h = (S14 call a0 a1 h).bind ansOf := by kernel_rfl

/-- frankpledge/frankpledgeref5.Next -/
noncomputable def A15 : AFunc := ⟨3, (.seq (.region [.op 0 (.box 3 true (.tmp 0)),
 .op 1 (.alloc 6 true [.int .i64 0, .int .i64 0, .int .i64 0])] [])
 (.seq (.region [.op 0 (.faddr 8 2 (.tmp 3)),
 .op 1 (.load 9 false 1 (.tmp 8)),
 .op 2 (.mov 7 (.tmp 9))] [])
 (.seq (.seq (.region [.op 0 (.mov 10 (.tmp 7)),
 .op 1 (.bin 11 .lss .plain (.tmp 10) (.const (.int .i64 9223372036854775807)))] [])
 (.join [(.normal, ⟨[1, 2, 7], [3, 6]⟩)] (.cond (.tmp 11)
 (.region [.op 0 (.mov 12 (.tmp 7)),
 .op 1 (.bin 13 .add .plain (.tmp 12) (.const (.int .i64 1))),
 .op 2 (.mov 7 (.tmp 13))] [])
 .skip)))
 (.seq (.region [.op 0 (.mov 14 (.tmp 1)),
 .op 1 (.faddr 15 0 (.tmp 3)),
 .op 2 (.load 16 false 1 (.tmp 15)),
 .op 3 (.minmax 17 true [.tmp 14, .tmp 16]),
 .op 4 (.mov 18 (.tmp 7)),
 .op 5 (.mov 19 (.tmp 2)),
 .op 6 (.build 20 [.int .i64 0, .int .i64 0, .int .i64 0] [(0, 1, .tmp 17), (2, 1, .tmp 18), (1, 1, .tmp 19)]),
 .op 7 (.store true 3 (.tmp 6) (.tmp 20))] [])
 .ret)))),
 [.cell 6 true 3]⟩
theorem ok15 : funcOk Try.prog (drawOk Try.prog) Try.f15 A15 = true := by kernel_rfl
noncomputable def S15 (call : Go.Fw.Call) (a0 a1 a2 : AVal) (h : Heap) : Option J :=
 (AVal.cells? a0).bind fun c1 =>
 (rdL c1 2 1).bind fun c2 =>
 (fromCells false c2).bind fun v3 =>
 (aBin .lss .plain v3 (.int .i64 9223372036854775807)).bind fun v4 =>
 (condV v4
 ((aBin .add .plain v3 (.int .i64 1)).bind fun v5 =>
 some (0, [a1, a2, v5, (.agg c1), (.agg [.int .i64 0, .int .i64 0, .int .i64 0])], h))
 (some (0, [a1, a2, v3, (.agg c1), (.agg [.int .i64 0, .int .i64 0, .int .i64 0])], h))).bind fun x6 =>
 bif Nat.beq x6.1 0 then (rdL (AVal.aggCells (x6.2.1.getD 3 .undef)) 0 1).bind fun c7 =>
 (fromCells false c7).bind fun v8 =>
 (aMinMaxL true [(x6.2.1.getD 0 .undef), v8]).bind fun v9 =>
 (aFill [.int .i64 0, .int .i64 0, .int .i64 0] [(0, 1, v9), (2, 1, (x6.2.1.getD 2 .undef)), (1, 1, (x6.2.1.getD 1 .undef))]).bind fun c10 =>
 (aCells 3 (.agg c10)).bind fun c11 =>
 bif Nat.ble ((0) + 3) (List.length (α := AVal) (AVal.aggCells (x6.2.1.getD 4 .undef))) then (((rdL (splice (AVal.aggCells (x6.2.1.getD 4 .undef)) (0) c11) (0) 3).bind fun cs => fromCells true cs).bind fun v => (some []).bind fun vs => some (v :: vs)).bind fun vs => some (0, [oneOr vs], x6.2.2) else none else
 none
theorem run15 (call : Go.Fw.Call) (a0 a1 a2 : AVal) (h : Heap) : runFn call (.code A15) [a0, a1, a2] h = (S15 call a0 a1 a2 h).bind ansOf := by kernel_rfl

/-- frankpledge/frankpledgeref5.Stamp -/
noncomputable def A16 : AFunc := ⟨1, (.seq (.region [.op 0 (.box 1 true (.tmp 0)),
 .op 1 (.mov 2 (.const (.bool false)))] [])
 (.seq (.region [.op 0 (.faddr 3 0 (.tmp 1)),
 .op 1 (.load 4 false 1 (.tmp 3)),
 .op 2 (.bin 5 .geq .plain (.tmp 4) (.const (.int .i64 0))),
 .op 3 (.mov 6 (.tmp 5)),
 .guard 6 true [.op 4 (.faddr 7 2 (.tmp 1)),
 .op 5 (.load 8 false 1 (.tmp 7)),
 .op 6 (.bin 9 .geq .plain (.tmp 8) (.const (.int .i64 0)))] [] [9],
 .op 7 (.pick 10 (.tmp 6) (.tmp 9) (.const (.bool false))),
 .op 8 (.mov 11 (.tmp 10)),
 .guard 11 true [.op 9 (.faddr 12 1 (.tmp 1)),
 .op 10 (.load 13 false 1 (.tmp 12)),
 .op 11 (.bin 14 .geq .plain (.tmp 13) (.const (.int .i64 0)))] [] [14],
 .op 12 (.pick 15 (.tmp 11) (.tmp 14) (.const (.bool false))),
 .op 13 (.mov 16 (.tmp 15)),
 .guard 16 true [.op 14 (.faddr 17 1 (.tmp 1)),
 .op 15 (.load 18 false 1 (.tmp 17)),
 .op 16 (.bin 19 .lss .plain (.tmp 18) (.const (.int .i64 6)))] [] [19],
 .op 17 (.pick 20 (.tmp 16) (.tmp 19) (.const (.bool false))),
 .op 18 (.mov 2 (.tmp 20))] [])
 .ret)),
 [.tmp 2]⟩
theorem ok16 : funcOk Try.prog (drawOk Try.prog) Try.f16 A16 = true := by kernel_rfl
noncomputable def S16 (call : Go.Fw.Call) (a0 : AVal) (h : Heap) : Option J :=
 (AVal.cells? a0).bind fun c1 =>
 (rdL c1 0 1).bind fun c2 =>
 (fromCells false c2).bind fun v3 =>
 (aBin .geq .plain v3 (.int .i64 0)).bind fun v4 =>
 (guardV v4 true
 ((rdL c1 2 1).bind fun c5 =>
 (fromCells false c5).bind fun v6 =>
 (aBin .geq .plain v6 (.int .i64 0)).bind fun v7 =>
 some (0, [v7], h))
 (some (0, [skipV], h))).bind fun g8 =>
 (aPick v4 (g8.2.1.getD 0 .undef) (.bool false)).bind fun v9 =>
 (guardV v9 true
 ((rdL c1 1 1).bind fun c10 =>
 (fromCells false c10).bind fun v11 =>
 (aBin .geq .plain v11 (.int .i64 0)).bind fun v12 =>
 some (0, [v12], g8.2.2))
 (some (0, [skipV], g8.2.2))).bind fun g13 =>
 (aPick v9 (g13.2.1.getD 0 .undef) (.bool false)).bind fun v14 =>
 (guardV v14 true
 ((rdL c1 1 1).bind fun c15 =>
 (fromCells false c15).bind fun v16 =>
 (aBin .lss .plain v16 (.int .i64 6)).bind fun v17 =>
 some (0, [v17], g13.2.2))
 (some (0, [skipV], g13.2.2))).bind fun g18 =>
 (aPick v14 (g18.2.1.getD 0 .undef) (.bool false)).bind fun v19 =>
 some (0, [v19], g18.2.2)
theorem run16 (call : Go.Fw.Call) (a0 : AVal) (h : Heap) : runFn call (.code A16) [a0] h = (S16 call a0 h).bind ansOf := by kernel_rfl

/-- cmp.Or[int] -/
noncomputable def A17 : AFunc := ⟨1, (.seq (.region [.op 0 (.mov 2 (.const (.int .i64 0)))] [])
 (.seq (.region [.op 0 (.mov 3 (.const (.int .i64 0)))] [])
 (.seq (.seq (.region [.op 0 (.mov 6 (.tmp 0)),
 .op 1 (.len 7 false (.tmp 6)),
 .op 2 (.mov 8 (.const (.int .i64 0)))] [])
 (.block 0 (.loop ⟨[3, 6, 7, 8], []⟩ [((.exit 0), ⟨[3], []⟩), (.ret, ⟨[2], []⟩)]
 (.seq (.region [.op 0 (.bin 9 .lss .plain (.tmp 8) (.tmp 7))] [])
 (.seq (.cond (.tmp 9)
 .skip
 (.exit 0))
 (.seq (.block 1 (.seq (.region [.op 0 (.iaddr 10 none 1 (.tmp 6) (.tmp 8)),
 .op 1 (.load 11 false 1 (.tmp 10)),
 .op 2 (.mov 5 (.tmp 11))] [])
 (.seq (.region [.op 0 (.mov 12 (.tmp 5)),
 .op 1 (.mov 13 (.tmp 3)),
 .op 2 (.bin 14 .neq .plain (.tmp 12) (.tmp 13))] [])
 (.cond (.tmp 14)
 (.seq (.region [.op 0 (.mov 15 (.tmp 5)),
 .op 1 (.mov 2 (.tmp 15))] [])
 .ret)
 .skip))))
 (.region [.op 0 (.bin 16 .add .plain (.tmp 8) (.const (.int .i64 1))),
 .op 1 (.mov 8 (.tmp 16))] [])))))))
 (.seq (.region [.op 0 (.mov 17 (.tmp 3)),
 .op 1 (.mov 2 (.tmp 17))] [])
 .ret)))),
 [.tmp 2]⟩
theorem ok17 : funcOk Try.prog (drawOk Try.prog) Try.f17 A17 = true := by kernel_rfl
/-- xs: t3, t6, t7, t8 -/
noncomputable def L17_0 (call : Go.Fw.Call) (xs : List AVal) (h : Heap) : Option J :=
 (aBin .lss .plain (xs.getD 3 .undef) (xs.getD 2 .undef)).bind fun v2 =>
 condV v2
 ((aIaddr 1 (xs.getD 1 .undef) (xs.getD 3 .undef)).bind fun v3 =>
 (aLoad h 1 v3).bind fun c4 =>
 (fromCells false c4).bind fun v5 =>
 (aBin .neq .plain v5 (xs.getD 0 .undef)).bind fun v6 =>
 condV v6
 (some (2, [v5], h))
 ((aBin .add .plain (xs.getD 3 .undef) (.int .i64 1)).bind fun v7 =>
 some (0, [(xs.getD 0 .undef), (xs.getD 1 .undef), (xs.getD 2 .undef), v7], h)))
 (some (1, [(xs.getD 0 .undef)], h))
noncomputable def S17 (call : Go.Fw.Call) (a0 : AVal) (h : Heap) : Option J :=
 (aLen false a0).bind fun v1 =>
 (loop (L17_0 call) [(.int .i64 0), a0, v1, (.int .i64 0)] h).bind fun x8 =>
 bif Nat.beq x8.1 1 then some (0, [(x8.2.1.getD 0 .undef)], x8.2.2) else
 bif Nat.beq x8.1 2 then some (0, [(x8.2.1.getD 0 .undef)], x8.2.2) else
 none
theorem run17 (call : Go.Fw.Call) (a0 : AVal) (h : Heap) : runFn call (.code A17) [a0] h = (S17 call a0 h).bind ansOf := by kernel_rfl

/-- cmp.Compare[int64] -/
noncomputable def A18 : AFunc := ⟨2, (.seq (.region [.op 0 (.mov 4 (.const (.int .i64 0)))] [])
 (.seq (.region [.op 0 (.mov 7 (.tmp 0)),
 .op 1 (.call 8 20 [.tmp 7]),
 .op 2 (.mov 5 (.tmp 8))] [])
 (.seq (.region [.op 0 (.mov 9 (.tmp 1)),
 .op 1 (.call 10 20 [.tmp 9]),
 .op 2 (.mov 6 (.tmp 10))] [])
 (.seq (.seq (.region [.op 0 (.mov 11 (.tmp 5))] [])
 (.cond (.tmp 11)
 (.seq (.seq (.region [.op 0 (.mov 12 (.tmp 6))] [])
 (.cond (.tmp 12)
 (.seq (.region [.op 0 (.mov 4 (.const (.int .i64 0)))] [])
 .ret)
 .skip))
 (.seq (.region [.op 0 (.mov 4 (.const (.int .i64 (-1))))] [])
 .ret))
 .skip))
 (.seq (.seq (.region [.op 0 (.mov 13 (.tmp 6))] [])
 (.cond (.tmp 13)
 (.seq (.region [.op 0 (.mov 4 (.const (.int .i64 1)))] [])
 .ret)
 .skip))
 (.seq (.seq (.region [.op 0 (.mov 14 (.tmp 0)),
 .op 1 (.mov 15 (.tmp 1)),
 .op 2 (.bin 16 .lss .plain (.tmp 14) (.tmp 15))] [])
 (.cond (.tmp 16)
 (.seq (.region [.op 0 (.mov 4 (.const (.int .i64 (-1))))] [])
 .ret)
 .skip))
 (.seq (.seq (.region [.op 0 (.mov 17 (.tmp 0)),
 .op 1 (.mov 18 (.tmp 1)),
 .op 2 (.bin 19 .gtr .plain (.tmp 17) (.tmp 18))] [])
 (.cond (.tmp 19)
 (.seq (.region [.op 0 (.mov 4 (.const (.int .i64 1)))] [])
 .ret)
 .skip))
 (.seq (.region [.op 0 (.mov 4 (.const (.int .i64 0)))] [])
 .ret)))))))),
 [.tmp 4]⟩
theorem ok18 : funcOk Try.prog (drawOk Try.prog) Try.f18 A18 = true := by kernel_rfl
noncomputable def S18 (call : Go.Fw.Call) (a0 a1 : AVal) (h : Heap) : Option J :=
 (call 20 [a0] h).bind fun r1 =>
 (call 20 [a1] r1.2).bind fun r2 =>
 condV r1.1
 (condV r2.1
 (some (0, [(.int .i64 0)], r2.2))
 (some (0, [(.int .i64 (-1))], r2.2)))
 (condV r2.1
 (some (0, [(.int .i64 1)], r2.2))
 ((aBin .lss .plain a0 a1).bind fun v3 =>
 condV v3
 (some (0, [(.int .i64 (-1))], r2.2))
 ((aBin .gtr .plain a0 a1).bind fun v4 =>
 condV v4
 (some (0, [(.int .i64 1)], r2.2))
 (some (0, [(.int .i64 0)], r2.2)))))
theorem run18 (call : Go.Fw.Call) (a0 a1 : AVal) (h : Heap) : runFn call (.code A18) [a0, a1] h = (S18 call a0 a1 h).bind ansOf := by kernel_rfl

/-- cmp.Compare[int] -/
noncomputable def A19 : AFunc := ⟨2, (.seq (.region [.op 0 (.mov 4 (.const (.int .i64 0)))] [])
 (.seq (.region [.op 0 (.mov 7 (.tmp 0)),
 .op 1 (.call 8 21 [.tmp 7]),
 .op 2 (.mov 5 (.tmp 8))] [])
 (.seq (.region [.op 0 (.mov 9 (.tmp 1)),
 .op 1 (.call 10 21 [.tmp 9]),
 .op 2 (.mov 6 (.tmp 10))] [])
 (.seq (.seq (.region [.op 0 (.mov 11 (.tmp 5))] [])
 (.cond (.tmp 11)
 (.seq (.seq (.region [.op 0 (.mov 12 (.tmp 6))] [])
 (.cond (.tmp 12)
 (.seq (.region [.op 0 (.mov 4 (.const (.int .i64 0)))] [])
 .ret)
 .skip))
 (.seq (.region [.op 0 (.mov 4 (.const (.int .i64 (-1))))] [])
 .ret))
 .skip))
 (.seq (.seq (.region [.op 0 (.mov 13 (.tmp 6))] [])
 (.cond (.tmp 13)
 (.seq (.region [.op 0 (.mov 4 (.const (.int .i64 1)))] [])
 .ret)
 .skip))
 (.seq (.seq (.region [.op 0 (.mov 14 (.tmp 0)),
 .op 1 (.mov 15 (.tmp 1)),
 .op 2 (.bin 16 .lss .plain (.tmp 14) (.tmp 15))] [])
 (.cond (.tmp 16)
 (.seq (.region [.op 0 (.mov 4 (.const (.int .i64 (-1))))] [])
 .ret)
 .skip))
 (.seq (.seq (.region [.op 0 (.mov 17 (.tmp 0)),
 .op 1 (.mov 18 (.tmp 1)),
 .op 2 (.bin 19 .gtr .plain (.tmp 17) (.tmp 18))] [])
 (.cond (.tmp 19)
 (.seq (.region [.op 0 (.mov 4 (.const (.int .i64 1)))] [])
 .ret)
 .skip))
 (.seq (.region [.op 0 (.mov 4 (.const (.int .i64 0)))] [])
 .ret)))))))),
 [.tmp 4]⟩
theorem ok19 : funcOk Try.prog (drawOk Try.prog) Try.f19 A19 = true := by kernel_rfl
noncomputable def S19 (call : Go.Fw.Call) (a0 a1 : AVal) (h : Heap) : Option J :=
 (call 21 [a0] h).bind fun r1 =>
 (call 21 [a1] r1.2).bind fun r2 =>
 condV r1.1
 (condV r2.1
 (some (0, [(.int .i64 0)], r2.2))
 (some (0, [(.int .i64 (-1))], r2.2)))
 (condV r2.1
 (some (0, [(.int .i64 1)], r2.2))
 ((aBin .lss .plain a0 a1).bind fun v3 =>
 condV v3
 (some (0, [(.int .i64 (-1))], r2.2))
 ((aBin .gtr .plain a0 a1).bind fun v4 =>
 condV v4
 (some (0, [(.int .i64 1)], r2.2))
 (some (0, [(.int .i64 0)], r2.2)))))
theorem run19 (call : Go.Fw.Call) (a0 a1 : AVal) (h : Heap) : runFn call (.code A19) [a0, a1] h = (S19 call a0 a1 h).bind ansOf := by kernel_rfl

/-- cmp.isNaN[int64] -/
noncomputable def A20 : AFunc := ⟨1, (.seq (.region [.op 0 (.mov 2 (.const (.bool false)))] [])
 (.seq (.region [.op 0 (.mov 3 (.tmp 0)),
 .op 1 (.mov 4 (.tmp 0)),
 .op 2 (.bin 5 .neq .plain (.tmp 3) (.tmp 4)),
 .op 3 (.mov 2 (.tmp 5))] [])
 .ret)),
 [.tmp 2]⟩
theorem ok20 : funcOk Try.prog (drawOk Try.prog) Try.f20 A20 = true := by kernel_rfl
noncomputable def S20 (call : Go.Fw.Call) (a0 : AVal) (h : Heap) : Option J :=
 (aBin .neq .plain a0 a0).bind fun v1 =>
 some (0, [v1], h)
theorem run20 (call : Go.Fw.Call) (a0 : AVal) (h : Heap) : runFn call (.code A20) [a0] h = (S20 call a0 h).bind ansOf := by kernel_rfl

/-- cmp.isNaN[int] -/
noncomputable def A21 : AFunc := ⟨1, (.seq (.region [.op 0 (.mov 2 (.const (.bool false)))] [])
 (.seq (.region [.op 0 (.mov 3 (.tmp 0)),
 .op 1 (.mov 4 (.tmp 0)),
 .op 2 (.bin 5 .neq .plain (.tmp 3) (.tmp 4)),
 .op 3 (.mov 2 (.tmp 5))] [])
 .ret)),
 [.tmp 2]⟩
theorem ok21 : funcOk Try.prog (drawOk Try.prog) Try.f21 A21 = true := by kernel_rfl
noncomputable def S21 (call : Go.Fw.Call) (a0 : AVal) (h : Heap) : Option J :=
 (aBin .neq .plain a0 a0).bind fun v1 =>
 some (0, [v1], h)
theorem run21 (call : Go.Fw.Call) (a0 : AVal) (h : Heap) : runFn call (.code A21) [a0] h = (S21 call a0 h).bind ansOf := by kernel_rfl

noncomputable def tbl (f : Nat) : Option AFn :=
 match f with
 | 3 => some (.code A3)
 | 4 => some (.code A4)
 | 5 => some (.code A5)
 | 6 => some (.code A6)
 | 7 => some (.code A7)
 | 8 => some (.code A8)
 | 9 => some (.code A9)
 | 10 => some (.code A10)
 | 11 => some (.code A11)
 | 12 => some (.code A12)
 | 13 => some (.code A13)
 | 14 => some (.code A14)
 | 15 => some (.code A15)
 | 16 => some (.code A16)
 | 17 => some (.code A17)
 | 18 => some (.code A18)
 | 19 => some (.code A19)
 | 20 => some (.code A20)
 | 21 => some (.code A21)
 | _ => none
theorem c3 (h : Heap) : E tbl 3 [] h = (S3 (E tbl)  h).bind ansOf := (E_eq tbl 3 [] h).trans (run3 (E tbl)  h)
theorem c4 (a0 a1 a2 a3 : AVal) (h : Heap) : E tbl 4 [a0, a1, a2, a3] h = (S4 (E tbl) a0 a1 a2 a3 h).bind ansOf := (E_eq tbl 4 [a0, a1, a2, a3] h).trans (run4 (E tbl) a0 a1 a2 a3 h)
theorem c5 (a0 a1 a2 a3 a4 : AVal) (h : Heap) : E tbl 5 [a0, a1, a2, a3, a4] h = (S5 (E tbl) a0 a1 a2 a3 a4 h).bind ansOf := (E_eq tbl 5 [a0, a1, a2, a3, a4] h).trans (run5 (E tbl) a0 a1 a2 a3 a4 h)
theorem c6 (a0 a1 : AVal) (h : Heap) : E tbl 6 [a0, a1] h = (S6 (E tbl) a0 a1 h).bind ansOf := (E_eq tbl 6 [a0, a1] h).trans (run6 (E tbl) a0 a1 h)
theorem c7 (h : Heap) : E tbl 7 [] h = (S7 (E tbl)  h).bind ansOf := (E_eq tbl 7 [] h).trans (run7 (E tbl)  h)
theorem c8 (a0 a1 a2 a3 : AVal) (h : Heap) : E tbl 8 [a0, a1, a2, a3] h = (S8 (E tbl) a0 a1 a2 a3 h).bind ansOf := (E_eq tbl 8 [a0, a1, a2, a3] h).trans (run8 (E tbl) a0 a1 a2 a3 h)
theorem c9 (h : Heap) : E tbl 9 [] h = (S9 (E tbl)  h).bind ansOf := (E_eq tbl 9 [] h).trans (run9 (E tbl)  h)
theorem c10 (a0 a1 a2 : AVal) (h : Heap) : E tbl 10 [a0, a1, a2] h = (S10 (E tbl) a0 a1 a2 h).bind ansOf := (E_eq tbl 10 [a0, a1, a2] h).trans (run10 (E tbl) a0 a1 a2 h)
theorem c11 (a0 a1 : AVal) (h : Heap) : E tbl 11 [a0, a1] h = (S11 (E tbl) a0 a1 h).bind ansOf := (E_eq tbl 11 [a0, a1] h).trans (run11 (E tbl) a0 a1 h)
theorem c12 (a0 a1 : AVal) (h : Heap) : E tbl 12 [a0, a1] h = (S12 (E tbl) a0 a1 h).bind ansOf := (E_eq tbl 12 [a0, a1] h).trans (run12 (E tbl) a0 a1 h)
theorem c13 (a0 : AVal) (h : Heap) : E tbl 13 [a0] h = (S13 (E tbl) a0 h).bind ansOf := (E_eq tbl 13 [a0] h).trans (run13 (E tbl) a0 h)
theorem c14 (a0 a1 : AVal) (h : Heap) : E tbl 14 [a0, a1] h = (S14 (E tbl) a0 a1 h).bind ansOf := (E_eq tbl 14 [a0, a1] h).trans (run14 (E tbl) a0 a1 h)
theorem c15 (a0 a1 a2 : AVal) (h : Heap) : E tbl 15 [a0, a1, a2] h = (S15 (E tbl) a0 a1 a2 h).bind ansOf := (E_eq tbl 15 [a0, a1, a2] h).trans (run15 (E tbl) a0 a1 a2 h)
theorem c16 (a0 : AVal) (h : Heap) : E tbl 16 [a0] h = (S16 (E tbl) a0 h).bind ansOf := (E_eq tbl 16 [a0] h).trans (run16 (E tbl) a0 h)
theorem c17 (a0 : AVal) (h : Heap) : E tbl 17 [a0] h = (S17 (E tbl) a0 h).bind ansOf := (E_eq tbl 17 [a0] h).trans (run17 (E tbl) a0 h)
theorem c18 (a0 a1 : AVal) (h : Heap) : E tbl 18 [a0, a1] h = (S18 (E tbl) a0 a1 h).bind ansOf := (E_eq tbl 18 [a0, a1] h).trans (run18 (E tbl) a0 a1 h)
theorem c19 (a0 a1 : AVal) (h : Heap) : E tbl 19 [a0, a1] h = (S19 (E tbl) a0 a1 h).bind ansOf := (E_eq tbl 19 [a0, a1] h).trans (run19 (E tbl) a0 a1 h)
theorem c20 (a0 : AVal) (h : Heap) : E tbl 20 [a0] h = (S20 (E tbl) a0 h).bind ansOf := (E_eq tbl 20 [a0] h).trans (run20 (E tbl) a0 h)
theorem c21 (a0 : AVal) (h : Heap) : E tbl 21 [a0] h = (S21 (E tbl) a0 h).bind ansOf := (E_eq tbl 21 [a0] h).trans (run21 (E tbl) a0 h)
theorem tbl_ok : ∀ f a, tbl f = some a → FnOk Try.prog (drawOk Try.prog) f a := by
  intro f a h
  unfold tbl at h
  split at h
  · cases h; exact ⟨_, Try.func3, by decide +kernel, ok3⟩
  · cases h; exact ⟨_, Try.func4, by decide +kernel, ok4⟩
  · cases h; exact ⟨_, Try.func5, by decide +kernel, ok5⟩
  · cases h; exact ⟨_, Try.func6, by decide +kernel, ok6⟩
  · cases h; exact ⟨_, Try.func7, by decide +kernel, ok7⟩
  · cases h; exact ⟨_, Try.func8, by decide +kernel, ok8⟩
  · cases h; exact ⟨_, Try.func9, by decide +kernel, ok9⟩
  · cases h; exact ⟨_, Try.func10, by decide +kernel, ok10⟩
  · cases h; exact ⟨_, Try.func11, by decide +kernel, ok11⟩
  · cases h; exact ⟨_, Try.func12, by decide +kernel, ok12⟩
  · cases h; exact ⟨_, Try.func13, by decide +kernel, ok13⟩
  · cases h; exact ⟨_, Try.func14, by decide +kernel, ok14⟩
  · cases h; exact ⟨_, Try.func15, by decide +kernel, ok15⟩
  · cases h; exact ⟨_, Try.func16, by decide +kernel, ok16⟩
  · cases h; exact ⟨_, Try.func17, by decide +kernel, ok17⟩
  · cases h; exact ⟨_, Try.func18, by decide +kernel, ok18⟩
  · cases h; exact ⟨_, Try.func19, by decide +kernel, ok19⟩
  · cases h; exact ⟨_, Try.func20, by decide +kernel, ok20⟩
  · cases h; exact ⟨_, Try.func21, by decide +kernel, ok21⟩
  · cases h
theorem prog_ok : CallOk Try.prog (E tbl) := E_ok tbl_ok
end Go.Proofs.Ytbfemhpgiilimaa.Code
