/- code -/
import Derived.Test.YtinkiihdnepfjaaGreatDoorProg
import Derived.Test.YtinkiihdnepfjaaGreatDoorDIKH
import Derived.KernelRfl
set_option linter.unusedSimpArgs false
set_option linter.unusedVariables false
set_option maxRecDepth 100000
namespace Go.Proofs.YtinkiihdnepfjaaGreatDoor.Code
open Go.Fw Go.Fw.K
noncomputable def A5 : AFunc := ⟨1, (.seq (.region [.op 0 (.mov 2 (.const (.bool false)))] [])
 (.seq (.region [.op 0 (.mov 8 (.tmp 0)),
 .op 1 (.build 9 [.nilSlice, .int .i64 0] [(0, 1, .tmp 8)]),
 .op 2 (.box 10 false (.tmp 9)),
 .op 3 (.mov 3 (.tmp 10))] [])
 (.seq (.region [.op 0 (.buildSl 11 [.int .i64 0] 1 1 [(0, .const (.int .i64 1))]),
 .op 1 (.call 12 26 [.const (.int .i64 0), .tmp 11]),
 .op 2 (.buildSl 13 [.int .i64 0] 1 1 [(0, .const (.int .i64 1))]),
 .op 3 (.call 14 26 [.const (.int .i64 0), .tmp 13]),
 .op 4 (.mov 4 (.tmp 12)),
 .op 5 (.mov 5 (.tmp 14))] [])
 (.seq (.seq (.region [.op 0 (.mov 15 (.tmp 4)),
 .op 1 (.bin 16 .eql .ptr (.tmp 15) (.const (.nilPtr))),
 .op 2 (.mov 17 (.tmp 16)),
 .guard 17 false [.op 3 (.mov 18 (.tmp 5)),
 .op 4 (.bin 19 .eql .ptr (.tmp 18) (.const (.nilPtr)))] [] [19],
 .op 5 (.pick 20 (.tmp 17) (.const (.bool true)) (.tmp 19)),
 .op 6 (.mov 21 (.tmp 20)),
 .guard 21 false [.op 7 (.mov 22 (.tmp 4)),
 .op 8 (.call 23 27 [.tmp 22]),
 .op 9 (.bin 24 .eql .ptr (.tmp 23) (.const (.nilPtr)))] [] [24],
 .op 10 (.pick 25 (.tmp 21) (.const (.bool true)) (.tmp 24)),
 .op 11 (.mov 26 (.tmp 25)),
 .guard 26 false [.op 12 (.mov 27 (.tmp 5)),
 .op 13 (.call 28 27 [.tmp 27]),
 .op 14 (.bin 29 .eql .ptr (.tmp 28) (.const (.nilPtr)))] [] [29],
 .op 15 (.pick 30 (.tmp 26) (.const (.bool true)) (.tmp 29)),
 .op 16 (.mov 31 (.tmp 30)),
 .guard 31 false [.op 17 (.mov 32 (.tmp 4)),
 .op 18 (.call 33 27 [.tmp 32]),
 .op 19 (.call 34 28 [.tmp 33]),
 .op 20 (.bin 35 .eql .ptr (.tmp 34) (.const (.nilPtr)))] [] [35],
 .op 21 (.pick 36 (.tmp 31) (.const (.bool true)) (.tmp 35)),
 .op 22 (.mov 37 (.tmp 36)),
 .guard 37 false [.op 23 (.mov 38 (.tmp 5)),
 .op 24 (.call 39 27 [.tmp 38]),
 .op 25 (.call 40 28 [.tmp 39]),
 .op 26 (.bin 41 .eql .ptr (.tmp 40) (.const (.nilPtr)))] [] [41],
 .op 27 (.pick 42 (.tmp 37) (.const (.bool true)) (.tmp 41))] [])
 (.cond (.tmp 42)
 (.seq (.region [.op 0 (.mov 2 (.const (.bool false)))] [])
 .ret)
 .skip))
 (.seq (.seq (.region [.op 0 (.mov 6 (.const (.int .i64 0)))] [])
 (.block 0 (.loop ⟨[3, 4, 5, 6], []⟩ [((.exit 0), ⟨[], []⟩), (.ret, ⟨[2], []⟩)]
 (.seq (.seq (.region [.op 0 (.mov 43 (.tmp 6)),
 .op 1 (.bin 44 .lss .plain (.tmp 43) (.const (.int .i64 12)))] [])
 (.cond (.tmp 44)
 .skip
 (.exit 0)))
 (.seq (.block 1 (.seq (.region [.op 0 (.mov 47 (.tmp 3)),
 .op 1 (.call 48 29 [.tmp 47, .const (.int .i64 6)]),
 .op 2 (.build 49 [.int .i64 0, .int .i64 0, .int .i64 0, .int .i64 0, .int .i64 0, .int .i64 0, .int .i64 0, .str [], .str [], .bool false, .int .u32 0, .nilSlice, .nilSlice] [(0, 1, .const (.int .i64 3)), (11, 1, .tmp 48)]),
 .op 3 (.alloc 7 true [.int .i64 0, .int .i64 0, .int .i64 0, .int .i64 0, .int .i64 0, .int .i64 0, .int .i64 0, .str [], .str [], .bool false, .int .u32 0, .nilSlice, .nilSlice]),
 .op 4 (.store true 13 (.tmp 7) (.tmp 49))] [])
 (.seq (.region [.op 0 (.mov 50 (.tmp 4)),
 .op 1 (.load 51 true 13 (.tmp 7)),
 .op 2 (.call 52 30 [.tmp 50, .const (.int .i64 1), .tmp 51])] [])
 (.seq (.region [.op 0 (.mov 53 (.tmp 5)),
 .op 1 (.load 54 true 13 (.tmp 7)),
 .op 2 (.call 55 30 [.tmp 53, .const (.int .i64 1), .tmp 54])] [])
 (.seq (.region [.op 0 (.mov 56 (.tmp 5)),
 .op 1 (.load 57 true 13 (.tmp 7)),
 .op 2 (.call 58 30 [.tmp 56, .const (.int .i64 1), .tmp 57])] [])
 (.seq (.region [.op 0 (.mov 59 (.tmp 4)),
 .op 1 (.call 60 27 [.tmp 59]),
 .op 2 (.call 61 28 [.tmp 60]),
 .op 3 (.call 62 32 [.tmp 61]),
 .op 4 (.mov 63 (.tmp 5)),
 .op 5 (.call 64 27 [.tmp 63]),
 .op 6 (.call 65 28 [.tmp 64]),
 .op 7 (.call 66 32 [.tmp 65]),
 .op 8 (.call 67 31 [.tmp 62, .tmp 66]),
 .op 9 (.un 68 .not (.tmp 67))] [])
 (.cond (.tmp 68)
 (.seq (.region [.op 0 (.mov 2 (.const (.bool false)))] [])
 .ret)
 .skip)))))))
 (.region [.op 0 (.mov 45 (.tmp 6)),
 .op 1 (.bin 46 .add .plain (.tmp 45) (.const (.int .i64 1))),
 .op 2 (.mov 6 (.tmp 46))] []))))))
 (.seq (.region [.op 0 (.call 69 22 []),
 .op 1 (.mov 2 (.tmp 69))] [])
 .ret)))))),
 [.tmp 2]⟩
theorem ok5 : funcOk Tryz.prog (drawOk Tryz.prog) Tryz.f5 A5 = true := by kernel_rfl
noncomputable def A17 : AFunc := ⟨3, (.seq (.region [.op 0 (.mov 6 (.const (.int .i64 0)))] [])
 (.seq (.seq (.region [.op 0 (.mov 7 (.tmp 0)),
 .op 1 (.mov 8 (.tmp 1)),
 .op 2 (.bin 9 .geq .plain (.tmp 7) (.tmp 8)),
 .op 3 (.mov 10 (.tmp 9)),
 .guard 10 true [.op 4 (.mov 11 (.tmp 0)),
 .op 5 (.mov 12 (.tmp 2)),
 .op 6 (.bin 13 .leq .plain (.tmp 11) (.tmp 12))] [] [13],
 .op 7 (.pick 14 (.tmp 10) (.tmp 13) (.const (.bool false)))] [])
 (.cond (.tmp 14)
 (.seq (.region [.op 0 (.mov 15 (.tmp 0)),
 .op 1 (.mov 6 (.tmp 15))] [])
 .ret)
 .skip))
 (.seq (.region [.op 0 (.mov 16 (.tmp 0)),
 .op 1 (.mov 17 (.tmp 2)),
 .op 2 (.mov 18 (.tmp 1)),
 .op 3 (.bin 19 .sub .plain (.tmp 17) (.tmp 18)),
 .op 4 (.bin 20 .add .plain (.tmp 19) (.const (.int .i64 1))),
 .op 5 (.bin 21 .rem .plain (.tmp 16) (.tmp 20)),
 .op 6 (.mov 0 (.tmp 21))] [])
 (.seq (.seq (.region [.op 0 (.mov 22 (.tmp 0)),
 .op 1 (.bin 23 .lss .plain (.tmp 22) (.const (.int .i64 0)))] [])
 (.join [(.normal, ⟨[0, 1], []⟩)] (.cond (.tmp 23)
 (.region [.op 0 (.mov 24 (.tmp 0)),
 .op 1 (.mov 25 (.tmp 2)),
 .op 2 (.bin 26 .add .plain (.tmp 24) (.tmp 25)),
 .op 3 (.mov 27 (.tmp 1)),
 .op 4 (.bin 28 .sub .plain (.tmp 26) (.tmp 27)),
 .op 5 (.bin 29 .add .plain (.tmp 28) (.const (.int .i64 1))),
 .op 6 (.mov 0 (.tmp 29))] [])
 .skip)))
 (.seq (.region [.op 0 (.mov 30 (.tmp 1)),
 .op 1 (.mov 31 (.tmp 0)),
 .op 2 (.bin 32 .add .plain (.tmp 30) (.tmp 31)),
 .op 3 (.mov 6 (.tmp 32))] [])
 .ret))))),
 [.tmp 6]⟩
theorem ok17 : funcOk Tryz.prog (drawOk Tryz.prog) Tryz.f17 A17 = true := by kernel_rfl
noncomputable def A18 : AFunc := ⟨2, (.seq (.region [.op 0 (.mov 4 (.const (.bool false)))] [])
 (.seq (.seq (.region [.op 0 (.mov 7 (.tmp 1)),
 .op 1 (.len 8 false (.tmp 7)),
 .op 2 (.mov 9 (.const (.int .i64 0)))] [])
 (.block 0 (.loop ⟨[0, 7, 8, 9], []⟩ [((.exit 0), ⟨[], []⟩), (.ret, ⟨[4], []⟩)]
 (.seq (.region [.op 0 (.bin 10 .lss .plain (.tmp 9) (.tmp 8))] [])
 (.seq (.cond (.tmp 10)
 .skip
 (.exit 0))
 (.seq (.block 1 (.seq (.region [.op 0 (.iaddr 11 none 7 (.tmp 7) (.tmp 9)),
 .op 1 (.load 12 true 7 (.tmp 11)),
 .op 2 (.alloc 6 true [.int .i64 0, .int .i64 0, .int .i64 0, .int .i64 0, .int .i64 0, .int .i64 0, .str []]),
 .op 3 (.store true 7 (.tmp 6) (.tmp 12))] [])
 (.seq (.region [.op 0 (.mov 13 (.tmp 0)),
 .op 1 (.load 14 true 7 (.tmp 6)),
 .op 2 (.call 15 24 [.tmp 13, .tmp 14]),
 .op 3 (.field 16 false 0 1 (.tmp 15)),
 .op 4 (.bin 17 .neq .plain (.tmp 16) (.const (.int .i64 0)))] [])
 (.cond (.tmp 17)
 (.seq (.region [.op 0 (.mov 4 (.const (.bool false)))] [])
 .ret)
 .skip))))
 (.region [.op 0 (.bin 18 .add .plain (.tmp 9) (.const (.int .i64 1))),
 .op 1 (.mov 9 (.tmp 18))] [])))))))
 (.seq (.region [.op 0 (.mov 4 (.const (.bool true)))] [])
 .ret))),
 [.tmp 4]⟩
theorem ok18 : funcOk Tryz.prog (drawOk Tryz.prog) Tryz.f18 A18 = true := by kernel_rfl
noncomputable def A19 : AFunc := ⟨3, (.seq (.region [.op 0 (.mov 6 (.const (.bool false)))] [])
 (.seq (.seq (.region [.op 0 (.mov 7 (.const (.int .i64 0)))] [])
 (.block 0 (.loop ⟨[0, 1, 2, 7], []⟩ [((.exit 0), ⟨[], []⟩), (.ret, ⟨[6], []⟩)]
 (.seq (.seq (.region [.op 0 (.mov 10 (.tmp 7)),
 .op 1 (.mov 11 (.tmp 2)),
 .op 2 (.bin 12 .lss .plain (.tmp 10) (.tmp 11))] [])
 (.cond (.tmp 12)
 .skip
 (.exit 0)))
 (.seq (.block 1 (.seq (.seq (.region [.op 0 (.mov 15 (.tmp 0)),
 .op 1 (.mov 16 (.tmp 1)),
 .op 2 (.build 17 [.int .i64 0, .int .i64 0, .int .i64 0, .int .i64 0, .int .i64 0, .int .i64 0, .str []] [(0, 1, .const (.int .i64 1)), (1, 1, .tmp 16), (5, 1, .const (.int .i64 1))]),
 .op 3 (.buildSl 18 [.int .i64 0, .int .i64 0, .int .i64 0, .int .i64 0, .int .i64 0, .int .i64 0, .str []] 7 1 [(0, .tmp 17)]),
 .op 4 (.call 19 18 [.tmp 15, .tmp 18]),
 .op 5 (.un 20 .not (.tmp 19))] [])
 (.cond (.tmp 20)
 (.seq (.region [.op 0 (.mov 6 (.const (.bool false)))] [])
 .ret)
 .skip))
 (.seq (.region [.op 0 (.mov 22 (.tmp 0)),
 .op 1 (.call 23 40 [.tmp 22, .const (.int .i64 200)]),
 .op 2 (.mov 21 (.tmp 23)),
 .op 3 (.extract 24 (.tmp 21) 0),
 .op 4 (.extract 25 (.tmp 21) 1),
 .op 5 (.mov 8 (.tmp 24)),
 .op 6 (.mov 9 (.tmp 25))] [])
 (.seq (.region [.op 0 (.mov 26 (.tmp 9)),
 .op 1 (.un 27 .not (.tmp 26))] [])
 (.cond (.tmp 27)
 (.seq (.region [.op 0 (.mov 6 (.const (.bool false)))] [])
 .ret)
 .skip)))))
 (.region [.op 0 (.mov 13 (.tmp 7)),
 .op 1 (.bin 14 .add .plain (.tmp 13) (.const (.int .i64 1))),
 .op 2 (.mov 7 (.tmp 14))] []))))))
 (.seq (.region [.op 0 (.mov 6 (.const (.bool true)))] [])
 .ret))),
 [.tmp 6]⟩
theorem ok19 : funcOk Tryz.prog (drawOk Tryz.prog) Tryz.f19 A19 = true := by kernel_rfl
noncomputable def A21 : AFunc := ⟨3, (.seq (.region [.op 0 (.mov 6 (.const (.int .i64 0)))] [])
 (.seq (.region [.op 0 (.mov 7 (.tmp 0)),
 .op 1 (.mov 8 (.tmp 1)),
 .op 2 (.mov 9 (.tmp 2)),
 .op 3 (.build 10 [.int .i64 0, .int .i64 0, .int .i64 0, .int .i64 0, .int .i64 0, .int .i64 0, .str []] [(0, 1, .const (.int .i64 9)), (1, 1, .tmp 8), (6, 1, .tmp 9)]),
 .op 4 (.call 11 24 [.tmp 7, .tmp 10]),
 .op 5 (.field 12 false 3 1 (.tmp 11)),
 .op 6 (.len 13 false (.tmp 12)),
 .op 7 (.mov 6 (.tmp 13))] [])
 .ret)),
 [.tmp 6]⟩
theorem ok21 : funcOk Tryz.prog (drawOk Tryz.prog) Tryz.f21 A21 = true := by kernel_rfl
noncomputable def A22 : AFunc := ⟨0, (.seq (.region [.op 0 (.mov 0 (.const (.bool false)))] [])
 (.seq (.region [.op 0 (.call 2 23 [.const (.int .i64 1), .const (.int .i64 1)]),
 .op 1 (.mov 1 (.tmp 2))] [])
 (.seq (.region [.op 0 (.mov 3 (.tmp 1)),
 .op 1 (.bin 4 .neq .ptr (.tmp 3) (.const (.nilPtr))),
 .op 2 (.mov 5 (.tmp 4)),
 .guard 5 true [.op 3 (.mov 6 (.tmp 1)),
 .op 4 (.call 7 39 [.tmp 6, .const (.int .i64 1), .const (.int .i64 50)])] [] [7],
 .op 5 (.pick 8 (.tmp 5) (.tmp 7) (.const (.bool false))),
 .op 6 (.mov 9 (.tmp 8)),
 .guard 9 true [.op 7 (.mov 10 (.tmp 1)),
 .op 8 (.call 11 21 [.tmp 10, .const (.int .i64 1), .const (.str [97, 112, 112, 48])]),
 .op 9 (.bin 12 .eql .plain (.tmp 11) (.const (.int .i64 1)))] [] [12],
 .op 10 (.pick 13 (.tmp 9) (.tmp 12) (.const (.bool false))),
 .op 11 (.mov 0 (.tmp 13))] [])
 .ret))),
 [.tmp 0]⟩
theorem ok22 : funcOk Tryz.prog (drawOk Tryz.prog) Tryz.f22 A22 = true := by kernel_rfl
noncomputable def A23 : AFunc := ⟨2, (.seq (.region [.op 0 (.mov 4 (.const (.nilPtr)))] [])
 (.seq (.region [.op 0 (.mov 6 (.tmp 0)),
 .op 1 (.mov 7 (.tmp 1)),
 .op 2 (.call 8 41 [.tmp 6, .tmp 7]),
 .op 3 (.mov 5 (.tmp 8))] [])
 (.seq (.seq (.region [.op 0 (.mov 9 (.tmp 5)),
 .op 1 (.bin 10 .eql .ptr (.tmp 9) (.const (.nilPtr)))] [])
 (.cond (.tmp 10)
 (.seq (.region [.op 0 (.mov 4 (.const (.nilPtr)))] [])
 .ret)
 .skip))
 (.seq (.region [.op 0 (.mov 11 (.tmp 5)),
 .op 1 (.mov 12 (.tmp 5)),
 .op 2 (.call 13 43 [.tmp 12]),
 .op 3 (.call 14 42 [.tmp 13]),
 .op 4 (.build 15 [.nilPtr, .nilPtr] [(0, 1, .tmp 11), (1, 1, .tmp 14)]),
 .op 5 (.box 16 false (.tmp 15)),
 .op 6 (.mov 4 (.tmp 16))] [])
 .ret)))),
 [.tmp 4]⟩
theorem ok23 : funcOk Tryz.prog (drawOk Tryz.prog) Tryz.f23 A23 = true := by kernel_rfl
noncomputable def A24 : AFunc := ⟨2, (.seq (.region [.op 0 (.box 3 true (.tmp 1)),
 .op 1 (.alloc 4 true [.int .i64 0, .int .i64 0, .int .i64 0, .nilSlice, .int .i64 0])] [])
 (.seq (.region [.op 0 (.mov 5 (.tmp 0)),
 .op 1 (.nilchk 6 (.tmp 5)),
 .op 2 (.faddr 7 0 (.tmp 6)),
 .op 3 (.load 8 false 1 (.tmp 7)),
 .op 4 (.mov 9 (.tmp 0)),
 .op 5 (.nilchk 10 (.tmp 9)),
 .op 6 (.faddr 11 1 (.tmp 10)),
 .op 7 (.load 12 false 1 (.tmp 11)),
 .op 8 (.build 13 [.nilPtr] [(0, 1, .tmp 12)]),
 .op 9 (.mkIface 14 91 (.tmp 13)),
 .op 10 (.load 15 true 7 (.tmp 3)),
 .op 11 (.call 16 44 [.tmp 8, .tmp 14, .tmp 15]),
 .op 12 (.store true 5 (.tmp 4) (.tmp 16))] [])
 .ret)),
 [.cell 4 true 5]⟩
theorem ok24 : funcOk Tryz.prog (drawOk Tryz.prog) Tryz.f24 A24 = true := by kernel_rfl
noncomputable def A26 : AFunc := ⟨2, (.seq (.region [.op 0 (.mov 4 (.const (.nilPtr)))] [])
 (.seq (.region [.op 0 (.mov 7 (.tmp 0)),
 .op 1 (.call 8 45 [.tmp 7, .const (.int .i64 0)]),
 .op 2 (.mov 5 (.tmp 8))] [])
 (.seq (.seq (.region [.op 0 (.mov 9 (.tmp 5)),
 .op 1 (.bin 10 .eql .ptr (.tmp 9) (.const (.nilPtr)))] [])
 (.cond (.tmp 10)
 (.seq (.region [.op 0 (.mov 4 (.const (.nilPtr)))] [])
 .ret)
 .skip))
 (.seq (.region [.op 0 (.mov 11 (.tmp 1)),
 .op 1 (.call 12 46 [.tmp 11]),
 .op 2 (.mov 6 (.tmp 12))] [])
 (.seq (.region [.op 0 (.mov 13 (.tmp 6)),
 .op 1 (.call 14 47 [.tmp 13]),
 .op 2 (.mov 15 (.tmp 5)),
 .op 3 (.mov 16 (.tmp 6)),
 .op 4 (.build 17 [.int .i64 0, .int .i64 0, .nilSlice, .int .i64 0, .nilPtr, .nilPtr] [(2, 1, .tmp 14), (4, 1, .tmp 15), (5, 1, .tmp 16)]),
 .op 5 (.box 18 false (.tmp 17)),
 .op 6 (.mov 4 (.tmp 18))] [])
 .ret))))),
 [.tmp 4]⟩
theorem ok26 : funcOk Tryz.prog (drawOk Tryz.prog) Tryz.f26 A26 = true := by kernel_rfl
noncomputable def A27 : AFunc := ⟨1, (.seq (.region [.op 0 (.mov 2 (.const (.nilPtr)))] [])
 (.seq (.region [.op 0 (.mov 3 (.tmp 0)),
 .op 1 (.nilchk 4 (.tmp 3)),
 .op 2 (.faddr 5 4 (.tmp 4)),
 .op 3 (.load 6 false 1 (.tmp 5)),
 .op 4 (.mov 2 (.tmp 6))] [])
 .ret)),
 [.tmp 2]⟩
theorem ok27 : funcOk Tryz.prog (drawOk Tryz.prog) Tryz.f27 A27 = true := by kernel_rfl
noncomputable def A28 : AFunc := ⟨1, (.seq (.region [.op 0 (.mov 2 (.const (.nilPtr)))] [])
 (.seq (.region [.op 0 (.mov 3 (.tmp 0)),
 .op 1 (.nilchk 4 (.tmp 3)),
 .op 2 (.faddr 5 4 (.tmp 4)),
 .op 3 (.load 6 false 1 (.tmp 5)),
 .op 4 (.mov 2 (.tmp 6))] [])
 .ret)),
 [.tmp 2]⟩
theorem ok28 : funcOk Tryz.prog (drawOk Tryz.prog) Tryz.f28 A28 = true := by kernel_rfl
noncomputable def A29 : AFunc := ⟨2, (.seq (.region [.op 0 (.mov 4 (.const (.nilSlice)))] [])
 (.seq (.region [.op 0 (.mov 5 (.const (.nilSlice)))] [])
 (.seq (.seq (.region [.op 0 (.mov 7 (.tmp 0)),
 .op 1 (.mov 8 (.tmp 1)),
 .op 2 (.bin 9 .add .plain (.tmp 8) (.const (.int .i64 1))),
 .op 3 (.call 10 48 [.tmp 7, .tmp 9]),
 .op 4 (.mov 6 (.tmp 10))] [])
 (.block 0 (.loop ⟨[0, 5, 6], []⟩ [((.exit 0), ⟨[5], []⟩)]
 (.seq (.seq (.region [.op 0 (.mov 11 (.tmp 6)),
 .op 1 (.bin 12 .gtr .plain (.tmp 11) (.const (.int .i64 0)))] [])
 (.cond (.tmp 12)
 .skip
 (.exit 0)))
 (.seq (.block 1 (.region [.op 0 (.mov 15 (.tmp 5)),
 .op 1 (.mov 16 (.tmp 0)),
 .op 2 (.call 17 49 [.tmp 16]),
 .op 3 (.buildSl 18 [.str [], .str [], .int .i64 0, .int .i64 0, .int .i64 0, .int .i64 0, .int .i64 0, .int .i64 0, .bool false] 9 1 [(0, .tmp 17)]),
 .op 4 (.append 19 9 88 [.str [], .str [], .int .i64 0, .int .i64 0, .int .i64 0, .int .i64 0, .int .i64 0, .int .i64 0, .bool false] false (.tmp 15) (.tmp 18)),
 .op 5 (.mov 5 (.tmp 19))] []))
 (.region [.op 0 (.mov 13 (.tmp 6)),
 .op 1 (.bin 14 .sub .plain (.tmp 13) (.const (.int .i64 1))),
 .op 2 (.mov 6 (.tmp 14))] []))))))
 (.seq (.region [.op 0 (.mov 20 (.tmp 5)),
 .op 1 (.mov 4 (.tmp 20))] [])
 .ret)))),
 [.tmp 4]⟩
theorem ok29 : funcOk Tryz.prog (drawOk Tryz.prog) Tryz.f29 A29 = true := by kernel_rfl
noncomputable def A30 : AFunc := ⟨3, (.seq (.region [.op 0 (.box 5 true (.tmp 2)),
 .op 1 (.mov 6 (.const (.nilSlice)))] [])
 (.seq (.seq (.region [.op 0 (.load 9 true 13 (.tmp 5)),
 .op 1 (.call 10 50 [.tmp 9]),
 .op 2 (.bin 11 .neq (.iface true []) (.tmp 10) (.const (.nilIface)))] [])
 (.cond (.tmp 11)
 (.seq (.region [.op 0 (.mov 6 (.const (.nilSlice)))] [])
 .ret)
 .skip))
 (.seq (.seq (.region [.op 0 (.faddr 12 0 (.tmp 5)),
 .op 1 (.load 13 false 1 (.tmp 12))] [])
 (.block 0 (.seq (.region [.op 0 (.bin 15 .eql .plain (.tmp 13) (.const (.int .i64 1))),
 .op 1 (.mov 14 (.tmp 15))] [])
 (.cond (.tmp 14)
 (.seq (.regionF 1 [.op 0 (.mov 17 (.tmp 0)),
 .op 1 (.nilchk 18 (.tmp 17)),
 .op 2 (.faddr 19 4 (.tmp 18)),
 .op 3 (.load 20 false 1 (.tmp 19)),
 .op 4 (.load 21 true 13 (.tmp 5)),
 .op 5 (.mov 22 (.tmp 0)),
 .op 6 (.nilchk 23 (.tmp 22)),
 .op 7 (.faddr 24 0 (.tmp 23)),
 .op 8 (.load 25 false 1 (.tmp 24)),
 .op 9 (.call 26 51 [.tmp 20, .tmp 21, .tmp 25]),
 .op 10 (.mov 16 (.tmp 26)),
 .op 11 (.extract 27 (.tmp 16) 0),
 .op 12 (.extract 28 (.tmp 16) 1),
 .op 13 (.fl 7 0 none [.int .i64 0, .int .i64 0, .int .i64 0, .int .i64 0, .int .i64 0, .int .i64 0, .int .i64 0, .str [], .str [], .bool false, .int .u32 0, .nilSlice, .nilSlice] []),
 .op 14 (.store true 13 (.tmp 7) (.tmp 27)),
 .op 15 (.mov 8 (.tmp 28))] [])
 (.seq (.region [.op 0 (.mov 29 (.tmp 0)),
 .op 1 (.nilchk 30 (.tmp 29)),
 .op 2 (.faddr 31 5 (.tmp 30)),
 .op 3 (.load 32 false 1 (.tmp 31)),
 .op 4 (.mov 33 (.tmp 8)),
 .op 5 (.call 34 52 [.tmp 32, .tmp 33])] [])
 (.seq (.region [.op 0 (.mov 35 (.tmp 1)),
 .op 1 (.load 36 true 13 (.tmp 7)),
 .op 2 (.build 37 [.int .i64 0, .int .i64 0, .int .i64 0, .int .i64 0, .int .i64 0, .int .i64 0, .int .i64 0, .int .i64 0, .str [], .str [], .bool false, .int .u32 0, .nilSlice, .nilSlice] [(0, 1, .tmp 35), (1, 13, .tmp 36)]),
 .op 3 (.buildSl 38 [.int .i64 0, .int .i64 0, .int .i64 0, .int .i64 0, .int .i64 0, .int .i64 0, .int .i64 0, .int .i64 0, .str [], .str [], .bool false, .int .u32 0, .nilSlice, .nilSlice] 14 1 [(0, .tmp 37)]),
 .op 4 (.mov 6 (.tmp 38))] [])
 .ret)))
 (.seq (.region [.op 0 (.bin 40 .eql .plain (.tmp 13) (.const (.int .i64 3))),
 .op 1 (.mov 39 (.tmp 40))] [])
 (.join [(.normal, ⟨[], []⟩), (.ret, ⟨[6], []⟩)] (.cond (.tmp 39)
 (.region [.op 0 (.mov 41 (.tmp 0)),
 .op 1 (.nilchk 42 (.tmp 41)),
 .op 2 (.faddr 43 4 (.tmp 42)),
 .op 3 (.load 44 false 1 (.tmp 43)),
 .op 4 (.faddr 45 11 (.tmp 5)),
 .op 5 (.load 46 false 1 (.tmp 45)),
 .op 6 (.mov 47 (.tmp 0)),
 .op 7 (.nilchk 48 (.tmp 47)),
 .op 8 (.faddr 49 0 (.tmp 48)),
 .op 9 (.load 50 false 1 (.tmp 49)),
 .op 10 (.call 51 53 [.tmp 44, .tmp 46, .tmp 50])] [])
 (.seq (.region [.op 0 (.bin 53 .eql .plain (.tmp 13) (.const (.int .i64 4))),
 .op 1 (.mov 52 (.tmp 53))] [])
 (.cond (.tmp 52)
 (.seq (.region [.op 0 (.mov 54 (.tmp 0)),
 .op 1 (.mov 55 (.tmp 1)),
 .op 2 (.faddr 56 11 (.tmp 5)),
 .op 3 (.load 57 false 1 (.tmp 56)),
 .op 4 (.call 58 54 [.tmp 54, .tmp 55, .tmp 57]),
 .op 5 (.mov 6 (.tmp 58))] [])
 .ret)
 (.seq (.region [.op 0 (.bin 60 .eql .plain (.tmp 13) (.const (.int .i64 5))),
 .op 1 (.mov 59 (.tmp 60))] [])
 (.cond (.tmp 59)
 (.seq (.region [.op 0 (.mov 61 (.tmp 1)),
 .op 1 (.mov 62 (.tmp 0)),
 .op 2 (.nilchk 63 (.tmp 62)),
 .op 3 (.faddr 64 4 (.tmp 63)),
 .op 4 (.load 65 false 1 (.tmp 64)),
 .op 5 (.call 66 28 [.tmp 65]),
 .op 6 (.call 67 32 [.tmp 66]),
 .op 7 (.faddr 68 12 (.tmp 5)),
 .op 8 (.load 69 false 1 (.tmp 68)),
 .op 9 (.call 70 56 [.tmp 67, .tmp 69]),
 .op 10 (.call 71 55 [.tmp 61, .tmp 70]),
 .op 11 (.mov 6 (.tmp 71))] [(8, 5), (8, 6)])
 .ret)
 .skip)))))))))))
 (.seq (.region [.op 0 (.mov 6 (.const (.nilSlice)))] [])
 .ret)))),
 [.tmp 6]⟩
theorem ok30 : funcOk Tryz.prog (drawOk Tryz.prog) Tryz.f30 A30 = true := by kernel_rfl
noncomputable def A31 : AFunc := ⟨2, (.seq (.region [.op 0 (.mov 4 (.const (.bool false)))] [])
 (.seq (.seq (.region [.op 0 (.mov 6 (.tmp 0)),
 .op 1 (.len 7 false (.tmp 6)),
 .op 2 (.mov 8 (.tmp 1)),
 .op 3 (.len 9 false (.tmp 8)),
 .op 4 (.bin 10 .neq .plain (.tmp 7) (.tmp 9))] [])
 (.cond (.tmp 10)
 (.seq (.region [.op 0 (.mov 4 (.const (.bool false)))] [])
 .ret)
 .skip))
 (.seq (.seq (.region [.op 0 (.mov 11 (.tmp 0)),
 .op 1 (.len 12 false (.tmp 11)),
 .op 2 (.mov 13 (.const (.int .i64 0)))] [])
 (.block 0 (.loop ⟨[0, 1, 12, 13], []⟩ [((.exit 0), ⟨[], []⟩), (.ret, ⟨[4], []⟩)]
 (.seq (.region [.op 0 (.bin 14 .lss .plain (.tmp 13) (.tmp 12))] [])
 (.seq (.cond (.tmp 14)
 .skip
 (.exit 0))
 (.seq (.block 1 (.seq (.region [.op 0 (.mov 15 (.tmp 13)),
 .op 1 (.mov 5 (.tmp 15))] [])
 (.seq (.region [.op 0 (.mov 16 (.tmp 0)),
 .op 1 (.mov 17 (.tmp 5)),
 .op 2 (.iaddr 18 none 9 (.tmp 16) (.tmp 17)),
 .op 3 (.load 19 true 9 (.tmp 18)),
 .op 4 (.mov 20 (.tmp 1)),
 .op 5 (.mov 21 (.tmp 5)),
 .op 6 (.iaddr 22 none 9 (.tmp 20) (.tmp 21)),
 .op 7 (.load 23 true 9 (.tmp 22)),
 .op 8 (.bin 24 .neq (.cells [2, 2, 1, 1, 1, 1, 1, 1, 0]) (.tmp 19) (.tmp 23))] [])
 (.cond (.tmp 24)
 (.seq (.region [.op 0 (.mov 4 (.const (.bool false)))] [])
 .ret)
 .skip))))
 (.region [.op 0 (.bin 25 .add .plain (.tmp 13) (.const (.int .i64 1))),
 .op 1 (.mov 13 (.tmp 25))] [])))))))
 (.seq (.region [.op 0 (.mov 4 (.const (.bool true)))] [])
 .ret)))),
 [.tmp 4]⟩
theorem ok31 : funcOk Tryz.prog (drawOk Tryz.prog) Tryz.f31 A31 = true := by kernel_rfl
noncomputable def A32 : AFunc := ⟨1, (.seq (.region [.op 0 (.mov 2 (.const (.nilSlice)))] [])
 (.seq (.region [.op 0 (.mov 3 (.const (.nilSlice)))] [])
 (.seq (.seq (.region [.op 0 (.mov 6 (.tmp 0)),
 .op 1 (.nilchk 7 (.tmp 6)),
 .op 2 (.faddr 8 1 (.tmp 7)),
 .op 3 (.load 9 false 1 (.tmp 8)),
 .op 4 (.len 10 false (.tmp 9)),
 .op 5 (.mov 11 (.const (.int .i64 0)))] [])
 (.block 0 (.loop ⟨[3, 9, 10, 11], []⟩ [((.exit 0), ⟨[3], []⟩)]
 (.seq (.region [.op 0 (.bin 12 .lss .plain (.tmp 11) (.tmp 10))] [])
 (.seq (.cond (.tmp 12)
 .skip
 (.exit 0))
 (.seq (.block 1 (.seq (.region [.op 0 (.iaddr 13 none 10 (.tmp 9) (.tmp 11)),
 .op 1 (.load 14 true 10 (.tmp 13)),
 .op 2 (.alloc 5 true [.str [], .str [], .int .i64 0, .int .i64 0, .int .i64 0, .int .i64 0, .int .i64 0, .int .i64 0, .bool false, .int .i64 0]),
 .op 3 (.store true 10 (.tmp 5) (.tmp 14))] [])
 (.region [.op 0 (.mov 15 (.tmp 3)),
 .op 1 (.faddr 16 0 (.tmp 5)),
 .op 2 (.load 17 true 9 (.tmp 16)),
 .op 3 (.buildSl 18 [.str [], .str [], .int .i64 0, .int .i64 0, .int .i64 0, .int .i64 0, .int .i64 0, .int .i64 0, .bool false] 9 1 [(0, .tmp 17)]),
 .op 4 (.append 19 9 88 [.str [], .str [], .int .i64 0, .int .i64 0, .int .i64 0, .int .i64 0, .int .i64 0, .int .i64 0, .bool false] false (.tmp 15) (.tmp 18)),
 .op 5 (.mov 3 (.tmp 19))] [])))
 (.region [.op 0 (.bin 20 .add .plain (.tmp 11) (.const (.int .i64 1))),
 .op 1 (.mov 11 (.tmp 20))] [])))))))
 (.seq (.region [.op 0 (.mov 21 (.tmp 3)),
 .op 1 (.mov 2 (.tmp 21))] [])
 .ret)))),
 [.tmp 2]⟩
theorem ok32 : funcOk Tryz.prog (drawOk Tryz.prog) Tryz.f32 A32 = true := by kernel_rfl
noncomputable def A36 : AFunc := ⟨1, (.seq (.region [.op 0 (.mov 2 (.const (.int .i64 0)))] [])
 (.seq (.region [.op 0 (.mov 3 (.tmp 0)),
 .op 1 (.nilchk 4 (.tmp 3)),
 .op 2 (.faddr 5 2 (.tmp 4)),
 .op 3 (.load 6 false 1 (.tmp 5)),
 .op 4 (.mov 7 (.tmp 0)),
 .op 5 (.nilchk 8 (.tmp 7)),
 .op 6 (.faddr 9 3 (.tmp 8)),
 .op 7 (.load 10 false 1 (.tmp 9)),
 .op 8 (.iaddr 11 none 1 (.tmp 6) (.tmp 10)),
 .op 9 (.load 12 false 1 (.tmp 11)),
 .op 10 (.mov 2 (.tmp 12))] [])
 .ret)),
 [.tmp 2]⟩
theorem ok36 : funcOk Tryz.prog (drawOk Tryz.prog) Tryz.f36 A36 = true := by kernel_rfl
noncomputable def A39 : AFunc := ⟨3, (.seq (.region [.op 0 (.mov 6 (.const (.bool false)))] [])
 (.seq (.region [.op 0 (.mov 7 (.tmp 0)),
 .op 1 (.mov 8 (.tmp 1)),
 .op 2 (.mov 9 (.tmp 2)),
 .op 3 (.build 10 [.int .i64 0, .int .i64 0, .int .i64 0, .int .i64 0, .int .i64 0, .int .i64 0, .str []] [(0, 1, .const (.int .i64 8)), (1, 1, .tmp 8), (3, 1, .const (.int .i64 1)), (5, 1, .tmp 9), (4, 1, .const (.int .i64 1))]),
 .op 4 (.buildSl 11 [.int .i64 0, .int .i64 0, .int .i64 0, .int .i64 0, .int .i64 0, .int .i64 0, .str []] 7 1 [(0, .tmp 10)]),
 .op 5 (.call 12 18 [.tmp 7, .tmp 11]),
 .op 6 (.mov 13 (.tmp 12)),
 .guard 13 true [.op 7 (.mov 14 (.tmp 0)),
 .op 8 (.mov 15 (.tmp 1)),
 .op 9 (.call 16 19 [.tmp 14, .tmp 15, .const (.int .i64 2)])] [] [16],
 .op 10 (.pick 17 (.tmp 13) (.tmp 16) (.const (.bool false))),
 .op 11 (.mov 6 (.tmp 17))] [])
 .ret)),
 [.tmp 6]⟩
theorem ok39 : funcOk Tryz.prog (drawOk Tryz.prog) Tryz.f39 A39 = true := by kernel_rfl
noncomputable def A40 : AFunc := ⟨2, (.seq (.region [.op 0 (.mov 4 (.const (.int .i64 0))),
 .op 1 (.mov 5 (.const (.bool false)))] [])
 (.seq (.seq (.region [.op 0 (.mov 6 (.tmp 0)),
 .op 1 (.bin 7 .eql .ptr (.tmp 6) (.const (.nilPtr)))] [])
 (.cond (.tmp 7)
 (.seq (.region [.op 0 (.mov 4 (.const (.int .i64 0))),
 .op 1 (.mov 5 (.const (.bool false)))] [])
 .ret)
 .skip))
 (.seq (.region [.op 0 (.mov 8 (.tmp 0)),
 .op 1 (.build 9 [.nilPtr, .nilSlice] [(0, 1, .tmp 8)]),
 .op 2 (.box 10 false (.tmp 9)),
 .op 3 (.mov 11 (.tmp 1)),
 .op 4 (.call 12 59 [.tmp 10, .tmp 11]),
 .op 5 (.extract 13 (.tmp 12) 0),
 .op 6 (.extract 14 (.tmp 12) 1),
 .op 7 (.mov 4 (.tmp 13)),
 .op 8 (.mov 5 (.tmp 14))] [])
 .ret))),
 [.tmp 4, .tmp 5]⟩
theorem ok40 : funcOk Tryz.prog (drawOk Tryz.prog) Tryz.f40 A40 = true := by kernel_rfl
noncomputable def A41 : AFunc := ⟨2, (.seq (.region [.op 0 (.mov 4 (.const (.nilPtr)))] [])
 (.seq (.seq (.region [.op 0 (.mov 13 (.tmp 0)),
 .op 1 (.bin 14 .lss .plain (.tmp 13) (.const (.int .i64 1))),
 .op 2 (.mov 15 (.tmp 14)),
 .guard 15 false [.op 3 (.mov 16 (.tmp 1)),
 .op 4 (.bin 17 .lss .plain (.tmp 16) (.const (.int .i64 0)))] [] [17],
 .op 5 (.pick 18 (.tmp 15) (.const (.bool true)) (.tmp 17)),
 .op 6 (.mov 19 (.tmp 18)),
 .guard 19 false [.op 7 (.mov 20 (.tmp 0)),
 .op 8 (.bin 21 .gtr .plain (.tmp 20) (.const (.int .i64 6)))] [] [21],
 .op 9 (.pick 22 (.tmp 19) (.const (.bool true)) (.tmp 21)),
 .op 10 (.mov 23 (.tmp 22)),
 .guard 23 false [.op 11 (.mov 24 (.tmp 1)),
 .op 12 (.mov 25 (.tmp 0)),
 .op 13 (.bin 26 .sub .plain (.const (.int .i64 6)) (.tmp 25)),
 .op 14 (.bin 27 .gtr .plain (.tmp 24) (.tmp 26))] [] [27],
 .op 15 (.pick 28 (.tmp 23) (.const (.bool true)) (.tmp 27))] [])
 (.cond (.tmp 28)
 (.seq (.region [.op 0 (.mov 4 (.const (.nilPtr)))] [])
 .ret)
 .skip))
 (.seq (.region [.op 0 (.mov 29 (.tmp 0)),
 .op 1 (.mov 30 (.tmp 1)),
 .op 2 (.bin 31 .add .plain (.tmp 29) (.tmp 30)),
 .op 3 (.call 32 60 [.tmp 31]),
 .op 4 (.build 33 [.nilSlice, .nilSlice, .nilPtr] [(2, 1, .tmp 32)]),
 .op 5 (.box 34 false (.tmp 33)),
 .op 6 (.mov 5 (.tmp 34))] [])
 (.seq (.region [.op 0 (.mov 6 (.const (.nilSlice)))] [])
 (.seq (.seq (.region [.op 0 (.mov 35 (.tmp 0)),
 .op 1 (.mov 36 (.const (.int .i64 0)))] [])
 (.block 0 (.loop ⟨[0, 1, 5, 6, 35, 36], []⟩ [((.exit 0), ⟨[0, 1, 5, 6], []⟩)]
 (.seq (.region [.op 0 (.bin 37 .lss .plain (.tmp 36) (.tmp 35))] [])
 (.seq (.cond (.tmp 37)
 .skip
 (.exit 0))
 (.seq (.block 1 (.seq (.region [.op 0 (.mov 38 (.tmp 36)),
 .op 1 (.mov 7 (.tmp 38))] [])
 (.region [.op 0 (.mov 39 (.tmp 6)),
 .op 1 (.mov 40 (.tmp 7)),
 .op 2 (.buildSl 41 [.int .i64 0] 1 1 [(0, .tmp 40)]),
 .op 3 (.append 42 1 8 [.int .i64 0] false (.tmp 39) (.tmp 41)),
 .op 4 (.mov 6 (.tmp 42))] [])))
 (.region [.op 0 (.bin 43 .add .plain (.tmp 36) (.const (.int .i64 1))),
 .op 1 (.mov 36 (.tmp 43))] [])))))))
 (.seq (.seq (.region [.op 0 (.mov 44 (.tmp 0)),
 .op 1 (.mov 45 (.const (.int .i64 0)))] [])
 (.block 2 (.loop ⟨[0, 1, 5, 6, 44, 45], []⟩ [((.exit 2), ⟨[0, 1, 5, 6], []⟩)]
 (.seq (.region [.op 0 (.bin 46 .lss .plain (.tmp 45) (.tmp 44))] [])
 (.seq (.cond (.tmp 46)
 .skip
 (.exit 2))
 (.seq (.block 3 (.seq (.region [.op 0 (.mov 47 (.tmp 45)),
 .op 1 (.mov 8 (.tmp 47))] [])
 (.seq (.region [.op 0 (.buildSl 48 [.int .i64 0] 1 0 []),
 .op 1 (.mov 49 (.tmp 6)),
 .op 2 (.mov 50 (.tmp 8)),
 .op 3 (.slice 51 (.sl 1) (.tmp 49) none (some (.tmp 50)) none),
 .op 4 (.append 52 1 8 [.int .i64 0] false (.tmp 48) (.tmp 51)),
 .op 5 (.mov 53 (.tmp 6)),
 .op 6 (.mov 54 (.tmp 8)),
 .op 7 (.bin 55 .add .plain (.tmp 54) (.const (.int .i64 1))),
 .op 8 (.slice 56 (.sl 1) (.tmp 53) (some (.tmp 55)) none none),
 .op 9 (.append 57 1 8 [.int .i64 0] false (.tmp 52) (.tmp 56)),
 .op 10 (.mov 9 (.tmp 57))] [])
 (.region [.op 0 (.mov 58 (.tmp 5)),
 .op 1 (.mov 59 (.tmp 5)),
 .op 2 (.nilchk 60 (.tmp 59)),
 .op 3 (.faddr 61 0 (.tmp 60)),
 .op 4 (.load 62 false 1 (.tmp 61)),
 .op 5 (.mov 63 (.tmp 8)),
 .op 6 (.mov 64 (.tmp 9)),
 .op 7 (.call 65 26 [.tmp 63, .tmp 64]),
 .op 8 (.buildSl 66 [.nilPtr] 1 1 [(0, .tmp 65)]),
 .op 9 (.append 67 1 8 [.nilPtr] false (.tmp 62) (.tmp 66)),
 .op 10 (.nilchk 68 (.tmp 58)),
 .op 11 (.faddr 69 0 (.tmp 68)),
 .op 12 (.store false 1 (.tmp 69) (.tmp 67))] [(4, 7), (4, 8)]))))
 (.region [.op 0 (.bin 70 .add .plain (.tmp 45) (.const (.int .i64 1))),
 .op 1 (.mov 45 (.tmp 70))] [])))))))
 (.seq (.seq (.region [.op 0 (.mov 71 (.tmp 1)),
 .op 1 (.mov 72 (.const (.int .i64 0)))] [])
 (.block 4 (.loop ⟨[0, 5, 6, 71, 72], []⟩ [((.exit 4), ⟨[5], []⟩)]
 (.seq (.region [.op 0 (.bin 73 .lss .plain (.tmp 72) (.tmp 71))] [])
 (.seq (.cond (.tmp 73)
 .skip
 (.exit 4))
 (.seq (.block 5 (.seq (.region [.op 0 (.mov 74 (.tmp 72)),
 .op 1 (.mov 10 (.tmp 74))] [])
 (.seq (.region [.op 0 (.mov 75 (.tmp 10)),
 .op 1 (.bin 76 .quo .plain (.tmp 75) (.const (.int .i64 2))),
 .op 2 (.call 77 61 [.tmp 76]),
 .op 3 (.bin 78 .add .plain (.const (.str [97, 112, 112])) (.tmp 77)),
 .op 4 (.mov 79 (.tmp 10)),
 .op 5 (.call 80 61 [.tmp 79]),
 .op 6 (.bin 81 .add .plain (.const (.str [105, 100])) (.tmp 80)),
 .op 7 (.build 82 [.str [], .str []] [(0, 1, .tmp 78), (1, 1, .tmp 81)]),
 .op 8 (.alloc 11 true [.str [], .str []]),
 .op 9 (.store true 2 (.tmp 11) (.tmp 82))] [])
 (.seq (.region [.op 0 (.mov 83 (.tmp 10)),
 .op 1 (.mov 84 (.tmp 0)),
 .op 2 (.bin 85 .rem .plain (.tmp 83) (.tmp 84)),
 .op 3 (.mov 12 (.tmp 85))] [])
 (.region [.op 0 (.mov 86 (.tmp 5)),
 .op 1 (.mov 87 (.tmp 5)),
 .op 2 (.nilchk 88 (.tmp 87)),
 .op 3 (.faddr 89 1 (.tmp 88)),
 .op 4 (.load 90 false 1 (.tmp 89)),
 .op 5 (.load 91 true 2 (.tmp 11)),
 .op 6 (.buildSl 92 [.int .i64 0] 1 0 []),
 .op 7 (.mov 93 (.tmp 6)),
 .op 8 (.mov 94 (.tmp 12)),
 .op 9 (.slice 95 (.sl 1) (.tmp 93) (some (.tmp 94)) none none),
 .op 10 (.append 96 1 8 [.int .i64 0] false (.tmp 92) (.tmp 95)),
 .op 11 (.mov 97 (.tmp 6)),
 .op 12 (.mov 98 (.tmp 12)),
 .op 13 (.slice 99 (.sl 1) (.tmp 97) none (some (.tmp 98)) none),
 .op 14 (.append 100 1 8 [.int .i64 0] false (.tmp 96) (.tmp 99)),
 .op 15 (.call 101 62 [.tmp 91, .tmp 100]),
 .op 16 (.buildSl 102 [.nilPtr] 1 1 [(0, .tmp 101)]),
 .op 17 (.append 103 1 8 [.nilPtr] false (.tmp 90) (.tmp 102)),
 .op 18 (.nilchk 104 (.tmp 86)),
 .op 19 (.faddr 105 1 (.tmp 104)),
 .op 20 (.store false 1 (.tmp 105) (.tmp 103))] [(4, 6), (4, 10), (4, 14), (4, 15), (4, 16), (5, 6), (5, 10), (5, 14)])))))
 (.region [.op 0 (.bin 106 .add .plain (.tmp 72) (.const (.int .i64 1))),
 .op 1 (.mov 72 (.tmp 106))] [])))))))
 (.seq (.region [.op 0 (.mov 107 (.tmp 5)),
 .op 1 (.mov 4 (.tmp 107))] [])
 .ret)))))))),
 [.tmp 4]⟩
theorem ok41 : funcOk Tryz.prog (drawOk Tryz.prog) Tryz.f41 A41 = true := by kernel_rfl
noncomputable def A42 : AFunc := ⟨1, (.seq (.region [.op 0 (.mov 2 (.const (.nilPtr)))] [])
 (.seq (.seq (.region [.op 0 (.mov 3 (.tmp 0)),
 .op 1 (.bin 4 .lss .plain (.tmp 3) (.const (.int .i64 1))),
 .op 2 (.mov 5 (.tmp 4)),
 .guard 5 false [.op 3 (.mov 6 (.tmp 0)),
 .op 4 (.bin 7 .gtr .plain (.tmp 6) (.const (.int .i64 6)))] [] [7],
 .op 5 (.pick 8 (.tmp 5) (.const (.bool true)) (.tmp 7))] [])
 (.cond (.tmp 8)
 (.seq (.region [.op 0 (.mov 2 (.const (.nilPtr)))] [])
 .ret)
 .skip))
 (.seq (.region [.op 0 (.mov 9 (.tmp 0)),
 .op 1 (.build 10 [.int .i64 0, .nilSlice, .bool false, .bool false, .bool false, .bool false, .bool false, .bool false, .bool false, .bool false, .bool false, .bool false, .bool false, .bool false, .bool false, .bool false, .bool false, .bool false, .bool false, .bool false, .bool false, .bool false, .bool false, .bool false, .bool false, .bool false, .bool false, .bool false, .bool false, .bool false, .bool false, .bool false, .bool false, .bool false, .bool false, .bool false, .bool false, .bool false] [(0, 1, .tmp 9)]),
 .op 2 (.box 11 false (.tmp 10)),
 .op 3 (.mov 2 (.tmp 11))] [])
 .ret))),
 [.tmp 2]⟩
theorem ok42 : funcOk Tryz.prog (drawOk Tryz.prog) Tryz.f42 A42 = true := by kernel_rfl
noncomputable def A43 : AFunc := ⟨1, (.seq (.region [.op 0 (.mov 2 (.const (.int .i64 0)))] [])
 (.seq (.region [.op 0 (.mov 3 (.tmp 0)),
 .op 1 (.nilchk 4 (.tmp 3)),
 .op 2 (.faddr 5 0 (.tmp 4)),
 .op 3 (.load 6 false 1 (.tmp 5)),
 .op 4 (.len 7 false (.tmp 6)),
 .op 5 (.mov 8 (.tmp 0)),
 .op 6 (.nilchk 9 (.tmp 8)),
 .op 7 (.faddr 10 1 (.tmp 9)),
 .op 8 (.load 11 false 1 (.tmp 10)),
 .op 9 (.len 12 false (.tmp 11)),
 .op 10 (.bin 13 .add .plain (.tmp 7) (.tmp 12)),
 .op 11 (.mov 2 (.tmp 13))] [])
 .ret)),
 [.tmp 2]⟩
theorem ok43 : funcOk Tryz.prog (drawOk Tryz.prog) Tryz.f43 A43 = true := by kernel_rfl
noncomputable def A44 : AFunc := ⟨3, (.seq (.region [.op 0 (.box 5 true (.tmp 2)),
 .op 1 (.alloc 6 true [.int .i64 0, .int .i64 0, .int .i64 0, .nilSlice, .int .i64 0])] [])
 (.seq (.region [.op 0 (.mov 8 (.tmp 0)),
 .op 1 (.mov 9 (.tmp 1)),
 .op 2 (.load 10 true 7 (.tmp 5)),
 .op 3 (.call 11 63 [.tmp 8, .tmp 9, .tmp 10]),
 .op 4 (.alloc 7 true [.int .i64 0, .int .i64 0, .int .i64 0, .nilSlice, .int .i64 0]),
 .op 5 (.store true 5 (.tmp 7) (.tmp 11))] [])
 (.seq (.region [.op 0 (.mov 12 (.tmp 1)),
 .op 1 (.invoke 13 [(85, 94, none), (90, 94, some (0, 1, false)), (91, 94, some (0, 1, false))] (.tmp 12) []),
 .op 2 (.faddr 14 4 (.tmp 7)),
 .op 3 (.store false 1 (.tmp 14) (.tmp 13))] [])
 (.seq (.region [.op 0 (.load 15 true 5 (.tmp 7)),
 .op 1 (.store true 5 (.tmp 6) (.tmp 15))] [])
 .ret)))),
 [.cell 6 true 5]⟩
theorem ok44 : funcOk Tryz.prog (drawOk Tryz.prog) Tryz.f44 A44 = true := by kernel_rfl
noncomputable def A45 : AFunc := ⟨2, (.seq (.region [.op 0 (.mov 4 (.const (.nilPtr)))] [])
 (.seq (.seq (.region [.op 0 (.mov 5 (.tmp 0)),
 .op 1 (.bin 6 .lss .plain (.tmp 5) (.const (.int .i64 0))),
 .op 2 (.mov 7 (.tmp 6)),
 .guard 7 false [.op 3 (.mov 8 (.tmp 0)),
 .op 4 (.bin 9 .geq .plain (.tmp 8) (.const (.int .i64 6)))] [] [9],
 .op 5 (.pick 10 (.tmp 7) (.const (.bool true)) (.tmp 9)),
 .op 6 (.mov 11 (.tmp 10)),
 .guard 11 false [.op 7 (.mov 12 (.tmp 1)),
 .op 8 (.mov 13 (.tmp 1)),
 .op 9 (.call 14 64 [.tmp 13]),
 .op 10 (.bin 15 .neq .plain (.tmp 12) (.tmp 14))] [] [15],
 .op 11 (.pick 16 (.tmp 11) (.const (.bool true)) (.tmp 15))] [])
 (.cond (.tmp 16)
 (.seq (.region [.op 0 (.mov 4 (.const (.nilPtr)))] [])
 .ret)
 .skip))
 (.seq (.region [.op 0 (.mov 17 (.tmp 0)),
 .op 1 (.mov 18 (.tmp 0)),
 .op 2 (.build 19 [.int .i64 0, .int .i64 0, .int .i64 0] [(1, 1, .tmp 18)]),
 .op 3 (.call 20 65 [.const (.int .i64 32)]),
 .op 4 (.mov 21 (.tmp 1)),
 .op 5 (.call 22 66 [.tmp 21]),
 .op 6 (.call 23 67 []),
 .op 7 (.build 24 [.int .i64 0, .int .i64 0, .int .i64 0, .int .i64 0, .nilPtr, .nilPtr, .nilPtr] [(0, 1, .tmp 17), (1, 3, .tmp 19), (4, 1, .tmp 20), (5, 1, .tmp 22), (6, 1, .tmp 23)]),
 .op 8 (.box 25 false (.tmp 24)),
 .op 9 (.mov 4 (.tmp 25))] [])
 .ret))),
 [.tmp 4]⟩
theorem ok45 : funcOk Tryz.prog (drawOk Tryz.prog) Tryz.f45 A45 = true := by kernel_rfl
noncomputable def A46 : AFunc := ⟨1, (.seq (.region [.op 0 (.mov 2 (.const (.nilPtr)))] [])
 (.seq (.region [.op 0 (.build 6 [.nilSlice, .nilSlice, .int .i64 0] []),
 .op 1 (.box 7 false (.tmp 6)),
 .op 2 (.mov 3 (.tmp 7))] [])
 (.seq (.seq (.region [.op 0 (.mov 8 (.tmp 0)),
 .op 1 (.len 9 false (.tmp 8)),
 .op 2 (.mov 10 (.const (.int .i64 0)))] [])
 (.block 0 (.loop ⟨[3, 8, 9, 10], []⟩ [((.exit 0), ⟨[3], []⟩)]
 (.seq (.region [.op 0 (.bin 11 .lss .plain (.tmp 10) (.tmp 9))] [])
 (.seq (.cond (.tmp 11)
 .skip
 (.exit 0))
 (.seq (.block 1 (.seq (.region [.op 0 (.iaddr 12 none 1 (.tmp 8) (.tmp 10)),
 .op 1 (.load 13 false 1 (.tmp 12)),
 .op 2 (.mov 5 (.tmp 13))] [])
 (.seq (.region [.op 0 (.mov 14 (.tmp 3)),
 .op 1 (.nilchk 15 (.tmp 14)),
 .op 2 (.faddr 16 0 (.tmp 15)),
 .op 3 (.load 17 false 1 (.tmp 16)),
 .op 4 (.len 18 false (.tmp 17)),
 .op 5 (.bin 19 .lss .plain (.tmp 18) (.const (.int .i64 6))),
 .op 6 (.mov 20 (.tmp 19)),
 .guard 20 true [.op 7 (.mov 21 (.tmp 3)),
 .op 8 (.nilchk 22 (.tmp 21)),
 .op 9 (.faddr 23 0 (.tmp 22)),
 .op 10 (.load 24 false 1 (.tmp 23)),
 .op 11 (.mov 25 (.tmp 5)),
 .op 12 (.call 26 68 [.tmp 24, .tmp 25]),
 .op 13 (.un 27 .not (.tmp 26))] [] [27],
 .op 14 (.pick 28 (.tmp 20) (.tmp 27) (.const (.bool false)))] [])
 (.join [(.normal, ⟨[3, 8, 9, 10], []⟩)] (.cond (.tmp 28)
 (.region [.op 0 (.mov 29 (.tmp 3)),
 .op 1 (.mov 30 (.tmp 3)),
 .op 2 (.nilchk 31 (.tmp 30)),
 .op 3 (.faddr 32 0 (.tmp 31)),
 .op 4 (.load 33 false 1 (.tmp 32)),
 .op 5 (.mov 34 (.tmp 5)),
 .op 6 (.buildSl 35 [.int .i64 0] 1 1 [(0, .tmp 34)]),
 .op 7 (.append 36 1 8 [.int .i64 0] false (.tmp 33) (.tmp 35)),
 .op 8 (.nilchk 37 (.tmp 29)),
 .op 9 (.faddr 38 0 (.tmp 37)),
 .op 10 (.store false 1 (.tmp 38) (.tmp 36))] [])
 .skip)))))
 (.region [.op 0 (.bin 39 .add .plain (.tmp 10) (.const (.int .i64 1))),
 .op 1 (.mov 10 (.tmp 39))] [])))))))
 (.seq (.region [.op 0 (.mov 40 (.tmp 3)),
 .op 1 (.mov 41 (.tmp 3)),
 .op 2 (.nilchk 42 (.tmp 41)),
 .op 3 (.faddr 43 0 (.tmp 42)),
 .op 4 (.load 44 false 1 (.tmp 43)),
 .op 5 (.len 45 false (.tmp 44)),
 .op 6 (.mkSlice 46 1 24 [.nilSlice] (.tmp 45) (.tmp 45)),
 .op 7 (.nilchk 47 (.tmp 40)),
 .op 8 (.faddr 48 1 (.tmp 47)),
 .op 9 (.store false 1 (.tmp 48) (.tmp 46))] [])
 (.seq (.region [.op 0 (.mov 49 (.tmp 3)),
 .op 1 (.mov 2 (.tmp 49))] [])
 .ret))))),
 [.tmp 2]⟩
theorem ok46 : funcOk Tryz.prog (drawOk Tryz.prog) Tryz.f46 A46 = true := by kernel_rfl
noncomputable def A47 : AFunc := ⟨1, (.seq (.region [.op 0 (.mov 2 (.const (.nilSlice)))] [])
 (.seq (.region [.op 0 (.mov 3 (.tmp 0)),
 .op 1 (.nilchk 4 (.tmp 3)),
 .op 2 (.faddr 5 0 (.tmp 4)),
 .op 3 (.load 6 false 1 (.tmp 5)),
 .op 4 (.call 7 69 [.tmp 6]),
 .op 5 (.mov 2 (.tmp 7))] [])
 .ret)),
 [.tmp 2]⟩
theorem ok47 : funcOk Tryz.prog (drawOk Tryz.prog) Tryz.f47 A47 = true := by kernel_rfl
noncomputable def A48 : AFunc := ⟨2, (.seq (.region [.op 0 (.mov 4 (.const (.int .i64 0)))] [])
 (.seq (.seq (.region [.op 0 (.mov 5 (.tmp 0)),
 .op 1 (.nilchk 6 (.tmp 5)),
 .op 2 (.faddr 7 1 (.tmp 6)),
 .op 3 (.load 8 false 1 (.tmp 7)),
 .op 4 (.mov 9 (.tmp 0)),
 .op 5 (.nilchk 10 (.tmp 9)),
 .op 6 (.faddr 11 0 (.tmp 10)),
 .op 7 (.load 12 false 1 (.tmp 11)),
 .op 8 (.len 13 false (.tmp 12)),
 .op 9 (.bin 14 .geq .plain (.tmp 8) (.tmp 13)),
 .op 10 (.mov 15 (.tmp 14)),
 .guard 15 false [.op 11 (.mov 16 (.tmp 1)),
 .op 12 (.bin 17 .lss .plain (.tmp 16) (.const (.int .i64 1)))] [] [17],
 .op 13 (.pick 18 (.tmp 15) (.const (.bool true)) (.tmp 17))] [])
 (.cond (.tmp 18)
 (.seq (.region [.op 0 (.mov 4 (.const (.int .i64 0)))] [])
 .ret)
 .skip))
 (.seq (.region [.op 0 (.mov 19 (.tmp 0)),
 .op 1 (.nilchk 20 (.tmp 19)),
 .op 2 (.faddr 21 1 (.tmp 20)),
 .op 3 (.load 22 false 1 (.tmp 21)),
 .op 4 (.bin 23 .add .plain (.tmp 22) (.const (.int .i64 1))),
 .op 5 (.nilchk 24 (.tmp 19)),
 .op 6 (.faddr 25 1 (.tmp 24)),
 .op 7 (.store false 1 (.tmp 25) (.tmp 23))] [])
 (.seq (.region [.op 0 (.mov 26 (.tmp 0)),
 .op 1 (.nilchk 27 (.tmp 26)),
 .op 2 (.faddr 28 0 (.tmp 27)),
 .op 3 (.load 29 false 1 (.tmp 28)),
 .op 4 (.mov 30 (.tmp 0)),
 .op 5 (.nilchk 31 (.tmp 30)),
 .op 6 (.faddr 32 1 (.tmp 31)),
 .op 7 (.load 33 false 1 (.tmp 32)),
 .op 8 (.bin 34 .sub .plain (.tmp 33) (.const (.int .i64 1))),
 .op 9 (.iaddr 35 none 1 (.tmp 29) (.tmp 34)),
 .op 10 (.load 36 false 1 (.tmp 35)),
 .op 11 (.call 37 17 [.tmp 36, .const (.int .i64 0), .const (.int .i64 1073741824)]),
 .op 12 (.mov 38 (.tmp 1)),
 .op 13 (.bin 39 .rem .plain (.tmp 37) (.tmp 38)),
 .op 14 (.mov 4 (.tmp 39))] [])
 .ret)))),
 [.tmp 4]⟩
theorem ok48 : funcOk Tryz.prog (drawOk Tryz.prog) Tryz.f48 A48 = true := by kernel_rfl
noncomputable def A49 : AFunc := ⟨1, (.seq (.region [.op 0 (.alloc 2 true [.str [], .str [], .int .i64 0, .int .i64 0, .int .i64 0, .int .i64 0, .int .i64 0, .int .i64 0, .bool false])] [])
 (.seq (.region [.op 0 (.mov 3 (.tmp 0)),
 .op 1 (.call 4 70 [.tmp 3]),
 .op 2 (.mov 5 (.tmp 0)),
 .op 3 (.call 6 48 [.tmp 5, .const (.int .i64 2)]),
 .op 4 (.bin 7 .add .plain (.const (.int .i64 1)) (.tmp 6)),
 .op 5 (.mov 8 (.tmp 0)),
 .op 6 (.call 9 48 [.tmp 8, .const (.int .i64 7)]),
 .op 7 (.bin 10 .quo .plain (.tmp 9) (.const (.int .i64 2))),
 .op 8 (.mov 11 (.tmp 0)),
 .op 9 (.call 12 48 [.tmp 11, .const (.int .i64 60)]),
 .op 10 (.bin 13 .add .plain (.const (.int .i64 1)) (.tmp 12)),
 .op 11 (.mov 14 (.tmp 0)),
 .op 12 (.call 15 71 [.tmp 14]),
 .op 13 (.mov 16 (.tmp 0)),
 .op 14 (.call 17 48 [.tmp 16, .const (.int .i64 4)]),
 .op 15 (.bin 18 .eql .plain (.tmp 17) (.const (.int .i64 0))),
 .op 16 (.build 19 [.str [], .str [], .int .i64 0, .int .i64 0, .int .i64 0, .int .i64 0, .int .i64 0, .int .i64 0, .bool false] [(0, 2, .tmp 4), (2, 1, .tmp 7), (3, 1, .tmp 10), (4, 1, .tmp 13), (5, 3, .tmp 15), (8, 1, .tmp 18)]),
 .op 17 (.store true 9 (.tmp 2) (.tmp 19))] [])
 .ret)),
 [.cell 2 true 9]⟩
theorem ok49 : funcOk Tryz.prog (drawOk Tryz.prog) Tryz.f49 A49 = true := by kernel_rfl
noncomputable def A50 : AFunc := ⟨1, (.seq (.region [.op 0 (.box 1 true (.tmp 0)),
 .op 1 (.mov 2 (.const (.nilIface)))] [])
 (.seq (.block 0 (.seq (.region [.op 0 (.faddr 5 0 (.tmp 1)),
 .op 1 (.load 6 false 1 (.tmp 5)),
 .op 2 (.bin 7 .lss .plain (.tmp 6) (.const (.int .i64 1))),
 .op 3 (.mov 8 (.tmp 7)),
 .guard 8 false [.op 4 (.faddr 9 0 (.tmp 1)),
 .op 5 (.load 10 false 1 (.tmp 9)),
 .op 6 (.bin 11 .gtr .plain (.tmp 10) (.const (.int .i64 5)))] [] [11],
 .op 7 (.pick 12 (.tmp 8) (.const (.bool true)) (.tmp 11)),
 .op 8 (.mov 4 (.tmp 12))] [])
 (.cond (.tmp 4)
 (.seq (.region [.op 0 (.call 13 72 [.const (.str [107, 105, 110, 100]), .const (.int .i64 12)]),
 .op 1 (.mov 2 (.tmp 13))] [])
 .ret)
 (.seq (.region [.op 0 (.load 15 true 13 (.tmp 1)),
 .op 1 (.call 16 73 [.tmp 15]),
 .op 2 (.un 17 .not (.tmp 16)),
 .op 3 (.mov 14 (.tmp 17))] [])
 (.cond (.tmp 14)
 (.seq (.region [.op 0 (.call 18 72 [.const (.str [122, 101, 114, 111]), .const (.int .i64 12)]),
 .op 1 (.mov 2 (.tmp 18))] [])
 .ret)
 (.seq (.region [.op 0 (.load 20 true 13 (.tmp 1)),
 .op 1 (.call 21 74 [.tmp 20]),
 .op 2 (.un 22 .not (.tmp 21)),
 .op 3 (.mov 19 (.tmp 22))] [])
 (.cond (.tmp 19)
 (.seq (.region [.op 0 (.call 23 72 [.const (.str [111, 112]), .const (.int .i64 12)]),
 .op 1 (.mov 2 (.tmp 23))] [])
 .ret)
 (.seq (.region [.op 0 (.faddr 25 3 (.tmp 1)),
 .op 1 (.load 26 false 1 (.tmp 25)),
 .op 2 (.call 27 75 [.tmp 26]),
 .op 3 (.un 28 .not (.tmp 27)),
 .op 4 (.mov 29 (.tmp 28)),
 .guard 29 false [.op 5 (.faddr 30 2 (.tmp 1)),
 .op 6 (.load 31 false 1 (.tmp 30)),
 .op 7 (.call 32 75 [.tmp 31]),
 .op 8 (.un 33 .not (.tmp 32))] [] [33],
 .op 9 (.pick 34 (.tmp 29) (.const (.bool true)) (.tmp 33)),
 .op 10 (.mov 35 (.tmp 34)),
 .guard 35 false [.op 11 (.faddr 36 6 (.tmp 1)),
 .op 12 (.load 37 false 1 (.tmp 36)),
 .op 13 (.bin 38 .lss .plain (.tmp 37) (.const (.int .i64 (-1))))] [] [38],
 .op 14 (.pick 39 (.tmp 35) (.const (.bool true)) (.tmp 38)),
 .op 15 (.mov 24 (.tmp 39))] [])
 (.cond (.tmp 24)
 (.seq (.region [.op 0 (.call 40 72 [.const (.str [110, 117, 109, 98, 101, 114]), .const (.int .i64 1)]),
 .op 1 (.mov 2 (.tmp 40))] [])
 .ret)
 (.seq (.region [.op 0 (.faddr 42 11 (.tmp 1)),
 .op 1 (.load 43 false 1 (.tmp 42)),
 .op 2 (.len 44 false (.tmp 43)),
 .op 3 (.bin 45 .gtr .plain (.tmp 44) (.const (.int .i64 64))),
 .op 4 (.mov 46 (.tmp 45)),
 .guard 46 false [.op 5 (.faddr 47 12 (.tmp 1)),
 .op 6 (.load 48 false 1 (.tmp 47)),
 .op 7 (.len 49 false (.tmp 48)),
 .op 8 (.bin 50 .gtr .plain (.tmp 49) (.const (.int .i64 64)))] [] [50],
 .op 9 (.pick 51 (.tmp 46) (.const (.bool true)) (.tmp 50)),
 .op 10 (.mov 41 (.tmp 51))] [])
 (.cond (.tmp 41)
 (.seq (.region [.op 0 (.call 52 72 [.const (.str [99, 97, 114, 100, 115]), .const (.int .i64 3)]),
 .op 1 (.mov 2 (.tmp 52))] [])
 .ret)
 .skip)))))))))))
 (.seq (.region [.op 0 (.faddr 53 11 (.tmp 1)),
 .op 1 (.load 54 false 1 (.tmp 53)),
 .op 2 (.call 55 76 [.tmp 54, .const (.func 77 [])]),
 .op 3 (.mov 3 (.tmp 55))] [])
 (.seq (.seq (.region [.op 0 (.mov 56 (.tmp 3)),
 .op 1 (.mov 57 (.tmp 56)),
 .guard 57 false [.op 2 (.faddr 58 12 (.tmp 1)),
 .op 3 (.load 59 false 1 (.tmp 58)),
 .op 4 (.call 60 79 [.tmp 59, .const (.func 80 [])])] [] [60],
 .op 5 (.pick 61 (.tmp 57) (.const (.bool true)) (.tmp 60))] [])
 (.cond (.tmp 61)
 (.seq (.region [.op 0 (.call 62 72 [.const (.str [99, 97, 114, 100]), .const (.int .i64 1)]),
 .op 1 (.mov 2 (.tmp 62))] [])
 .ret)
 .skip))
 (.seq (.region [.op 0 (.mov 2 (.const (.nilIface)))] [])
 .ret))))),
 [.tmp 2]⟩
theorem ok50 : funcOk Tryz.prog (drawOk Tryz.prog) Tryz.f50 A50 = true := by kernel_rfl
noncomputable def A51 : AFunc := ⟨3, (.seq (.region [.op 0 (.box 4 true (.tmp 1)),
 .op 1 (.alloc 6 true [.int .i64 0, .int .i64 0, .int .i64 0, .int .i64 0, .int .i64 0, .int .i64 0, .int .i64 0, .str [], .str [], .bool false, .int .u32 0, .nilSlice, .nilSlice]),
 .op 2 (.mov 7 (.const (.nilSlice)))] [])
 (.seq (.region [.op 0 (.mov 11 (.tmp 2)),
 .op 1 (.call 12 64 [.tmp 11]),
 .op 2 (.mov 2 (.tmp 12))] [])
 (.seq (.region [.op 0 (.faddr 13 1 (.tmp 4)),
 .op 1 (.load 14 false 1 (.tmp 13)),
 .op 2 (.faddr 15 4 (.tmp 4)),
 .op 3 (.load 16 false 1 (.tmp 15)),
 .op 4 (.faddr 17 7 (.tmp 4)),
 .op 5 (.load 18 true 2 (.tmp 17)),
 .op 6 (.build 19 [.int .i64 0, .int .i64 0, .int .i64 0, .int .i64 0, .int .i64 0, .int .i64 0, .int .i64 0, .str [], .str [], .bool false, .int .u32 0, .nilSlice, .nilSlice] [(0, 1, .const (.int .i64 2)), (1, 1, .tmp 14), (4, 1, .tmp 16), (7, 2, .tmp 18)]),
 .op 7 (.alloc 8 true [.int .i64 0, .int .i64 0, .int .i64 0, .int .i64 0, .int .i64 0, .int .i64 0, .int .i64 0, .str [], .str [], .bool false, .int .u32 0, .nilSlice, .nilSlice]),
 .op 8 (.store true 13 (.tmp 8) (.tmp 19))] [])
 (.seq (.seq (.region [.op 0 (.faddr 20 0 (.tmp 4)),
 .op 1 (.load 21 false 1 (.tmp 20)),
 .op 2 (.bin 22 .neq .plain (.tmp 21) (.const (.int .i64 1))),
 .op 3 (.mov 23 (.tmp 22)),
 .guard 23 false [.op 4 (.load 24 true 13 (.tmp 4)),
 .op 5 (.call 25 50 [.tmp 24]),
 .op 6 (.bin 26 .neq (.iface true []) (.tmp 25) (.const (.nilIface)))] [] [26],
 .op 7 (.pick 27 (.tmp 23) (.const (.bool true)) (.tmp 26))] [])
 (.cond (.tmp 27)
 (.seq (.region [.op 0 (.faddr 28 3 (.tmp 8)),
 .op 1 (.store false 1 (.tmp 28) (.const (.int .i64 1)))] [])
 (.seq (.region [.op 0 (.load 29 true 13 (.tmp 8)),
 .op 1 (.store true 13 (.tmp 6) (.tmp 29)),
 .op 2 (.mov 7 (.const (.nilSlice)))] [])
 .ret))
 .skip))
 (.seq (.seq (.region [.op 0 (.faddr 30 1 (.tmp 4)),
 .op 1 (.load 31 false 1 (.tmp 30)),
 .op 2 (.bin 32 .eql .plain (.tmp 31) (.const (.int .i64 5)))] [])
 (.cond (.tmp 32)
 (.seq (.region [.op 0 (.mov 33 (.tmp 0)),
 .op 1 (.load 34 true 13 (.tmp 4)),
 .op 2 (.call 35 82 [.tmp 33, .tmp 34]),
 .op 3 (.store true 13 (.tmp 6) (.tmp 35)),
 .op 4 (.mov 7 (.const (.nilSlice)))] [])
 .ret)
 .skip))
 (.seq (.region [.op 0 (.mov 37 (.tmp 0)),
 .op 1 (.load 38 true 13 (.tmp 4)),
 .op 2 (.mov 39 (.tmp 2)),
 .op 3 (.call 40 83 [.tmp 37, .tmp 38, .tmp 39]),
 .op 4 (.mov 36 (.tmp 40)),
 .op 5 (.extract 41 (.tmp 36) 0),
 .op 6 (.extract 42 (.tmp 36) 1),
 .op 7 (.mov 9 (.tmp 41)),
 .op 8 (.mov 10 (.tmp 42))] [])
 (.seq (.region [.op 0 (.mov 43 (.tmp 10)),
 .op 1 (.faddr 44 3 (.tmp 8)),
 .op 2 (.store false 1 (.tmp 44) (.tmp 43))] [])
 (.seq (.region [.op 0 (.load 45 true 13 (.tmp 8)),
 .op 1 (.mov 46 (.tmp 9)),
 .op 2 (.store true 13 (.tmp 6) (.tmp 45)),
 .op 3 (.mov 7 (.tmp 46))] [])
 .ret)))))))),
 [.cell 6 true 13, .tmp 7]⟩
theorem ok51 : funcOk Tryz.prog (drawOk Tryz.prog) Tryz.f51 A51 = true := by kernel_rfl
noncomputable def A52 : AFunc := ⟨2, (.seq (.region [.op 0 (.mov 7 (.tmp 1)),
 .op 1 (.len 8 false (.tmp 7)),
 .op 2 (.mov 9 (.const (.int .i64 0)))] [])
 (.block 0 (.loop ⟨[0, 7, 8, 9], []⟩ [((.exit 0), ⟨[], []⟩)]
 (.seq (.region [.op 0 (.bin 10 .lss .plain (.tmp 9) (.tmp 8))] [])
 (.seq (.cond (.tmp 10)
 .skip
 (.exit 0))
 (.seq (.block 1 (.seq (.region [.op 0 (.iaddr 11 none 9 (.tmp 7) (.tmp 9)),
 .op 1 (.load 12 true 9 (.tmp 11)),
 .op 2 (.alloc 5 true [.str [], .str [], .int .i64 0, .int .i64 0, .int .i64 0, .int .i64 0, .int .i64 0, .int .i64 0, .bool false]),
 .op 3 (.store true 9 (.tmp 5) (.tmp 12))] [])
 (.seq (.region [.op 0 (.mov 13 (.tmp 0)),
 .op 1 (.nilchk 14 (.tmp 13)),
 .op 2 (.faddr 15 1 (.tmp 14)),
 .op 3 (.load 16 false 1 (.tmp 15)),
 .op 4 (.len 17 false (.tmp 16)),
 .op 5 (.mov 18 (.const (.int .i64 0)))] [])
 (.block 2 (.loop ⟨[0, 7, 8, 9, 17, 18], [5]⟩ [((.exit 2), ⟨[0, 7, 8, 9], []⟩)]
 (.seq (.region [.op 0 (.bin 19 .lss .plain (.tmp 18) (.tmp 17))] [])
 (.seq (.cond (.tmp 19)
 .skip
 (.exit 2))
 (.seq (.block 3 (.seq (.region [.op 0 (.mov 20 (.tmp 18)),
 .op 1 (.mov 6 (.tmp 20))] [])
 (.region [.op 0 (.mov 21 (.tmp 0)),
 .op 1 (.mov 22 (.tmp 6)),
 .op 2 (.load 23 true 9 (.tmp 5)),
 .op 3 (.call 24 84 [.tmp 21, .tmp 22, .tmp 23])] [])))
 (.region [.op 0 (.bin 25 .add .plain (.tmp 18) (.const (.int .i64 1))),
 .op 1 (.mov 18 (.tmp 25))] [])))))))))
 (.region [.op 0 (.bin 26 .add .plain (.tmp 9) (.const (.int .i64 1))),
 .op 1 (.mov 9 (.tmp 26))] []))))))),
 []⟩
theorem ok52 : funcOk Tryz.prog (drawOk Tryz.prog) Tryz.f52 A52 = true := by kernel_rfl
noncomputable def A53 : AFunc := ⟨3, (.seq (.region [.op 0 (.mov 6 (.const (.nilSlice))),
 .op 1 (.mov 7 (.const (.int .i64 0)))] [])
 (.seq (.seq (.region [.op 0 (.mov 14 (.tmp 0)),
 .op 1 (.bin 15 .eql .ptr (.tmp 14) (.const (.nilPtr)))] [])
 (.cond (.tmp 15)
 (.seq (.region [.op 0 (.mov 6 (.const (.nilSlice))),
 .op 1 (.mov 7 (.const (.int .i64 0)))] [])
 .ret)
 .skip))
 (.seq (.region [.op 0 (.mov 16 (.tmp 2)),
 .op 1 (.minmax 17 false [.tmp 16, .const (.int .i64 1099511627776)]),
 .op 2 (.minmax 18 true [.const (.int .i64 0), .tmp 17]),
 .op 3 (.mov 2 (.tmp 18))] [])
 (.seq (.region [.op 0 (.mov 8 (.const (.nilSlice)))] [])
 (.seq (.region [.op 0 (.mov 9 (.const (.int .i64 0)))] [])
 (.seq (.seq (.region [.op 0 (.mov 19 (.tmp 1)),
 .op 1 (.len 20 false (.tmp 19)),
 .op 2 (.mov 21 (.const (.int .i64 0)))] [])
 (.block 0 (.loop ⟨[0, 2, 8, 9, 19, 20, 21], []⟩ [((.exit 0), ⟨[8, 9], []⟩)]
 (.seq (.region [.op 0 (.bin 22 .lss .plain (.tmp 21) (.tmp 20))] [])
 (.seq (.cond (.tmp 22)
 .skip
 (.exit 0))
 (.seq (.join [(.normal, ⟨[0, 2, 8, 9, 19, 20, 21], []⟩)] (.block 1 (.seq (.region [.op 0 (.iaddr 23 none 9 (.tmp 19) (.tmp 21)),
 .op 1 (.load 24 true 9 (.tmp 23)),
 .op 2 (.alloc 11 true [.str [], .str [], .int .i64 0, .int .i64 0, .int .i64 0, .int .i64 0, .int .i64 0, .int .i64 0, .bool false]),
 .op 3 (.store true 9 (.tmp 11) (.tmp 24))] [])
 (.seq (.seq (.region [.op 0 (.load 25 true 9 (.tmp 11)),
 .op 1 (.call 26 78 [.tmp 25]),
 .op 2 (.un 27 .not (.tmp 26))] [])
 (.cond (.tmp 27)
 (.exit 1)
 .skip))
 (.seq (.regionF 1 [.op 0 (.mov 29 (.tmp 0)),
 .op 1 (.call 30 28 [.tmp 29]),
 .op 2 (.faddr 31 0 (.tmp 11)),
 .op 3 (.load 32 true 2 (.tmp 31)),
 .op 4 (.call 33 85 [.tmp 30, .tmp 32]),
 .op 5 (.mov 28 (.tmp 33)),
 .op 6 (.extract 34 (.tmp 28) 0),
 .op 7 (.extract 35 (.tmp 28) 1),
 .op 8 (.fl 12 0 none [.str [], .str [], .int .i64 0, .int .i64 0, .int .i64 0, .int .i64 0, .int .i64 0, .int .i64 0, .bool false, .int .i64 0] []),
 .op 9 (.store true 10 (.tmp 12) (.tmp 34)),
 .op 10 (.mov 13 (.tmp 35))] [(3, 1)])
 (.block 2 (.seq (.region [.op 0 (.mov 37 (.tmp 13)),
 .op 1 (.un 38 .not (.tmp 37)),
 .op 2 (.mov 39 (.tmp 38)),
 .guard 39 false [.op 3 (.faddr 40 0 (.tmp 12)),
 .op 4 (.faddr 41 5 (.tmp 40)),
 .op 5 (.load 42 true 3 (.tmp 41)),
 .op 6 (.faddr 43 5 (.tmp 11)),
 .op 7 (.load 44 true 3 (.tmp 43)),
 .op 8 (.call 45 86 [.tmp 42, .tmp 44])] [] [45],
 .op 9 (.pick 46 (.tmp 39) (.const (.bool true)) (.tmp 45)),
 .op 10 (.mov 36 (.tmp 46))] [])
 (.join [((.exit 1), ⟨[0, 2, 8, 9, 19, 20, 21], []⟩), (.normal, ⟨[0, 2, 8, 9, 19, 20, 21], []⟩)] (.cond (.tmp 36)
 (.seq (.seq (.region [.op 0 (.mov 47 (.tmp 0)),
 .op 1 (.load 48 true 9 (.tmp 11)),
 .op 2 (.mov 49 (.tmp 2)),
 .op 3 (.build 50 [.str [], .str [], .int .i64 0, .int .i64 0, .int .i64 0, .int .i64 0, .int .i64 0, .int .i64 0, .bool false, .int .i64 0] [(0, 9, .tmp 48), (9, 1, .tmp 49)]),
 .op 4 (.call 51 87 [.tmp 47, .tmp 50]),
 .op 5 (.bin 52 .neq .plain (.tmp 51) (.const (.int .i64 0)))] [])
 (.cond (.tmp 52)
 (.seq (.region [.op 0 (.mov 53 (.tmp 9)),
 .op 1 (.bin 54 .add .plain (.tmp 53) (.const (.int .i64 1))),
 .op 2 (.mov 9 (.tmp 54))] [])
 (.exit 1))
 .skip))
 (.region [.op 0 (.mov 55 (.tmp 8)),
 .op 1 (.load 56 true 9 (.tmp 11)),
 .op 2 (.buildSl 57 [.str [], .str [], .int .i64 0, .int .i64 0, .int .i64 0, .int .i64 0, .int .i64 0, .int .i64 0, .bool false] 9 1 [(0, .tmp 56)]),
 .op 3 (.append 58 9 88 [.str [], .str [], .int .i64 0, .int .i64 0, .int .i64 0, .int .i64 0, .int .i64 0, .int .i64 0, .bool false] false (.tmp 55) (.tmp 57)),
 .op 4 (.mov 8 (.tmp 58))] []))
 (.seq (.region [.op 0 (.faddr 60 0 (.tmp 12)),
 .op 1 (.faddr 61 5 (.tmp 60)),
 .op 2 (.load 62 true 3 (.tmp 61)),
 .op 3 (.faddr 63 5 (.tmp 11)),
 .op 4 (.load 64 true 3 (.tmp 63)),
 .op 5 (.bin 65 .eql (.cells [1, 1, 1]) (.tmp 62) (.tmp 64)),
 .op 6 (.mov 66 (.tmp 65)),
 .guard 66 true [.op 7 (.faddr 67 0 (.tmp 12)),
 .op 8 (.faddr 68 8 (.tmp 67)),
 .op 9 (.load 69 false 1 (.tmp 68)),
 .op 10 (.un 70 .not (.tmp 69))] [] [70],
 .op 11 (.pick 71 (.tmp 66) (.tmp 70) (.const (.bool false))),
 .op 12 (.mov 59 (.tmp 71))] [])
 (.join [(.normal, ⟨[0, 2, 8, 9, 19, 20, 21], []⟩)] (.cond (.tmp 59)
 (.region [.op 0 (.mov 72 (.tmp 0)),
 .op 1 (.call 73 28 [.tmp 72]),
 .op 2 (.faddr 74 0 (.tmp 12)),
 .op 3 (.load 75 true 9 (.tmp 74)),
 .op 4 (.mov 76 (.tmp 2)),
 .op 5 (.build 77 [.str [], .str [], .int .i64 0, .int .i64 0, .int .i64 0, .int .i64 0, .int .i64 0, .int .i64 0, .bool false, .int .i64 0] [(0, 9, .tmp 75), (9, 1, .tmp 76)]),
 .op 6 (.call 78 88 [.tmp 73, .tmp 77])] [(3, 1)])
 .skip))))))))))))
 (.region [.op 0 (.bin 79 .add .plain (.tmp 21) (.const (.int .i64 1))),
 .op 1 (.mov 21 (.tmp 79))] [])))))))
 (.seq (.region [.op 0 (.mov 80 (.tmp 8)),
 .op 1 (.mov 81 (.tmp 9)),
 .op 2 (.mov 6 (.tmp 80)),
 .op 3 (.mov 7 (.tmp 81))] [])
 .ret))))))),
 [.tmp 6, .tmp 7]⟩
theorem ok53 : funcOk Tryz.prog (drawOk Tryz.prog) Tryz.f53 A53 = true := by kernel_rfl
noncomputable def A57 : AFunc := ⟨2, (.seq (.region [.op 0 (.mov 4 (.const (.nilPtr)))] [])
 (.seq (.seq (.region [.op 0 (.mov 5 (.tmp 1)),
 .op 1 (.bin 6 .lss .plain (.tmp 5) (.const (.int .i64 0))),
 .op 2 (.mov 7 (.tmp 6)),
 .guard 7 false [.op 3 (.mov 8 (.tmp 1)),
 .op 4 (.mov 9 (.tmp 0)),
 .op 5 (.nilchk 10 (.tmp 9)),
 .op 6 (.faddr 11 1 (.tmp 10)),
 .op 7 (.load 12 false 1 (.tmp 11)),
 .op 8 (.len 13 false (.tmp 12)),
 .op 9 (.bin 14 .geq .plain (.tmp 8) (.tmp 13))] [] [14],
 .op 10 (.pick 15 (.tmp 7) (.const (.bool true)) (.tmp 14))] [])
 (.cond (.tmp 15)
 (.seq (.region [.op 0 (.mov 4 (.const (.nilPtr)))] [])
 .ret)
 .skip))
 (.seq (.region [.op 0 (.mov 16 (.tmp 0)),
 .op 1 (.nilchk 17 (.tmp 16)),
 .op 2 (.faddr 18 1 (.tmp 17)),
 .op 3 (.load 19 false 1 (.tmp 18)),
 .op 4 (.mov 20 (.tmp 1)),
 .op 5 (.iaddr 21 none 1 (.tmp 19) (.tmp 20)),
 .op 6 (.load 22 false 1 (.tmp 21)),
 .op 7 (.mov 4 (.tmp 22))] [])
 .ret))),
 [.tmp 4]⟩
theorem ok57 : funcOk Tryz.prog (drawOk Tryz.prog) Tryz.f57 A57 = true := by kernel_rfl
noncomputable def A58 : AFunc := ⟨2, (.seq (.region [.op 0 (.mov 4 (.const (.nilPtr)))] [])
 (.seq (.seq (.region [.op 0 (.mov 5 (.tmp 1)),
 .op 1 (.bin 6 .lss .plain (.tmp 5) (.const (.int .i64 0))),
 .op 2 (.mov 7 (.tmp 6)),
 .guard 7 false [.op 3 (.mov 8 (.tmp 1)),
 .op 4 (.mov 9 (.tmp 0)),
 .op 5 (.nilchk 10 (.tmp 9)),
 .op 6 (.faddr 11 0 (.tmp 10)),
 .op 7 (.load 12 false 1 (.tmp 11)),
 .op 8 (.len 13 false (.tmp 12)),
 .op 9 (.bin 14 .geq .plain (.tmp 8) (.tmp 13))] [] [14],
 .op 10 (.pick 15 (.tmp 7) (.const (.bool true)) (.tmp 14))] [])
 (.cond (.tmp 15)
 (.seq (.region [.op 0 (.mov 4 (.const (.nilPtr)))] [])
 .ret)
 .skip))
 (.seq (.region [.op 0 (.mov 16 (.tmp 0)),
 .op 1 (.nilchk 17 (.tmp 16)),
 .op 2 (.faddr 18 0 (.tmp 17)),
 .op 3 (.load 19 false 1 (.tmp 18)),
 .op 4 (.mov 20 (.tmp 1)),
 .op 5 (.iaddr 21 none 1 (.tmp 19) (.tmp 20)),
 .op 6 (.load 22 false 1 (.tmp 21)),
 .op 7 (.mov 4 (.tmp 22))] [])
 .ret))),
 [.tmp 4]⟩
theorem ok58 : funcOk Tryz.prog (drawOk Tryz.prog) Tryz.f58 A58 = true := by kernel_rfl
noncomputable def A59 : AFunc := ⟨2, (.seq (.region [.op 0 (.mov 4 (.const (.int .i64 0))),
 .op 1 (.mov 5 (.const (.bool false)))] [])
 (.seq (.region [.op 0 (.mov 6 (.const (.int .i64 0)))] [])
 (.seq (.block 0 (.loop ⟨[0, 1, 6], []⟩ [((.exit 0), ⟨[0, 6], []⟩), (.ret, ⟨[4, 5], []⟩)]
 (.seq (.seq (.region [.op 0 (.mov 8 (.tmp 6)),
 .op 1 (.mov 9 (.tmp 1)),
 .op 2 (.bin 10 .lss .plain (.tmp 8) (.tmp 9)),
 .op 3 (.mov 11 (.tmp 10)),
 .guard 11 true [.op 4 (.mov 12 (.tmp 0)),
 .op 5 (.nilchk 13 (.tmp 12)),
 .op 6 (.faddr 14 0 (.tmp 13)),
 .op 7 (.load 15 false 1 (.tmp 14)),
 .op 8 (.call 16 93 [.tmp 15]),
 .op 9 (.call 17 94 [.tmp 16]),
 .op 10 (.bin 18 .gtr .plain (.tmp 17) (.const (.int .i64 0)))] [] [18],
 .op 11 (.pick 19 (.tmp 11) (.tmp 18) (.const (.bool false)))] [])
 (.cond (.tmp 19)
 .skip
 (.exit 0)))
 (.block 1 (.seq (.region [.op 0 (.mov 20 (.tmp 0)),
 .op 1 (.nilchk 21 (.tmp 20)),
 .op 2 (.faddr 22 0 (.tmp 21)),
 .op 3 (.load 23 false 1 (.tmp 22)),
 .op 4 (.call 24 93 [.tmp 23]),
 .op 5 (.call 25 95 [.tmp 24]),
 .op 6 (.iaddr 26 none 3 (.tmp 25) (.const (.int .i64 0))),
 .op 7 (.load 27 true 3 (.tmp 26)),
 .op 8 (.alloc 7 true [.int .i64 0, .int .i64 0, .nilSlice]),
 .op 9 (.store true 3 (.tmp 7) (.tmp 27))] [])
 (.seq (.seq (.region [.op 0 (.mov 28 (.tmp 0)),
 .op 1 (.nilchk 29 (.tmp 28)),
 .op 2 (.faddr 30 0 (.tmp 29)),
 .op 3 (.load 31 false 1 (.tmp 30)),
 .op 4 (.call 32 93 [.tmp 31]),
 .op 5 (.faddr 33 0 (.tmp 7)),
 .op 6 (.load 34 false 1 (.tmp 33)),
 .op 7 (.faddr 35 1 (.tmp 7)),
 .op 8 (.load 36 false 1 (.tmp 35)),
 .op 9 (.call 37 96 [.tmp 32, .tmp 34, .tmp 36])] [(6, 4), (8, 4)])
 (.cond (.tmp 37)
 (.seq (.region [.op 0 (.mov 38 (.tmp 6)),
 .op 1 (.mov 4 (.tmp 38)),
 .op 2 (.mov 5 (.const (.bool false)))] [])
 .ret)
 .skip))
 (.seq (.region [.op 0 (.mov 39 (.tmp 0)),
 .op 1 (.build 40 [.int .i64 0, .int .i64 0, .int .i64 0, .int .i64 0, .int .i64 0, .int .i64 0, .str []] [(0, 1, .const (.int .i64 2))]),
 .op 2 (.call 41 97 [.tmp 39, .tmp 40])] [])
 (.region [.op 0 (.mov 42 (.tmp 6)),
 .op 1 (.bin 43 .add .plain (.tmp 42) (.const (.int .i64 1))),
 .op 2 (.mov 6 (.tmp 43))] []))))))))
 (.seq (.region [.op 0 (.mov 44 (.tmp 6)),
 .op 1 (.mov 45 (.tmp 0)),
 .op 2 (.nilchk 46 (.tmp 45)),
 .op 3 (.faddr 47 0 (.tmp 46)),
 .op 4 (.load 48 false 1 (.tmp 47)),
 .op 5 (.call 49 93 [.tmp 48]),
 .op 6 (.call 50 94 [.tmp 49]),
 .op 7 (.bin 51 .eql .plain (.tmp 50) (.const (.int .i64 0))),
 .op 8 (.mov 4 (.tmp 44)),
 .op 9 (.mov 5 (.tmp 51))] [])
 .ret)))),
 [.tmp 4, .tmp 5]⟩
theorem ok59 : funcOk Tryz.prog (drawOk Tryz.prog) Tryz.f59 A59 = true := by kernel_rfl
noncomputable def A60 : AFunc := ⟨1, (.seq (.region [.op 0 (.mov 2 (.const (.nilPtr)))] [])
 (.seq (.seq (.region [.op 0 (.mov 3 (.tmp 0)),
 .op 1 (.bin 4 .lss .plain (.tmp 3) (.const (.int .i64 1))),
 .op 2 (.mov 5 (.tmp 4)),
 .guard 5 false [.op 3 (.mov 6 (.tmp 0)),
 .op 4 (.bin 7 .gtr .plain (.tmp 6) (.const (.int .i64 6)))] [] [7],
 .op 5 (.pick 8 (.tmp 5) (.const (.bool true)) (.tmp 7))] [])
 (.cond (.tmp 8)
 (.seq (.region [.op 0 (.mov 2 (.const (.nilPtr)))] [])
 .ret)
 .skip))
 (.seq (.region [.op 0 (.mov 9 (.tmp 0)),
 .op 1 (.mkSlice 10 1 8 [.int .i64 0] (.tmp 9) (.tmp 9)),
 .op 2 (.build 11 [.nilSlice] [(0, 1, .tmp 10)]),
 .op 3 (.box 12 false (.tmp 11)),
 .op 4 (.mov 2 (.tmp 12))] [])
 .ret))),
 [.tmp 2]⟩
theorem ok60 : funcOk Tryz.prog (drawOk Tryz.prog) Tryz.f60 A60 = true := by kernel_rfl
noncomputable def A61 : AFunc := ⟨1, (.seq (.region [.op 0 (.mov 2 (.const (.str [])))] [])
 (.seq (.region [.op 0 (.mov 3 (.tmp 0)),
 .op 1 (.call 4 98 [.tmp 3]),
 .op 2 (.mov 2 (.tmp 4))] [])
 .ret)),
 [.tmp 2]⟩
theorem ok61 : funcOk Tryz.prog (drawOk Tryz.prog) Tryz.f61 A61 = true := by kernel_rfl
noncomputable def A62 : AFunc := ⟨2, (.seq (.region [.op 0 (.box 2 true (.tmp 0)),
 .op 1 (.mov 4 (.const (.nilPtr)))] [])
 (.seq (.seq (.region [.op 0 (.faddr 5 0 (.tmp 2)),
 .op 1 (.load 6 false 1 (.tmp 5)),
 .op 2 (.call 7 99 [.tmp 6]),
 .op 3 (.un 8 .not (.tmp 7)),
 .op 4 (.mov 9 (.tmp 8)),
 .guard 9 false [.op 5 (.faddr 10 1 (.tmp 2)),
 .op 6 (.load 11 false 1 (.tmp 10)),
 .op 7 (.call 12 99 [.tmp 11]),
 .op 8 (.un 13 .not (.tmp 12))] [] [13],
 .op 9 (.pick 14 (.tmp 9) (.const (.bool true)) (.tmp 13)),
 .op 10 (.mov 15 (.tmp 14)),
 .guard 15 false [.op 11 (.mov 16 (.tmp 1)),
 .op 12 (.len 17 false (.tmp 16)),
 .op 13 (.bin 18 .lss .plain (.tmp 17) (.const (.int .i64 1)))] [] [18],
 .op 14 (.pick 19 (.tmp 15) (.const (.bool true)) (.tmp 18)),
 .op 15 (.mov 20 (.tmp 19)),
 .guard 20 false [.op 16 (.mov 21 (.tmp 1)),
 .op 17 (.len 22 false (.tmp 21)),
 .op 18 (.bin 23 .gtr .plain (.tmp 22) (.const (.int .i64 6)))] [] [23],
 .op 19 (.pick 24 (.tmp 20) (.const (.bool true)) (.tmp 23))] [])
 (.cond (.tmp 24)
 (.seq (.region [.op 0 (.mov 4 (.const (.nilPtr)))] [])
 .ret)
 .skip))
 (.seq (.region [.op 0 (.load 25 true 2 (.tmp 2)),
 .op 1 (.mov 26 (.tmp 1)),
 .op 2 (.call 27 69 [.tmp 26]),
 .op 3 (.call 28 100 []),
 .op 4 (.build 29 [.str [], .str [], .nilSlice, .int .i64 0, .int .i64 0, .nilPtr, .nilSlice, .bool false, .int .i64 0, .int .i64 0, .int .i64 0, .bool false, .bool false, .int .i64 0, .int .i64 0, .int .i64 0, .int .i64 0, .int .i64 0, .int .i64 0, .int .i64 0, .str [], .str [], .bool false, .int .u32 0, .nilSlice, .nilSlice, .int .i64 0, .bool false, .int .i64 0, .bool false, .int .i64 0] [(0, 2, .tmp 25), (2, 1, .tmp 27), (5, 1, .tmp 28)]),
 .op 5 (.box 30 false (.tmp 29)),
 .op 6 (.mov 4 (.tmp 30))] [(0, 2), (0, 3)])
 .ret))),
 [.tmp 4]⟩
theorem ok62 : funcOk Tryz.prog (drawOk Tryz.prog) Tryz.f62 A62 = true := by kernel_rfl
noncomputable def A63 : AFunc := ⟨3, (.seq (.region [.op 0 (.box 5 true (.tmp 2)),
 .op 1 (.alloc 6 true [.int .i64 0, .int .i64 0, .int .i64 0, .nilSlice, .int .i64 0])] [])
 (.seq (.seq (.region [.op 0 (.faddr 8 0 (.tmp 5)),
 .op 1 (.load 9 false 1 (.tmp 8))] [])
 (.block 0 (.seq (.region [.op 0 (.bin 11 .eql .plain (.tmp 9) (.const (.int .i64 1))),
 .op 1 (.mov 10 (.tmp 11))] [])
 (.cond (.tmp 10)
 (.seq (.region [.op 0 (.mov 12 (.tmp 0)),
 .op 1 (.mov 13 (.tmp 1)),
 .op 2 (.load 14 true 7 (.tmp 5)),
 .op 3 (.call 15 101 [.tmp 12, .tmp 13, .tmp 14]),
 .op 4 (.store true 5 (.tmp 6) (.tmp 15))] [])
 .ret)
 (.seq (.region [.op 0 (.bin 17 .eql .plain (.tmp 9) (.const (.int .i64 2))),
 .op 1 (.mov 16 (.tmp 17))] [])
 (.cond (.tmp 16)
 (.seq (.region [.op 0 (.mov 18 (.tmp 0)),
 .op 1 (.mov 19 (.tmp 1)),
 .op 2 (.faddr 20 5 (.tmp 5)),
 .op 3 (.load 21 false 1 (.tmp 20)),
 .op 4 (.call 22 102 [.tmp 18, .tmp 19, .tmp 21]),
 .op 5 (.store true 5 (.tmp 6) (.tmp 22))] [])
 .ret)
 (.seq (.region [.op 0 (.bin 24 .eql .plain (.tmp 9) (.const (.int .i64 3))),
 .op 1 (.mov 23 (.tmp 24))] [])
 (.cond (.tmp 23)
 (.seq (.region [.op 0 (.mov 25 (.tmp 1)),
 .op 1 (.faddr 26 5 (.tmp 5)),
 .op 2 (.load 27 false 1 (.tmp 26)),
 .op 3 (.invoke 28 [(58, 214, none), (85, 258, none), (90, 258, some (0, 1, false)), (91, 258, some (0, 1, false))] (.tmp 25) [.tmp 27]),
 .op 4 (.build 29 [.int .i64 0, .int .i64 0, .int .i64 0, .nilSlice, .int .i64 0] [(0, 1, .tmp 28)]),
 .op 5 (.store true 5 (.tmp 6) (.tmp 29))] [])
 .ret)
 (.seq (.region [.op 0 (.bin 31 .eql .plain (.tmp 9) (.const (.int .i64 4))),
 .op 1 (.mov 30 (.tmp 31))] [])
 (.cond (.tmp 30)
 (.seq (.region [.op 0 (.mov 32 (.tmp 1)),
 .op 1 (.faddr 33 5 (.tmp 5)),
 .op 2 (.load 34 false 1 (.tmp 33)),
 .op 3 (.invoke 35 [(85, 261, none), (90, 261, some (0, 1, false)), (91, 261, some (0, 1, false))] (.tmp 32) [.tmp 34]),
 .op 4 (.build 36 [.int .i64 0, .int .i64 0, .int .i64 0, .nilSlice, .int .i64 0] [(0, 1, .tmp 35)]),
 .op 5 (.store true 5 (.tmp 6) (.tmp 36))] [])
 .ret)
 (.seq (.region [.op 0 (.bin 38 .eql .plain (.tmp 9) (.const (.int .i64 5))),
 .op 1 (.mov 37 (.tmp 38))] [])
 (.cond (.tmp 37)
 (.seq (.region [.op 0 (.mov 39 (.tmp 1)),
 .op 1 (.faddr 40 1 (.tmp 5)),
 .op 2 (.load 41 false 1 (.tmp 40)),
 .op 3 (.faddr 42 2 (.tmp 5)),
 .op 4 (.load 43 false 1 (.tmp 42)),
 .op 5 (.invoke 44 [(85, 256, none), (90, 256, some (0, 1, false)), (91, 256, some (0, 1, false))] (.tmp 39) [.tmp 41, .tmp 43]),
 .op 6 (.build 45 [.int .i64 0, .int .i64 0, .int .i64 0, .nilSlice, .int .i64 0] [(0, 1, .tmp 44)]),
 .op 7 (.store true 5 (.tmp 6) (.tmp 45))] [])
 .ret)
 (.seq (.region [.op 0 (.bin 47 .eql .plain (.tmp 9) (.const (.int .i64 6))),
 .op 1 (.mov 46 (.tmp 47))] [])
 (.cond (.tmp 46)
 (.seq (.region [.op 0 (.mov 48 (.tmp 1)),
 .op 1 (.faddr 49 1 (.tmp 5)),
 .op 2 (.load 50 false 1 (.tmp 49)),
 .op 3 (.faddr 51 2 (.tmp 5)),
 .op 4 (.load 52 false 1 (.tmp 51)),
 .op 5 (.invoke 53 [(85, 259, none), (90, 259, some (0, 1, false)), (91, 259, some (0, 1, false))] (.tmp 48) [.tmp 50, .tmp 52]),
 .op 6 (.build 54 [.int .i64 0, .int .i64 0, .int .i64 0, .nilSlice, .int .i64 0] [(0, 1, .tmp 53)]),
 .op 7 (.store true 5 (.tmp 6) (.tmp 54))] [])
 .ret)
 (.seq (.region [.op 0 (.bin 56 .eql .plain (.tmp 9) (.const (.int .i64 7))),
 .op 1 (.mov 55 (.tmp 56))] [])
 (.cond (.tmp 55)
 (.seq (.region [.op 0 (.mov 57 (.tmp 0)),
 .op 1 (.faddr 58 1 (.tmp 5)),
 .op 2 (.load 59 false 1 (.tmp 58)),
 .op 3 (.call 60 58 [.tmp 57, .tmp 59]),
 .op 4 (.mov 7 (.tmp 60))] [])
 (.seq (.seq (.region [.op 0 (.mov 61 (.tmp 7)),
 .op 1 (.bin 62 .eql .ptr (.tmp 61) (.const (.nilPtr)))] [])
 (.cond (.tmp 62)
 (.seq (.region [.op 0 (.build 63 [.int .i64 0, .int .i64 0, .int .i64 0, .nilSlice, .int .i64 0] [(0, 1, .const (.int .i64 23))]),
 .op 1 (.store true 5 (.tmp 6) (.tmp 63))] [])
 .ret)
 .skip))
 (.seq (.region [.op 0 (.mov 64 (.tmp 7)),
 .op 1 (.call 65 103 [.tmp 64])] [])
 (.seq (.region [.op 0 (.faddr 66 1 (.tmp 5)),
 .op 1 (.load 67 false 1 (.tmp 66)),
 .op 2 (.build 68 [.int .i64 0, .int .i64 0, .int .i64 0, .nilSlice, .int .i64 0] [(1, 1, .tmp 67)]),
 .op 3 (.store true 5 (.tmp 6) (.tmp 68))] [])
 .ret))))
 (.seq (.seq (.region [.op 0 (.bin 70 .eql .plain (.tmp 9) (.const (.int .i64 8))),
 .op 1 (.mov 69 (.tmp 70))] [])
 (.join [(.normal, ⟨[0, 69], [5, 6]⟩)] (.cond (.tmp 69)
 .skip
 (.region [.op 0 (.bin 71 .eql .plain (.tmp 9) (.const (.int .i64 9))),
 .op 1 (.mov 69 (.tmp 71))] []))))
 (.cond (.tmp 69)
 (.seq (.region [.op 0 (.mov 72 (.tmp 0)),
 .op 1 (.load 73 true 7 (.tmp 5)),
 .op 2 (.call 74 104 [.tmp 72, .tmp 73]),
 .op 3 (.store true 5 (.tmp 6) (.tmp 74))] [])
 .ret)
 .skip))))))))))))))))))
 (.seq (.region [.op 0 (.build 75 [.int .i64 0, .int .i64 0, .int .i64 0, .nilSlice, .int .i64 0] [(0, 1, .const (.int .i64 1))]),
 .op 1 (.store true 5 (.tmp 6) (.tmp 75))] [])
 .ret))),
 [.cell 6 true 5]⟩
theorem ok63 : funcOk Tryz.prog (drawOk Tryz.prog) Tryz.f63 A63 = true := by kernel_rfl
noncomputable def A64 : AFunc := ⟨1, (.seq (.region [.op 0 (.mov 2 (.const (.int .i64 0)))] [])
 (.seq (.region [.op 0 (.mov 3 (.tmp 0)),
 .op 1 (.minmax 4 false [.tmp 3, .const (.int .i64 1099511627776)]),
 .op 2 (.minmax 5 true [.const (.int .i64 0), .tmp 4]),
 .op 3 (.mov 2 (.tmp 5))] [])
 .ret)),
 [.tmp 2]⟩
theorem ok64 : funcOk Tryz.prog (drawOk Tryz.prog) Tryz.f64 A64 = true := by kernel_rfl
noncomputable def A65 : AFunc := ⟨1, (.seq (.region [.op 0 (.mov 2 (.const (.nilPtr)))] [])
 (.seq (.region [.op 0 (.mov 3 (.tmp 0)),
 .op 1 (.minmax 4 false [.tmp 3, .const (.int .i64 32)]),
 .op 2 (.minmax 5 true [.const (.int .i64 0), .tmp 4]),
 .op 3 (.build 6 [.int .i64 0, .nilSlice] [(0, 1, .tmp 5)]),
 .op 4 (.box 7 false (.tmp 6)),
 .op 5 (.mov 2 (.tmp 7))] [])
 .ret)),
 [.tmp 2]⟩
theorem ok65 : funcOk Tryz.prog (drawOk Tryz.prog) Tryz.f65 A65 = true := by kernel_rfl
noncomputable def A66 : AFunc := ⟨1, (.seq (.region [.op 0 (.mov 2 (.const (.nilPtr)))] [])
 (.seq (.region [.op 0 (.mov 3 (.tmp 0)),
 .op 1 (.build 4 [.int .i64 0, .int .i64 0, .int .i64 0] [(0, 1, .tmp 3)]),
 .op 2 (.box 5 false (.tmp 4)),
 .op 3 (.mov 2 (.tmp 5))] [])
 .ret)),
 [.tmp 2]⟩
theorem ok66 : funcOk Tryz.prog (drawOk Tryz.prog) Tryz.f66 A66 = true := by kernel_rfl
noncomputable def A67 : AFunc := ⟨0, (.seq (.region [.op 0 (.mov 0 (.const (.nilPtr)))] [])
 (.seq (.region [.op 0 (.build 1 [.int .i64 0, .nilSlice] []),
 .op 1 (.box 2 false (.tmp 1)),
 .op 2 (.mov 0 (.tmp 2))] [])
 .ret)),
 [.tmp 0]⟩
theorem ok67 : funcOk Tryz.prog (drawOk Tryz.prog) Tryz.f67 A67 = true := by kernel_rfl
noncomputable def A68 : AFunc := ⟨2, (.seq (.region [.op 0 (.mov 4 (.const (.bool false)))] [])
 (.seq (.region [.op 0 (.mov 5 (.tmp 0)),
 .op 1 (.mov 6 (.tmp 1)),
 .op 2 (.call 7 105 [.tmp 5, .tmp 6]),
 .op 3 (.bin 8 .geq .plain (.tmp 7) (.const (.int .i64 0))),
 .op 4 (.mov 4 (.tmp 8))] [])
 .ret)),
 [.tmp 4]⟩
theorem ok68 : funcOk Tryz.prog (drawOk Tryz.prog) Tryz.f68 A68 = true := by kernel_rfl
noncomputable def A69 : AFunc := ⟨1, (.seq (.region [.op 0 (.mov 2 (.const (.nilSlice)))] [])
 (.seq (.seq (.region [.op 0 (.mov 3 (.tmp 0)),
 .op 1 (.bin 4 .eql .slice (.tmp 3) (.const (.nilSlice)))] [])
 (.cond (.tmp 4)
 (.seq (.region [.op 0 (.mov 2 (.const (.nilSlice)))] [])
 .ret)
 .skip))
 (.seq (.region [.op 0 (.buildSl 5 [.int .i64 0] 1 0 []),
 .op 1 (.mov 6 (.tmp 0)),
 .op 2 (.append 7 1 8 [.int .i64 0] false (.tmp 5) (.tmp 6)),
 .op 3 (.mov 2 (.tmp 7))] [])
 .ret))),
 [.tmp 2]⟩
theorem ok69 : funcOk Tryz.prog (drawOk Tryz.prog) Tryz.f69 A69 = true := by kernel_rfl
noncomputable def A70 : AFunc := ⟨1, (.seq (.region [.op 0 (.alloc 2 true [.str [], .str []])] [])
 (.seq (.regionF 2 [.op 0 (.fl 3 0 (some (1, 4)) [.str []] [(0, .const (.str [97, 112, 112])), (1, .const (.str [98])), (2, .const (.str [97, 112, 112, 49])), (3, .const (.str [122, 57]))]),
 .op 1 (.mov 4 (.tmp 0)),
 .op 2 (.call 5 48 [.tmp 4, .const (.int .i64 4)]),
 .op 3 (.iaddr 6 none 1 (.tmp 3) (.tmp 5)),
 .op 4 (.load 7 false 1 (.tmp 6)),
 .op 5 (.fl 8 1 (some (1, 5)) [.str []] [(0, .const (.str [105, 100])), (1, .const (.str [97])), (2, .const (.str [105, 100, 50])), (3, .const (.str [120, 48])), (4, .const (.str [109]))]),
 .op 6 (.mov 9 (.tmp 0)),
 .op 7 (.call 10 48 [.tmp 9, .const (.int .i64 5)]),
 .op 8 (.iaddr 11 none 1 (.tmp 8) (.tmp 10)),
 .op 9 (.load 12 false 1 (.tmp 11)),
 .op 10 (.build 13 [.str [], .str []] [(0, 1, .tmp 7), (1, 1, .tmp 12)]),
 .op 11 (.store true 2 (.tmp 2) (.tmp 13))] [(4, 7)])
 .ret)),
 [.cell 2 true 2]⟩
theorem ok70 : funcOk Tryz.prog (drawOk Tryz.prog) Tryz.f70 A70 = true := by kernel_rfl
noncomputable def A71 : AFunc := ⟨1, (.seq (.region [.op 0 (.alloc 2 true [.int .i64 0, .int .i64 0, .int .i64 0])] [])
 (.seq (.region [.op 0 (.mov 3 (.tmp 0)),
 .op 1 (.call 4 48 [.tmp 3, .const (.int .i64 40)]),
 .op 2 (.mov 5 (.tmp 0)),
 .op 3 (.call 6 48 [.tmp 5, .const (.int .i64 6)]),
 .op 4 (.mov 7 (.tmp 0)),
 .op 5 (.call 8 48 [.tmp 7, .const (.int .i64 9)]),
 .op 6 (.build 9 [.int .i64 0, .int .i64 0, .int .i64 0] [(0, 1, .tmp 4), (1, 1, .tmp 6), (2, 1, .tmp 8)]),
 .op 7 (.store true 3 (.tmp 2) (.tmp 9))] [])
 .ret)),
 [.cell 2 true 3]⟩
theorem ok71 : funcOk Tryz.prog (drawOk Tryz.prog) Tryz.f71 A71 = true := by kernel_rfl
noncomputable def A73 : AFunc := ⟨1, (.seq (.region [.op 0 (.box 1 true (.tmp 0)),
 .op 1 (.mov 2 (.const (.bool false)))] [])
 (.seq (.seq (.region [.op 0 (.faddr 3 0 (.tmp 1)),
 .op 1 (.load 4 false 1 (.tmp 3))] [])
 (.block 0 (.seq (.region [.op 0 (.bin 6 .eql .plain (.tmp 4) (.const (.int .i64 1))),
 .op 1 (.mov 5 (.tmp 6))] [])
 (.join [(.normal, ⟨[], [1]⟩)] (.cond (.tmp 5)
 (.region [.op 0 (.build 7 [.str [], .str []] []),
 .op 1 (.faddr 8 4 (.tmp 1)),
 .op 2 (.store false 1 (.tmp 8) (.const (.int .i64 0))),
 .op 3 (.faddr 9 1 (.tmp 1)),
 .op 4 (.store false 1 (.tmp 9) (.const (.int .i64 0))),
 .op 5 (.faddr 10 7 (.tmp 1)),
 .op 6 (.store true 2 (.tmp 10) (.tmp 7)),
 .op 7 (.faddr 11 5 (.tmp 1)),
 .op 8 (.store false 1 (.tmp 11) (.const (.int .i64 0))),
 .op 9 (.faddr 12 2 (.tmp 1)),
 .op 10 (.store false 1 (.tmp 12) (.const (.int .i64 0))),
 .op 11 (.faddr 13 6 (.tmp 1)),
 .op 12 (.store false 1 (.tmp 13) (.const (.int .i64 0)))] [])
 (.seq (.region [.op 0 (.bin 15 .eql .plain (.tmp 4) (.const (.int .i64 2))),
 .op 1 (.mov 14 (.tmp 15))] [])
 (.join [(.normal, ⟨[], [1]⟩)] (.cond (.tmp 14)
 (.region [.op 0 (.build 16 [.str [], .str []] []),
 .op 1 (.faddr 17 4 (.tmp 1)),
 .op 2 (.store false 1 (.tmp 17) (.const (.int .i64 0))),
 .op 3 (.faddr 18 1 (.tmp 1)),
 .op 4 (.store false 1 (.tmp 18) (.const (.int .i64 0))),
 .op 5 (.faddr 19 7 (.tmp 1)),
 .op 6 (.store true 2 (.tmp 19) (.tmp 16)),
 .op 7 (.faddr 20 3 (.tmp 1)),
 .op 8 (.store false 1 (.tmp 20) (.const (.int .i64 0))),
 .op 9 (.faddr 21 9 (.tmp 1)),
 .op 10 (.store false 1 (.tmp 21) (.const (.bool false))),
 .op 11 (.faddr 22 6 (.tmp 1)),
 .op 12 (.store false 1 (.tmp 22) (.const (.int .i64 0))),
 .op 13 (.faddr 23 10 (.tmp 1)),
 .op 14 (.store false 1 (.tmp 23) (.const (.int .u32 0))),
 .op 15 (.faddr 24 11 (.tmp 1)),
 .op 16 (.store false 1 (.tmp 24) (.const (.nilSlice)))] [])
 (.seq (.seq (.region [.op 0 (.bin 26 .eql .plain (.tmp 4) (.const (.int .i64 3))),
 .op 1 (.mov 25 (.tmp 26))] [])
 (.join [(.normal, ⟨[4, 25], [1]⟩)] (.cond (.tmp 25)
 .skip
 (.region [.op 0 (.bin 27 .eql .plain (.tmp 4) (.const (.int .i64 4))),
 .op 1 (.mov 25 (.tmp 27))] []))))
 (.join [(.normal, ⟨[], [1]⟩)] (.cond (.tmp 25)
 (.region [.op 0 (.faddr 28 11 (.tmp 1)),
 .op 1 (.store false 1 (.tmp 28) (.const (.nilSlice)))] [])
 (.seq (.region [.op 0 (.bin 30 .eql .plain (.tmp 4) (.const (.int .i64 5))),
 .op 1 (.mov 29 (.tmp 30))] [])
 (.join [(.normal, ⟨[], [1]⟩)] (.cond (.tmp 29)
 (.region [.op 0 (.faddr 31 12 (.tmp 1)),
 .op 1 (.store false 1 (.tmp 31) (.const (.nilSlice)))] [])
 .skip))))))))))))))
 (.seq (.region [.op 0 (.faddr 32 0 (.tmp 1)),
 .op 1 (.store false 1 (.tmp 32) (.const (.int .i64 0)))] [])
 (.seq (.region [.op 0 (.load 33 true 13 (.tmp 1)),
 .op 1 (.build 34 [.int .i64 0, .int .i64 0, .int .i64 0, .int .i64 0, .int .i64 0, .int .i64 0, .int .i64 0, .str [], .str [], .bool false, .int .u32 0, .nilSlice, .nilSlice] []),
 .op 2 (.call 35 106 [.tmp 33, .tmp 34]),
 .op 3 (.mov 2 (.tmp 35))] [])
 .ret)))),
 [.tmp 2]⟩
theorem ok73 : funcOk Tryz.prog (drawOk Tryz.prog) Tryz.f73 A73 = true := by kernel_rfl
noncomputable def A74 : AFunc := ⟨1, (.seq (.region [.op 0 (.box 1 true (.tmp 0)),
 .op 1 (.mov 2 (.const (.bool false)))] [])
 (.seq (.block 0 (.seq (.region [.op 0 (.load 4 true 13 (.tmp 1)),
 .op 1 (.call 5 107 [.tmp 4]),
 .op 2 (.un 6 .not (.tmp 5)),
 .op 3 (.mov 3 (.tmp 6))] [])
 (.cond (.tmp 3)
 (.seq (.region [.op 0 (.mov 2 (.const (.bool true)))] [])
 .ret)
 (.seq (.region [.op 0 (.faddr 8 1 (.tmp 1)),
 .op 1 (.load 9 false 1 (.tmp 8)),
 .op 2 (.bin 10 .eql .plain (.tmp 9) (.const (.int .i64 5))),
 .op 3 (.mov 7 (.tmp 10))] [])
 (.cond (.tmp 7)
 (.seq (.region [.op 0 (.faddr 11 7 (.tmp 1)),
 .op 1 (.load 12 true 2 (.tmp 11)),
 .op 2 (.build 13 [.str [], .str []] []),
 .op 3 (.bin 14 .eql (.cells [2, 2]) (.tmp 12) (.tmp 13)),
 .op 4 (.mov 2 (.tmp 14))] [])
 .ret)
 .skip)))))
 (.seq (.region [.op 0 (.faddr 15 1 (.tmp 1)),
 .op 1 (.load 16 false 1 (.tmp 15)),
 .op 2 (.bin 17 .geq .plain (.tmp 16) (.const (.int .i64 1))),
 .op 3 (.mov 18 (.tmp 17)),
 .guard 18 true [.op 4 (.faddr 19 1 (.tmp 1)),
 .op 5 (.load 20 false 1 (.tmp 19)),
 .op 6 (.bin 21 .lss .plain (.tmp 20) (.const (.int .i64 5)))] [] [21],
 .op 7 (.pick 22 (.tmp 18) (.tmp 21) (.const (.bool false))),
 .op 8 (.mov 23 (.tmp 22)),
 .guard 23 true [.op 9 (.faddr 24 7 (.tmp 1)),
 .op 10 (.load 25 true 2 (.tmp 24)),
 .op 11 (.call 26 81 [.tmp 25])] [] [26],
 .op 12 (.pick 27 (.tmp 23) (.tmp 26) (.const (.bool false))),
 .op 13 (.mov 2 (.tmp 27))] [])
 .ret))),
 [.tmp 2]⟩
theorem ok74 : funcOk Tryz.prog (drawOk Tryz.prog) Tryz.f74 A74 = true := by kernel_rfl
noncomputable def A75 : AFunc := ⟨1, (.seq (.region [.op 0 (.mov 2 (.const (.bool false)))] [])
 (.seq (.region [.op 0 (.mov 3 (.tmp 0)),
 .op 1 (.bin 4 .geq .plain (.tmp 3) (.const (.int .i64 0))),
 .op 2 (.mov 5 (.tmp 4)),
 .guard 5 true [.op 3 (.mov 6 (.tmp 0)),
 .op 4 (.bin 7 .leq .plain (.tmp 6) (.const (.int .i64 255)))] [] [7],
 .op 5 (.pick 8 (.tmp 5) (.tmp 7) (.const (.bool false))),
 .op 6 (.mov 2 (.tmp 8))] [])
 .ret)),
 [.tmp 2]⟩
theorem ok75 : funcOk Tryz.prog (drawOk Tryz.prog) Tryz.f75 A75 = true := by kernel_rfl
noncomputable def A76 : AFunc := ⟨2, (.seq (.region [.op 0 (.mov 4 (.const (.bool false)))] [])
 (.seq (.region [.op 0 (.mov 5 (.tmp 0)),
 .op 1 (.mov 6 (.tmp 1)),
 .op 2 (.call 7 108 [.tmp 5, .tmp 6]),
 .op 3 (.bin 8 .geq .plain (.tmp 7) (.const (.int .i64 0))),
 .op 4 (.mov 4 (.tmp 8))] [])
 .ret)),
 [.tmp 4]⟩
theorem ok76 : funcOk Tryz.prog (drawOk Tryz.prog) Tryz.f76 A76 = true := by kernel_rfl
noncomputable def A77 : AFunc := ⟨1, (.seq (.region [.op 0 (.box 1 true (.tmp 0)),
 .op 1 (.mov 2 (.const (.bool false)))] [])
 (.seq (.region [.op 0 (.load 3 true 9 (.tmp 1)),
 .op 1 (.call 4 78 [.tmp 3]),
 .op 2 (.un 5 .not (.tmp 4)),
 .op 3 (.mov 2 (.tmp 5))] [])
 .ret)),
 [.tmp 2]⟩
theorem ok77 : funcOk Tryz.prog (drawOk Tryz.prog) Tryz.f77 A77 = true := by kernel_rfl
noncomputable def A78 : AFunc := ⟨1, (.seq (.region [.op 0 (.box 1 true (.tmp 0)),
 .op 1 (.mov 2 (.const (.bool false)))] [])
 (.seq (.block 0 (.seq (.region [.op 0 (.faddr 4 0 (.tmp 1)),
 .op 1 (.faddr 5 0 (.tmp 4)),
 .op 2 (.load 6 false 1 (.tmp 5)),
 .op 3 (.call 7 99 [.tmp 6]),
 .op 4 (.un 8 .not (.tmp 7)),
 .op 5 (.mov 9 (.tmp 8)),
 .guard 9 false [.op 6 (.faddr 10 0 (.tmp 1)),
 .op 7 (.faddr 11 1 (.tmp 10)),
 .op 8 (.load 12 false 1 (.tmp 11)),
 .op 9 (.call 13 99 [.tmp 12]),
 .op 10 (.un 14 .not (.tmp 13))] [] [14],
 .op 11 (.pick 15 (.tmp 9) (.const (.bool true)) (.tmp 14)),
 .op 12 (.mov 3 (.tmp 15))] [])
 (.cond (.tmp 3)
 (.seq (.region [.op 0 (.mov 2 (.const (.bool false)))] [])
 .ret)
 (.seq (.region [.op 0 (.faddr 17 2 (.tmp 1)),
 .op 1 (.load 18 false 1 (.tmp 17)),
 .op 2 (.bin 19 .neq .plain (.tmp 18) (.const (.int .i64 1))),
 .op 3 (.mov 20 (.tmp 19)),
 .guard 20 true [.op 4 (.faddr 21 2 (.tmp 1)),
 .op 5 (.load 22 false 1 (.tmp 21)),
 .op 6 (.bin 23 .neq .plain (.tmp 22) (.const (.int .i64 2)))] [] [23],
 .op 7 (.pick 24 (.tmp 20) (.tmp 23) (.const (.bool false))),
 .op 8 (.mov 16 (.tmp 24))] [])
 (.cond (.tmp 16)
 (.seq (.region [.op 0 (.mov 2 (.const (.bool false)))] [])
 .ret)
 (.seq (.region [.op 0 (.faddr 26 3 (.tmp 1)),
 .op 1 (.load 27 false 1 (.tmp 26)),
 .op 2 (.bin 28 .lss .plain (.tmp 27) (.const (.int .i64 0))),
 .op 3 (.mov 29 (.tmp 28)),
 .guard 29 false [.op 4 (.faddr 30 3 (.tmp 1)),
 .op 5 (.load 31 false 1 (.tmp 30)),
 .op 6 (.bin 32 .gtr .plain (.tmp 31) (.const (.int .i64 3)))] [] [32],
 .op 7 (.pick 33 (.tmp 29) (.const (.bool true)) (.tmp 32)),
 .op 8 (.mov 25 (.tmp 33))] [])
 (.cond (.tmp 25)
 (.seq (.region [.op 0 (.mov 2 (.const (.bool false)))] [])
 .ret)
 .skip)))))))
 (.seq (.region [.op 0 (.faddr 34 4 (.tmp 1)),
 .op 1 (.load 35 false 1 (.tmp 34)),
 .op 2 (.bin 36 .geq .plain (.tmp 35) (.const (.int .i64 1))),
 .op 3 (.mov 37 (.tmp 36)),
 .guard 37 true [.op 4 (.faddr 38 4 (.tmp 1)),
 .op 5 (.load 39 false 1 (.tmp 38)),
 .op 6 (.bin 40 .leq .plain (.tmp 39) (.const (.int .i64 1048576)))] [] [40],
 .op 7 (.pick 41 (.tmp 37) (.tmp 40) (.const (.bool false))),
 .op 8 (.mov 42 (.tmp 41)),
 .guard 42 true [.op 9 (.faddr 43 5 (.tmp 1)),
 .op 10 (.load 44 true 3 (.tmp 43)),
 .op 11 (.call 45 109 [.tmp 44])] [] [45],
 .op 12 (.pick 46 (.tmp 42) (.tmp 45) (.const (.bool false))),
 .op 13 (.mov 2 (.tmp 46))] [])
 .ret))),
 [.tmp 2]⟩
theorem ok78 : funcOk Tryz.prog (drawOk Tryz.prog) Tryz.f78 A78 = true := by kernel_rfl
noncomputable def A79 : AFunc := ⟨2, (.seq (.region [.op 0 (.mov 4 (.const (.bool false)))] [])
 (.seq (.region [.op 0 (.mov 5 (.tmp 0)),
 .op 1 (.mov 6 (.tmp 1)),
 .op 2 (.call 7 110 [.tmp 5, .tmp 6]),
 .op 3 (.bin 8 .geq .plain (.tmp 7) (.const (.int .i64 0))),
 .op 4 (.mov 4 (.tmp 8))] [])
 .ret)),
 [.tmp 4]⟩
theorem ok79 : funcOk Tryz.prog (drawOk Tryz.prog) Tryz.f79 A79 = true := by kernel_rfl
noncomputable def A81 : AFunc := ⟨1, (.seq (.region [.op 0 (.box 1 true (.tmp 0)),
 .op 1 (.mov 2 (.const (.bool false)))] [])
 (.seq (.region [.op 0 (.faddr 3 0 (.tmp 1)),
 .op 1 (.load 4 false 1 (.tmp 3)),
 .op 2 (.call 5 99 [.tmp 4]),
 .op 3 (.mov 6 (.tmp 5)),
 .guard 6 true [.op 4 (.faddr 7 1 (.tmp 1)),
 .op 5 (.load 8 false 1 (.tmp 7)),
 .op 6 (.call 9 99 [.tmp 8])] [] [9],
 .op 7 (.pick 10 (.tmp 6) (.tmp 9) (.const (.bool false))),
 .op 8 (.mov 2 (.tmp 10))] [])
 .ret)),
 [.tmp 2]⟩
theorem ok81 : funcOk Tryz.prog (drawOk Tryz.prog) Tryz.f81 A81 = true := by kernel_rfl
noncomputable def A82 : AFunc := ⟨2, (.seq (.region [.op 0 (.box 3 true (.tmp 1)),
 .op 1 (.alloc 4 true [.int .i64 0, .int .i64 0, .int .i64 0, .int .i64 0, .int .i64 0, .int .i64 0, .int .i64 0, .str [], .str [], .bool false, .int .u32 0, .nilSlice, .nilSlice])] [])
 (.seq (.regionF 1 [.op 0 (.mov 6 (.tmp 0)),
 .op 1 (.nilchk 7 (.tmp 6)),
 .op 2 (.faddr 8 4 (.tmp 7)),
 .op 3 (.load 9 false 1 (.tmp 8)),
 .op 4 (.mov 10 (.tmp 0)),
 .op 5 (.nilchk 11 (.tmp 10)),
 .op 6 (.faddr 12 6 (.tmp 11)),
 .op 7 (.load 13 false 1 (.tmp 12)),
 .op 8 (.call 14 111 [.tmp 9, .tmp 13]),
 .op 9 (.fl 5 0 none [.int .i64 0, .int .i64 0, .int .i64 0, .int .i64 0, .int .i64 0, .int .i64 0, .int .i64 0, .str [], .str [], .bool false, .int .u32 0, .nilSlice, .nilSlice] []),
 .op 10 (.store true 13 (.tmp 5) (.tmp 14))] [])
 (.seq (.seq (.region [.op 0 (.faddr 15 6 (.tmp 3)),
 .op 1 (.load 16 false 1 (.tmp 15)),
 .op 2 (.bin 17 .neq .plain (.tmp 16) (.const (.int .i64 (-1))))] [])
 (.join [(.normal, ⟨[5], [3, 4]⟩)] (.cond (.tmp 17)
 (.region [.op 0 (.mov 18 (.tmp 0)),
 .op 1 (.nilchk 19 (.tmp 18)),
 .op 2 (.faddr 20 4 (.tmp 19)),
 .op 3 (.load 21 false 1 (.tmp 20)),
 .op 4 (.mov 22 (.tmp 0)),
 .op 5 (.nilchk 23 (.tmp 22)),
 .op 6 (.faddr 24 6 (.tmp 23)),
 .op 7 (.load 25 false 1 (.tmp 24)),
 .op 8 (.faddr 26 6 (.tmp 3)),
 .op 9 (.load 27 false 1 (.tmp 26)),
 .op 10 (.call 28 112 [.tmp 21, .tmp 25, .tmp 27]),
 .op 11 (.store true 13 (.tmp 5) (.tmp 28))] [])
 .skip)))
 (.seq (.region [.op 0 (.faddr 29 4 (.tmp 3)),
 .op 1 (.load 30 false 1 (.tmp 29)),
 .op 2 (.faddr 31 4 (.tmp 5)),
 .op 3 (.store false 1 (.tmp 31) (.tmp 30))] [])
 (.seq (.region [.op 0 (.load 32 true 13 (.tmp 5)),
 .op 1 (.store true 13 (.tmp 4) (.tmp 32))] [])
 .ret))))),
 [.cell 4 true 13]⟩
theorem ok82 : funcOk Tryz.prog (drawOk Tryz.prog) Tryz.f82 A82 = true := by kernel_rfl
noncomputable def A83 : AFunc := ⟨3, (.seq (.region [.op 0 (.box 4 true (.tmp 1)),
 .op 1 (.mov 6 (.const (.nilSlice))),
 .op 2 (.mov 7 (.const (.int .i64 0)))] [])
 (.seq (.regionF 1 [.op 0 (.mov 16 (.tmp 0)),
 .op 1 (.nilchk 17 (.tmp 16)),
 .op 2 (.faddr 18 4 (.tmp 17)),
 .op 3 (.load 19 false 1 (.tmp 18)),
 .op 4 (.faddr 20 7 (.tmp 4)),
 .op 5 (.load 21 true 2 (.tmp 20)),
 .op 6 (.call 22 85 [.tmp 19, .tmp 21]),
 .op 7 (.mov 15 (.tmp 22)),
 .op 8 (.extract 23 (.tmp 15) 0),
 .op 9 (.extract 24 (.tmp 15) 1),
 .op 10 (.fl 8 0 none [.str [], .str [], .int .i64 0, .int .i64 0, .int .i64 0, .int .i64 0, .int .i64 0, .int .i64 0, .bool false, .int .i64 0] []),
 .op 11 (.store true 10 (.tmp 8) (.tmp 23)),
 .op 12 (.mov 9 (.tmp 24))] [])
 (.seq (.region [.op 0 (.mov 25 (.tmp 9)),
 .op 1 (.mov 26 (.tmp 25)),
 .guard 26 true [.op 2 (.faddr 27 0 (.tmp 8)),
 .op 3 (.faddr 28 8 (.tmp 27)),
 .op 4 (.load 29 false 1 (.tmp 28)),
 .op 5 (.un 30 .not (.tmp 29))] [] [30],
 .op 6 (.pick 31 (.tmp 26) (.tmp 30) (.const (.bool false))),
 .op 7 (.mov 10 (.tmp 31))] [])
 (.seq (.block 0 (.seq (.region [.op 0 (.faddr 33 1 (.tmp 4)),
 .op 1 (.load 34 false 1 (.tmp 33)),
 .op 2 (.bin 35 .eql .plain (.tmp 34) (.const (.int .i64 1))),
 .op 3 (.mov 32 (.tmp 35))] [])
 (.cond (.tmp 32)
 (.seq (.region [.op 0 (.mov 36 (.tmp 0)),
 .op 1 (.load 37 true 13 (.tmp 4)),
 .op 2 (.load 38 true 10 (.tmp 8)),
 .op 3 (.mov 39 (.tmp 9)),
 .op 4 (.mov 40 (.tmp 2)),
 .op 5 (.call 41 113 [.tmp 36, .tmp 37, .tmp 38, .tmp 39, .tmp 40]),
 .op 6 (.extract 42 (.tmp 41) 0),
 .op 7 (.extract 43 (.tmp 41) 1),
 .op 8 (.mov 6 (.tmp 42)),
 .op 9 (.mov 7 (.tmp 43))] [])
 .ret)
 (.seq (.region [.op 0 (.faddr 45 1 (.tmp 4)),
 .op 1 (.load 46 false 1 (.tmp 45)),
 .op 2 (.bin 47 .eql .plain (.tmp 46) (.const (.int .i64 4))),
 .op 3 (.mov 48 (.tmp 47)),
 .guard 48 true [.op 4 (.faddr 49 2 (.tmp 4)),
 .op 5 (.load 50 false 1 (.tmp 49)),
 .op 6 (.bin 51 .gtr .plain (.tmp 50) (.const (.int .i64 3)))] [] [51],
 .op 7 (.pick 52 (.tmp 48) (.tmp 51) (.const (.bool false))),
 .op 8 (.mov 44 (.tmp 52))] [])
 (.cond (.tmp 44)
 (.seq (.region [.op 0 (.mov 6 (.const (.nilSlice))),
 .op 1 (.mov 7 (.const (.int .i64 1)))] [])
 .ret)
 (.seq (.region [.op 0 (.mov 54 (.tmp 10)),
 .op 1 (.un 55 .not (.tmp 54)),
 .op 2 (.mov 53 (.tmp 55))] [])
 (.cond (.tmp 53)
 (.seq (.region [.op 0 (.mov 6 (.const (.nilSlice))),
 .op 1 (.mov 7 (.const (.int .i64 22)))] [])
 .ret)
 (.seq (.region [.op 0 (.faddr 57 1 (.tmp 4)),
 .op 1 (.load 58 false 1 (.tmp 57)),
 .op 2 (.bin 59 .eql .plain (.tmp 58) (.const (.int .i64 2))),
 .op 3 (.mov 56 (.tmp 59))] [])
 (.cond (.tmp 56)
 (.seq (.region [.op 0 (.load 61 true 10 (.tmp 8)),
 .op 1 (.mov 62 (.tmp 2)),
 .op 2 (.call 63 114 [.tmp 61, .tmp 62]),
 .op 3 (.mov 60 (.tmp 63)),
 .op 4 (.extract 64 (.tmp 60) 0),
 .op 5 (.extract 65 (.tmp 60) 1),
 .op 6 (.alloc 11 true [.str [], .str [], .int .i64 0, .int .i64 0, .int .i64 0, .int .i64 0, .int .i64 0, .int .i64 0, .bool false, .int .i64 0]),
 .op 7 (.store true 10 (.tmp 11) (.tmp 64)),
 .op 8 (.mov 12 (.tmp 65))] [])
 (.seq (.region [.op 0 (.mov 66 (.tmp 0)),
 .op 1 (.nilchk 67 (.tmp 66)),
 .op 2 (.faddr 68 5 (.tmp 67)),
 .op 3 (.load 69 false 1 (.tmp 68)),
 .op 4 (.call 70 115 [.tmp 69])] [])
 (.seq (.region [.op 0 (.mov 71 (.tmp 0)),
 .op 1 (.nilchk 72 (.tmp 71)),
 .op 2 (.faddr 73 4 (.tmp 72)),
 .op 3 (.load 74 false 1 (.tmp 73)),
 .op 4 (.load 75 true 10 (.tmp 11)),
 .op 5 (.call 76 88 [.tmp 74, .tmp 75]),
 .op 6 (.mov 6 (.const (.nilSlice))),
 .op 7 (.mov 7 (.tmp 76))] [])
 .ret)))
 .skip)))))))))
 (.seq (.regionF 1 [.op 0 (.load 78 true 10 (.tmp 8)),
 .op 1 (.mov 79 (.tmp 0)),
 .op 2 (.faddr 80 0 (.tmp 8)),
 .op 3 (.load 81 true 9 (.tmp 80)),
 .op 4 (.mov 82 (.tmp 2)),
 .op 5 (.call 83 117 [.tmp 79, .tmp 81, .tmp 82]),
 .op 6 (.mov 84 (.tmp 2)),
 .op 7 (.call 85 116 [.tmp 78, .tmp 83, .tmp 84]),
 .op 8 (.mov 77 (.tmp 85)),
 .op 9 (.extract 86 (.tmp 77) 0),
 .op 10 (.extract 87 (.tmp 77) 1),
 .op 11 (.fl 13 0 none [.str [], .str [], .int .i64 0, .int .i64 0, .int .i64 0, .int .i64 0, .int .i64 0, .int .i64 0, .bool false, .int .i64 0] []),
 .op 12 (.store true 10 (.tmp 13) (.tmp 86)),
 .op 13 (.mov 14 (.tmp 87))] [(0, 5)])
 (.seq (.seq (.region [.op 0 (.faddr 88 1 (.tmp 4)),
 .op 1 (.load 89 false 1 (.tmp 88)),
 .op 2 (.bin 90 .eql .plain (.tmp 89) (.const (.int .i64 4)))] [])
 (.join [(.normal, ⟨[0, 13], []⟩)] (.cond (.tmp 90)
 (.region [.op 0 (.load 92 true 10 (.tmp 8)),
 .op 1 (.faddr 93 2 (.tmp 4)),
 .op 2 (.load 94 false 1 (.tmp 93)),
 .op 3 (.mov 95 (.tmp 0)),
 .op 4 (.faddr 96 0 (.tmp 8)),
 .op 5 (.load 97 true 9 (.tmp 96)),
 .op 6 (.mov 98 (.tmp 2)),
 .op 7 (.call 99 117 [.tmp 95, .tmp 97, .tmp 98]),
 .op 8 (.call 100 118 [.tmp 92, .tmp 94, .tmp 99]),
 .op 9 (.mov 91 (.tmp 100)),
 .op 10 (.extract 101 (.tmp 91) 0),
 .op 11 (.extract 102 (.tmp 91) 1),
 .op 12 (.store true 10 (.tmp 13) (.tmp 101))] [(0, 7), (2, 7)])
 .skip)))
 (.seq (.region [.op 0 (.mov 103 (.tmp 0)),
 .op 1 (.load 104 true 10 (.tmp 13)),
 .op 2 (.call 105 119 [.tmp 103, .tmp 104]),
 .op 3 (.extract 106 (.tmp 105) 0),
 .op 4 (.extract 107 (.tmp 105) 1),
 .op 5 (.mov 6 (.tmp 106)),
 .op 6 (.mov 7 (.tmp 107))] [])
 .ret))))))),
 [.tmp 6, .tmp 7]⟩
theorem ok83 : funcOk Tryz.prog (drawOk Tryz.prog) Tryz.f83 A83 = true := by kernel_rfl
noncomputable def A85 : AFunc := ⟨2, (.seq (.region [.op 0 (.box 3 true (.tmp 1)),
 .op 1 (.alloc 4 true [.str [], .str [], .int .i64 0, .int .i64 0, .int .i64 0, .int .i64 0, .int .i64 0, .int .i64 0, .bool false, .int .i64 0]),
 .op 2 (.mov 5 (.const (.bool false)))] [])
 (.seq (.region [.op 0 (.mov 9 (.tmp 0)),
 .op 1 (.load 10 true 2 (.tmp 3)),
 .op 2 (.call 11 123 [.tmp 9, .tmp 10]),
 .op 3 (.mov 8 (.tmp 11)),
 .op 4 (.extract 12 (.tmp 8) 0),
 .op 5 (.extract 13 (.tmp 8) 1),
 .op 6 (.mov 6 (.tmp 12)),
 .op 7 (.mov 7 (.tmp 13))] [])
 (.seq (.seq (.region [.op 0 (.mov 14 (.tmp 7)),
 .op 1 (.un 15 .not (.tmp 14))] [])
 (.cond (.tmp 15)
 (.seq (.region [.op 0 (.build 16 [.str [], .str [], .int .i64 0, .int .i64 0, .int .i64 0, .int .i64 0, .int .i64 0, .int .i64 0, .bool false, .int .i64 0] []),
 .op 1 (.store true 10 (.tmp 4) (.tmp 16)),
 .op 2 (.mov 5 (.const (.bool false)))] [])
 .ret)
 .skip))
 (.seq (.region [.op 0 (.mov 17 (.tmp 0)),
 .op 1 (.nilchk 18 (.tmp 17)),
 .op 2 (.faddr 19 1 (.tmp 18)),
 .op 3 (.load 20 false 1 (.tmp 19)),
 .op 4 (.mov 21 (.tmp 6)),
 .op 5 (.iaddr 22 none 10 (.tmp 20) (.tmp 21)),
 .op 6 (.load 23 true 10 (.tmp 22)),
 .op 7 (.store true 10 (.tmp 4) (.tmp 23)),
 .op 8 (.mov 5 (.const (.bool true)))] [])
 .ret)))),
 [.cell 4 true 10, .tmp 5]⟩
theorem ok85 : funcOk Tryz.prog (drawOk Tryz.prog) Tryz.f85 A85 = true := by kernel_rfl
noncomputable def A86 : AFunc := ⟨2, (.seq (.region [.op 0 (.box 2 true (.tmp 0)),
 .op 1 (.box 3 true (.tmp 1)),
 .op 2 (.mov 4 (.const (.bool false)))] [])
 (.seq (.region [.op 0 (.faddr 5 0 (.tmp 2)),
 .op 1 (.load 6 false 1 (.tmp 5)),
 .op 2 (.faddr 7 0 (.tmp 3)),
 .op 3 (.load 8 false 1 (.tmp 7)),
 .op 4 (.call 9 125 [.tmp 6, .tmp 8]),
 .op 5 (.faddr 10 2 (.tmp 2)),
 .op 6 (.load 11 false 1 (.tmp 10)),
 .op 7 (.faddr 12 2 (.tmp 3)),
 .op 8 (.load 13 false 1 (.tmp 12)),
 .op 9 (.call 14 125 [.tmp 11, .tmp 13]),
 .op 10 (.faddr 15 1 (.tmp 2)),
 .op 11 (.load 16 false 1 (.tmp 15)),
 .op 12 (.faddr 17 1 (.tmp 3)),
 .op 13 (.load 18 false 1 (.tmp 17)),
 .op 14 (.call 19 126 [.tmp 16, .tmp 18]),
 .op 15 (.buildSl 20 [.int .i64 0] 1 3 [(0, .tmp 9), (1, .tmp 14), (2, .tmp 19)]),
 .op 16 (.call 21 124 [.tmp 20]),
 .op 17 (.bin 22 .lss .plain (.tmp 21) (.const (.int .i64 0))),
 .op 18 (.mov 4 (.tmp 22))] [(6, 4), (8, 4), (11, 4), (11, 9), (13, 4), (13, 9)])
 .ret)),
 [.tmp 4]⟩
theorem ok86 : funcOk Tryz.prog (drawOk Tryz.prog) Tryz.f86 A86 = true := by kernel_rfl
noncomputable def A87 : AFunc := ⟨2, (.seq (.region [.op 0 (.box 3 true (.tmp 1)),
 .op 1 (.mov 4 (.const (.int .i64 0)))] [])
 (.seq (.region [.op 0 (.mov 6 (.tmp 0)),
 .op 1 (.nilchk 7 (.tmp 6)),
 .op 2 (.faddr 8 4 (.tmp 7)),
 .op 3 (.load 9 false 1 (.tmp 8)),
 .op 4 (.load 10 true 10 (.tmp 3)),
 .op 5 (.call 11 88 [.tmp 9, .tmp 10]),
 .op 6 (.mov 5 (.tmp 11))] [])
 (.seq (.seq (.region [.op 0 (.mov 12 (.tmp 5)),
 .op 1 (.bin 13 .eql .plain (.tmp 12) (.const (.int .i64 0)))] [])
 (.join [(.normal, ⟨[5], []⟩)] (.cond (.tmp 13)
 (.region [.op 0 (.mov 14 (.tmp 0)),
 .op 1 (.nilchk 15 (.tmp 14)),
 .op 2 (.faddr 16 6 (.tmp 15)),
 .op 3 (.load 17 false 1 (.tmp 16)),
 .op 4 (.faddr 18 0 (.tmp 3)),
 .op 5 (.faddr 19 0 (.tmp 18)),
 .op 6 (.load 20 true 2 (.tmp 19)),
 .op 7 (.call 21 127 [.tmp 17, .tmp 20])] [])
 .skip)))
 (.seq (.region [.op 0 (.mov 22 (.tmp 5)),
 .op 1 (.mov 4 (.tmp 22))] [])
 .ret)))),
 [.tmp 4]⟩
theorem ok87 : funcOk Tryz.prog (drawOk Tryz.prog) Tryz.f87 A87 = true := by kernel_rfl
noncomputable def A88 : AFunc := ⟨2, (.seq (.region [.op 0 (.box 3 true (.tmp 1)),
 .op 1 (.mov 4 (.const (.int .i64 0)))] [])
 (.seq (.region [.op 0 (.mov 8 (.tmp 0)),
 .op 1 (.faddr 9 0 (.tmp 3)),
 .op 2 (.faddr 10 0 (.tmp 9)),
 .op 3 (.load 11 true 2 (.tmp 10)),
 .op 4 (.call 12 123 [.tmp 8, .tmp 11]),
 .op 5 (.mov 7 (.tmp 12)),
 .op 6 (.extract 13 (.tmp 7) 0),
 .op 7 (.extract 14 (.tmp 7) 1),
 .op 8 (.mov 5 (.tmp 13)),
 .op 9 (.mov 6 (.tmp 14))] [])
 (.seq (.block 0 (.seq (.region [.op 0 (.mov 27 (.tmp 6)),
 .op 1 (.mov 26 (.tmp 27))] [])
 (.join [(.normal, ⟨[], []⟩), (.ret, ⟨[4], []⟩)] (.cond (.tmp 26)
 (.region [.op 0 (.mov 28 (.tmp 0)),
 .op 1 (.nilchk 29 (.tmp 28)),
 .op 2 (.faddr 30 1 (.tmp 29)),
 .op 3 (.load 31 false 1 (.tmp 30)),
 .op 4 (.mov 32 (.tmp 5)),
 .op 5 (.load 33 true 10 (.tmp 3)),
 .op 6 (.iaddr 34 none 10 (.tmp 31) (.tmp 32)),
 .op 7 (.store true 10 (.tmp 34) (.tmp 33))] [])
 (.seq (.region [.op 0 (.mov 36 (.tmp 0)),
 .op 1 (.nilchk 37 (.tmp 36)),
 .op 2 (.faddr 38 1 (.tmp 37)),
 .op 3 (.load 39 false 1 (.tmp 38)),
 .op 4 (.len 40 false (.tmp 39)),
 .op 5 (.mov 41 (.tmp 0)),
 .op 6 (.nilchk 42 (.tmp 41)),
 .op 7 (.faddr 43 0 (.tmp 42)),
 .op 8 (.load 44 false 1 (.tmp 43)),
 .op 9 (.bin 45 .geq .plain (.tmp 40) (.tmp 44)),
 .op 10 (.mov 35 (.tmp 45))] [])
 (.cond (.tmp 35)
 (.seq (.region [.op 0 (.mov 4 (.const (.int .i64 24)))] [])
 .ret)
 (.region [.op 0 (.mov 15 (.tmp 0)),
 .op 1 (.mov 16 (.tmp 0)),
 .op 2 (.nilchk 17 (.tmp 16)),
 .op 3 (.faddr 18 1 (.tmp 17)),
 .op 4 (.load 19 false 1 (.tmp 18)),
 .op 5 (.mov 20 (.tmp 5)),
 .op 6 (.load 21 true 10 (.tmp 3)),
 .op 7 (.buildSl 22 [.str [], .str [], .int .i64 0, .int .i64 0, .int .i64 0, .int .i64 0, .int .i64 0, .int .i64 0, .bool false, .int .i64 0] 10 1 [(0, .tmp 21)]),
 .op 8 (.call 23 128 [.tmp 19, .tmp 20, .tmp 22]),
 .op 9 (.nilchk 24 (.tmp 15)),
 .op 10 (.faddr 25 1 (.tmp 24)),
 .op 11 (.store false 1 (.tmp 25) (.tmp 23))] [(4, 7)])))))))
 (.seq (.region [.op 0 (.mov 4 (.const (.int .i64 0)))] [])
 .ret)))),
 [.tmp 4]⟩
theorem ok88 : funcOk Tryz.prog (drawOk Tryz.prog) Tryz.f88 A88 = true := by kernel_rfl
noncomputable def A93 : AFunc := ⟨1, (.seq (.region [.op 0 (.mov 2 (.const (.nilPtr)))] [])
 (.seq (.region [.op 0 (.mov 3 (.tmp 0)),
 .op 1 (.nilchk 4 (.tmp 3)),
 .op 2 (.faddr 5 1 (.tmp 4)),
 .op 3 (.load 6 false 1 (.tmp 5)),
 .op 4 (.mov 2 (.tmp 6))] [])
 .ret)),
 [.tmp 2]⟩
theorem ok93 : funcOk Tryz.prog (drawOk Tryz.prog) Tryz.f93 A93 = true := by kernel_rfl
noncomputable def A94 : AFunc := ⟨1, (.seq (.region [.op 0 (.mov 2 (.const (.int .i64 0)))] [])
 (.seq (.region [.op 0 (.mov 3 (.tmp 0)),
 .op 1 (.nilchk 4 (.tmp 3)),
 .op 2 (.faddr 5 1 (.tmp 4)),
 .op 3 (.load 6 false 1 (.tmp 5)),
 .op 4 (.len 7 false (.tmp 6)),
 .op 5 (.mov 2 (.tmp 7))] [])
 .ret)),
 [.tmp 2]⟩
theorem ok94 : funcOk Tryz.prog (drawOk Tryz.prog) Tryz.f94 A94 = true := by kernel_rfl
noncomputable def A95 : AFunc := ⟨1, (.seq (.region [.op 0 (.mov 2 (.const (.nilSlice)))] [])
 (.seq (.region [.op 0 (.mov 3 (.const (.nilSlice)))] [])
 (.seq (.seq (.region [.op 0 (.mov 6 (.tmp 0)),
 .op 1 (.nilchk 7 (.tmp 6)),
 .op 2 (.faddr 8 1 (.tmp 7)),
 .op 3 (.load 9 false 1 (.tmp 8)),
 .op 4 (.len 10 false (.tmp 9)),
 .op 5 (.mov 11 (.const (.int .i64 0)))] [])
 (.block 0 (.loop ⟨[3, 9, 10, 11], []⟩ [((.exit 0), ⟨[3], []⟩)]
 (.seq (.region [.op 0 (.bin 12 .lss .plain (.tmp 11) (.tmp 10))] [])
 (.seq (.cond (.tmp 12)
 .skip
 (.exit 0))
 (.seq (.block 1 (.seq (.region [.op 0 (.iaddr 13 none 3 (.tmp 9) (.tmp 11)),
 .op 1 (.load 14 true 3 (.tmp 13)),
 .op 2 (.alloc 5 true [.int .i64 0, .int .i64 0, .nilSlice]),
 .op 3 (.store true 3 (.tmp 5) (.tmp 14))] [])
 (.region [.op 0 (.mov 15 (.tmp 3)),
 .op 1 (.load 16 true 3 (.tmp 5)),
 .op 2 (.call 17 133 [.tmp 16]),
 .op 3 (.buildSl 18 [.int .i64 0, .int .i64 0, .nilSlice] 3 1 [(0, .tmp 17)]),
 .op 4 (.append 19 3 40 [.int .i64 0, .int .i64 0, .nilSlice] false (.tmp 15) (.tmp 18)),
 .op 5 (.mov 3 (.tmp 19))] [])))
 (.region [.op 0 (.bin 20 .add .plain (.tmp 11) (.const (.int .i64 1))),
 .op 1 (.mov 11 (.tmp 20))] [])))))))
 (.seq (.region [.op 0 (.mov 21 (.tmp 3)),
 .op 1 (.mov 2 (.tmp 21))] [])
 .ret)))),
 [.tmp 2]⟩
theorem ok95 : funcOk Tryz.prog (drawOk Tryz.prog) Tryz.f95 A95 = true := by kernel_rfl
noncomputable def A96 : AFunc := ⟨3, (.seq (.region [.op 0 (.mov 6 (.const (.bool false)))] [])
 (.seq (.region [.op 0 (.mov 7 (.tmp 0)),
 .op 1 (.mov 8 (.tmp 1)),
 .op 2 (.call 9 134 [.tmp 7, .tmp 8]),
 .op 3 (.mov 10 (.tmp 9)),
 .guard 10 true [.op 4 (.mov 11 (.tmp 0)),
 .op 5 (.mov 12 (.tmp 2)),
 .op 6 (.call 13 134 [.tmp 11, .tmp 12])] [] [13],
 .op 7 (.pick 14 (.tmp 10) (.tmp 13) (.const (.bool false))),
 .op 8 (.mov 15 (.tmp 14)),
 .guard 15 true [.op 9 (.mov 16 (.tmp 0)),
 .op 10 (.mov 17 (.tmp 1)),
 .op 11 (.mov 18 (.tmp 2)),
 .op 12 (.nilchk 19 (.tmp 16)),
 .op 13 (.faddr 20 2 (.tmp 19)),
 .op 14 (.iaddr 21 (some 6) 6 (.tmp 20) (.tmp 17)),
 .op 15 (.iaddr 22 (some 6) 1 (.tmp 21) (.tmp 18)),
 .op 16 (.load 23 false 1 (.tmp 22))] [] [23],
 .op 17 (.pick 24 (.tmp 15) (.tmp 23) (.const (.bool false))),
 .op 18 (.mov 6 (.tmp 24))] [])
 .ret)),
 [.tmp 6]⟩
theorem ok96 : funcOk Tryz.prog (drawOk Tryz.prog) Tryz.f96 A96 = true := by kernel_rfl
noncomputable def A97 : AFunc := ⟨2, (.seq (.region [.op 0 (.box 3 true (.tmp 1)),
 .op 1 (.alloc 4 true [.int .i64 0, .int .i64 0, .int .i64 0, .nilSlice, .int .i64 0])] [])
 (.seq (.region [.op 0 (.mov 5 (.tmp 0)),
 .op 1 (.mov 6 (.tmp 0)),
 .op 2 (.nilchk 7 (.tmp 6)),
 .op 3 (.faddr 8 1 (.tmp 7)),
 .op 4 (.load 9 false 1 (.tmp 8)),
 .op 5 (.load 10 true 7 (.tmp 3)),
 .op 6 (.buildSl 11 [.int .i64 0, .int .i64 0, .int .i64 0, .int .i64 0, .int .i64 0, .int .i64 0, .str []] 7 1 [(0, .tmp 10)]),
 .op 7 (.append 12 7 64 [.int .i64 0, .int .i64 0, .int .i64 0, .int .i64 0, .int .i64 0, .int .i64 0, .str []] false (.tmp 9) (.tmp 11)),
 .op 8 (.nilchk 13 (.tmp 5)),
 .op 9 (.faddr 14 1 (.tmp 13)),
 .op 10 (.store false 1 (.tmp 14) (.tmp 12))] [(4, 6)])
 (.seq (.region [.op 0 (.mov 15 (.tmp 0)),
 .op 1 (.nilchk 16 (.tmp 15)),
 .op 2 (.faddr 17 0 (.tmp 16)),
 .op 3 (.load 18 false 1 (.tmp 17)),
 .op 4 (.load 19 true 7 (.tmp 3)),
 .op 5 (.call 20 24 [.tmp 18, .tmp 19]),
 .op 6 (.store true 5 (.tmp 4) (.tmp 20))] [])
 .ret))),
 [.cell 4 true 5]⟩
theorem ok97 : funcOk Tryz.prog (drawOk Tryz.prog) Tryz.f97 A97 = true := by kernel_rfl
noncomputable def A98 : AFunc := ⟨1, (.seq (.region [.op 0 (.mov 2 (.const (.str [])))] [])
 (.seq (.region [.op 0 (.mov 3 (.tmp 0)),
 .op 1 (.call 4 135 [.tmp 3, .const (.int .i64 10)]),
 .op 2 (.mov 2 (.tmp 4))] [])
 .ret)),
 [.tmp 2]⟩
theorem ok98 : funcOk Tryz.prog (drawOk Tryz.prog) Tryz.f98 A98 = true := by kernel_rfl
noncomputable def A99 : AFunc := ⟨1, (.seq (.region [.op 0 (.mov 2 (.const (.bool false)))] [])
 (.seq (.seq (.region [.op 0 (.mov 5 (.tmp 0)),
 .op 1 (.len 6 true (.tmp 5)),
 .op 2 (.bin 7 .eql .plain (.tmp 6) (.const (.int .i64 0))),
 .op 3 (.mov 8 (.tmp 7)),
 .guard 8 false [.op 4 (.mov 9 (.tmp 0)),
 .op 5 (.len 10 true (.tmp 9)),
 .op 6 (.bin 11 .gtr .plain (.tmp 10) (.const (.int .i64 16)))] [] [11],
 .op 7 (.pick 12 (.tmp 8) (.const (.bool true)) (.tmp 11))] [])
 (.cond (.tmp 12)
 (.seq (.region [.op 0 (.mov 2 (.const (.bool false)))] [])
 .ret)
 .skip))
 (.seq (.seq (.region [.op 0 (.mov 13 (.tmp 0)),
 .op 1 (.len 14 true (.tmp 13)),
 .op 2 (.mov 15 (.const (.int .i64 0)))] [])
 (.block 0 (.loop ⟨[0, 14, 15], []⟩ [((.exit 0), ⟨[], []⟩), (.ret, ⟨[2], []⟩)]
 (.seq (.region [.op 0 (.bin 16 .lss .plain (.tmp 15) (.tmp 14))] [])
 (.seq (.cond (.tmp 16)
 .skip
 (.exit 0))
 (.seq (.block 1 (.seq (.region [.op 0 (.mov 17 (.tmp 15)),
 .op 1 (.mov 3 (.tmp 17))] [])
 (.seq (.region [.op 0 (.mov 18 (.tmp 0)),
 .op 1 (.mov 19 (.tmp 3)),
 .op 2 (.index 20 .str (.tmp 18) (.tmp 19)),
 .op 3 (.mov 4 (.tmp 20))] [])
 (.seq (.region [.op 0 (.mov 21 (.tmp 4)),
 .op 1 (.bin 22 .lss .plain (.tmp 21) (.const (.int .u8 97))),
 .op 2 (.mov 23 (.tmp 22)),
 .guard 23 false [.op 3 (.mov 24 (.tmp 4)),
 .op 4 (.bin 25 .gtr .plain (.tmp 24) (.const (.int .u8 122)))] [] [25],
 .op 5 (.pick 26 (.tmp 23) (.const (.bool true)) (.tmp 25)),
 .op 6 (.mov 27 (.tmp 26)),
 .guard 27 true [.op 7 (.mov 28 (.tmp 4)),
 .op 8 (.bin 29 .lss .plain (.tmp 28) (.const (.int .u8 48))),
 .op 9 (.mov 30 (.tmp 29)),
 .guard 30 false [.op 10 (.mov 31 (.tmp 4)),
 .op 11 (.bin 32 .gtr .plain (.tmp 31) (.const (.int .u8 57)))] [] [32],
 .op 12 (.pick 33 (.tmp 30) (.const (.bool true)) (.tmp 32))] [] [33],
 .op 13 (.pick 34 (.tmp 27) (.tmp 33) (.const (.bool false)))] [])
 (.cond (.tmp 34)
 (.seq (.region [.op 0 (.mov 2 (.const (.bool false)))] [])
 .ret)
 .skip)))))
 (.region [.op 0 (.bin 35 .add .plain (.tmp 15) (.const (.int .i64 1))),
 .op 1 (.mov 15 (.tmp 35))] [])))))))
 (.seq (.region [.op 0 (.mov 2 (.const (.bool true)))] [])
 .ret)))),
 [.tmp 2]⟩
theorem ok99 : funcOk Tryz.prog (drawOk Tryz.prog) Tryz.f99 A99 = true := by kernel_rfl
noncomputable def A100 : AFunc := ⟨0, (.seq (.region [.op 0 (.mov 0 (.const (.nilPtr)))] [])
 (.seq (.region [.op 0 (.build 1 [.nilSlice, .int .i64 0] [(1, 1, .const (.int .i64 (-1)))]),
 .op 1 (.box 2 false (.tmp 1)),
 .op 2 (.mov 0 (.tmp 2))] [])
 .ret)),
 [.tmp 0]⟩
theorem ok100 : funcOk Tryz.prog (drawOk Tryz.prog) Tryz.f100 A100 = true := by kernel_rfl
noncomputable def A101 : AFunc := ⟨3, (.seq (.region [.op 0 (.box 5 true (.tmp 2)),
 .op 1 (.alloc 6 true [.int .i64 0, .int .i64 0, .int .i64 0, .nilSlice, .int .i64 0])] [])
 (.seq (.seq (.region [.op 0 (.mov 9 (.tmp 0)),
 .op 1 (.nilchk 10 (.tmp 9)),
 .op 2 (.faddr 11 2 (.tmp 10)),
 .op 3 (.load 12 false 1 (.tmp 11)),
 .op 4 (.faddr 13 1 (.tmp 5)),
 .op 5 (.load 14 false 1 (.tmp 13)),
 .op 6 (.faddr 15 5 (.tmp 5)),
 .op 7 (.load 16 false 1 (.tmp 15)),
 .op 8 (.call 17 136 [.tmp 12, .tmp 14, .tmp 16]),
 .op 9 (.mov 7 (.tmp 17))] [])
 (.seq (.region [.op 0 (.mov 18 (.tmp 7)),
 .op 1 (.bin 19 .neq .plain (.tmp 18) (.const (.int .i64 0)))] [])
 (.cond (.tmp 19)
 (.seq (.region [.op 0 (.mov 20 (.tmp 7)),
 .op 1 (.build 21 [.int .i64 0, .int .i64 0, .int .i64 0, .nilSlice, .int .i64 0] [(0, 1, .tmp 20)]),
 .op 2 (.store true 5 (.tmp 6) (.tmp 21))] [])
 .ret)
 .skip)))
 (.seq (.seq (.region [.op 0 (.mov 22 (.tmp 0)),
 .op 1 (.faddr 23 1 (.tmp 5)),
 .op 2 (.load 24 false 1 (.tmp 23)),
 .op 3 (.call 25 58 [.tmp 22, .tmp 24]),
 .op 4 (.mov 8 (.tmp 25))] [])
 (.seq (.region [.op 0 (.mov 26 (.tmp 8)),
 .op 1 (.bin 27 .neq .ptr (.tmp 26) (.const (.nilPtr)))] [])
 (.join [(.normal, ⟨[], [5, 6]⟩)] (.cond (.tmp 27)
 (.region [.op 0 (.mov 28 (.tmp 1)),
 .op 1 (.faddr 29 1 (.tmp 5)),
 .op 2 (.load 30 false 1 (.tmp 29)),
 .op 3 (.mov 31 (.tmp 8)),
 .op 4 (.faddr 32 5 (.tmp 5)),
 .op 5 (.load 33 false 1 (.tmp 32)),
 .op 6 (.call 34 138 [.tmp 31, .tmp 33]),
 .op 7 (.call 35 137 [.tmp 28, .tmp 30, .tmp 34])] [(2, 6)])
 (.region [.op 0 (.mov 36 (.tmp 1)),
 .op 1 (.faddr 37 1 (.tmp 5)),
 .op 2 (.load 38 false 1 (.tmp 37)),
 .op 3 (.mov 39 (.tmp 0)),
 .op 4 (.faddr 40 1 (.tmp 5)),
 .op 5 (.load 41 false 1 (.tmp 40)),
 .op 6 (.call 42 139 [.tmp 39, .tmp 41]),
 .op 7 (.faddr 43 5 (.tmp 5)),
 .op 8 (.load 44 false 1 (.tmp 43)),
 .op 9 (.call 45 140 [.tmp 42, .tmp 44]),
 .op 10 (.call 46 137 [.tmp 36, .tmp 38, .tmp 45])] [(2, 6), (2, 9), (8, 6)])))))
 (.seq (.region [.op 0 (.faddr 47 1 (.tmp 5)),
 .op 1 (.load 48 false 1 (.tmp 47)),
 .op 2 (.build 49 [.int .i64 0, .int .i64 0, .int .i64 0, .nilSlice, .int .i64 0] [(1, 1, .tmp 48)]),
 .op 3 (.store true 5 (.tmp 6) (.tmp 49))] [])
 .ret)))),
 [.cell 6 true 5]⟩
theorem ok101 : funcOk Tryz.prog (drawOk Tryz.prog) Tryz.f101 A101 = true := by kernel_rfl
noncomputable def A102 : AFunc := ⟨3, (.seq (.region [.op 0 (.alloc 6 true [.int .i64 0, .int .i64 0, .int .i64 0, .nilSlice, .int .i64 0])] [])
 (.seq (.region [.op 0 (.mov 12 (.tmp 1)),
 .op 1 (.mov 13 (.tmp 2)),
 .op 2 (.invoke 14 [(85, 257, none), (90, 257, some (0, 1, false)), (91, 265, none)] (.tmp 12) [.tmp 13]),
 .op 3 (.mov 11 (.tmp 14)),
 .op 4 (.extract 15 (.tmp 11) 0),
 .op 5 (.extract 16 (.tmp 11) 1),
 .op 6 (.alloc 7 true [.int .i64 0, .int .i64 0, .int .i64 0, .int .i64 0, .int .i64 0, .int .i64 0, .int .i64 0, .int .i64 0, .int .i64 0, .str [], .str [], .bool false, .int .u32 0, .nilSlice, .nilSlice, .int .i64 0]),
 .op 7 (.store true 16 (.tmp 7) (.tmp 15)),
 .op 8 (.mov 8 (.tmp 16))] [])
 (.seq (.seq (.region [.op 0 (.mov 17 (.tmp 8)),
 .op 1 (.bin 18 .neq .plain (.tmp 17) (.const (.int .i64 0)))] [])
 (.cond (.tmp 18)
 (.seq (.region [.op 0 (.mov 19 (.tmp 8)),
 .op 1 (.build 20 [.int .i64 0, .int .i64 0, .int .i64 0, .nilSlice, .int .i64 0] [(0, 1, .tmp 19)]),
 .op 2 (.store true 5 (.tmp 6) (.tmp 20))] [])
 .ret)
 .skip))
 (.seq (.region [.op 0 (.faddr 21 1 (.tmp 7)),
 .op 1 (.load 22 false 1 (.tmp 21)),
 .op 2 (.faddr 23 15 (.tmp 7)),
 .op 3 (.load 24 false 1 (.tmp 23)),
 .op 4 (.build 25 [.int .i64 0, .int .i64 0, .int .i64 0, .nilSlice, .int .i64 0] [(1, 1, .tmp 22), (2, 1, .tmp 24)]),
 .op 5 (.alloc 9 true [.int .i64 0, .int .i64 0, .int .i64 0, .nilSlice, .int .i64 0]),
 .op 6 (.store true 5 (.tmp 9) (.tmp 25))] [])
 (.seq (.seq (.region [.op 0 (.faddr 26 15 (.tmp 7)),
 .op 1 (.load 27 false 1 (.tmp 26)),
 .op 2 (.bin 28 .neq .plain (.tmp 27) (.const (.int .i64 0)))] [])
 (.cond (.tmp 28)
 (.seq (.region [.op 0 (.load 29 true 5 (.tmp 9)),
 .op 1 (.store true 5 (.tmp 6) (.tmp 29))] [])
 .ret)
 .skip))
 (.seq (.seq (.region [.op 0 (.mov 30 (.tmp 0)),
 .op 1 (.faddr 31 1 (.tmp 7)),
 .op 2 (.load 32 false 1 (.tmp 31)),
 .op 3 (.call 33 58 [.tmp 30, .tmp 32]),
 .op 4 (.mov 10 (.tmp 33))] [])
 (.seq (.region [.op 0 (.mov 34 (.tmp 10)),
 .op 1 (.bin 35 .neq .ptr (.tmp 34) (.const (.nilPtr)))] [])
 (.join [(.normal, ⟨[], [6, 9]⟩)] (.cond (.tmp 35)
 (.region [.op 0 (.mov 36 (.tmp 1)),
 .op 1 (.faddr 37 1 (.tmp 7)),
 .op 2 (.load 38 false 1 (.tmp 37)),
 .op 3 (.mov 39 (.tmp 10)),
 .op 4 (.faddr 40 0 (.tmp 7)),
 .op 5 (.load 41 false 1 (.tmp 40)),
 .op 6 (.faddr 42 2 (.tmp 7)),
 .op 7 (.load 43 true 13 (.tmp 42)),
 .op 8 (.call 44 30 [.tmp 39, .tmp 41, .tmp 43]),
 .op 9 (.call 45 137 [.tmp 36, .tmp 38, .tmp 44])] [(2, 8)])
 (.region [.op 0 (.mov 46 (.tmp 0)),
 .op 1 (.faddr 47 1 (.tmp 7)),
 .op 2 (.load 48 false 1 (.tmp 47)),
 .op 3 (.call 49 139 [.tmp 46, .tmp 48]),
 .op 4 (.faddr 50 0 (.tmp 7)),
 .op 5 (.load 51 false 1 (.tmp 50)),
 .op 6 (.faddr 52 2 (.tmp 7)),
 .op 7 (.load 53 true 13 (.tmp 52)),
 .op 8 (.call 54 141 [.tmp 49, .tmp 51, .tmp 53]),
 .op 9 (.faddr 55 2 (.tmp 9)),
 .op 10 (.store false 1 (.tmp 55) (.tmp 54))] [(5, 3), (7, 3)])))))
 (.seq (.region [.op 0 (.load 56 true 5 (.tmp 9)),
 .op 1 (.store true 5 (.tmp 6) (.tmp 56))] [])
 .ret))))))),
 [.cell 6 true 5]⟩
theorem ok102 : funcOk Tryz.prog (drawOk Tryz.prog) Tryz.f102 A102 = true := by kernel_rfl
noncomputable def A104 : AFunc := ⟨2, (.seq (.region [.op 0 (.box 3 true (.tmp 1)),
 .op 1 (.alloc 4 true [.int .i64 0, .int .i64 0, .int .i64 0, .nilSlice, .int .i64 0])] [])
 (.seq (.region [.op 0 (.mov 6 (.tmp 0)),
 .op 1 (.faddr 7 1 (.tmp 3)),
 .op 2 (.load 8 false 1 (.tmp 7)),
 .op 3 (.call 9 139 [.tmp 6, .tmp 8]),
 .op 4 (.mov 5 (.tmp 9))] [])
 (.seq (.block 0 (.seq (.region [.op 0 (.mov 11 (.tmp 5)),
 .op 1 (.bin 12 .eql .ptr (.tmp 11) (.const (.nilPtr))),
 .op 2 (.mov 10 (.tmp 12))] [])
 (.cond (.tmp 10)
 (.seq (.region [.op 0 (.build 13 [.int .i64 0, .int .i64 0, .int .i64 0, .nilSlice, .int .i64 0] [(0, 1, .const (.int .i64 23))]),
 .op 1 (.store true 5 (.tmp 4) (.tmp 13))] [])
 .ret)
 (.seq (.region [.op 0 (.faddr 15 0 (.tmp 3)),
 .op 1 (.load 16 false 1 (.tmp 15)),
 .op 2 (.bin 17 .eql .plain (.tmp 16) (.const (.int .i64 9))),
 .op 3 (.mov 14 (.tmp 17))] [])
 (.cond (.tmp 14)
 (.seq (.region [.op 0 (.mov 18 (.tmp 5)),
 .op 1 (.call 19 144 [.tmp 18]),
 .op 2 (.call 20 145 [.tmp 19]),
 .op 3 (.faddr 21 6 (.tmp 3)),
 .op 4 (.load 22 false 1 (.tmp 21)),
 .op 5 (.call 23 143 [.tmp 20, .tmp 22]),
 .op 6 (.build 24 [.int .i64 0, .int .i64 0, .int .i64 0, .nilSlice, .int .i64 0] [(3, 1, .tmp 23)]),
 .op 7 (.store true 5 (.tmp 4) (.tmp 24))] [(4, 1), (4, 2)])
 .ret)
 .skip)))))
 (.seq (.region [.op 0 (.mov 25 (.tmp 5)),
 .op 1 (.faddr 26 3 (.tmp 3)),
 .op 2 (.load 27 false 1 (.tmp 26)),
 .op 3 (.faddr 28 5 (.tmp 3)),
 .op 4 (.load 29 false 1 (.tmp 28)),
 .op 5 (.faddr 30 4 (.tmp 3)),
 .op 6 (.load 31 false 1 (.tmp 30)),
 .op 7 (.call 32 146 [.tmp 25, .tmp 27, .tmp 29, .tmp 31]),
 .op 8 (.build 33 [.int .i64 0, .int .i64 0, .int .i64 0, .nilSlice, .int .i64 0] [(0, 1, .tmp 32)]),
 .op 9 (.store true 5 (.tmp 4) (.tmp 33))] [])
 .ret)))),
 [.cell 4 true 5]⟩
theorem ok104 : funcOk Tryz.prog (drawOk Tryz.prog) Tryz.f104 A104 = true := by kernel_rfl
noncomputable def A105 : AFunc := ⟨2, (.seq (.region [.op 0 (.mov 4 (.const (.int .i64 0)))] [])
 (.seq (.seq (.region [.op 0 (.mov 6 (.tmp 0)),
 .op 1 (.len 7 false (.tmp 6)),
 .op 2 (.mov 8 (.const (.int .i64 0)))] [])
 (.block 0 (.loop ⟨[0, 1, 7, 8], []⟩ [((.exit 0), ⟨[], []⟩), (.ret, ⟨[4], []⟩)]
 (.seq (.region [.op 0 (.bin 9 .lss .plain (.tmp 8) (.tmp 7))] [])
 (.seq (.cond (.tmp 9)
 .skip
 (.exit 0))
 (.seq (.block 1 (.seq (.region [.op 0 (.mov 10 (.tmp 8)),
 .op 1 (.mov 5 (.tmp 10))] [])
 (.seq (.region [.op 0 (.mov 11 (.tmp 1)),
 .op 1 (.mov 12 (.tmp 0)),
 .op 2 (.mov 13 (.tmp 5)),
 .op 3 (.iaddr 14 none 1 (.tmp 12) (.tmp 13)),
 .op 4 (.load 15 false 1 (.tmp 14)),
 .op 5 (.bin 16 .eql .plain (.tmp 11) (.tmp 15))] [])
 (.cond (.tmp 16)
 (.seq (.region [.op 0 (.mov 17 (.tmp 5)),
 .op 1 (.mov 4 (.tmp 17))] [])
 .ret)
 .skip))))
 (.region [.op 0 (.bin 18 .add .plain (.tmp 8) (.const (.int .i64 1))),
 .op 1 (.mov 8 (.tmp 18))] [])))))))
 (.seq (.region [.op 0 (.mov 4 (.const (.int .i64 (-1))))] [])
 .ret))),
 [.tmp 4]⟩
theorem ok105 : funcOk Tryz.prog (drawOk Tryz.prog) Tryz.f105 A105 = true := by kernel_rfl
noncomputable def A106 : AFunc := ⟨2, (.seq (.region [.op 0 (.box 2 true (.tmp 0)),
 .op 1 (.box 3 true (.tmp 1)),
 .op 2 (.mov 4 (.const (.bool false)))] [])
 (.seq (.seq (.region [.op 0 (.faddr 5 11 (.tmp 2)),
 .op 1 (.load 6 false 1 (.tmp 5)),
 .op 2 (.faddr 7 11 (.tmp 3)),
 .op 3 (.load 8 false 1 (.tmp 7)),
 .op 4 (.call 9 147 [.tmp 6, .tmp 8]),
 .op 5 (.un 10 .not (.tmp 9)),
 .op 6 (.mov 11 (.tmp 10)),
 .guard 11 false [.op 7 (.faddr 12 12 (.tmp 2)),
 .op 8 (.load 13 false 1 (.tmp 12)),
 .op 9 (.faddr 14 12 (.tmp 3)),
 .op 10 (.load 15 false 1 (.tmp 14)),
 .op 11 (.call 16 148 [.tmp 13, .tmp 15]),
 .op 12 (.un 17 .not (.tmp 16))] [] [17],
 .op 13 (.pick 18 (.tmp 11) (.const (.bool true)) (.tmp 17))] [])
 (.cond (.tmp 18)
 (.seq (.region [.op 0 (.mov 4 (.const (.bool false)))] [])
 .ret)
 .skip))
 (.seq (.region [.op 0 (.faddr 19 0 (.tmp 2)),
 .op 1 (.load 20 false 1 (.tmp 19)),
 .op 2 (.faddr 21 0 (.tmp 3)),
 .op 3 (.load 22 false 1 (.tmp 21)),
 .op 4 (.bin 23 .eql .plain (.tmp 20) (.tmp 22)),
 .op 5 (.mov 24 (.tmp 23)),
 .guard 24 true [.op 6 (.faddr 25 1 (.tmp 2)),
 .op 7 (.load 26 false 1 (.tmp 25)),
 .op 8 (.faddr 27 1 (.tmp 3)),
 .op 9 (.load 28 false 1 (.tmp 27)),
 .op 10 (.bin 29 .eql .plain (.tmp 26) (.tmp 28))] [] [29],
 .op 11 (.pick 30 (.tmp 24) (.tmp 29) (.const (.bool false))),
 .op 12 (.mov 31 (.tmp 30)),
 .guard 31 true [.op 13 (.faddr 32 2 (.tmp 2)),
 .op 14 (.load 33 false 1 (.tmp 32)),
 .op 15 (.faddr 34 2 (.tmp 3)),
 .op 16 (.load 35 false 1 (.tmp 34)),
 .op 17 (.bin 36 .eql .plain (.tmp 33) (.tmp 35))] [] [36],
 .op 18 (.pick 37 (.tmp 31) (.tmp 36) (.const (.bool false))),
 .op 19 (.mov 38 (.tmp 37)),
 .guard 38 true [.op 20 (.faddr 39 3 (.tmp 2)),
 .op 21 (.load 40 false 1 (.tmp 39)),
 .op 22 (.faddr 41 3 (.tmp 3)),
 .op 23 (.load 42 false 1 (.tmp 41)),
 .op 24 (.bin 43 .eql .plain (.tmp 40) (.tmp 42))] [] [43],
 .op 25 (.pick 44 (.tmp 38) (.tmp 43) (.const (.bool false))),
 .op 26 (.mov 45 (.tmp 44)),
 .guard 45 true [.op 27 (.faddr 46 4 (.tmp 2)),
 .op 28 (.load 47 false 1 (.tmp 46)),
 .op 29 (.faddr 48 4 (.tmp 3)),
 .op 30 (.load 49 false 1 (.tmp 48)),
 .op 31 (.bin 50 .eql .plain (.tmp 47) (.tmp 49))] [] [50],
 .op 32 (.pick 51 (.tmp 45) (.tmp 50) (.const (.bool false))),
 .op 33 (.mov 52 (.tmp 51)),
 .guard 52 true [.op 34 (.faddr 53 5 (.tmp 2)),
 .op 35 (.load 54 false 1 (.tmp 53)),
 .op 36 (.faddr 55 5 (.tmp 3)),
 .op 37 (.load 56 false 1 (.tmp 55)),
 .op 38 (.bin 57 .eql .plain (.tmp 54) (.tmp 56))] [] [57],
 .op 39 (.pick 58 (.tmp 52) (.tmp 57) (.const (.bool false))),
 .op 40 (.mov 59 (.tmp 58)),
 .guard 59 true [.op 41 (.faddr 60 6 (.tmp 2)),
 .op 42 (.load 61 false 1 (.tmp 60)),
 .op 43 (.faddr 62 6 (.tmp 3)),
 .op 44 (.load 63 false 1 (.tmp 62)),
 .op 45 (.bin 64 .eql .plain (.tmp 61) (.tmp 63))] [] [64],
 .op 46 (.pick 65 (.tmp 59) (.tmp 64) (.const (.bool false))),
 .op 47 (.mov 66 (.tmp 65)),
 .guard 66 true [.op 48 (.faddr 67 7 (.tmp 2)),
 .op 49 (.load 68 true 2 (.tmp 67)),
 .op 50 (.faddr 69 7 (.tmp 3)),
 .op 51 (.load 70 true 2 (.tmp 69)),
 .op 52 (.bin 71 .eql (.cells [2, 2]) (.tmp 68) (.tmp 70))] [] [71],
 .op 53 (.pick 72 (.tmp 66) (.tmp 71) (.const (.bool false))),
 .op 54 (.mov 73 (.tmp 72)),
 .guard 73 true [.op 55 (.faddr 74 9 (.tmp 2)),
 .op 56 (.load 75 false 1 (.tmp 74)),
 .op 57 (.faddr 76 9 (.tmp 3)),
 .op 58 (.load 77 false 1 (.tmp 76)),
 .op 59 (.bin 78 .eql .bool (.tmp 75) (.tmp 77))] [] [78],
 .op 60 (.pick 79 (.tmp 73) (.tmp 78) (.const (.bool false))),
 .op 61 (.mov 80 (.tmp 79)),
 .guard 80 true [.op 62 (.faddr 81 10 (.tmp 2)),
 .op 63 (.load 82 false 1 (.tmp 81)),
 .op 64 (.faddr 83 10 (.tmp 3)),
 .op 65 (.load 84 false 1 (.tmp 83)),
 .op 66 (.bin 85 .eql .plain (.tmp 82) (.tmp 84))] [] [85],
 .op 67 (.pick 86 (.tmp 80) (.tmp 85) (.const (.bool false))),
 .op 68 (.mov 4 (.tmp 86))] [])
 .ret))),
 [.tmp 4]⟩
theorem ok106 : funcOk Tryz.prog (drawOk Tryz.prog) Tryz.f106 A106 = true := by kernel_rfl
noncomputable def A107 : AFunc := ⟨1, (.seq (.region [.op 0 (.box 1 true (.tmp 0)),
 .op 1 (.mov 2 (.const (.bool false)))] [])
 (.seq (.region [.op 0 (.faddr 3 0 (.tmp 1)),
 .op 1 (.load 4 false 1 (.tmp 3)),
 .op 2 (.bin 5 .eql .plain (.tmp 4) (.const (.int .i64 1))),
 .op 3 (.mov 6 (.tmp 5)),
 .guard 6 false [.op 4 (.faddr 7 0 (.tmp 1)),
 .op 5 (.load 8 false 1 (.tmp 7)),
 .op 6 (.bin 9 .eql .plain (.tmp 8) (.const (.int .i64 2)))] [] [9],
 .op 7 (.pick 10 (.tmp 6) (.const (.bool true)) (.tmp 9)),
 .op 8 (.mov 2 (.tmp 10))] [])
 .ret)),
 [.tmp 2]⟩
theorem ok107 : funcOk Tryz.prog (drawOk Tryz.prog) Tryz.f107 A107 = true := by kernel_rfl
noncomputable def A108 : AFunc := ⟨2, (.seq (.region [.op 0 (.mov 4 (.const (.int .i64 0)))] [])
 (.seq (.seq (.region [.op 0 (.mov 6 (.tmp 0)),
 .op 1 (.len 7 false (.tmp 6)),
 .op 2 (.mov 8 (.const (.int .i64 0)))] [])
 (.block 0 (.loop ⟨[0, 1, 7, 8], []⟩ [((.exit 0), ⟨[], []⟩), (.ret, ⟨[4], []⟩)]
 (.seq (.region [.op 0 (.bin 9 .lss .plain (.tmp 8) (.tmp 7))] [])
 (.seq (.cond (.tmp 9)
 .skip
 (.exit 0))
 (.seq (.block 1 (.seq (.region [.op 0 (.mov 10 (.tmp 8)),
 .op 1 (.mov 5 (.tmp 10))] [])
 (.seq (.region [.op 0 (.mov 11 (.tmp 1)),
 .op 1 (.mov 12 (.tmp 0)),
 .op 2 (.mov 13 (.tmp 5)),
 .op 3 (.iaddr 14 none 9 (.tmp 12) (.tmp 13)),
 .op 4 (.load 15 true 9 (.tmp 14)),
 .op 5 (.callv 16 (.tmp 11) [.tmp 15])] [])
 (.cond (.tmp 16)
 (.seq (.region [.op 0 (.mov 17 (.tmp 5)),
 .op 1 (.mov 4 (.tmp 17))] [])
 .ret)
 .skip))))
 (.region [.op 0 (.bin 18 .add .plain (.tmp 8) (.const (.int .i64 1))),
 .op 1 (.mov 8 (.tmp 18))] [])))))))
 (.seq (.region [.op 0 (.mov 4 (.const (.int .i64 (-1))))] [])
 .ret))),
 [.tmp 4]⟩
theorem ok108 : funcOk Tryz.prog (drawOk Tryz.prog) Tryz.f108 A108 = true := by kernel_rfl
noncomputable def A109 : AFunc := ⟨1, (.seq (.region [.op 0 (.box 1 true (.tmp 0)),
 .op 1 (.mov 2 (.const (.bool false)))] [])
 (.seq (.region [.op 0 (.faddr 3 0 (.tmp 1)),
 .op 1 (.load 4 false 1 (.tmp 3)),
 .op 2 (.bin 5 .geq .plain (.tmp 4) (.const (.int .i64 0))),
 .op 3 (.mov 6 (.tmp 5)),
 .guard 6 true [.op 4 (.faddr 7 2 (.tmp 1)),
 .op 5 (.load 8 false 1 (.tmp 7)),
 .op 6 (.bin 9 .geq .plain (.tmp 8) (.const (.int .i64 0)))] [] [9],
 .op 7 (.pick 10 (.tmp 6) (.tmp 9) (.const (.bool false))),
 .op 8 (.mov 11 (.tmp 10)),
 .guard 11 true [.op 9 (.faddr 12 1 (.tmp 1)),
 .op 10 (.load 13 false 1 (.tmp 12)),
 .op 11 (.bin 14 .geq .plain (.tmp 13) (.const (.int .i64 0)))] [] [14],
 .op 12 (.pick 15 (.tmp 11) (.tmp 14) (.const (.bool false))),
 .op 13 (.mov 16 (.tmp 15)),
 .guard 16 true [.op 14 (.faddr 17 1 (.tmp 1)),
 .op 15 (.load 18 false 1 (.tmp 17)),
 .op 16 (.bin 19 .lss .plain (.tmp 18) (.const (.int .i64 6)))] [] [19],
 .op 17 (.pick 20 (.tmp 16) (.tmp 19) (.const (.bool false))),
 .op 18 (.mov 2 (.tmp 20))] [])
 .ret)),
 [.tmp 2]⟩
theorem ok109 : funcOk Tryz.prog (drawOk Tryz.prog) Tryz.f109 A109 = true := by kernel_rfl
noncomputable def A110 : AFunc := ⟨2, (.seq (.region [.op 0 (.mov 4 (.const (.int .i64 0)))] [])
 (.seq (.seq (.region [.op 0 (.mov 6 (.tmp 0)),
 .op 1 (.len 7 false (.tmp 6)),
 .op 2 (.mov 8 (.const (.int .i64 0)))] [])
 (.block 0 (.loop ⟨[0, 1, 7, 8], []⟩ [((.exit 0), ⟨[], []⟩), (.ret, ⟨[4], []⟩)]
 (.seq (.region [.op 0 (.bin 9 .lss .plain (.tmp 8) (.tmp 7))] [])
 (.seq (.cond (.tmp 9)
 .skip
 (.exit 0))
 (.seq (.block 1 (.seq (.region [.op 0 (.mov 10 (.tmp 8)),
 .op 1 (.mov 5 (.tmp 10))] [])
 (.seq (.region [.op 0 (.mov 11 (.tmp 1)),
 .op 1 (.mov 12 (.tmp 0)),
 .op 2 (.mov 13 (.tmp 5)),
 .op 3 (.iaddr 14 none 2 (.tmp 12) (.tmp 13)),
 .op 4 (.load 15 true 2 (.tmp 14)),
 .op 5 (.callv 16 (.tmp 11) [.tmp 15])] [])
 (.cond (.tmp 16)
 (.seq (.region [.op 0 (.mov 17 (.tmp 5)),
 .op 1 (.mov 4 (.tmp 17))] [])
 .ret)
 .skip))))
 (.region [.op 0 (.bin 18 .add .plain (.tmp 8) (.const (.int .i64 1))),
 .op 1 (.mov 8 (.tmp 18))] [])))))))
 (.seq (.region [.op 0 (.mov 4 (.const (.int .i64 (-1))))] [])
 .ret))),
 [.tmp 4]⟩
theorem ok110 : funcOk Tryz.prog (drawOk Tryz.prog) Tryz.f110 A110 = true := by kernel_rfl
noncomputable def A111 : AFunc := ⟨2, (.seq (.region [.op 0 (.alloc 4 true [.int .i64 0, .int .i64 0, .int .i64 0, .int .i64 0, .int .i64 0, .int .i64 0, .int .i64 0, .str [], .str [], .bool false, .int .u32 0, .nilSlice, .nilSlice])] [])
 (.seq (.seq (.region [.op 0 (.mov 6 (.tmp 0)),
 .op 1 (.bin 7 .eql .ptr (.tmp 6) (.const (.nilPtr))),
 .op 2 (.mov 8 (.tmp 7)),
 .guard 8 false [.op 3 (.mov 9 (.tmp 1)),
 .op 4 (.bin 10 .eql .ptr (.tmp 9) (.const (.nilPtr)))] [] [10],
 .op 5 (.pick 11 (.tmp 8) (.const (.bool true)) (.tmp 10))] [])
 (.cond (.tmp 11)
 (.seq (.region [.op 0 (.build 12 [.int .i64 0, .int .i64 0, .int .i64 0, .int .i64 0, .int .i64 0, .int .i64 0, .int .i64 0, .str [], .str [], .bool false, .int .u32 0, .nilSlice, .nilSlice] []),
 .op 1 (.store true 13 (.tmp 4) (.tmp 12))] [])
 .ret)
 .skip))
 (.seq (.region [.op 0 (.mov 13 (.tmp 0)),
 .op 1 (.mov 14 (.tmp 1)),
 .op 2 (.call 15 149 [.tmp 13, .tmp 14]),
 .op 3 (.alloc 5 true [.int .i64 0, .int .i64 0, .int .i64 0, .int .i64 0, .int .i64 0, .int .i64 0, .int .i64 0, .str [], .str [], .bool false, .int .u32 0, .nilSlice, .nilSlice]),
 .op 4 (.store true 13 (.tmp 5) (.tmp 15))] [])
 (.seq (.region [.op 0 (.mov 16 (.tmp 0)),
 .op 1 (.call 17 32 [.tmp 16]),
 .op 2 (.call 18 150 [.tmp 17]),
 .op 3 (.faddr 19 9 (.tmp 5)),
 .op 4 (.store false 1 (.tmp 19) (.const (.bool true))),
 .op 5 (.faddr 20 11 (.tmp 5)),
 .op 6 (.store false 1 (.tmp 20) (.tmp 18))] [])
 (.seq (.region [.op 0 (.load 21 true 13 (.tmp 5)),
 .op 1 (.store true 13 (.tmp 4) (.tmp 21))] [])
 .ret))))),
 [.cell 4 true 13]⟩
theorem ok111 : funcOk Tryz.prog (drawOk Tryz.prog) Tryz.f111 A111 = true := by kernel_rfl
noncomputable def A113 : AFunc := ⟨5, (.seq (.region [.op 0 (.box 6 true (.tmp 1)),
 .op 1 (.box 7 true (.tmp 2)),
 .op 2 (.mov 10 (.const (.nilSlice))),
 .op 3 (.mov 11 (.const (.int .i64 0)))] [])
 (.seq (.seq (.region [.op 0 (.faddr 13 5 (.tmp 6)),
 .op 1 (.load 14 false 1 (.tmp 13)),
 .op 2 (.bin 15 .lss .plain (.tmp 14) (.const (.int .i64 1))),
 .op 3 (.mov 16 (.tmp 15)),
 .guard 16 false [.op 4 (.faddr 17 5 (.tmp 6)),
 .op 5 (.load 18 false 1 (.tmp 17)),
 .op 6 (.bin 19 .gtr .plain (.tmp 18) (.const (.int .i64 1048576)))] [] [19],
 .op 7 (.pick 20 (.tmp 16) (.const (.bool true)) (.tmp 19)),
 .op 8 (.mov 21 (.tmp 20)),
 .guard 21 false [.op 9 (.faddr 22 2 (.tmp 6)),
 .op 10 (.load 23 false 1 (.tmp 22)),
 .op 11 (.bin 24 .neq .plain (.tmp 23) (.const (.int .i64 1))),
 .op 12 (.mov 25 (.tmp 24)),
 .guard 25 true [.op 13 (.faddr 26 2 (.tmp 6)),
 .op 14 (.load 27 false 1 (.tmp 26)),
 .op 15 (.bin 28 .neq .plain (.tmp 27) (.const (.int .i64 2)))] [] [28],
 .op 16 (.pick 29 (.tmp 25) (.tmp 28) (.const (.bool false)))] [] [29],
 .op 17 (.pick 30 (.tmp 21) (.const (.bool true)) (.tmp 29))] [])
 (.cond (.tmp 30)
 (.seq (.region [.op 0 (.mov 10 (.const (.nilSlice))),
 .op 1 (.mov 11 (.const (.int .i64 1)))] [])
 .ret)
 .skip))
 (.seq (.regionF 1 [.op 0 (.faddr 31 7 (.tmp 6)),
 .op 1 (.load 32 true 2 (.tmp 31)),
 .op 2 (.faddr 33 2 (.tmp 6)),
 .op 3 (.load 34 false 1 (.tmp 33)),
 .op 4 (.faddr 35 5 (.tmp 6)),
 .op 5 (.load 36 false 1 (.tmp 35)),
 .op 6 (.mov 37 (.tmp 0)),
 .op 7 (.faddr 38 0 (.tmp 7)),
 .op 8 (.load 39 true 9 (.tmp 38)),
 .op 9 (.mov 40 (.tmp 4)),
 .op 10 (.call 41 117 [.tmp 37, .tmp 39, .tmp 40]),
 .op 11 (.build 42 [.str [], .str [], .int .i64 0, .int .i64 0, .int .i64 0, .int .i64 0, .int .i64 0, .int .i64 0, .bool false] [(0, 2, .tmp 32), (2, 1, .tmp 34), (4, 1, .tmp 36), (5, 3, .tmp 41)]),
 .op 12 (.fl 12 0 none [.str [], .str [], .int .i64 0, .int .i64 0, .int .i64 0, .int .i64 0, .int .i64 0, .int .i64 0, .bool false] []),
 .op 13 (.store true 9 (.tmp 12) (.tmp 42))] [(1, 10), (3, 10), (5, 10)])
 (.seq (.region [.op 0 (.mov 43 (.tmp 0)),
 .op 1 (.load 44 true 10 (.tmp 7)),
 .op 2 (.mov 45 (.tmp 3)),
 .op 3 (.load 46 true 9 (.tmp 12)),
 .op 4 (.mov 47 (.tmp 4)),
 .op 5 (.call 48 152 [.tmp 44, .tmp 45, .tmp 46, .tmp 47]),
 .op 6 (.call 49 119 [.tmp 43, .tmp 48]),
 .op 7 (.extract 50 (.tmp 49) 0),
 .op 8 (.extract 51 (.tmp 49) 1),
 .op 9 (.mov 10 (.tmp 50)),
 .op 10 (.mov 11 (.tmp 51))] [])
 .ret)))),
 [.tmp 10, .tmp 11]⟩
theorem ok113 : funcOk Tryz.prog (drawOk Tryz.prog) Tryz.f113 A113 = true := by kernel_rfl
noncomputable def A117 : AFunc := ⟨3, (.seq (.region [.op 0 (.box 4 true (.tmp 1)),
 .op 1 (.alloc 6 true [.int .i64 0, .int .i64 0, .int .i64 0])] [])
 (.seq (.region [.op 0 (.mov 7 (.tmp 0)),
 .op 1 (.nilchk 8 (.tmp 7)),
 .op 2 (.faddr 9 1 (.tmp 8)),
 .op 3 (.load 10 true 3 (.tmp 9)),
 .op 4 (.faddr 11 5 (.tmp 4)),
 .op 5 (.load 12 true 3 (.tmp 11)),
 .op 6 (.call 13 154 [.tmp 10, .tmp 12]),
 .op 7 (.mov 14 (.tmp 2)),
 .op 8 (.mov 15 (.tmp 0)),
 .op 9 (.nilchk 16 (.tmp 15)),
 .op 10 (.faddr 17 0 (.tmp 16)),
 .op 11 (.load 18 false 1 (.tmp 17)),
 .op 12 (.call 19 153 [.tmp 13, .tmp 14, .tmp 18]),
 .op 13 (.store true 3 (.tmp 6) (.tmp 19))] [(11, 6)])
 .ret)),
 [.cell 6 true 3]⟩
theorem ok117 : funcOk Tryz.prog (drawOk Tryz.prog) Tryz.f117 A117 = true := by kernel_rfl
noncomputable def A119 : AFunc := ⟨2, (.seq (.region [.op 0 (.box 3 true (.tmp 1)),
 .op 1 (.mov 4 (.const (.nilSlice))),
 .op 2 (.mov 5 (.const (.int .i64 0)))] [])
 (.seq (.seq (.region [.op 0 (.mov 7 (.tmp 0)),
 .op 1 (.load 8 true 10 (.tmp 3)),
 .op 2 (.call 9 87 [.tmp 7, .tmp 8]),
 .op 3 (.mov 6 (.tmp 9))] [])
 (.seq (.region [.op 0 (.mov 10 (.tmp 6)),
 .op 1 (.bin 11 .neq .plain (.tmp 10) (.const (.int .i64 0)))] [])
 (.cond (.tmp 11)
 (.seq (.region [.op 0 (.mov 12 (.tmp 6)),
 .op 1 (.mov 4 (.const (.nilSlice))),
 .op 2 (.mov 5 (.tmp 12))] [])
 .ret)
 .skip)))
 (.seq (.region [.op 0 (.mov 13 (.tmp 0)),
 .op 1 (.faddr 14 0 (.tmp 3)),
 .op 2 (.faddr 15 5 (.tmp 14)),
 .op 3 (.load 16 true 3 (.tmp 15)),
 .op 4 (.nilchk 17 (.tmp 13)),
 .op 5 (.faddr 18 1 (.tmp 17)),
 .op 6 (.store true 3 (.tmp 18) (.tmp 16))] [])
 (.seq (.region [.op 0 (.faddr 19 0 (.tmp 3)),
 .op 1 (.load 20 true 9 (.tmp 19)),
 .op 2 (.buildSl 21 [.str [], .str [], .int .i64 0, .int .i64 0, .int .i64 0, .int .i64 0, .int .i64 0, .int .i64 0, .bool false] 9 1 [(0, .tmp 20)]),
 .op 3 (.mov 4 (.tmp 21)),
 .op 4 (.mov 5 (.const (.int .i64 0)))] [])
 .ret)))),
 [.tmp 4, .tmp 5]⟩
theorem ok119 : funcOk Tryz.prog (drawOk Tryz.prog) Tryz.f119 A119 = true := by kernel_rfl
noncomputable def A123 : AFunc := ⟨2, (.seq (.region [.op 0 (.box 3 true (.tmp 1)),
 .op 1 (.mov 4 (.const (.int .i64 0))),
 .op 2 (.mov 5 (.const (.bool false)))] [])
 (.seq (.region [.op 0 (.mov 6 (.const (.int .i64 0)))] [])
 (.seq (.block 0 (.loop ⟨[0, 6], [3]⟩ [((.exit 0), ⟨[0, 6], [3]⟩)]
 (.seq (.seq (.region [.op 0 (.mov 7 (.tmp 6)),
 .op 1 (.mov 8 (.tmp 0)),
 .op 2 (.nilchk 9 (.tmp 8)),
 .op 3 (.faddr 10 1 (.tmp 9)),
 .op 4 (.load 11 false 1 (.tmp 10)),
 .op 5 (.len 12 false (.tmp 11)),
 .op 6 (.bin 13 .lss .plain (.tmp 7) (.tmp 12)),
 .op 7 (.mov 14 (.tmp 13)),
 .guard 14 true [.op 8 (.mov 15 (.tmp 0)),
 .op 9 (.nilchk 16 (.tmp 15)),
 .op 10 (.faddr 17 1 (.tmp 16)),
 .op 11 (.load 18 false 1 (.tmp 17)),
 .op 12 (.mov 19 (.tmp 6)),
 .op 13 (.iaddr 20 none 10 (.tmp 18) (.tmp 19)),
 .op 14 (.faddr 21 0 (.tmp 20)),
 .op 15 (.faddr 22 0 (.tmp 21)),
 .op 16 (.load 23 true 2 (.tmp 22)),
 .op 17 (.load 24 true 2 (.tmp 3)),
 .op 18 (.call 25 155 [.tmp 23, .tmp 24])] [] [25],
 .op 19 (.pick 26 (.tmp 14) (.tmp 25) (.const (.bool false)))] [])
 (.cond (.tmp 26)
 .skip
 (.exit 0)))
 (.block 1 (.region [.op 0 (.mov 27 (.tmp 6)),
 .op 1 (.bin 28 .add .plain (.tmp 27) (.const (.int .i64 1))),
 .op 2 (.mov 6 (.tmp 28))] [])))))
 (.seq (.region [.op 0 (.mov 29 (.tmp 6)),
 .op 1 (.mov 30 (.tmp 6)),
 .op 2 (.mov 31 (.tmp 0)),
 .op 3 (.nilchk 32 (.tmp 31)),
 .op 4 (.faddr 33 1 (.tmp 32)),
 .op 5 (.load 34 false 1 (.tmp 33)),
 .op 6 (.len 35 false (.tmp 34)),
 .op 7 (.bin 36 .lss .plain (.tmp 30) (.tmp 35)),
 .op 8 (.mov 37 (.tmp 36)),
 .guard 37 true [.op 9 (.mov 38 (.tmp 0)),
 .op 10 (.nilchk 39 (.tmp 38)),
 .op 11 (.faddr 40 1 (.tmp 39)),
 .op 12 (.load 41 false 1 (.tmp 40)),
 .op 13 (.mov 42 (.tmp 6)),
 .op 14 (.iaddr 43 none 10 (.tmp 41) (.tmp 42)),
 .op 15 (.faddr 44 0 (.tmp 43)),
 .op 16 (.faddr 45 0 (.tmp 44)),
 .op 17 (.load 46 true 2 (.tmp 45)),
 .op 18 (.load 47 true 2 (.tmp 3)),
 .op 19 (.bin 48 .eql (.cells [2, 2]) (.tmp 46) (.tmp 47))] [] [48],
 .op 20 (.pick 49 (.tmp 37) (.tmp 48) (.const (.bool false))),
 .op 21 (.mov 4 (.tmp 29)),
 .op 22 (.mov 5 (.tmp 49))] [])
 .ret)))),
 [.tmp 4, .tmp 5]⟩
theorem ok123 : funcOk Tryz.prog (drawOk Tryz.prog) Tryz.f123 A123 = true := by kernel_rfl
noncomputable def A124 : AFunc := ⟨1, (.seq (.region [.op 0 (.mov 2 (.const (.int .i64 0)))] [])
 (.seq (.region [.op 0 (.mov 3 (.const (.int .i64 0)))] [])
 (.seq (.seq (.region [.op 0 (.mov 6 (.tmp 0)),
 .op 1 (.len 7 false (.tmp 6)),
 .op 2 (.mov 8 (.const (.int .i64 0)))] [])
 (.block 0 (.loop ⟨[3, 6, 7, 8], []⟩ [((.exit 0), ⟨[3], []⟩), (.ret, ⟨[2], []⟩)]
 (.seq (.region [.op 0 (.bin 9 .lss .plain (.tmp 8) (.tmp 7))] [])
 (.seq (.cond (.tmp 9)
 .skip
 (.exit 0))
 (.seq (.block 1 (.seq (.region [.op 0 (.iaddr 10 none 1 (.tmp 6) (.tmp 8)),
 .op 1 (.load 11 false 1 (.tmp 10)),
 .op 2 (.mov 5 (.tmp 11))] [])
 (.seq (.region [.op 0 (.mov 12 (.tmp 5)),
 .op 1 (.mov 13 (.tmp 3)),
 .op 2 (.bin 14 .neq .plain (.tmp 12) (.tmp 13))] [])
 (.cond (.tmp 14)
 (.seq (.region [.op 0 (.mov 15 (.tmp 5)),
 .op 1 (.mov 2 (.tmp 15))] [])
 .ret)
 .skip))))
 (.region [.op 0 (.bin 16 .add .plain (.tmp 8) (.const (.int .i64 1))),
 .op 1 (.mov 8 (.tmp 16))] [])))))))
 (.seq (.region [.op 0 (.mov 17 (.tmp 3)),
 .op 1 (.mov 2 (.tmp 17))] [])
 .ret)))),
 [.tmp 2]⟩
theorem ok124 : funcOk Tryz.prog (drawOk Tryz.prog) Tryz.f124 A124 = true := by kernel_rfl
noncomputable def A125 : AFunc := ⟨2, (.seq (.region [.op 0 (.mov 4 (.const (.int .i64 0)))] [])
 (.seq (.region [.op 0 (.mov 7 (.tmp 0)),
 .op 1 (.call 8 156 [.tmp 7]),
 .op 2 (.mov 5 (.tmp 8))] [])
 (.seq (.region [.op 0 (.mov 9 (.tmp 1)),
 .op 1 (.call 10 156 [.tmp 9]),
 .op 2 (.mov 6 (.tmp 10))] [])
 (.seq (.seq (.region [.op 0 (.mov 11 (.tmp 5))] [])
 (.cond (.tmp 11)
 (.seq (.seq (.region [.op 0 (.mov 12 (.tmp 6))] [])
 (.cond (.tmp 12)
 (.seq (.region [.op 0 (.mov 4 (.const (.int .i64 0)))] [])
 .ret)
 .skip))
 (.seq (.region [.op 0 (.mov 4 (.const (.int .i64 (-1))))] [])
 .ret))
 .skip))
 (.seq (.seq (.region [.op 0 (.mov 13 (.tmp 6))] [])
 (.cond (.tmp 13)
 (.seq (.region [.op 0 (.mov 4 (.const (.int .i64 1)))] [])
 .ret)
 .skip))
 (.seq (.seq (.region [.op 0 (.mov 14 (.tmp 0)),
 .op 1 (.mov 15 (.tmp 1)),
 .op 2 (.bin 16 .lss .plain (.tmp 14) (.tmp 15))] [])
 (.cond (.tmp 16)
 (.seq (.region [.op 0 (.mov 4 (.const (.int .i64 (-1))))] [])
 .ret)
 .skip))
 (.seq (.seq (.region [.op 0 (.mov 17 (.tmp 0)),
 .op 1 (.mov 18 (.tmp 1)),
 .op 2 (.bin 19 .gtr .plain (.tmp 17) (.tmp 18))] [])
 (.cond (.tmp 19)
 (.seq (.region [.op 0 (.mov 4 (.const (.int .i64 1)))] [])
 .ret)
 .skip))
 (.seq (.region [.op 0 (.mov 4 (.const (.int .i64 0)))] [])
 .ret)))))))),
 [.tmp 4]⟩
theorem ok125 : funcOk Tryz.prog (drawOk Tryz.prog) Tryz.f125 A125 = true := by kernel_rfl
noncomputable def A126 : AFunc := ⟨2, (.seq (.region [.op 0 (.mov 4 (.const (.int .i64 0)))] [])
 (.seq (.region [.op 0 (.mov 7 (.tmp 0)),
 .op 1 (.call 8 157 [.tmp 7]),
 .op 2 (.mov 5 (.tmp 8))] [])
 (.seq (.region [.op 0 (.mov 9 (.tmp 1)),
 .op 1 (.call 10 157 [.tmp 9]),
 .op 2 (.mov 6 (.tmp 10))] [])
 (.seq (.seq (.region [.op 0 (.mov 11 (.tmp 5))] [])
 (.cond (.tmp 11)
 (.seq (.seq (.region [.op 0 (.mov 12 (.tmp 6))] [])
 (.cond (.tmp 12)
 (.seq (.region [.op 0 (.mov 4 (.const (.int .i64 0)))] [])
 .ret)
 .skip))
 (.seq (.region [.op 0 (.mov 4 (.const (.int .i64 (-1))))] [])
 .ret))
 .skip))
 (.seq (.seq (.region [.op 0 (.mov 13 (.tmp 6))] [])
 (.cond (.tmp 13)
 (.seq (.region [.op 0 (.mov 4 (.const (.int .i64 1)))] [])
 .ret)
 .skip))
 (.seq (.seq (.region [.op 0 (.mov 14 (.tmp 0)),
 .op 1 (.mov 15 (.tmp 1)),
 .op 2 (.bin 16 .lss .plain (.tmp 14) (.tmp 15))] [])
 (.cond (.tmp 16)
 (.seq (.region [.op 0 (.mov 4 (.const (.int .i64 (-1))))] [])
 .ret)
 .skip))
 (.seq (.seq (.region [.op 0 (.mov 17 (.tmp 0)),
 .op 1 (.mov 18 (.tmp 1)),
 .op 2 (.bin 19 .gtr .plain (.tmp 17) (.tmp 18))] [])
 (.cond (.tmp 19)
 (.seq (.region [.op 0 (.mov 4 (.const (.int .i64 1)))] [])
 .ret)
 .skip))
 (.seq (.region [.op 0 (.mov 4 (.const (.int .i64 0)))] [])
 .ret)))))))),
 [.tmp 4]⟩
theorem ok126 : funcOk Tryz.prog (drawOk Tryz.prog) Tryz.f126 A126 = true := by kernel_rfl
end Go.Proofs.YtinkiihdnepfjaaGreatDoor.Code
