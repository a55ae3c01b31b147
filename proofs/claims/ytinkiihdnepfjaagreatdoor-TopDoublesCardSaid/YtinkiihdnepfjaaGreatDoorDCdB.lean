/- code -/
import Derived.Test.YtinkiihdnepfjaaGreatDoorProg
import Derived.Test.YtinkiihdnepfjaaGreatDoorDIKH
import Derived.KernelRfl
set_option linter.unusedSimpArgs false
set_option linter.unusedVariables false
set_option maxRecDepth 100000
namespace Go.Proofs.YtinkiihdnepfjaaGreatDoor.Code
open Go.Fw Go.Fw.K
noncomputable def A127 : AFunc := ⟨2, (.seq (.region [.op 0 (.box 3 true (.tmp 1)),
 .op 1 (.mov 4 (.const (.int .i64 0)))] [])
 (.seq (.region [.op 0 (.mov 5 (.tmp 0)),
 .op 1 (.nilchk 6 (.tmp 5)),
 .op 2 (.faddr 7 0 (.tmp 6)),
 .op 3 (.load 8 false 1 (.tmp 7)),
 .op 4 (.bin 9 .add .plain (.tmp 8) (.const (.int .i64 1))),
 .op 5 (.nilchk 10 (.tmp 5)),
 .op 6 (.faddr 11 0 (.tmp 10)),
 .op 7 (.store false 1 (.tmp 11) (.tmp 9))] [])
 (.seq (.region [.op 0 (.mov 12 (.tmp 0)),
 .op 1 (.mov 13 (.tmp 0)),
 .op 2 (.nilchk 14 (.tmp 13)),
 .op 3 (.faddr 15 1 (.tmp 14)),
 .op 4 (.load 16 false 1 (.tmp 15)),
 .op 5 (.load 17 true 2 (.tmp 3)),
 .op 6 (.buildSl 18 [.str [], .str []] 2 1 [(0, .tmp 17)]),
 .op 7 (.append 19 2 32 [.str [], .str []] false (.tmp 16) (.tmp 18)),
 .op 8 (.nilchk 20 (.tmp 12)),
 .op 9 (.faddr 21 1 (.tmp 20)),
 .op 10 (.store false 1 (.tmp 21) (.tmp 19))] [(4, 6)])
 (.seq (.region [.op 0 (.mov 22 (.tmp 0)),
 .op 1 (.mov 23 (.tmp 0)),
 .op 2 (.nilchk 24 (.tmp 23)),
 .op 3 (.faddr 25 1 (.tmp 24)),
 .op 4 (.load 26 false 1 (.tmp 25)),
 .op 5 (.mov 27 (.tmp 0)),
 .op 6 (.nilchk 28 (.tmp 27)),
 .op 7 (.faddr 29 1 (.tmp 28)),
 .op 8 (.load 30 false 1 (.tmp 29)),
 .op 9 (.len 31 false (.tmp 30)),
 .op 10 (.bin 32 .sub .plain (.tmp 31) (.const (.int .i64 16))),
 .op 11 (.minmax 33 true [.const (.int .i64 0), .tmp 32]),
 .op 12 (.slice 34 (.sl 2) (.tmp 26) (some (.tmp 33)) none none),
 .op 13 (.call 35 158 [.tmp 34]),
 .op 14 (.nilchk 36 (.tmp 22)),
 .op 15 (.faddr 37 1 (.tmp 36)),
 .op 16 (.store false 1 (.tmp 37) (.tmp 35))] [])
 (.seq (.region [.op 0 (.mov 38 (.tmp 0)),
 .op 1 (.nilchk 39 (.tmp 38)),
 .op 2 (.faddr 40 0 (.tmp 39)),
 .op 3 (.load 41 false 1 (.tmp 40)),
 .op 4 (.mov 4 (.tmp 41))] [])
 .ret))))),
 [.tmp 4]⟩
theorem ok127 : funcOk Tryz.prog (drawOk Tryz.prog) Tryz.f127 A127 = true := by kernel_rfl
noncomputable def A128 : AFunc := ⟨3, (.seq (.region [.op 0 (.mov 6 (.const (.nilSlice)))] [])
 (.seq (.region [.op 0 (.mov 10 (.tmp 0)),
 .op 1 (.mov 11 (.tmp 1)),
 .op 2 (.slice 12 (.sl 10) (.tmp 10) (some (.tmp 11)) none none)] [])
 (.seq (.region [.op 0 (.mov 13 (.tmp 2)),
 .op 1 (.len 14 false (.tmp 13)),
 .op 2 (.mov 7 (.tmp 14))] [])
 (.seq (.seq (.region [.op 0 (.mov 15 (.tmp 7)),
 .op 1 (.bin 16 .eql .plain (.tmp 15) (.const (.int .i64 0)))] [])
 (.cond (.tmp 16)
 (.seq (.region [.op 0 (.mov 17 (.tmp 0)),
 .op 1 (.mov 6 (.tmp 17))] [])
 .ret)
 .skip))
 (.seq (.region [.op 0 (.mov 18 (.tmp 0)),
 .op 1 (.len 19 false (.tmp 18)),
 .op 2 (.mov 8 (.tmp 19))] [])
 (.seq (.seq (.region [.op 0 (.mov 20 (.tmp 1)),
 .op 1 (.mov 21 (.tmp 8)),
 .op 2 (.bin 22 .eql .plain (.tmp 20) (.tmp 21))] [])
 (.cond (.tmp 22)
 (.seq (.region [.op 0 (.mov 23 (.tmp 0)),
 .op 1 (.mov 24 (.tmp 2)),
 .op 2 (.append 25 10 96 [.str [], .str [], .int .i64 0, .int .i64 0, .int .i64 0, .int .i64 0, .int .i64 0, .int .i64 0, .bool false, .int .i64 0] false (.tmp 23) (.tmp 24)),
 .op 3 (.mov 6 (.tmp 25))] [])
 .ret)
 .skip))
 (.seq (.seq (.region [.op 0 (.mov 26 (.tmp 8)),
 .op 1 (.mov 27 (.tmp 7)),
 .op 2 (.bin 28 .add .plain (.tmp 26) (.tmp 27)),
 .op 3 (.mov 29 (.tmp 0)),
 .op 4 (.cap 30 (.tmp 29)),
 .op 5 (.bin 31 .gtr .plain (.tmp 28) (.tmp 30))] [])
 (.cond (.tmp 31)
 (.seq (.region [.op 0 (.mov 32 (.tmp 0)),
 .op 1 (.mov 33 (.tmp 1)),
 .op 2 (.slice 34 (.sl 10) (.tmp 32) none (some (.tmp 33)) none),
 .op 3 (.mov 35 (.tmp 8)),
 .op 4 (.mov 36 (.tmp 7)),
 .op 5 (.bin 37 .add .plain (.tmp 35) (.tmp 36)),
 .op 6 (.mov 38 (.tmp 1)),
 .op 7 (.bin 39 .sub .plain (.tmp 37) (.tmp 38)),
 .op 8 (.append 40 10 96 [.str [], .str [], .int .i64 0, .int .i64 0, .int .i64 0, .int .i64 0, .int .i64 0, .int .i64 0, .bool false, .int .i64 0] true (.tmp 34) (.tmp 39)),
 .op 9 (.mov 9 (.tmp 40))] [])
 (.seq (.region [.op 0 (.mov 41 (.tmp 9)),
 .op 1 (.mov 42 (.tmp 1)),
 .op 2 (.slice 43 (.sl 10) (.tmp 41) (some (.tmp 42)) none none),
 .op 3 (.mov 44 (.tmp 2)),
 .op 4 (.copy 45 10 (.tmp 43) (.tmp 44))] [])
 (.seq (.region [.op 0 (.mov 46 (.tmp 9)),
 .op 1 (.mov 47 (.tmp 1)),
 .op 2 (.mov 48 (.tmp 7)),
 .op 3 (.bin 49 .add .plain (.tmp 47) (.tmp 48)),
 .op 4 (.slice 50 (.sl 10) (.tmp 46) (some (.tmp 49)) none none),
 .op 5 (.mov 51 (.tmp 0)),
 .op 6 (.mov 52 (.tmp 1)),
 .op 7 (.slice 53 (.sl 10) (.tmp 51) (some (.tmp 52)) none none),
 .op 8 (.copy 54 10 (.tmp 50) (.tmp 53))] [])
 (.seq (.region [.op 0 (.mov 55 (.tmp 9)),
 .op 1 (.mov 6 (.tmp 55))] [])
 .ret))))
 .skip))
 (.seq (.region [.op 0 (.mov 56 (.tmp 0)),
 .op 1 (.mov 57 (.tmp 8)),
 .op 2 (.mov 58 (.tmp 7)),
 .op 3 (.bin 59 .add .plain (.tmp 57) (.tmp 58)),
 .op 4 (.slice 60 (.sl 10) (.tmp 56) none (some (.tmp 59)) none),
 .op 5 (.mov 0 (.tmp 60))] [])
 (.seq (.seq (.region [.op 0 (.mov 61 (.tmp 2)),
 .op 1 (.mov 62 (.tmp 0)),
 .op 2 (.mov 63 (.tmp 1)),
 .op 3 (.mov 64 (.tmp 7)),
 .op 4 (.bin 65 .add .plain (.tmp 63) (.tmp 64)),
 .op 5 (.slice 66 (.sl 10) (.tmp 62) (some (.tmp 65)) none none),
 .op 6 (.call 67 159 [.tmp 61, .tmp 66]),
 .op 7 (.un 68 .not (.tmp 67))] [])
 (.cond (.tmp 68)
 (.seq (.region [.op 0 (.mov 69 (.tmp 0)),
 .op 1 (.mov 70 (.tmp 1)),
 .op 2 (.mov 71 (.tmp 7)),
 .op 3 (.bin 72 .add .plain (.tmp 70) (.tmp 71)),
 .op 4 (.slice 73 (.sl 10) (.tmp 69) (some (.tmp 72)) none none),
 .op 5 (.mov 74 (.tmp 0)),
 .op 6 (.mov 75 (.tmp 1)),
 .op 7 (.slice 76 (.sl 10) (.tmp 74) (some (.tmp 75)) none none),
 .op 8 (.copy 77 10 (.tmp 73) (.tmp 76))] [])
 (.seq (.region [.op 0 (.mov 78 (.tmp 0)),
 .op 1 (.mov 79 (.tmp 1)),
 .op 2 (.slice 80 (.sl 10) (.tmp 78) (some (.tmp 79)) none none),
 .op 3 (.mov 81 (.tmp 2)),
 .op 4 (.copy 82 10 (.tmp 80) (.tmp 81))] [])
 (.seq (.region [.op 0 (.mov 83 (.tmp 0)),
 .op 1 (.mov 6 (.tmp 83))] [])
 .ret)))
 .skip))
 (.seq (.region [.op 0 (.mov 84 (.tmp 0)),
 .op 1 (.mov 85 (.tmp 8)),
 .op 2 (.slice 86 (.sl 10) (.tmp 84) (some (.tmp 85)) none none),
 .op 3 (.mov 87 (.tmp 2)),
 .op 4 (.copy 88 10 (.tmp 86) (.tmp 87))] [])
 (.seq (.region [.op 0 (.mov 89 (.tmp 0)),
 .op 1 (.mov 90 (.tmp 1)),
 .op 2 (.slice 91 (.sl 10) (.tmp 89) (some (.tmp 90)) none none),
 .op 3 (.mov 92 (.tmp 7)),
 .op 4 (.call 93 160 [.tmp 91, .tmp 92])] [])
 (.seq (.region [.op 0 (.mov 94 (.tmp 0)),
 .op 1 (.mov 6 (.tmp 94))] [])
 .ret)))))))))))),
 [.tmp 6]⟩
theorem ok128 : funcOk Tryz.prog (drawOk Tryz.prog) Tryz.f128 A128 = true := by kernel_rfl
noncomputable def A130 : AFunc := ⟨1, (.seq (.region [.op 0 (.mov 2 (.const (.nilSlice)))] [])
 (.seq (.region [.op 0 (.mov 4 (.tmp 0)),
 .op 1 (.call 5 161 [.tmp 4]),
 .op 2 (.mov 3 (.tmp 5))] [])
 (.seq (.region [.op 0 (.mov 6 (.tmp 3)),
 .op 1 (.call 7 162 [.tmp 6, .const (.func 163 [])])] [])
 (.seq (.region [.op 0 (.mov 8 (.tmp 3)),
 .op 1 (.call 9 165 [.tmp 8]),
 .op 2 (.mov 2 (.tmp 9))] [])
 .ret)))),
 [.tmp 2]⟩
theorem ok130 : funcOk Tryz.prog (drawOk Tryz.prog) Tryz.f130 A130 = true := by kernel_rfl
noncomputable def A133 : AFunc := ⟨1, (.seq (.region [.op 0 (.box 1 true (.tmp 0)),
 .op 1 (.alloc 2 true [.int .i64 0, .int .i64 0, .nilSlice])] [])
 (.seq (.region [.op 0 (.faddr 3 2 (.tmp 1)),
 .op 1 (.load 4 false 1 (.tmp 3)),
 .op 2 (.call 5 166 [.tmp 4]),
 .op 3 (.faddr 6 2 (.tmp 1)),
 .op 4 (.store false 1 (.tmp 6) (.tmp 5))] [])
 (.seq (.region [.op 0 (.load 7 true 3 (.tmp 1)),
 .op 1 (.store true 3 (.tmp 2) (.tmp 7))] [])
 .ret))),
 [.cell 2 true 3]⟩
theorem ok133 : funcOk Tryz.prog (drawOk Tryz.prog) Tryz.f133 A133 = true := by kernel_rfl
noncomputable def A134 : AFunc := ⟨2, (.seq (.region [.op 0 (.mov 4 (.const (.bool false)))] [])
 (.seq (.region [.op 0 (.mov 5 (.tmp 1)),
 .op 1 (.bin 6 .geq .plain (.tmp 5) (.const (.int .i64 0))),
 .op 2 (.mov 7 (.tmp 6)),
 .guard 7 true [.op 3 (.mov 8 (.tmp 1)),
 .op 4 (.mov 9 (.tmp 0)),
 .op 5 (.nilchk 10 (.tmp 9)),
 .op 6 (.faddr 11 0 (.tmp 10)),
 .op 7 (.load 12 false 1 (.tmp 11)),
 .op 8 (.bin 13 .lss .plain (.tmp 8) (.tmp 12))] [] [13],
 .op 9 (.pick 14 (.tmp 7) (.tmp 13) (.const (.bool false))),
 .op 10 (.mov 4 (.tmp 14))] [])
 .ret)),
 [.tmp 4]⟩
theorem ok134 : funcOk Tryz.prog (drawOk Tryz.prog) Tryz.f134 A134 = true := by kernel_rfl
noncomputable def A135 : AFunc := ⟨2, (.seq (.region [.op 0 (.mov 4 (.const (.str [])))] [])
 (.seq (.seq (.region [.op 0 (.mov 10 (.tmp 1)),
 .op 1 (.bin 11 .eql .plain (.tmp 10) (.const (.int .i64 10)))] [])
 (.cond (.tmp 11)
 (.seq (.seq (.region [.op 0 (.mov 12 (.tmp 0)),
 .op 1 (.bin 13 .leq .plain (.const (.int .i64 0)) (.tmp 12)),
 .op 2 (.mov 14 (.tmp 13)),
 .guard 14 true [.op 3 (.mov 15 (.tmp 0)),
 .op 4 (.bin 16 .lss .plain (.tmp 15) (.const (.int .i64 100)))] [] [16],
 .op 5 (.pick 17 (.tmp 14) (.tmp 16) (.const (.bool false)))] [])
 (.cond (.tmp 17)
 (.seq (.region [.op 0 (.mov 18 (.tmp 0)),
 .op 1 (.call 19 167 [.tmp 18]),
 .op 2 (.mov 4 (.tmp 19))] [])
 .ret)
 .skip))
 (.seq (.region [.op 0 (.alloc 5 false [.int .u8 0, .int .u8 0, .int .u8 0, .int .u8 0, .int .u8 0, .int .u8 0, .int .u8 0, .int .u8 0, .int .u8 0, .int .u8 0, .int .u8 0, .int .u8 0, .int .u8 0, .int .u8 0, .int .u8 0, .int .u8 0, .int .u8 0, .int .u8 0, .int .u8 0, .int .u8 0, .int .u8 0, .int .u8 0, .int .u8 0, .int .u8 0])] [])
 (.seq (.region [.op 0 (.mov 20 (.tmp 0)),
 .op 1 (.conv 21 (.toInt .u64) (.tmp 20)),
 .op 2 (.mov 6 (.tmp 21))] [])
 (.seq (.seq (.region [.op 0 (.mov 22 (.tmp 0)),
 .op 1 (.bin 23 .lss .plain (.tmp 22) (.const (.int .i64 0)))] [])
 (.join [(.normal, ⟨[0, 5, 6], []⟩)] (.cond (.tmp 23)
 (.region [.op 0 (.mov 24 (.tmp 6)),
 .op 1 (.un 25 .neg (.tmp 24)),
 .op 2 (.mov 6 (.tmp 25))] [])
 .skip)))
 (.seq (.region [.op 0 (.mov 26 (.tmp 6)),
 .op 1 (.call 27 168 [.tmp 26]),
 .op 2 (.mov 7 (.tmp 27))] [])
 (.seq .dead
 (.seq (.seq (.region [.op 0 (.mov 33 (.tmp 0)),
 .op 1 (.bin 34 .lss .plain (.tmp 33) (.const (.int .i64 0)))] [])
 (.cond (.tmp 34)
 (.seq (.region [.op 0 (.iaddr 35 (some 24) 1 (.tmp 5) (.const (.int .i64 0))),
 .op 1 (.store false 1 (.tmp 35) (.const (.int .u8 45)))] [])
 (.seq .dead
 .ret))
 .skip))
 (.seq .dead
 .ret))))))))
 .skip))
 (.seq (.region [.op 0 (.mov 45 (.tmp 0)),
 .op 1 (.conv 46 (.toInt .u64) (.tmp 45)),
 .op 2 (.mov 47 (.tmp 1)),
 .op 3 (.mov 48 (.tmp 0)),
 .op 4 (.bin 49 .lss .plain (.tmp 48) (.const (.int .i64 0))),
 .op 5 (.call 50 170 [.const (.nilSlice), .tmp 46, .tmp 47, .tmp 49, .const (.bool false)]),
 .op 6 (.mov 44 (.tmp 50)),
 .op 7 (.extract 51 (.tmp 44) 0),
 .op 8 (.extract 52 (.tmp 44) 1),
 .op 9 (.mov 8 (.tmp 51)),
 .op 10 (.mov 9 (.tmp 52))] [])
 (.seq (.region [.op 0 (.mov 53 (.tmp 9)),
 .op 1 (.mov 4 (.tmp 53))] [])
 .ret)))),
 [.tmp 4]⟩
theorem ok135 : funcOk Tryz.prog (drawOk Tryz.prog) Tryz.f135 A135 = true := by kernel_rfl
noncomputable def A136 : AFunc := ⟨3, (.seq (.region [.op 0 (.mov 6 (.const (.int .i64 0)))] [])
 (.seq (.block 0 (.seq (.region [.op 0 (.mov 8 (.tmp 0)),
 .op 1 (.mov 9 (.tmp 1)),
 .op 2 (.call 10 171 [.tmp 8, .tmp 9]),
 .op 3 (.un 11 .not (.tmp 10)),
 .op 4 (.mov 7 (.tmp 11))] [])
 (.cond (.tmp 7)
 (.seq (.region [.op 0 (.mov 6 (.const (.int .i64 23)))] [])
 .ret)
 (.seq (.region [.op 0 (.mov 13 (.tmp 2)),
 .op 1 (.bin 14 .lss .plain (.tmp 13) (.const (.int .i64 1))),
 .op 2 (.mov 15 (.tmp 14)),
 .guard 15 false [.op 3 (.mov 16 (.tmp 2)),
 .op 4 (.bin 17 .gtr .plain (.tmp 16) (.const (.int .i64 1024)))] [] [17],
 .op 5 (.pick 18 (.tmp 15) (.const (.bool true)) (.tmp 17)),
 .op 6 (.mov 12 (.tmp 18))] [])
 (.cond (.tmp 12)
 (.seq (.region [.op 0 (.mov 6 (.const (.int .i64 1)))] [])
 .ret)
 .skip)))))
 (.seq (.region [.op 0 (.mov 19 (.tmp 0)),
 .op 1 (.nilchk 20 (.tmp 19)),
 .op 2 (.faddr 21 0 (.tmp 20)),
 .op 3 (.load 22 false 1 (.tmp 21)),
 .op 4 (.mov 23 (.tmp 1)),
 .op 5 (.iaddr 24 none 1 (.tmp 22) (.tmp 23)),
 .op 6 (.load 25 false 1 (.tmp 24)),
 .op 7 (.mov 26 (.tmp 2)),
 .op 8 (.bin 27 .add .plain (.tmp 25) (.tmp 26)),
 .op 9 (.iaddr 28 none 1 (.tmp 22) (.tmp 23)),
 .op 10 (.store false 1 (.tmp 28) (.tmp 27))] [])
 (.seq (.region [.op 0 (.mov 6 (.const (.int .i64 0)))] [])
 .ret)))),
 [.tmp 6]⟩
theorem ok136 : funcOk Tryz.prog (drawOk Tryz.prog) Tryz.f136 A136 = true := by kernel_rfl
noncomputable def A137 : AFunc := ⟨3, (.seq (.region [.op 0 (.mov 8 (.tmp 2)),
 .op 1 (.len 9 false (.tmp 8)),
 .op 2 (.mov 10 (.const (.int .i64 0)))] [])
 (.block 0 (.loop ⟨[0, 1, 8, 9, 10], []⟩ [((.exit 0), ⟨[], []⟩)]
 (.seq (.region [.op 0 (.bin 11 .lss .plain (.tmp 10) (.tmp 9))] [])
 (.seq (.cond (.tmp 11)
 .skip
 (.exit 0))
 (.seq (.block 1 (.seq (.region [.op 0 (.iaddr 12 none 14 (.tmp 8) (.tmp 10)),
 .op 1 (.load 13 true 14 (.tmp 12)),
 .op 2 (.alloc 7 true [.int .i64 0, .int .i64 0, .int .i64 0, .int .i64 0, .int .i64 0, .int .i64 0, .int .i64 0, .int .i64 0, .str [], .str [], .bool false, .int .u32 0, .nilSlice, .nilSlice]),
 .op 3 (.store true 14 (.tmp 7) (.tmp 13))] [])
 (.region [.op 0 (.mov 14 (.tmp 0)),
 .op 1 (.mov 15 (.tmp 1)),
 .op 2 (.load 16 true 14 (.tmp 7)),
 .op 3 (.invoke 17 [(85, 260, none), (90, 260, some (0, 1, false)), (91, 266, none)] (.tmp 14) [.tmp 15, .tmp 16])] [])))
 (.region [.op 0 (.bin 18 .add .plain (.tmp 10) (.const (.int .i64 1))),
 .op 1 (.mov 10 (.tmp 18))] []))))))),
 []⟩
theorem ok137 : funcOk Tryz.prog (drawOk Tryz.prog) Tryz.f137 A137 = true := by kernel_rfl
noncomputable def A139 : AFunc := ⟨2, (.seq (.region [.op 0 (.mov 4 (.const (.nilPtr)))] [])
 (.seq (.seq (.region [.op 0 (.mov 5 (.tmp 1)),
 .op 1 (.mov 6 (.tmp 0)),
 .op 2 (.nilchk 7 (.tmp 6)),
 .op 3 (.faddr 8 0 (.tmp 7)),
 .op 4 (.load 9 false 1 (.tmp 8)),
 .op 5 (.len 10 false (.tmp 9)),
 .op 6 (.bin 11 .lss .plain (.tmp 5) (.tmp 10))] [])
 (.cond (.tmp 11)
 (.seq (.region [.op 0 (.mov 4 (.const (.nilPtr)))] [])
 .ret)
 .skip))
 (.seq (.region [.op 0 (.mov 12 (.tmp 0)),
 .op 1 (.mov 13 (.tmp 1)),
 .op 2 (.mov 14 (.tmp 0)),
 .op 3 (.nilchk 15 (.tmp 14)),
 .op 4 (.faddr 16 0 (.tmp 15)),
 .op 5 (.load 17 false 1 (.tmp 16)),
 .op 6 (.len 18 false (.tmp 17)),
 .op 7 (.bin 19 .sub .plain (.tmp 13) (.tmp 18)),
 .op 8 (.call 20 57 [.tmp 12, .tmp 19]),
 .op 9 (.mov 4 (.tmp 20))] [])
 .ret))),
 [.tmp 4]⟩
theorem ok139 : funcOk Tryz.prog (drawOk Tryz.prog) Tryz.f139 A139 = true := by kernel_rfl
noncomputable def A140 : AFunc := ⟨2, (.seq (.region [.op 0 (.mov 4 (.const (.nilSlice)))] [])
 (.seq (.region [.op 0 (.mov 5 (.const (.nilSlice)))] [])
 (.seq (.seq (.region [.op 0 (.mov 8 (.tmp 1)),
 .op 1 (.minmax 9 false [.tmp 8, .const (.int .i64 1024)]),
 .op 2 (.minmax 10 true [.const (.int .i64 0), .tmp 9]),
 .op 3 (.mov 11 (.const (.int .i64 0)))] [])
 (.block 0 (.loop ⟨[0, 5, 10, 11], []⟩ [((.exit 0), ⟨[5], []⟩)]
 (.seq (.region [.op 0 (.bin 12 .lss .plain (.tmp 11) (.tmp 10))] [])
 (.seq (.cond (.tmp 12)
 .skip
 (.exit 0))
 (.seq (.join [(.normal, ⟨[0, 5, 10, 11], []⟩)] (.block 1 (.seq (.region [.op 0 (.mov 13 (.tmp 0)),
 .op 1 (.nilchk 14 (.tmp 13)),
 .op 2 (.faddr 15 4 (.tmp 14)),
 .op 3 (.load 16 false 1 (.tmp 15)),
 .op 4 (.bin 17 .add .plain (.tmp 16) (.const (.int .i64 1))),
 .op 5 (.nilchk 18 (.tmp 13)),
 .op 6 (.faddr 19 4 (.tmp 18)),
 .op 7 (.store false 1 (.tmp 19) (.tmp 17))] [])
 (.seq (.seq (.region [.op 0 (.mov 20 (.tmp 0)),
 .op 1 (.nilchk 21 (.tmp 20)),
 .op 2 (.faddr 22 12 (.tmp 21)),
 .op 3 (.load 23 false 1 (.tmp 22)),
 .op 4 (.mov 24 (.tmp 23)),
 .guard 24 true [.op 5 (.mov 25 (.tmp 0)),
 .op 6 (.nilchk 26 (.tmp 25)),
 .op 7 (.faddr 27 4 (.tmp 26)),
 .op 8 (.load 28 false 1 (.tmp 27)),
 .op 9 (.mov 29 (.tmp 0)),
 .op 10 (.nilchk 30 (.tmp 29)),
 .op 11 (.faddr 31 26 (.tmp 30)),
 .op 12 (.load 32 false 1 (.tmp 31)),
 .op 13 (.bin 33 .sub .plain (.tmp 28) (.tmp 32)),
 .op 14 (.bin 34 .geq .plain (.tmp 33) (.const (.int .i64 8)))] [] [34],
 .op 15 (.pick 35 (.tmp 24) (.tmp 34) (.const (.bool false)))] [])
 (.join [(.normal, ⟨[0, 5, 10, 11], []⟩)] (.cond (.tmp 35)
 (.region [.op 0 (.mov 36 (.tmp 0)),
 .op 1 (.call 37 173 [.tmp 36])] [])
 .skip)))
 (.seq (.seq (.region [.op 0 (.mov 38 (.tmp 0)),
 .op 1 (.nilchk 39 (.tmp 38)),
 .op 2 (.faddr 40 12 (.tmp 39)),
 .op 3 (.load 41 false 1 (.tmp 40))] [])
 (.cond (.tmp 41)
 (.exit 1)
 .skip))
 (.seq (.region [.op 0 (.mov 43 (.tmp 0)),
 .op 1 (.call 44 174 [.tmp 43]),
 .op 2 (.mov 42 (.tmp 44)),
 .op 3 (.extract 45 (.tmp 42) 0),
 .op 4 (.extract 46 (.tmp 42) 1),
 .op 5 (.alloc 6 true [.int .i64 0, .int .i64 0, .int .i64 0, .int .i64 0, .int .i64 0, .int .i64 0, .int .i64 0, .str [], .str [], .bool false, .int .u32 0, .nilSlice, .nilSlice]),
 .op 6 (.store true 13 (.tmp 6) (.tmp 45)),
 .op 7 (.mov 7 (.tmp 46))] [])
 (.seq (.region [.op 0 (.mov 47 (.tmp 7))] [])
 (.join [(.normal, ⟨[0, 5, 10, 11], []⟩)] (.cond (.tmp 47)
 (.region [.op 0 (.mov 48 (.tmp 5)),
 .op 1 (.mov 49 (.tmp 0)),
 .op 2 (.load 50 true 13 (.tmp 6)),
 .op 3 (.call 51 175 [.tmp 49, .tmp 50]),
 .op 4 (.buildSl 52 [.int .i64 0, .int .i64 0, .int .i64 0, .int .i64 0, .int .i64 0, .int .i64 0, .int .i64 0, .int .i64 0, .str [], .str [], .bool false, .int .u32 0, .nilSlice, .nilSlice] 14 1 [(0, .tmp 51)]),
 .op 5 (.append 53 14 152 [.int .i64 0, .int .i64 0, .int .i64 0, .int .i64 0, .int .i64 0, .int .i64 0, .int .i64 0, .int .i64 0, .str [], .str [], .bool false, .int .u32 0, .nilSlice, .nilSlice] false (.tmp 48) (.tmp 52)),
 .op 6 (.mov 5 (.tmp 53))] [])
 .skip)))))))))
 (.region [.op 0 (.bin 54 .add .plain (.tmp 11) (.const (.int .i64 1))),
 .op 1 (.mov 11 (.tmp 54))] [])))))))
 (.seq (.region [.op 0 (.mov 55 (.tmp 5)),
 .op 1 (.mov 4 (.tmp 55))] [])
 .ret)))),
 [.tmp 4]⟩
theorem ok140 : funcOk Tryz.prog (drawOk Tryz.prog) Tryz.f140 A140 = true := by kernel_rfl
noncomputable def A141 : AFunc := ⟨3, (.seq (.region [.op 0 (.box 5 true (.tmp 2)),
 .op 1 (.mov 6 (.const (.int .i64 0)))] [])
 (.seq (.seq (.region [.op 0 (.faddr 8 0 (.tmp 5)),
 .op 1 (.load 9 false 1 (.tmp 8)),
 .op 2 (.bin 10 .neq .plain (.tmp 9) (.const (.int .i64 2))),
 .op 3 (.mov 11 (.tmp 10)),
 .guard 11 false [.op 4 (.load 12 true 13 (.tmp 5)),
 .op 5 (.call 13 50 [.tmp 12]),
 .op 6 (.bin 14 .neq (.iface true []) (.tmp 13) (.const (.nilIface)))] [] [14],
 .op 7 (.pick 15 (.tmp 11) (.const (.bool true)) (.tmp 14)),
 .op 8 (.mov 16 (.tmp 15)),
 .guard 16 false [.op 9 (.mov 17 (.tmp 1)),
 .op 10 (.mov 18 (.tmp 0)),
 .op 11 (.call 19 36 [.tmp 18]),
 .op 12 (.bin 20 .neq .plain (.tmp 17) (.tmp 19))] [] [20],
 .op 13 (.pick 21 (.tmp 16) (.const (.bool true)) (.tmp 20)),
 .op 14 (.mov 22 (.tmp 21)),
 .guard 22 false [.op 15 (.mov 23 (.tmp 0)),
 .op 16 (.nilchk 24 (.tmp 23)),
 .op 17 (.faddr 25 12 (.tmp 24)),
 .op 18 (.load 26 false 1 (.tmp 25)),
 .op 19 (.un 27 .not (.tmp 26))] [] [27],
 .op 20 (.pick 28 (.tmp 22) (.const (.bool true)) (.tmp 27)),
 .op 21 (.mov 29 (.tmp 28)),
 .guard 29 false [.op 22 (.faddr 30 4 (.tmp 5)),
 .op 23 (.load 31 false 1 (.tmp 30)),
 .op 24 (.mov 32 (.tmp 0)),
 .op 25 (.nilchk 33 (.tmp 32)),
 .op 26 (.faddr 34 13 (.tmp 33)),
 .op 27 (.faddr 35 4 (.tmp 34)),
 .op 28 (.load 36 false 1 (.tmp 35)),
 .op 29 (.bin 37 .neq .plain (.tmp 31) (.tmp 36))] [] [37],
 .op 30 (.pick 38 (.tmp 29) (.const (.bool true)) (.tmp 37)),
 .op 31 (.mov 39 (.tmp 38)),
 .guard 39 false [.op 32 (.faddr 40 1 (.tmp 5)),
 .op 33 (.load 41 false 1 (.tmp 40)),
 .op 34 (.mov 42 (.tmp 0)),
 .op 35 (.nilchk 43 (.tmp 42)),
 .op 36 (.faddr 44 13 (.tmp 43)),
 .op 37 (.faddr 45 1 (.tmp 44)),
 .op 38 (.load 46 false 1 (.tmp 45)),
 .op 39 (.bin 47 .neq .plain (.tmp 41) (.tmp 46))] [] [47],
 .op 40 (.pick 48 (.tmp 39) (.const (.bool true)) (.tmp 47))] [])
 (.cond (.tmp 48)
 (.seq (.region [.op 0 (.mov 6 (.const (.int .i64 (-1))))] [])
 .ret)
 .skip))
 (.seq (.region [.op 0 (.mov 49 (.tmp 0)),
 .op 1 (.nilchk 50 (.tmp 49)),
 .op 2 (.faddr 51 12 (.tmp 50)),
 .op 3 (.store false 1 (.tmp 51) (.const (.bool false)))] [])
 (.seq (.region [.op 0 (.faddr 52 3 (.tmp 5)),
 .op 1 (.load 53 false 1 (.tmp 52)),
 .op 2 (.mov 7 (.tmp 53))] [])
 (.seq (.block 0 (.seq (.region [.op 0 (.faddr 55 1 (.tmp 5)),
 .op 1 (.load 56 false 1 (.tmp 55)),
 .op 2 (.bin 57 .eql .plain (.tmp 56) (.const (.int .i64 1))),
 .op 3 (.mov 58 (.tmp 57)),
 .guard 58 true [.op 4 (.mov 59 (.tmp 7)),
 .op 5 (.bin 60 .eql .plain (.tmp 59) (.const (.int .i64 0)))] [] [60],
 .op 6 (.pick 61 (.tmp 58) (.tmp 60) (.const (.bool false))),
 .op 7 (.mov 54 (.tmp 61))] [])
 (.join [(.normal, ⟨[7], []⟩)] (.cond (.tmp 54)
 (.region [.op 0 (.mov 62 (.tmp 0)),
 .op 1 (.nilchk 63 (.tmp 62)),
 .op 2 (.faddr 64 11 (.tmp 63)),
 .op 3 (.store false 1 (.tmp 64) (.const (.bool true)))] [])
 (.seq (.region [.op 0 (.faddr 66 1 (.tmp 5)),
 .op 1 (.load 67 false 1 (.tmp 66)),
 .op 2 (.bin 68 .eql .plain (.tmp 67) (.const (.int .i64 2))),
 .op 3 (.mov 69 (.tmp 68)),
 .guard 69 true [.op 4 (.mov 70 (.tmp 7)),
 .op 5 (.bin 71 .eql .plain (.tmp 70) (.const (.int .i64 22)))] [] [71],
 .op 6 (.pick 72 (.tmp 69) (.tmp 71) (.const (.bool false))),
 .op 7 (.mov 65 (.tmp 72))] [])
 (.join [(.normal, ⟨[7], []⟩)] (.cond (.tmp 65)
 (.region [.op 0 (.mov 73 (.tmp 0)),
 .op 1 (.mov 74 (.tmp 0)),
 .op 2 (.build 75 [.bool false, .int .i64 0] []),
 .op 3 (.nilchk 76 (.tmp 73)),
 .op 4 (.faddr 77 11 (.tmp 76)),
 .op 5 (.store false 1 (.tmp 77) (.const (.bool false))),
 .op 6 (.nilchk 78 (.tmp 74)),
 .op 7 (.faddr 79 27 (.tmp 78)),
 .op 8 (.store true 2 (.tmp 79) (.tmp 75))] [])
 (.seq (.region [.op 0 (.faddr 81 1 (.tmp 5)),
 .op 1 (.load 82 false 1 (.tmp 81)),
 .op 2 (.bin 83 .eql .plain (.tmp 82) (.const (.int .i64 3))),
 .op 3 (.mov 84 (.tmp 83)),
 .guard 84 true [.op 4 (.mov 85 (.tmp 7)),
 .op 5 (.bin 86 .eql .plain (.tmp 85) (.const (.int .i64 0))),
 .op 6 (.mov 87 (.tmp 86)),
 .guard 87 false [.op 7 (.mov 88 (.tmp 7)),
 .op 8 (.bin 89 .eql .plain (.tmp 88) (.const (.int .i64 22)))] [] [89],
 .op 9 (.pick 90 (.tmp 87) (.const (.bool true)) (.tmp 89))] [] [90],
 .op 10 (.pick 91 (.tmp 84) (.tmp 90) (.const (.bool false))),
 .op 11 (.mov 80 (.tmp 91))] [])
 (.join [(.normal, ⟨[7], []⟩)] (.cond (.tmp 80)
 (.region [.op 0 (.mov 92 (.tmp 0)),
 .op 1 (.nilchk 93 (.tmp 92)),
 .op 2 (.faddr 94 11 (.tmp 93)),
 .op 3 (.store false 1 (.tmp 94) (.const (.bool false)))] [])
 (.seq (.region [.op 0 (.faddr 96 1 (.tmp 5)),
 .op 1 (.load 97 false 1 (.tmp 96)),
 .op 2 (.bin 98 .eql .plain (.tmp 97) (.const (.int .i64 5))),
 .op 3 (.mov 99 (.tmp 98)),
 .guard 99 true [.op 4 (.mov 100 (.tmp 7)),
 .op 5 (.bin 101 .eql .plain (.tmp 100) (.const (.int .i64 0)))] [] [101],
 .op 6 (.pick 102 (.tmp 99) (.tmp 101) (.const (.bool false))),
 .op 7 (.mov 95 (.tmp 102))] [])
 (.join [(.normal, ⟨[7], []⟩)] (.cond (.tmp 95)
 (.seq (.region [.op 0 (.mov 103 (.tmp 0)),
 .op 1 (.nilchk 104 (.tmp 103)),
 .op 2 (.faddr 105 5 (.tmp 104)),
 .op 3 (.load 106 false 1 (.tmp 105)),
 .op 4 (.load 107 true 13 (.tmp 5)),
 .op 5 (.call 108 176 [.tmp 106, .tmp 107]),
 .op 6 (.mov 7 (.tmp 108))] [])
 (.seq (.region [.op 0 (.mov 109 (.tmp 7)),
 .op 1 (.bin 110 .eql .plain (.tmp 109) (.const (.int .i64 25)))] [])
 (.join [(.normal, ⟨[7], []⟩)] (.cond (.tmp 110)
 (.region [.op 0 (.mov 111 (.tmp 0)),
 .op 1 (.build 112 [.bool false, .int .i64 0] []),
 .op 2 (.nilchk 113 (.tmp 111)),
 .op 3 (.faddr 114 29 (.tmp 113)),
 .op 4 (.store true 2 (.tmp 114) (.tmp 112))] [])
 .skip))))
 .skip)))))))))))))
 (.seq (.region [.op 0 (.mov 115 (.tmp 7)),
 .op 1 (.mov 6 (.tmp 115))] [])
 .ret)))))),
 [.tmp 6]⟩
theorem ok141 : funcOk Tryz.prog (drawOk Tryz.prog) Tryz.f141 A141 = true := by kernel_rfl
noncomputable def A143 : AFunc := ⟨2, (.seq (.region [.op 0 (.mov 4 (.const (.nilSlice)))] [])
 (.seq (.region [.op 0 (.mov 5 (.const (.nilSlice)))] [])
 (.seq (.seq (.region [.op 0 (.mov 8 (.tmp 0)),
 .op 1 (.call 9 130 [.tmp 8]),
 .op 2 (.len 10 false (.tmp 9)),
 .op 3 (.mov 11 (.const (.int .i64 0)))] [])
 (.block 0 (.loop ⟨[1, 5, 9, 10, 11], []⟩ [((.exit 0), ⟨[5], []⟩)]
 (.seq (.region [.op 0 (.bin 12 .lss .plain (.tmp 11) (.tmp 10))] [])
 (.seq (.cond (.tmp 12)
 .skip
 (.exit 0))
 (.seq (.block 1 (.seq (.region [.op 0 (.iaddr 13 none 9 (.tmp 9) (.tmp 11)),
 .op 1 (.load 14 true 9 (.tmp 13)),
 .op 2 (.alloc 7 true [.str [], .str [], .int .i64 0, .int .i64 0, .int .i64 0, .int .i64 0, .int .i64 0, .int .i64 0, .bool false]),
 .op 3 (.store true 9 (.tmp 7) (.tmp 14))] [])
 (.seq (.region [.op 0 (.faddr 15 0 (.tmp 7)),
 .op 1 (.faddr 16 0 (.tmp 15)),
 .op 2 (.load 17 false 1 (.tmp 16)),
 .op 3 (.mov 18 (.tmp 1)),
 .op 4 (.bin 19 .eql .plain (.tmp 17) (.tmp 18)),
 .op 5 (.mov 20 (.tmp 19)),
 .guard 20 true [.op 6 (.load 21 true 9 (.tmp 7)),
 .op 7 (.call 22 177 [.tmp 21]),
 .op 8 (.bin 23 .eql .plain (.tmp 22) (.const (.int .i64 1)))] [] [23],
 .op 9 (.pick 24 (.tmp 20) (.tmp 23) (.const (.bool false)))] [])
 (.join [(.normal, ⟨[1, 5, 9, 10, 11], []⟩)] (.cond (.tmp 24)
 (.region [.op 0 (.mov 25 (.tmp 5)),
 .op 1 (.load 26 true 9 (.tmp 7)),
 .op 2 (.buildSl 27 [.str [], .str [], .int .i64 0, .int .i64 0, .int .i64 0, .int .i64 0, .int .i64 0, .int .i64 0, .bool false] 9 1 [(0, .tmp 26)]),
 .op 3 (.append 28 9 88 [.str [], .str [], .int .i64 0, .int .i64 0, .int .i64 0, .int .i64 0, .int .i64 0, .int .i64 0, .bool false] false (.tmp 25) (.tmp 27)),
 .op 4 (.mov 5 (.tmp 28))] [])
 .skip)))))
 (.region [.op 0 (.bin 29 .add .plain (.tmp 11) (.const (.int .i64 1))),
 .op 1 (.mov 11 (.tmp 29))] [])))))))
 (.seq (.region [.op 0 (.mov 30 (.tmp 5)),
 .op 1 (.mov 4 (.tmp 30))] [])
 .ret)))),
 [.tmp 4]⟩
theorem ok143 : funcOk Tryz.prog (drawOk Tryz.prog) Tryz.f143 A143 = true := by kernel_rfl
noncomputable def A144 : AFunc := ⟨1, (.seq (.region [.op 0 (.mov 2 (.const (.nilPtr)))] [])
 (.seq (.region [.op 0 (.mov 3 (.tmp 0)),
 .op 1 (.nilchk 4 (.tmp 3)),
 .op 2 (.faddr 5 5 (.tmp 4)),
 .op 3 (.load 6 false 1 (.tmp 5)),
 .op 4 (.mov 2 (.tmp 6))] [])
 .ret)),
 [.tmp 2]⟩
theorem ok144 : funcOk Tryz.prog (drawOk Tryz.prog) Tryz.f144 A144 = true := by kernel_rfl
noncomputable def A145 : AFunc := ⟨1, (.seq (.region [.op 0 (.mov 2 (.const (.nilSlice)))] [])
 (.seq (.region [.op 0 (.mov 3 (.tmp 0)),
 .op 1 (.nilchk 4 (.tmp 3)),
 .op 2 (.faddr 5 0 (.tmp 4)),
 .op 3 (.load 6 false 1 (.tmp 5)),
 .op 4 (.call 7 130 [.tmp 6]),
 .op 5 (.mov 2 (.tmp 7))] [])
 .ret)),
 [.tmp 2]⟩
theorem ok145 : funcOk Tryz.prog (drawOk Tryz.prog) Tryz.f145 A145 = true := by kernel_rfl
noncomputable def A146 : AFunc := ⟨4, (.seq (.region [.op 0 (.mov 8 (.const (.int .i64 0)))] [])
 (.seq (.block 0 (.seq (.region [.op 0 (.mov 10 (.tmp 1)),
 .op 1 (.mov 11 (.tmp 2)),
 .op 2 (.mov 12 (.tmp 3)),
 .op 3 (.call 13 178 [.tmp 10, .tmp 11, .tmp 12]),
 .op 4 (.un 14 .not (.tmp 13)),
 .op 5 (.mov 9 (.tmp 14))] [])
 (.cond (.tmp 9)
 (.seq (.region [.op 0 (.mov 8 (.const (.int .i64 1)))] [])
 .ret)
 (.seq (.region [.op 0 (.mov 16 (.tmp 0)),
 .op 1 (.nilchk 17 (.tmp 16)),
 .op 2 (.faddr 18 6 (.tmp 17)),
 .op 3 (.load 19 false 1 (.tmp 18)),
 .op 4 (.len 20 false (.tmp 19)),
 .op 5 (.bin 21 .geq .plain (.tmp 20) (.const (.int .i64 8))),
 .op 6 (.mov 15 (.tmp 21))] [])
 (.cond (.tmp 15)
 (.seq (.region [.op 0 (.mov 8 (.const (.int .i64 24)))] [])
 .ret)
 .skip)))))
 (.seq (.region [.op 0 (.mov 22 (.tmp 0)),
 .op 1 (.mov 23 (.tmp 0)),
 .op 2 (.nilchk 24 (.tmp 23)),
 .op 3 (.faddr 25 6 (.tmp 24)),
 .op 4 (.load 26 false 1 (.tmp 25)),
 .op 5 (.mov 27 (.tmp 1)),
 .op 6 (.mov 28 (.tmp 2)),
 .op 7 (.mov 29 (.tmp 3)),
 .op 8 (.build 30 [.int .i64 0, .int .i64 0, .int .i64 0] [(0, 1, .tmp 27), (1, 1, .tmp 28), (2, 1, .tmp 29)]),
 .op 9 (.buildSl 31 [.int .i64 0, .int .i64 0, .int .i64 0] 3 1 [(0, .tmp 30)]),
 .op 10 (.append 32 3 24 [.int .i64 0, .int .i64 0, .int .i64 0] false (.tmp 26) (.tmp 31)),
 .op 11 (.nilchk 33 (.tmp 22)),
 .op 12 (.faddr 34 6 (.tmp 33)),
 .op 13 (.store false 1 (.tmp 34) (.tmp 32))] [])
 (.seq (.region [.op 0 (.mov 8 (.const (.int .i64 0)))] [])
 .ret)))),
 [.tmp 8]⟩
theorem ok146 : funcOk Tryz.prog (drawOk Tryz.prog) Tryz.f146 A146 = true := by kernel_rfl
noncomputable def A147 : AFunc := ⟨2, (.seq (.region [.op 0 (.mov 4 (.const (.bool false)))] [])
 (.seq (.seq (.region [.op 0 (.mov 6 (.tmp 0)),
 .op 1 (.len 7 false (.tmp 6)),
 .op 2 (.mov 8 (.tmp 1)),
 .op 3 (.len 9 false (.tmp 8)),
 .op 4 (.bin 10 .neq .plain (.tmp 7) (.tmp 9))] [])
 (.cond (.tmp 10)
 (.seq (.region [.op 0 (.mov 4 (.const (.bool false)))] [])
 .ret)
 .skip))
 (.seq (.seq (.region [.op 0 (.mov 11 (.tmp 0)),
 .op 1 (.len 12 false (.tmp 11)),
 .op 2 (.mov 13 (.const (.int .i64 0)))] [])
 (.block 0 (.loop ⟨[0, 1, 12, 13], []⟩ [((.exit 0), ⟨[], []⟩), (.ret, ⟨[4], []⟩)]
 (.seq (.region [.op 0 (.bin 14 .lss .plain (.tmp 13) (.tmp 12))] [])
 (.seq (.cond (.tmp 14)
 .skip
 (.exit 0))
 (.seq (.block 1 (.seq (.region [.op 0 (.mov 15 (.tmp 13)),
 .op 1 (.mov 5 (.tmp 15))] [])
 (.seq (.region [.op 0 (.mov 16 (.tmp 0)),
 .op 1 (.mov 17 (.tmp 5)),
 .op 2 (.iaddr 18 none 9 (.tmp 16) (.tmp 17)),
 .op 3 (.load 19 true 9 (.tmp 18)),
 .op 4 (.mov 20 (.tmp 1)),
 .op 5 (.mov 21 (.tmp 5)),
 .op 6 (.iaddr 22 none 9 (.tmp 20) (.tmp 21)),
 .op 7 (.load 23 true 9 (.tmp 22)),
 .op 8 (.bin 24 .neq (.cells [2, 2, 1, 1, 1, 1, 1, 1, 0]) (.tmp 19) (.tmp 23))] [])
 (.cond (.tmp 24)
 (.seq (.region [.op 0 (.mov 4 (.const (.bool false)))] [])
 .ret)
 .skip))))
 (.region [.op 0 (.bin 25 .add .plain (.tmp 13) (.const (.int .i64 1))),
 .op 1 (.mov 13 (.tmp 25))] [])))))))
 (.seq (.region [.op 0 (.mov 4 (.const (.bool true)))] [])
 .ret)))),
 [.tmp 4]⟩
theorem ok147 : funcOk Tryz.prog (drawOk Tryz.prog) Tryz.f147 A147 = true := by kernel_rfl
noncomputable def A148 : AFunc := ⟨2, (.seq (.region [.op 0 (.mov 4 (.const (.bool false)))] [])
 (.seq (.seq (.region [.op 0 (.mov 6 (.tmp 0)),
 .op 1 (.len 7 false (.tmp 6)),
 .op 2 (.mov 8 (.tmp 1)),
 .op 3 (.len 9 false (.tmp 8)),
 .op 4 (.bin 10 .neq .plain (.tmp 7) (.tmp 9))] [])
 (.cond (.tmp 10)
 (.seq (.region [.op 0 (.mov 4 (.const (.bool false)))] [])
 .ret)
 .skip))
 (.seq (.seq (.region [.op 0 (.mov 11 (.tmp 0)),
 .op 1 (.len 12 false (.tmp 11)),
 .op 2 (.mov 13 (.const (.int .i64 0)))] [])
 (.block 0 (.loop ⟨[0, 1, 12, 13], []⟩ [((.exit 0), ⟨[], []⟩), (.ret, ⟨[4], []⟩)]
 (.seq (.region [.op 0 (.bin 14 .lss .plain (.tmp 13) (.tmp 12))] [])
 (.seq (.cond (.tmp 14)
 .skip
 (.exit 0))
 (.seq (.block 1 (.seq (.region [.op 0 (.mov 15 (.tmp 13)),
 .op 1 (.mov 5 (.tmp 15))] [])
 (.seq (.region [.op 0 (.mov 16 (.tmp 0)),
 .op 1 (.mov 17 (.tmp 5)),
 .op 2 (.iaddr 18 none 2 (.tmp 16) (.tmp 17)),
 .op 3 (.load 19 true 2 (.tmp 18)),
 .op 4 (.mov 20 (.tmp 1)),
 .op 5 (.mov 21 (.tmp 5)),
 .op 6 (.iaddr 22 none 2 (.tmp 20) (.tmp 21)),
 .op 7 (.load 23 true 2 (.tmp 22)),
 .op 8 (.bin 24 .neq (.cells [2, 2]) (.tmp 19) (.tmp 23))] [])
 (.cond (.tmp 24)
 (.seq (.region [.op 0 (.mov 4 (.const (.bool false)))] [])
 .ret)
 .skip))))
 (.region [.op 0 (.bin 25 .add .plain (.tmp 13) (.const (.int .i64 1))),
 .op 1 (.mov 13 (.tmp 25))] [])))))))
 (.seq (.region [.op 0 (.mov 4 (.const (.bool true)))] [])
 .ret)))),
 [.tmp 4]⟩
theorem ok148 : funcOk Tryz.prog (drawOk Tryz.prog) Tryz.f148 A148 = true := by kernel_rfl
noncomputable def A149 : AFunc := ⟨2, (.seq (.region [.op 0 (.alloc 4 true [.int .i64 0, .int .i64 0, .int .i64 0, .int .i64 0, .int .i64 0, .int .i64 0, .int .i64 0, .str [], .str [], .bool false, .int .u32 0, .nilSlice, .nilSlice])] [])
 (.seq (.region [.op 0 (.mov 5 (.tmp 1)),
 .op 1 (.call 6 179 [.tmp 5]),
 .op 2 (.mov 7 (.tmp 0)),
 .op 3 (.call 8 32 [.tmp 7]),
 .op 4 (.call 9 180 [.tmp 8]),
 .op 5 (.build 10 [.int .i64 0, .int .i64 0, .int .i64 0, .int .i64 0, .int .i64 0, .int .i64 0, .int .i64 0, .str [], .str [], .bool false, .int .u32 0, .nilSlice, .nilSlice] [(0, 1, .const (.int .i64 2)), (1, 1, .const (.int .i64 5)), (6, 1, .tmp 6), (10, 1, .tmp 9)]),
 .op 6 (.store true 13 (.tmp 4) (.tmp 10))] [])
 .ret)),
 [.cell 4 true 13]⟩
theorem ok149 : funcOk Tryz.prog (drawOk Tryz.prog) Tryz.f149 A149 = true := by kernel_rfl
noncomputable def A150 : AFunc := ⟨1, (.seq (.region [.op 0 (.mov 2 (.const (.nilSlice)))] [])
 (.seq (.region [.op 0 (.mov 3 (.const (.nilSlice)))] [])
 (.seq (.seq (.region [.op 0 (.mov 6 (.tmp 0)),
 .op 1 (.len 7 false (.tmp 6)),
 .op 2 (.mov 8 (.const (.int .i64 0)))] [])
 (.block 0 (.loop ⟨[3, 6, 7, 8], []⟩ [((.exit 0), ⟨[3], []⟩)]
 (.seq (.region [.op 0 (.bin 9 .lss .plain (.tmp 8) (.tmp 7))] [])
 (.seq (.cond (.tmp 9)
 .skip
 (.exit 0))
 (.seq (.block 1 (.seq (.region [.op 0 (.iaddr 10 none 9 (.tmp 6) (.tmp 8)),
 .op 1 (.load 11 true 9 (.tmp 10)),
 .op 2 (.alloc 5 true [.str [], .str [], .int .i64 0, .int .i64 0, .int .i64 0, .int .i64 0, .int .i64 0, .int .i64 0, .bool false]),
 .op 3 (.store true 9 (.tmp 5) (.tmp 11))] [])
 (.seq (.region [.op 0 (.faddr 12 8 (.tmp 5)),
 .op 1 (.load 13 false 1 (.tmp 12)),
 .op 2 (.un 14 .not (.tmp 13))] [])
 (.join [(.normal, ⟨[3, 6, 7, 8], []⟩)] (.cond (.tmp 14)
 (.region [.op 0 (.mov 15 (.tmp 3)),
 .op 1 (.load 16 true 9 (.tmp 5)),
 .op 2 (.buildSl 17 [.str [], .str [], .int .i64 0, .int .i64 0, .int .i64 0, .int .i64 0, .int .i64 0, .int .i64 0, .bool false] 9 1 [(0, .tmp 16)]),
 .op 3 (.append 18 9 88 [.str [], .str [], .int .i64 0, .int .i64 0, .int .i64 0, .int .i64 0, .int .i64 0, .int .i64 0, .bool false] false (.tmp 15) (.tmp 17)),
 .op 4 (.mov 3 (.tmp 18))] [])
 .skip)))))
 (.region [.op 0 (.bin 19 .add .plain (.tmp 8) (.const (.int .i64 1))),
 .op 1 (.mov 8 (.tmp 19))] [])))))))
 (.seq (.region [.op 0 (.mov 20 (.tmp 3)),
 .op 1 (.call 21 130 [.tmp 20]),
 .op 2 (.mov 2 (.tmp 21))] [])
 .ret)))),
 [.tmp 2]⟩
theorem ok150 : funcOk Tryz.prog (drawOk Tryz.prog) Tryz.f150 A150 = true := by kernel_rfl
noncomputable def A152 : AFunc := ⟨4, (.seq (.region [.op 0 (.box 4 true (.tmp 0)),
 .op 1 (.box 6 true (.tmp 2)),
 .op 2 (.alloc 8 true [.str [], .str [], .int .i64 0, .int .i64 0, .int .i64 0, .int .i64 0, .int .i64 0, .int .i64 0, .bool false, .int .i64 0])] [])
 (.seq (.region [.op 0 (.faddr 9 3 (.tmp 6)),
 .op 1 (.store false 1 (.tmp 9) (.const (.int .i64 0))),
 .op 2 (.faddr 10 8 (.tmp 6)),
 .op 3 (.store false 1 (.tmp 10) (.const (.bool false)))] [])
 (.seq (.seq (.region [.op 0 (.mov 11 (.tmp 1)),
 .op 1 (.mov 12 (.tmp 11)),
 .guard 12 true [.op 2 (.faddr 13 0 (.tmp 4)),
 .op 3 (.faddr 14 8 (.tmp 13)),
 .op 4 (.load 15 false 1 (.tmp 14)),
 .op 5 (.un 16 .not (.tmp 15))] [] [16],
 .op 6 (.pick 17 (.tmp 12) (.tmp 16) (.const (.bool false)))] [])
 (.join [(.normal, ⟨[3], [6, 8]⟩)] (.cond (.tmp 17)
 (.region [.op 0 (.faddr 18 0 (.tmp 4)),
 .op 1 (.faddr 19 3 (.tmp 18)),
 .op 2 (.load 20 false 1 (.tmp 19)),
 .op 3 (.faddr 21 3 (.tmp 6)),
 .op 4 (.store false 1 (.tmp 21) (.tmp 20))] [])
 .skip)))
 (.seq (.region [.op 0 (.load 22 true 9 (.tmp 6)),
 .op 1 (.mov 23 (.tmp 3)),
 .op 2 (.build 24 [.str [], .str [], .int .i64 0, .int .i64 0, .int .i64 0, .int .i64 0, .int .i64 0, .int .i64 0, .bool false, .int .i64 0] [(0, 9, .tmp 22), (9, 1, .tmp 23)]),
 .op 3 (.store true 10 (.tmp 8) (.tmp 24))] [])
 .ret)))),
 [.cell 8 true 10]⟩
theorem ok152 : funcOk Tryz.prog (drawOk Tryz.prog) Tryz.f152 A152 = true := by kernel_rfl
noncomputable def A153 : AFunc := ⟨3, (.seq (.region [.op 0 (.box 3 true (.tmp 0)),
 .op 1 (.alloc 6 true [.int .i64 0, .int .i64 0, .int .i64 0])] [])
 (.seq (.region [.op 0 (.faddr 8 2 (.tmp 3)),
 .op 1 (.load 9 false 1 (.tmp 8)),
 .op 2 (.mov 7 (.tmp 9))] [])
 (.seq (.seq (.region [.op 0 (.mov 10 (.tmp 7)),
 .op 1 (.bin 11 .lss .plain (.tmp 10) (.const (.int .i64 9223372036854775807)))] [])
 (.join [(.normal, ⟨[1, 2, 7], [3, 6]⟩)] (.cond (.tmp 11)
 (.region [.op 0 (.mov 12 (.tmp 7)),
 .op 1 (.bin 13 .add .plain (.tmp 12) (.const (.int .i64 1))),
 .op 2 (.mov 7 (.tmp 13))] [])
 .skip)))
 (.seq (.region [.op 0 (.faddr 14 0 (.tmp 3)),
 .op 1 (.load 15 false 1 (.tmp 14)),
 .op 2 (.mov 16 (.tmp 1)),
 .op 3 (.minmax 17 true [.tmp 15, .tmp 16]),
 .op 4 (.mov 18 (.tmp 2)),
 .op 5 (.mov 19 (.tmp 7)),
 .op 6 (.build 20 [.int .i64 0, .int .i64 0, .int .i64 0] [(0, 1, .tmp 17), (1, 1, .tmp 18), (2, 1, .tmp 19)]),
 .op 7 (.store true 3 (.tmp 6) (.tmp 20))] [])
 .ret)))),
 [.cell 6 true 3]⟩
theorem ok153 : funcOk Tryz.prog (drawOk Tryz.prog) Tryz.f153 A153 = true := by kernel_rfl
noncomputable def A154 : AFunc := ⟨2, (.seq (.region [.op 0 (.box 2 true (.tmp 0)),
 .op 1 (.box 3 true (.tmp 1)),
 .op 2 (.alloc 4 true [.int .i64 0, .int .i64 0, .int .i64 0])] [])
 (.seq (.block 0 (.seq (.join [((.exit 0), ⟨[], [3, 4]⟩), (.normal, ⟨[], [2, 4]⟩)] (.block 2 (.block 1 (.seq (.seq (.seq (.region [.op 0 (.load 6 true 3 (.tmp 3)),
 .op 1 (.load 7 true 3 (.tmp 2)),
 .op 2 (.call 8 86 [.tmp 6, .tmp 7]),
 .op 3 (.mov 5 (.tmp 8))] [])
 (.cond (.tmp 5)
 (.exit 1)
 .skip))
 (.seq (.region [.op 0 (.load 10 true 3 (.tmp 2)),
 .op 1 (.load 11 true 3 (.tmp 3)),
 .op 2 (.bin 12 .eql (.cells [1, 1, 1]) (.tmp 10) (.tmp 11)),
 .op 3 (.mov 9 (.tmp 12))] [])
 (.cond (.tmp 9)
 (.exit 2)
 .skip)))
 (.exit 0)))))
 (.seq (.seq (.region [.op 0 (.load 13 true 3 (.tmp 2)),
 .op 1 (.store true 3 (.tmp 4) (.tmp 13))] [])
 .ret)
 (.exit 0))))
 (.seq (.region [.op 0 (.load 14 true 3 (.tmp 3)),
 .op 1 (.store true 3 (.tmp 4) (.tmp 14))] [])
 .ret))),
 [.cell 4 true 3]⟩
theorem ok154 : funcOk Tryz.prog (drawOk Tryz.prog) Tryz.f154 A154 = true := by kernel_rfl
noncomputable def A155 : AFunc := ⟨2, (.seq (.region [.op 0 (.box 2 true (.tmp 0)),
 .op 1 (.box 3 true (.tmp 1)),
 .op 2 (.mov 4 (.const (.bool false)))] [])
 (.seq (.region [.op 0 (.load 5 true 2 (.tmp 2)),
 .op 1 (.load 6 true 2 (.tmp 3)),
 .op 2 (.call 7 164 [.tmp 5, .tmp 6]),
 .op 3 (.bin 8 .lss .plain (.tmp 7) (.const (.int .i64 0))),
 .op 4 (.mov 4 (.tmp 8))] [])
 .ret)),
 [.tmp 4]⟩
theorem ok155 : funcOk Tryz.prog (drawOk Tryz.prog) Tryz.f155 A155 = true := by kernel_rfl
noncomputable def A156 : AFunc := ⟨1, (.seq (.region [.op 0 (.mov 2 (.const (.bool false)))] [])
 (.seq (.region [.op 0 (.mov 3 (.tmp 0)),
 .op 1 (.mov 4 (.tmp 0)),
 .op 2 (.bin 5 .neq .plain (.tmp 3) (.tmp 4)),
 .op 3 (.mov 2 (.tmp 5))] [])
 .ret)),
 [.tmp 2]⟩
theorem ok156 : funcOk Tryz.prog (drawOk Tryz.prog) Tryz.f156 A156 = true := by kernel_rfl
noncomputable def A157 : AFunc := ⟨1, (.seq (.region [.op 0 (.mov 2 (.const (.bool false)))] [])
 (.seq (.region [.op 0 (.mov 3 (.tmp 0)),
 .op 1 (.mov 4 (.tmp 0)),
 .op 2 (.bin 5 .neq .plain (.tmp 3) (.tmp 4)),
 .op 3 (.mov 2 (.tmp 5))] [])
 .ret)),
 [.tmp 2]⟩
theorem ok157 : funcOk Tryz.prog (drawOk Tryz.prog) Tryz.f157 A157 = true := by kernel_rfl
noncomputable def A158 : AFunc := ⟨1, (.seq (.region [.op 0 (.mov 2 (.const (.nilSlice)))] [])
 (.seq (.seq (.region [.op 0 (.mov 3 (.tmp 0)),
 .op 1 (.bin 4 .eql .slice (.tmp 3) (.const (.nilSlice)))] [])
 (.cond (.tmp 4)
 (.seq (.region [.op 0 (.mov 2 (.const (.nilSlice)))] [])
 .ret)
 .skip))
 (.seq (.region [.op 0 (.buildSl 5 [.str [], .str []] 2 0 []),
 .op 1 (.mov 6 (.tmp 0)),
 .op 2 (.append 7 2 32 [.str [], .str []] false (.tmp 5) (.tmp 6)),
 .op 3 (.mov 2 (.tmp 7))] [])
 .ret))),
 [.tmp 2]⟩
theorem ok158 : funcOk Tryz.prog (drawOk Tryz.prog) Tryz.f158 A158 = true := by kernel_rfl
noncomputable def A161 : AFunc := ⟨1, (.seq (.region [.op 0 (.mov 2 (.const (.nilSlice)))] [])
 (.seq (.seq (.region [.op 0 (.mov 3 (.tmp 0)),
 .op 1 (.bin 4 .eql .slice (.tmp 3) (.const (.nilSlice)))] [])
 (.cond (.tmp 4)
 (.seq (.region [.op 0 (.mov 2 (.const (.nilSlice)))] [])
 .ret)
 .skip))
 (.seq (.region [.op 0 (.buildSl 5 [.str [], .str [], .int .i64 0, .int .i64 0, .int .i64 0, .int .i64 0, .int .i64 0, .int .i64 0, .bool false] 9 0 []),
 .op 1 (.mov 6 (.tmp 0)),
 .op 2 (.append 7 9 88 [.str [], .str [], .int .i64 0, .int .i64 0, .int .i64 0, .int .i64 0, .int .i64 0, .int .i64 0, .bool false] false (.tmp 5) (.tmp 6)),
 .op 3 (.mov 2 (.tmp 7))] [])
 .ret))),
 [.tmp 2]⟩
theorem ok161 : funcOk Tryz.prog (drawOk Tryz.prog) Tryz.f161 A161 = true := by kernel_rfl
noncomputable def A162 : AFunc := ⟨2, (.region [.op 0 (.mov 4 (.tmp 0)),
 .op 1 (.mov 5 (.tmp 0)),
 .op 2 (.len 6 false (.tmp 5)),
 .op 3 (.mov 7 (.tmp 1)),
 .op 4 (.call 8 182 [.tmp 4, .tmp 6, .tmp 7])] []),
 []⟩
theorem ok162 : funcOk Tryz.prog (drawOk Tryz.prog) Tryz.f162 A162 = true := by kernel_rfl
noncomputable def A164 : AFunc := ⟨2, (.seq (.region [.op 0 (.box 2 true (.tmp 0)),
 .op 1 (.box 3 true (.tmp 1)),
 .op 2 (.mov 4 (.const (.int .i64 0)))] [])
 (.seq (.region [.op 0 (.faddr 5 0 (.tmp 2)),
 .op 1 (.load 6 false 1 (.tmp 5)),
 .op 2 (.faddr 7 0 (.tmp 3)),
 .op 3 (.load 8 false 1 (.tmp 7)),
 .op 4 (.call 9 183 [.tmp 6, .tmp 8]),
 .op 5 (.faddr 10 1 (.tmp 2)),
 .op 6 (.load 11 false 1 (.tmp 10)),
 .op 7 (.faddr 12 1 (.tmp 3)),
 .op 8 (.load 13 false 1 (.tmp 12)),
 .op 9 (.call 14 183 [.tmp 11, .tmp 13]),
 .op 10 (.buildSl 15 [.int .i64 0] 1 2 [(0, .tmp 9), (1, .tmp 14)]),
 .op 11 (.call 16 124 [.tmp 15]),
 .op 12 (.mov 4 (.tmp 16))] [(6, 4), (8, 4)])
 .ret)),
 [.tmp 4]⟩
theorem ok164 : funcOk Tryz.prog (drawOk Tryz.prog) Tryz.f164 A164 = true := by kernel_rfl
noncomputable def A165 : AFunc := ⟨1, (.seq (.region [.op 0 (.mov 2 (.const (.nilSlice)))] [])
 (.seq (.region [.op 0 (.mov 3 (.tmp 0)),
 .op 1 (.mov 4 (.tmp 0)),
 .op 2 (.len 5 false (.tmp 4)),
 .op 3 (.mov 6 (.tmp 0)),
 .op 4 (.len 7 false (.tmp 6)),
 .op 5 (.slice 8 (.sl 9) (.tmp 3) none (some (.tmp 5)) (some (.tmp 7))),
 .op 6 (.mov 2 (.tmp 8))] [])
 .ret)),
 [.tmp 2]⟩
theorem ok165 : funcOk Tryz.prog (drawOk Tryz.prog) Tryz.f165 A165 = true := by kernel_rfl
noncomputable def A166 : AFunc := ⟨1, (.seq (.region [.op 0 (.mov 2 (.const (.nilSlice)))] [])
 (.seq (.seq (.region [.op 0 (.mov 3 (.tmp 0)),
 .op 1 (.bin 4 .eql .slice (.tmp 3) (.const (.nilSlice)))] [])
 (.cond (.tmp 4)
 (.seq (.region [.op 0 (.mov 2 (.const (.nilSlice)))] [])
 .ret)
 .skip))
 (.seq (.region [.op 0 (.buildSl 5 [.int .u8 0] 1 0 []),
 .op 1 (.mov 6 (.tmp 0)),
 .op 2 (.append 7 1 1 [.int .u8 0] false (.tmp 5) (.tmp 6)),
 .op 3 (.mov 2 (.tmp 7))] [])
 .ret))),
 [.tmp 2]⟩
theorem ok166 : funcOk Tryz.prog (drawOk Tryz.prog) Tryz.f166 A166 = true := by kernel_rfl
noncomputable def A167 : AFunc := ⟨1, (.seq (.region [.op 0 (.mov 2 (.const (.str [])))] [])
 (.seq (.seq (.region [.op 0 (.mov 3 (.tmp 0)),
 .op 1 (.bin 4 .lss .plain (.tmp 3) (.const (.int .i64 10)))] [])
 (.cond (.tmp 4)
 (.seq (.region [.op 0 (.mov 5 (.tmp 0)),
 .op 1 (.mov 6 (.tmp 0)),
 .op 2 (.bin 7 .add .plain (.tmp 6) (.const (.int .i64 1))),
 .op 3 (.slice 8 .str (.const (.str [48, 49, 50, 51, 52, 53, 54, 55, 56, 57, 97, 98, 99, 100, 101, 102, 103, 104, 105, 106, 107, 108, 109, 110, 111, 112, 113, 114, 115, 116, 117, 118, 119, 120, 121, 122])) (some (.tmp 5)) (some (.tmp 7)) none),
 .op 4 (.mov 2 (.tmp 8))] [])
 .ret)
 .skip))
 (.seq (.region [.op 0 (.mov 9 (.tmp 0)),
 .op 1 (.bin 10 .mul .plain (.tmp 9) (.const (.int .i64 2))),
 .op 2 (.mov 11 (.tmp 0)),
 .op 3 (.bin 12 .mul .plain (.tmp 11) (.const (.int .i64 2))),
 .op 4 (.bin 13 .add .plain (.tmp 12) (.const (.int .i64 2))),
 .op 5 (.slice 14 .str (.const (.str [48, 48, 48, 49, 48, 50, 48, 51, 48, 52, 48, 53, 48, 54, 48, 55, 48, 56, 48, 57, 49, 48, 49, 49, 49, 50, 49, 51, 49, 52, 49, 53, 49, 54, 49, 55, 49, 56, 49, 57, 50, 48, 50, 49, 50, 50, 50, 51, 50, 52, 50, 53, 50, 54, 50, 55, 50, 56, 50, 57, 51, 48, 51, 49, 51, 50, 51, 51, 51, 52, 51, 53, 51, 54, 51, 55, 51, 56, 51, 57, 52, 48, 52, 49, 52, 50, 52, 51, 52, 52, 52, 53, 52, 54, 52, 55, 52, 56, 52, 57, 53, 48, 53, 49, 53, 50, 53, 51, 53, 52, 53, 53, 53, 54, 53, 55, 53, 56, 53, 57, 54, 48, 54, 49, 54, 50, 54, 51, 54, 52, 54, 53, 54, 54, 54, 55, 54, 56, 54, 57, 55, 48, 55, 49, 55, 50, 55, 51, 55, 52, 55, 53, 55, 54, 55, 55, 55, 56, 55, 57, 56, 48, 56, 49, 56, 50, 56, 51, 56, 52, 56, 53, 56, 54, 56, 55, 56, 56, 56, 57, 57, 48, 57, 49, 57, 50, 57, 51, 57, 52, 57, 53, 57, 54, 57, 55, 57, 56, 57, 57])) (some (.tmp 10)) (some (.tmp 13)) none),
 .op 6 (.mov 2 (.tmp 14))] [])
 .ret))),
 [.tmp 2]⟩
theorem ok167 : funcOk Tryz.prog (drawOk Tryz.prog) Tryz.f167 A167 = true := by kernel_rfl
noncomputable def A171 : AFunc := ⟨2, (.seq (.region [.op 0 (.mov 4 (.const (.bool false)))] [])
 (.seq (.region [.op 0 (.mov 5 (.tmp 1)),
 .op 1 (.bin 6 .geq .plain (.tmp 5) (.const (.int .i64 0))),
 .op 2 (.mov 7 (.tmp 6)),
 .guard 7 true [.op 3 (.mov 8 (.tmp 1)),
 .op 4 (.mov 9 (.tmp 0)),
 .op 5 (.nilchk 10 (.tmp 9)),
 .op 6 (.faddr 11 0 (.tmp 10)),
 .op 7 (.load 12 false 1 (.tmp 11)),
 .op 8 (.len 13 false (.tmp 12)),
 .op 9 (.bin 14 .lss .plain (.tmp 8) (.tmp 13))] [] [14],
 .op 10 (.pick 15 (.tmp 7) (.tmp 14) (.const (.bool false))),
 .op 11 (.mov 4 (.tmp 15))] [])
 .ret)),
 [.tmp 4]⟩
theorem ok171 : funcOk Tryz.prog (drawOk Tryz.prog) Tryz.f171 A171 = true := by kernel_rfl
noncomputable def A174 : AFunc := ⟨1, (.seq (.region [.op 0 (.alloc 2 true [.int .i64 0, .int .i64 0, .int .i64 0, .int .i64 0, .int .i64 0, .int .i64 0, .int .i64 0, .str [], .str [], .bool false, .int .u32 0, .nilSlice, .nilSlice]),
 .op 1 (.mov 3 (.const (.bool false)))] [])
 (.seq (.block 0 (.seq (.region [.op 0 (.mov 5 (.tmp 0)),
 .op 1 (.nilchk 6 (.tmp 5)),
 .op 2 (.faddr 7 6 (.tmp 6)),
 .op 3 (.load 8 false 1 (.tmp 7)),
 .op 4 (.len 9 false (.tmp 8)),
 .op 5 (.bin 10 .gtr .plain (.tmp 9) (.const (.int .i64 0))),
 .op 6 (.mov 4 (.tmp 10))] [])
 (.cond (.tmp 4)
 (.seq (.region [.op 0 (.mov 11 (.tmp 0)),
 .op 1 (.call 12 196 [.tmp 11]),
 .op 2 (.store true 13 (.tmp 2) (.tmp 12)),
 .op 3 (.mov 3 (.const (.bool true)))] [])
 .ret)
 (.seq (.region [.op 0 (.mov 14 (.tmp 0)),
 .op 1 (.nilchk 15 (.tmp 14)),
 .op 2 (.faddr 16 7 (.tmp 15)),
 .op 3 (.load 17 false 1 (.tmp 16)),
 .op 4 (.mov 18 (.tmp 17)),
 .guard 18 true [.op 5 (.mov 19 (.tmp 0)),
 .op 6 (.nilchk 20 (.tmp 19)),
 .op 7 (.faddr 21 27 (.tmp 20)),
 .op 8 (.load 22 true 2 (.tmp 21)),
 .op 9 (.mov 23 (.tmp 0)),
 .op 10 (.nilchk 24 (.tmp 23)),
 .op 11 (.faddr 25 4 (.tmp 24)),
 .op 12 (.load 26 false 1 (.tmp 25)),
 .op 13 (.call 27 197 [.tmp 22, .tmp 26, .const (.int .i64 10)])] [] [27],
 .op 14 (.pick 28 (.tmp 18) (.tmp 27) (.const (.bool false))),
 .op 15 (.mov 29 (.tmp 28)),
 .guard 29 true [.op 16 (.mov 30 (.tmp 0)),
 .op 17 (.nilchk 31 (.tmp 30)),
 .op 18 (.faddr 32 11 (.tmp 31)),
 .op 19 (.load 33 false 1 (.tmp 32))] [] [33],
 .op 20 (.pick 34 (.tmp 29) (.tmp 33) (.const (.bool false))),
 .op 21 (.mov 13 (.tmp 34))] [])
 (.cond (.tmp 13)
 (.seq (.region [.op 0 (.build 35 [.int .i64 0, .int .i64 0, .int .i64 0, .int .i64 0, .int .i64 0, .int .i64 0, .int .i64 0, .str [], .str [], .bool false, .int .u32 0, .nilSlice, .nilSlice] [(1, 1, .const (.int .i64 2))]),
 .op 1 (.store true 13 (.tmp 2) (.tmp 35)),
 .op 2 (.mov 3 (.const (.bool true)))] [])
 .ret)
 (.seq (.region [.op 0 (.mov 37 (.tmp 0)),
 .op 1 (.nilchk 38 (.tmp 37)),
 .op 2 (.faddr 39 7 (.tmp 38)),
 .op 3 (.load 40 false 1 (.tmp 39)),
 .op 4 (.mov 41 (.tmp 40)),
 .guard 41 true [.op 5 (.mov 42 (.tmp 0)),
 .op 6 (.nilchk 43 (.tmp 42)),
 .op 7 (.faddr 44 27 (.tmp 43)),
 .op 8 (.load 45 true 2 (.tmp 44)),
 .op 9 (.mov 46 (.tmp 0)),
 .op 10 (.nilchk 47 (.tmp 46)),
 .op 11 (.faddr 48 4 (.tmp 47)),
 .op 12 (.load 49 false 1 (.tmp 48)),
 .op 13 (.call 50 197 [.tmp 45, .tmp 49, .const (.int .i64 10)])] [] [50],
 .op 14 (.pick 51 (.tmp 41) (.tmp 50) (.const (.bool false))),
 .op 15 (.mov 36 (.tmp 51))] [])
 (.cond (.tmp 36)
 (.seq (.region [.op 0 (.mov 52 (.tmp 0)),
 .op 1 (.call 53 198 [.tmp 52]),
 .op 2 (.store true 13 (.tmp 2) (.tmp 53)),
 .op 3 (.mov 3 (.const (.bool true)))] [])
 .ret)
 (.seq (.region [.op 0 (.mov 55 (.tmp 0)),
 .op 1 (.nilchk 56 (.tmp 55)),
 .op 2 (.faddr 57 29 (.tmp 56)),
 .op 3 (.load 58 true 2 (.tmp 57)),
 .op 4 (.mov 59 (.tmp 0)),
 .op 5 (.nilchk 60 (.tmp 59)),
 .op 6 (.faddr 61 4 (.tmp 60)),
 .op 7 (.load 62 false 1 (.tmp 61)),
 .op 8 (.call 63 197 [.tmp 58, .tmp 62, .const (.int .i64 25)]),
 .op 9 (.mov 54 (.tmp 63))] [])
 (.cond (.tmp 54)
 (.seq (.region [.op 0 (.mov 64 (.tmp 0)),
 .op 1 (.nilchk 65 (.tmp 64)),
 .op 2 (.faddr 66 5 (.tmp 65)),
 .op 3 (.load 67 false 1 (.tmp 66)),
 .op 4 (.call 68 199 [.tmp 67]),
 .op 5 (.build 69 [.int .i64 0, .int .i64 0, .int .i64 0, .int .i64 0, .int .i64 0, .int .i64 0, .int .i64 0, .str [], .str [], .bool false, .int .u32 0, .nilSlice, .nilSlice] [(1, 1, .const (.int .i64 5)), (6, 1, .tmp 68)]),
 .op 6 (.store true 13 (.tmp 2) (.tmp 69)),
 .op 7 (.mov 3 (.const (.bool true)))] [])
 .ret)
 .skip)))))))))
 (.seq (.region [.op 0 (.build 70 [.int .i64 0, .int .i64 0, .int .i64 0, .int .i64 0, .int .i64 0, .int .i64 0, .int .i64 0, .str [], .str [], .bool false, .int .u32 0, .nilSlice, .nilSlice] []),
 .op 1 (.store true 13 (.tmp 2) (.tmp 70)),
 .op 2 (.mov 3 (.const (.bool false)))] [])
 .ret))),
 [.cell 2 true 13, .tmp 3]⟩
theorem ok174 : funcOk Tryz.prog (drawOk Tryz.prog) Tryz.f174 A174 = true := by kernel_rfl
noncomputable def A175 : AFunc := ⟨2, (.seq (.region [.op 0 (.box 3 true (.tmp 1)),
 .op 1 (.alloc 4 true [.int .i64 0, .int .i64 0, .int .i64 0, .int .i64 0, .int .i64 0, .int .i64 0, .int .i64 0, .int .i64 0, .str [], .str [], .bool false, .int .u32 0, .nilSlice, .nilSlice])] [])
 (.seq (.region [.op 0 (.mov 5 (.tmp 0)),
 .op 1 (.nilchk 6 (.tmp 5)),
 .op 2 (.faddr 7 13 (.tmp 6)),
 .op 3 (.faddr 8 4 (.tmp 7)),
 .op 4 (.load 9 false 1 (.tmp 8)),
 .op 5 (.bin 10 .add .plain (.tmp 9) (.const (.int .i64 1))),
 .op 6 (.faddr 11 0 (.tmp 3)),
 .op 7 (.store false 1 (.tmp 11) (.const (.int .i64 1))),
 .op 8 (.faddr 12 4 (.tmp 3)),
 .op 9 (.store false 1 (.tmp 12) (.tmp 10))] [(4, 7)])
 (.seq (.seq (.region [.op 0 (.faddr 13 1 (.tmp 3)),
 .op 1 (.load 14 false 1 (.tmp 13))] [])
 (.join [(.normal, ⟨[0], [3, 4]⟩)] (.block 0 (.seq (.join [((.exit 0), ⟨[0], [3, 4]⟩), (.normal, ⟨[0], [3, 4]⟩)] (.block 3 (.seq (.block 2 (.seq (.block 1 (.seq (.seq (.seq (.region [.op 0 (.bin 16 .eql .plain (.tmp 14) (.const (.int .i64 5))),
 .op 1 (.mov 15 (.tmp 16))] [])
 (.cond (.tmp 15)
 (.exit 1)
 .skip))
 (.seq (.seq (.region [.op 0 (.bin 18 .eql .plain (.tmp 14) (.const (.int .i64 1))),
 .op 1 (.mov 17 (.tmp 18))] [])
 (.join [(.normal, ⟨[0, 17], [3, 4]⟩)] (.cond (.tmp 17)
 .skip
 (.region [.op 0 (.bin 19 .eql .plain (.tmp 14) (.const (.int .i64 2))),
 .op 1 (.mov 17 (.tmp 19))] []))))
 (.cond (.tmp 17)
 (.exit 2)
 .skip)))
 (.exit 3)))
 (.seq (.region [.op 0 (.mov 20 (.tmp 0)),
 .op 1 (.mov 21 (.tmp 0)),
 .op 2 (.nilchk 22 (.tmp 21)),
 .op 3 (.faddr 23 4 (.tmp 22)),
 .op 4 (.load 24 false 1 (.tmp 23)),
 .op 5 (.build 25 [.bool false, .int .i64 0] [(0, 1, .const (.bool true)), (1, 1, .tmp 24)]),
 .op 6 (.nilchk 26 (.tmp 20)),
 .op 7 (.faddr 27 29 (.tmp 26)),
 .op 8 (.store true 2 (.tmp 27) (.tmp 25))] [])
 (.exit 0))))
 (.region [.op 0 (.mov 28 (.tmp 0)),
 .op 1 (.mov 29 (.tmp 0)),
 .op 2 (.nilchk 30 (.tmp 29)),
 .op 3 (.faddr 31 4 (.tmp 30)),
 .op 4 (.load 32 false 1 (.tmp 31)),
 .op 5 (.build 33 [.bool false, .int .i64 0] [(0, 1, .const (.bool true)), (1, 1, .tmp 32)]),
 .op 6 (.nilchk 34 (.tmp 28)),
 .op 7 (.faddr 35 27 (.tmp 34)),
 .op 8 (.store true 2 (.tmp 35) (.tmp 33))] []))))
 (.seq (.region [.op 0 (.mov 36 (.tmp 0)),
 .op 1 (.nilchk 37 (.tmp 36)),
 .op 2 (.faddr 38 0 (.tmp 37)),
 .op 3 (.load 39 true 2 (.tmp 38)),
 .op 4 (.faddr 40 7 (.tmp 3)),
 .op 5 (.store true 2 (.tmp 40) (.tmp 39))] [])
 (.exit 0))))))
 (.seq (.region [.op 0 (.mov 41 (.tmp 0)),
 .op 1 (.mov 42 (.tmp 0)),
 .op 2 (.mov 43 (.tmp 0)),
 .op 3 (.load 44 true 13 (.tmp 3)),
 .op 4 (.mov 45 (.tmp 0)),
 .op 5 (.nilchk 46 (.tmp 45)),
 .op 6 (.faddr 47 4 (.tmp 46)),
 .op 7 (.load 48 false 1 (.tmp 47)),
 .op 8 (.nilchk 49 (.tmp 41)),
 .op 9 (.faddr 50 13 (.tmp 49)),
 .op 10 (.store true 13 (.tmp 50) (.tmp 44)),
 .op 11 (.nilchk 51 (.tmp 42)),
 .op 12 (.faddr 52 26 (.tmp 51)),
 .op 13 (.store false 1 (.tmp 52) (.tmp 48)),
 .op 14 (.nilchk 53 (.tmp 43)),
 .op 15 (.faddr 54 12 (.tmp 53)),
 .op 16 (.store false 1 (.tmp 54) (.const (.bool true)))] [])
 (.seq (.region [.op 0 (.mov 55 (.tmp 0)),
 .op 1 (.call 56 36 [.tmp 55]),
 .op 2 (.load 57 true 13 (.tmp 3)),
 .op 3 (.build 58 [.int .i64 0, .int .i64 0, .int .i64 0, .int .i64 0, .int .i64 0, .int .i64 0, .int .i64 0, .int .i64 0, .str [], .str [], .bool false, .int .u32 0, .nilSlice, .nilSlice] [(0, 1, .tmp 56), (1, 13, .tmp 57)]),
 .op 4 (.store true 14 (.tmp 4) (.tmp 58))] [(2, 1)])
 .ret))))),
 [.cell 4 true 14]⟩
theorem ok175 : funcOk Tryz.prog (drawOk Tryz.prog) Tryz.f175 A175 = true := by kernel_rfl
noncomputable def A176 : AFunc := ⟨2, (.seq (.region [.op 0 (.box 3 true (.tmp 1)),
 .op 1 (.mov 4 (.const (.int .i64 0)))] [])
 (.seq (.seq (.region [.op 0 (.faddr 8 0 (.tmp 3)),
 .op 1 (.load 9 false 1 (.tmp 8)),
 .op 2 (.bin 10 .neq .plain (.tmp 9) (.const (.int .i64 2))),
 .op 3 (.mov 11 (.tmp 10)),
 .guard 11 false [.op 4 (.faddr 12 1 (.tmp 3)),
 .op 5 (.load 13 false 1 (.tmp 12)),
 .op 6 (.bin 14 .neq .plain (.tmp 13) (.const (.int .i64 5)))] [] [14],
 .op 7 (.pick 15 (.tmp 11) (.const (.bool true)) (.tmp 14)),
 .op 8 (.mov 16 (.tmp 15)),
 .guard 16 false [.op 9 (.faddr 17 3 (.tmp 3)),
 .op 10 (.load 18 false 1 (.tmp 17)),
 .op 11 (.bin 19 .neq .plain (.tmp 18) (.const (.int .i64 0)))] [] [19],
 .op 12 (.pick 20 (.tmp 16) (.const (.bool true)) (.tmp 19)),
 .op 13 (.mov 21 (.tmp 20)),
 .guard 21 false [.op 14 (.load 22 true 13 (.tmp 3)),
 .op 15 (.call 23 50 [.tmp 22]),
 .op 16 (.bin 24 .neq (.iface true []) (.tmp 23) (.const (.nilIface)))] [] [24],
 .op 17 (.pick 25 (.tmp 21) (.const (.bool true)) (.tmp 24))] [])
 (.cond (.tmp 25)
 (.seq (.region [.op 0 (.mov 4 (.const (.int .i64 1)))] [])
 .ret)
 .skip))
 (.seq (.seq (.region [.op 0 (.faddr 26 9 (.tmp 3)),
 .op 1 (.load 27 false 1 (.tmp 26)),
 .op 2 (.un 28 .not (.tmp 27)),
 .op 3 (.mov 29 (.tmp 28)),
 .guard 29 true [.op 4 (.mov 30 (.tmp 0)),
 .op 5 (.nilchk 31 (.tmp 30)),
 .op 6 (.faddr 32 1 (.tmp 31)),
 .op 7 (.load 33 false 1 (.tmp 32)),
 .op 8 (.bin 34 .eql .plain (.tmp 33) (.const (.int .i64 (-1))))] [] [34],
 .op 9 (.pick 35 (.tmp 29) (.tmp 34) (.const (.bool false)))] [])
 (.cond (.tmp 35)
 (.seq (.region [.op 0 (.mov 4 (.const (.int .i64 25)))] [])
 .ret)
 .skip))
 (.seq (.region [.op 0 (.mov 36 (.tmp 0)),
 .op 1 (.nilchk 37 (.tmp 36)),
 .op 2 (.faddr 38 0 (.tmp 37)),
 .op 3 (.load 39 false 1 (.tmp 38)),
 .op 4 (.mov 5 (.tmp 39))] [])
 (.seq (.seq (.region [.op 0 (.faddr 40 9 (.tmp 3)),
 .op 1 (.load 41 false 1 (.tmp 40))] [])
 (.join [(.normal, ⟨[0, 5], [3]⟩)] (.cond (.tmp 41)
 (.region [.op 0 (.mov 5 (.const (.nilSlice)))] [])
 .skip)))
 (.seq (.seq (.region [.op 0 (.faddr 42 11 (.tmp 3)),
 .op 1 (.load 43 false 1 (.tmp 42)),
 .op 2 (.len 44 false (.tmp 43)),
 .op 3 (.mov 45 (.const (.int .i64 0)))] [])
 (.block 0 (.loop ⟨[0, 5, 43, 44, 45], [3]⟩ [((.exit 0), ⟨[0, 5], [3]⟩)]
 (.seq (.region [.op 0 (.bin 46 .lss .plain (.tmp 45) (.tmp 44))] [])
 (.seq (.cond (.tmp 46)
 .skip
 (.exit 0))
 (.seq (.block 1 (.seq (.region [.op 0 (.iaddr 47 none 9 (.tmp 43) (.tmp 45)),
 .op 1 (.load 48 true 9 (.tmp 47)),
 .op 2 (.alloc 7 true [.str [], .str [], .int .i64 0, .int .i64 0, .int .i64 0, .int .i64 0, .int .i64 0, .int .i64 0, .bool false]),
 .op 3 (.store true 9 (.tmp 7) (.tmp 48))] [])
 (.region [.op 0 (.mov 49 (.tmp 5)),
 .op 1 (.load 50 true 9 (.tmp 7)),
 .op 2 (.call 51 200 [.tmp 49, .tmp 50]),
 .op 3 (.mov 5 (.tmp 51))] [])))
 (.region [.op 0 (.bin 52 .add .plain (.tmp 45) (.const (.int .i64 1))),
 .op 1 (.mov 45 (.tmp 52))] [])))))))
 (.seq (.region [.op 0 (.mov 53 (.tmp 0)),
 .op 1 (.mov 54 (.tmp 5)),
 .op 2 (.call 55 130 [.tmp 54]),
 .op 3 (.nilchk 56 (.tmp 53)),
 .op 4 (.faddr 57 0 (.tmp 56)),
 .op 5 (.store false 1 (.tmp 57) (.tmp 55))] [])
 (.seq (.seq (.region [.op 0 (.mov 58 (.tmp 0)),
 .op 1 (.nilchk 59 (.tmp 58)),
 .op 2 (.faddr 60 0 (.tmp 59)),
 .op 3 (.load 61 false 1 (.tmp 60)),
 .op 4 (.call 62 180 [.tmp 61]),
 .op 5 (.faddr 63 10 (.tmp 3)),
 .op 6 (.load 64 false 1 (.tmp 63)),
 .op 7 (.bin 65 .neq .plain (.tmp 62) (.tmp 64))] [(6, 4)])
 (.cond (.tmp 65)
 (.seq (.region [.op 0 (.mov 66 (.tmp 0)),
 .op 1 (.nilchk 67 (.tmp 66)),
 .op 2 (.faddr 68 1 (.tmp 67)),
 .op 3 (.store false 1 (.tmp 68) (.const (.int .i64 (-1))))] [])
 (.seq (.region [.op 0 (.mov 4 (.const (.int .i64 25)))] [])
 .ret))
 .skip))
 (.seq (.region [.op 0 (.mov 69 (.tmp 0)),
 .op 1 (.faddr 70 6 (.tmp 3)),
 .op 2 (.load 71 false 1 (.tmp 70)),
 .op 3 (.nilchk 72 (.tmp 69)),
 .op 4 (.faddr 73 1 (.tmp 72)),
 .op 5 (.store false 1 (.tmp 73) (.tmp 71))] [])
 (.seq (.region [.op 0 (.mov 4 (.const (.int .i64 0)))] [])
 .ret)))))))))),
 [.tmp 4]⟩
theorem ok176 : funcOk Tryz.prog (drawOk Tryz.prog) Tryz.f176 A176 = true := by kernel_rfl
noncomputable def A177 : AFunc := ⟨1, (.seq (.region [.op 0 (.box 1 true (.tmp 0)),
 .op 1 (.mov 2 (.const (.int .i64 0)))] [])
 (.seq (.block 0 (.seq (.region [.op 0 (.faddr 4 8 (.tmp 1)),
 .op 1 (.load 5 false 1 (.tmp 4)),
 .op 2 (.mov 3 (.tmp 5))] [])
 (.cond (.tmp 3)
 (.seq (.region [.op 0 (.mov 2 (.const (.int .i64 0)))] [])
 .ret)
 (.seq (.region [.op 0 (.faddr 7 3 (.tmp 1)),
 .op 1 (.load 8 false 1 (.tmp 7)),
 .op 2 (.bin 9 .neq .plain (.tmp 8) (.const (.int .i64 0))),
 .op 3 (.mov 6 (.tmp 9))] [])
 (.cond (.tmp 6)
 (.seq (.region [.op 0 (.faddr 10 3 (.tmp 1)),
 .op 1 (.load 11 false 1 (.tmp 10)),
 .op 2 (.mov 2 (.tmp 11))] [])
 .ret)
 .skip)))))
 (.seq (.region [.op 0 (.faddr 12 2 (.tmp 1)),
 .op 1 (.load 13 false 1 (.tmp 12)),
 .op 2 (.mov 2 (.tmp 13))] [])
 .ret))),
 [.tmp 2]⟩
theorem ok177 : funcOk Tryz.prog (drawOk Tryz.prog) Tryz.f177 A177 = true := by kernel_rfl
noncomputable def A178 : AFunc := ⟨3, (.seq (.region [.op 0 (.mov 6 (.const (.bool false)))] [])
 (.seq (.seq (.region [.op 0 (.mov 7 (.tmp 0))] [])
 (.block 0 (.seq (.region [.op 0 (.bin 9 .eql .plain (.tmp 7) (.const (.int .i64 1))),
 .op 1 (.mov 8 (.tmp 9))] [])
 (.cond (.tmp 8)
 (.seq (.region [.op 0 (.mov 10 (.tmp 1)),
 .op 1 (.bin 11 .geq .plain (.tmp 10) (.const (.int .i64 1))),
 .op 2 (.mov 12 (.tmp 11)),
 .guard 12 true [.op 3 (.mov 13 (.tmp 1)),
 .op 4 (.bin 14 .leq .plain (.tmp 13) (.const (.int .i64 1048576)))] [] [14],
 .op 5 (.pick 15 (.tmp 12) (.tmp 14) (.const (.bool false))),
 .op 6 (.mov 16 (.tmp 15)),
 .guard 16 true [.op 7 (.mov 17 (.tmp 2)),
 .op 8 (.bin 18 .eql .plain (.tmp 17) (.const (.int .i64 1))),
 .op 9 (.mov 19 (.tmp 18)),
 .guard 19 false [.op 10 (.mov 20 (.tmp 2)),
 .op 11 (.bin 21 .eql .plain (.tmp 20) (.const (.int .i64 2)))] [] [21],
 .op 12 (.pick 22 (.tmp 19) (.const (.bool true)) (.tmp 21))] [] [22],
 .op 13 (.pick 23 (.tmp 16) (.tmp 22) (.const (.bool false))),
 .op 14 (.mov 6 (.tmp 23))] [])
 .ret)
 (.seq (.region [.op 0 (.bin 25 .eql .plain (.tmp 7) (.const (.int .i64 3))),
 .op 1 (.mov 24 (.tmp 25))] [])
 (.cond (.tmp 24)
 (.seq (.region [.op 0 (.mov 6 (.const (.bool true)))] [])
 .ret)
 (.seq (.region [.op 0 (.bin 27 .eql .plain (.tmp 7) (.const (.int .i64 4))),
 .op 1 (.mov 26 (.tmp 27))] [])
 (.cond (.tmp 26)
 (.seq (.region [.op 0 (.mov 28 (.tmp 2)),
 .op 1 (.bin 29 .geq .plain (.tmp 28) (.const (.int .i64 0))),
 .op 2 (.mov 30 (.tmp 29)),
 .guard 30 true [.op 3 (.mov 31 (.tmp 2)),
 .op 4 (.bin 32 .leq .plain (.tmp 31) (.const (.int .i64 3)))] [] [32],
 .op 5 (.pick 33 (.tmp 30) (.tmp 32) (.const (.bool false))),
 .op 6 (.mov 6 (.tmp 33))] [])
 .ret)
 .skip))))))))
 (.seq (.region [.op 0 (.mov 6 (.const (.bool false)))] [])
 .ret))),
 [.tmp 6]⟩
theorem ok178 : funcOk Tryz.prog (drawOk Tryz.prog) Tryz.f178 A178 = true := by kernel_rfl
noncomputable def A179 : AFunc := ⟨1, (.seq (.region [.op 0 (.mov 2 (.const (.int .i64 0)))] [])
 (.seq (.region [.op 0 (.mov 3 (.tmp 0)),
 .op 1 (.nilchk 4 (.tmp 3)),
 .op 2 (.faddr 5 0 (.tmp 4)),
 .op 3 (.load 6 false 1 (.tmp 5)),
 .op 4 (.mov 2 (.tmp 6))] [])
 .ret)),
 [.tmp 2]⟩
theorem ok179 : funcOk Tryz.prog (drawOk Tryz.prog) Tryz.f179 A179 = true := by kernel_rfl
noncomputable def A180 : AFunc := ⟨1, (.seq (.region [.op 0 (.mov 2 (.const (.int .u32 0)))] [])
 (.seq (.region [.op 0 (.mov 3 (.tmp 0)),
 .op 1 (.call 4 202 [.tmp 3]),
 .op 2 (.call 5 201 [.tmp 4]),
 .op 3 (.mov 2 (.tmp 5))] [])
 .ret)),
 [.tmp 2]⟩
theorem ok180 : funcOk Tryz.prog (drawOk Tryz.prog) Tryz.f180 A180 = true := by kernel_rfl
noncomputable def A182 : AFunc := ⟨3, (.seq (.region [.op 0 (.mov 6 (.const (.int .i64 20)))] [])
 (.seq (.region [.op 0 (.mov 10 (.tmp 6)),
 .op 1 (.mov 7 (.const (.int .i64 0))),
 .op 2 (.mov 8 (.tmp 10))] [])
 (.seq (.block 0 (.loop ⟨[0, 1, 2, 6, 7, 8], []⟩ [((.exit 0), ⟨[0, 1, 2, 6, 7], []⟩)]
 (.seq (.seq (.region [.op 0 (.mov 11 (.tmp 8)),
 .op 1 (.mov 12 (.tmp 1)),
 .op 2 (.bin 13 .leq .plain (.tmp 11) (.tmp 12))] [])
 (.cond (.tmp 13)
 .skip
 (.exit 0)))
 (.block 1 (.seq (.region [.op 0 (.mov 14 (.tmp 0)),
 .op 1 (.mov 15 (.tmp 7)),
 .op 2 (.mov 16 (.tmp 8)),
 .op 3 (.mov 17 (.tmp 2)),
 .op 4 (.call 18 204 [.tmp 14, .tmp 15, .tmp 16, .tmp 17])] [])
 (.seq (.region [.op 0 (.mov 19 (.tmp 8)),
 .op 1 (.mov 7 (.tmp 19))] [])
 (.region [.op 0 (.mov 20 (.tmp 8)),
 .op 1 (.mov 21 (.tmp 6)),
 .op 2 (.bin 22 .add .plain (.tmp 20) (.tmp 21)),
 .op 3 (.mov 8 (.tmp 22))] [])))))))
 (.seq (.region [.op 0 (.mov 23 (.tmp 0)),
 .op 1 (.mov 24 (.tmp 7)),
 .op 2 (.mov 25 (.tmp 1)),
 .op 3 (.mov 26 (.tmp 2)),
 .op 4 (.call 27 204 [.tmp 23, .tmp 24, .tmp 25, .tmp 26])] [])
 (.block 2 (.loop ⟨[0, 1, 2, 6], []⟩ [((.exit 2), ⟨[], []⟩)]
 (.seq (.seq (.region [.op 0 (.mov 28 (.tmp 6)),
 .op 1 (.mov 29 (.tmp 1)),
 .op 2 (.bin 30 .lss .plain (.tmp 28) (.tmp 29))] [])
 (.cond (.tmp 30)
 .skip
 (.exit 2)))
 (.block 3 (.seq (.region [.op 0 (.mov 31 (.tmp 6)),
 .op 1 (.bin 32 .mul .plain (.const (.int .i64 2)) (.tmp 31)),
 .op 2 (.mov 7 (.const (.int .i64 0))),
 .op 3 (.mov 8 (.tmp 32))] [])
 (.seq (.block 4 (.loop ⟨[0, 1, 2, 6, 7, 8], []⟩ [((.exit 4), ⟨[0, 1, 2, 6, 7], []⟩)]
 (.seq (.seq (.region [.op 0 (.mov 33 (.tmp 8)),
 .op 1 (.mov 34 (.tmp 1)),
 .op 2 (.bin 35 .leq .plain (.tmp 33) (.tmp 34))] [])
 (.cond (.tmp 35)
 .skip
 (.exit 4)))
 (.block 5 (.seq (.region [.op 0 (.mov 36 (.tmp 0)),
 .op 1 (.mov 37 (.tmp 7)),
 .op 2 (.mov 38 (.tmp 7)),
 .op 3 (.mov 39 (.tmp 6)),
 .op 4 (.bin 40 .add .plain (.tmp 38) (.tmp 39)),
 .op 5 (.mov 41 (.tmp 8)),
 .op 6 (.mov 42 (.tmp 2)),
 .op 7 (.call 43 205 [.tmp 36, .tmp 37, .tmp 40, .tmp 41, .tmp 42])] [])
 (.seq (.region [.op 0 (.mov 44 (.tmp 8)),
 .op 1 (.mov 7 (.tmp 44))] [])
 (.region [.op 0 (.mov 45 (.tmp 8)),
 .op 1 (.mov 46 (.tmp 6)),
 .op 2 (.bin 47 .mul .plain (.const (.int .i64 2)) (.tmp 46)),
 .op 3 (.bin 48 .add .plain (.tmp 45) (.tmp 47)),
 .op 4 (.mov 8 (.tmp 48))] [])))))))
 (.seq (.seq (.region [.op 0 (.mov 49 (.tmp 7)),
 .op 1 (.mov 50 (.tmp 6)),
 .op 2 (.bin 51 .add .plain (.tmp 49) (.tmp 50)),
 .op 3 (.mov 9 (.tmp 51))] [])
 (.seq (.region [.op 0 (.mov 52 (.tmp 9)),
 .op 1 (.mov 53 (.tmp 1)),
 .op 2 (.bin 54 .lss .plain (.tmp 52) (.tmp 53))] [])
 (.join [(.normal, ⟨[0, 1, 2, 6], []⟩)] (.cond (.tmp 54)
 (.region [.op 0 (.mov 55 (.tmp 0)),
 .op 1 (.mov 56 (.tmp 7)),
 .op 2 (.mov 57 (.tmp 9)),
 .op 3 (.mov 58 (.tmp 1)),
 .op 4 (.mov 59 (.tmp 2)),
 .op 5 (.call 60 205 [.tmp 55, .tmp 56, .tmp 57, .tmp 58, .tmp 59])] [])
 .skip))))
 (.region [.op 0 (.mov 61 (.tmp 6)),
 .op 1 (.bin 62 .mul .plain (.tmp 61) (.const (.int .i64 2))),
 .op 2 (.mov 6 (.tmp 62))] [])))))))))))),
 []⟩
theorem ok182 : funcOk Tryz.prog (drawOk Tryz.prog) Tryz.f182 A182 = true := by kernel_rfl
noncomputable def A183 : AFunc := ⟨2, (.seq (.region [.op 0 (.mov 4 (.const (.int .i64 0)))] [])
 (.seq (.region [.op 0 (.mov 7 (.tmp 0)),
 .op 1 (.call 8 206 [.tmp 7]),
 .op 2 (.mov 5 (.tmp 8))] [])
 (.seq (.region [.op 0 (.mov 9 (.tmp 1)),
 .op 1 (.call 10 206 [.tmp 9]),
 .op 2 (.mov 6 (.tmp 10))] [])
 (.seq (.seq (.region [.op 0 (.mov 11 (.tmp 5))] [])
 (.cond (.tmp 11)
 (.seq (.seq (.region [.op 0 (.mov 12 (.tmp 6))] [])
 (.cond (.tmp 12)
 (.seq (.region [.op 0 (.mov 4 (.const (.int .i64 0)))] [])
 .ret)
 .skip))
 (.seq (.region [.op 0 (.mov 4 (.const (.int .i64 (-1))))] [])
 .ret))
 .skip))
 (.seq (.seq (.region [.op 0 (.mov 13 (.tmp 6))] [])
 (.cond (.tmp 13)
 (.seq (.region [.op 0 (.mov 4 (.const (.int .i64 1)))] [])
 .ret)
 .skip))
 (.seq (.seq (.region [.op 0 (.mov 14 (.tmp 0)),
 .op 1 (.mov 15 (.tmp 1)),
 .op 2 (.bin 16 .lss .plain (.tmp 14) (.tmp 15))] [])
 (.cond (.tmp 16)
 (.seq (.region [.op 0 (.mov 4 (.const (.int .i64 (-1))))] [])
 .ret)
 .skip))
 (.seq (.seq (.region [.op 0 (.mov 17 (.tmp 0)),
 .op 1 (.mov 18 (.tmp 1)),
 .op 2 (.bin 19 .gtr .plain (.tmp 17) (.tmp 18))] [])
 (.cond (.tmp 19)
 (.seq (.region [.op 0 (.mov 4 (.const (.int .i64 1)))] [])
 .ret)
 .skip))
 (.seq (.region [.op 0 (.mov 4 (.const (.int .i64 0)))] [])
 .ret)))))))),
 [.tmp 4]⟩
theorem ok183 : funcOk Tryz.prog (drawOk Tryz.prog) Tryz.f183 A183 = true := by kernel_rfl
noncomputable def A196 : AFunc := ⟨1, (.seq (.region [.op 0 (.alloc 2 true [.int .i64 0, .int .i64 0, .int .i64 0, .int .i64 0, .int .i64 0, .int .i64 0, .int .i64 0, .str [], .str [], .bool false, .int .u32 0, .nilSlice, .nilSlice])] [])
 (.seq (.region [.op 0 (.mov 4 (.tmp 0)),
 .op 1 (.nilchk 5 (.tmp 4)),
 .op 2 (.faddr 6 6 (.tmp 5)),
 .op 3 (.load 7 false 1 (.tmp 6)),
 .op 4 (.iaddr 8 none 3 (.tmp 7) (.const (.int .i64 0))),
 .op 5 (.load 9 true 3 (.tmp 8)),
 .op 6 (.alloc 3 true [.int .i64 0, .int .i64 0, .int .i64 0]),
 .op 7 (.store true 3 (.tmp 3) (.tmp 9))] [])
 (.seq (.region [.op 0 (.mov 10 (.tmp 0)),
 .op 1 (.mov 11 (.tmp 0)),
 .op 2 (.nilchk 12 (.tmp 11)),
 .op 3 (.faddr 13 6 (.tmp 12)),
 .op 4 (.load 14 false 1 (.tmp 13)),
 .op 5 (.slice 15 (.sl 3) (.tmp 14) (some (.const (.int .i64 1))) none none),
 .op 6 (.nilchk 16 (.tmp 10)),
 .op 7 (.faddr 17 6 (.tmp 16)),
 .op 8 (.store false 1 (.tmp 17) (.tmp 15))] [])
 (.seq (.seq (.region [.op 0 (.faddr 18 0 (.tmp 3)),
 .op 1 (.load 19 false 1 (.tmp 18))] [])
 (.block 0 (.seq (.region [.op 0 (.bin 21 .eql .plain (.tmp 19) (.const (.int .i64 1))),
 .op 1 (.mov 20 (.tmp 21))] [])
 (.cond (.tmp 20)
 (.seq (.region [.op 0 (.mov 22 (.tmp 0)),
 .op 1 (.mov 23 (.tmp 0)),
 .op 2 (.load 24 true 3 (.tmp 3)),
 .op 3 (.nilchk 25 (.tmp 22)),
 .op 4 (.faddr 26 8 (.tmp 25)),
 .op 5 (.store true 3 (.tmp 26) (.tmp 24)),
 .op 6 (.nilchk 27 (.tmp 23)),
 .op 7 (.faddr 28 7 (.tmp 27)),
 .op 8 (.store false 1 (.tmp 28) (.const (.bool true)))] [])
 (.seq (.region [.op 0 (.mov 29 (.tmp 0)),
 .op 1 (.call 30 198 [.tmp 29]),
 .op 2 (.store true 13 (.tmp 2) (.tmp 30))] [])
 .ret))
 (.seq (.region [.op 0 (.bin 32 .eql .plain (.tmp 19) (.const (.int .i64 4))),
 .op 1 (.mov 31 (.tmp 32))] [])
 (.cond (.tmp 31)
 (.seq (.region [.op 0 (.faddr 33 2 (.tmp 3)),
 .op 1 (.load 34 false 1 (.tmp 33)),
 .op 2 (.build 35 [.int .i64 0, .int .i64 0, .int .i64 0, .int .i64 0, .int .i64 0, .int .i64 0, .int .i64 0, .str [], .str [], .bool false, .int .u32 0, .nilSlice, .nilSlice] [(1, 1, .const (.int .i64 4)), (2, 1, .tmp 34)]),
 .op 3 (.store true 13 (.tmp 2) (.tmp 35))] [])
 .ret)
 .skip))))))
 (.seq (.region [.op 0 (.mov 36 (.tmp 0)),
 .op 1 (.nilchk 37 (.tmp 36)),
 .op 2 (.faddr 38 7 (.tmp 37)),
 .op 3 (.store false 1 (.tmp 38) (.const (.bool false)))] [])
 (.seq (.region [.op 0 (.build 39 [.int .i64 0, .int .i64 0, .int .i64 0, .int .i64 0, .int .i64 0, .int .i64 0, .int .i64 0, .str [], .str [], .bool false, .int .u32 0, .nilSlice, .nilSlice] [(1, 1, .const (.int .i64 3))]),
 .op 1 (.store true 13 (.tmp 2) (.tmp 39))] [])
 .ret)))))),
 [.cell 2 true 13]⟩
theorem ok196 : funcOk Tryz.prog (drawOk Tryz.prog) Tryz.f196 A196 = true := by kernel_rfl
noncomputable def A197 : AFunc := ⟨3, (.seq (.region [.op 0 (.box 3 true (.tmp 0)),
 .op 1 (.mov 6 (.const (.bool false)))] [])
 (.seq (.region [.op 0 (.faddr 7 0 (.tmp 3)),
 .op 1 (.load 8 false 1 (.tmp 7)),
 .op 2 (.un 9 .not (.tmp 8)),
 .op 3 (.mov 10 (.tmp 9)),
 .guard 10 false [.op 4 (.mov 11 (.tmp 1)),
 .op 5 (.faddr 12 1 (.tmp 3)),
 .op 6 (.load 13 false 1 (.tmp 12)),
 .op 7 (.bin 14 .sub .plain (.tmp 11) (.tmp 13)),
 .op 8 (.mov 15 (.tmp 2)),
 .op 9 (.bin 16 .geq .plain (.tmp 14) (.tmp 15))] [] [16],
 .op 10 (.pick 17 (.tmp 10) (.const (.bool true)) (.tmp 16)),
 .op 11 (.mov 6 (.tmp 17))] [])
 .ret)),
 [.tmp 6]⟩
theorem ok197 : funcOk Tryz.prog (drawOk Tryz.prog) Tryz.f197 A197 = true := by kernel_rfl
noncomputable def A198 : AFunc := ⟨1, (.seq (.region [.op 0 (.alloc 2 true [.int .i64 0, .int .i64 0, .int .i64 0, .int .i64 0, .int .i64 0, .int .i64 0, .int .i64 0, .str [], .str [], .bool false, .int .u32 0, .nilSlice, .nilSlice])] [])
 (.seq (.region [.op 0 (.mov 3 (.tmp 0)),
 .op 1 (.nilchk 4 (.tmp 3)),
 .op 2 (.faddr 5 8 (.tmp 4)),
 .op 3 (.faddr 6 1 (.tmp 5)),
 .op 4 (.load 7 false 1 (.tmp 6)),
 .op 5 (.mov 8 (.tmp 0)),
 .op 6 (.nilchk 9 (.tmp 8)),
 .op 7 (.faddr 10 8 (.tmp 9)),
 .op 8 (.faddr 11 2 (.tmp 10)),
 .op 9 (.load 12 false 1 (.tmp 11)),
 .op 10 (.build 13 [.int .i64 0, .int .i64 0, .int .i64 0, .int .i64 0, .int .i64 0, .int .i64 0, .int .i64 0, .str [], .str [], .bool false, .int .u32 0, .nilSlice, .nilSlice] [(1, 1, .const (.int .i64 1)), (5, 1, .tmp 7), (2, 1, .tmp 12)]),
 .op 11 (.store true 13 (.tmp 2) (.tmp 13))] [])
 .ret)),
 [.cell 2 true 13]⟩
theorem ok198 : funcOk Tryz.prog (drawOk Tryz.prog) Tryz.f198 A198 = true := by kernel_rfl
noncomputable def A199 : AFunc := ⟨1, (.seq (.region [.op 0 (.mov 2 (.const (.int .i64 0)))] [])
 (.seq (.region [.op 0 (.mov 3 (.tmp 0)),
 .op 1 (.nilchk 4 (.tmp 3)),
 .op 2 (.faddr 5 1 (.tmp 4)),
 .op 3 (.load 6 false 1 (.tmp 5)),
 .op 4 (.mov 2 (.tmp 6))] [])
 .ret)),
 [.tmp 2]⟩
theorem ok199 : funcOk Tryz.prog (drawOk Tryz.prog) Tryz.f199 A199 = true := by kernel_rfl
noncomputable def A200 : AFunc := ⟨2, (.seq (.region [.op 0 (.box 3 true (.tmp 1)),
 .op 1 (.mov 4 (.const (.nilSlice)))] [])
 (.seq (.region [.op 0 (.mov 5 (.const (.nilSlice)))] [])
 (.seq (.seq (.region [.op 0 (.mov 8 (.tmp 0)),
 .op 1 (.len 9 false (.tmp 8)),
 .op 2 (.mov 10 (.const (.int .i64 0)))] [])
 (.block 0 (.loop ⟨[5, 8, 9, 10], [3]⟩ [((.exit 0), ⟨[5], [3]⟩)]
 (.seq (.region [.op 0 (.bin 11 .lss .plain (.tmp 10) (.tmp 9))] [])
 (.seq (.cond (.tmp 11)
 .skip
 (.exit 0))
 (.seq (.block 1 (.seq (.region [.op 0 (.iaddr 12 none 9 (.tmp 8) (.tmp 10)),
 .op 1 (.load 13 true 9 (.tmp 12)),
 .op 2 (.alloc 7 true [.str [], .str [], .int .i64 0, .int .i64 0, .int .i64 0, .int .i64 0, .int .i64 0, .int .i64 0, .bool false]),
 .op 3 (.store true 9 (.tmp 7) (.tmp 13))] [])
 (.seq (.region [.op 0 (.faddr 14 0 (.tmp 7)),
 .op 1 (.load 15 true 2 (.tmp 14)),
 .op 2 (.faddr 16 0 (.tmp 3)),
 .op 3 (.load 17 true 2 (.tmp 16)),
 .op 4 (.bin 18 .neq (.cells [2, 2]) (.tmp 15) (.tmp 17))] [])
 (.join [(.normal, ⟨[5, 8, 9, 10], [3]⟩)] (.cond (.tmp 18)
 (.region [.op 0 (.mov 19 (.tmp 5)),
 .op 1 (.load 20 true 9 (.tmp 7)),
 .op 2 (.buildSl 21 [.str [], .str [], .int .i64 0, .int .i64 0, .int .i64 0, .int .i64 0, .int .i64 0, .int .i64 0, .bool false] 9 1 [(0, .tmp 20)]),
 .op 3 (.append 22 9 88 [.str [], .str [], .int .i64 0, .int .i64 0, .int .i64 0, .int .i64 0, .int .i64 0, .int .i64 0, .bool false] false (.tmp 19) (.tmp 21)),
 .op 4 (.mov 5 (.tmp 22))] [])
 .skip)))))
 (.region [.op 0 (.bin 23 .add .plain (.tmp 10) (.const (.int .i64 1))),
 .op 1 (.mov 10 (.tmp 23))] [])))))))
 (.seq (.seq (.region [.op 0 (.faddr 24 8 (.tmp 3)),
 .op 1 (.load 25 false 1 (.tmp 24)),
 .op 2 (.un 26 .not (.tmp 25))] [])
 (.join [(.normal, ⟨[5], []⟩)] (.cond (.tmp 26)
 (.region [.op 0 (.mov 27 (.tmp 5)),
 .op 1 (.load 28 true 9 (.tmp 3)),
 .op 2 (.buildSl 29 [.str [], .str [], .int .i64 0, .int .i64 0, .int .i64 0, .int .i64 0, .int .i64 0, .int .i64 0, .bool false] 9 1 [(0, .tmp 28)]),
 .op 3 (.append 30 9 88 [.str [], .str [], .int .i64 0, .int .i64 0, .int .i64 0, .int .i64 0, .int .i64 0, .int .i64 0, .bool false] false (.tmp 27) (.tmp 29)),
 .op 4 (.mov 5 (.tmp 30))] [])
 .skip)))
 (.seq (.region [.op 0 (.mov 31 (.tmp 5)),
 .op 1 (.mov 4 (.tmp 31))] [])
 .ret))))),
 [.tmp 4]⟩
theorem ok200 : funcOk Tryz.prog (drawOk Tryz.prog) Tryz.f200 A200 = true := by kernel_rfl
noncomputable def A201 : AFunc := ⟨1, (.seq (.region [.op 0 (.mov 2 (.const (.int .u32 0)))] [])
 (.seq (.region [.op 0 (.mov 3 (.const (.int .u32 17)))] [])
 (.seq (.seq (.region [.op 0 (.mov 6 (.tmp 0)),
 .op 1 (.len 7 false (.tmp 6)),
 .op 2 (.mov 8 (.const (.int .i64 0)))] [])
 (.block 0 (.loop ⟨[3, 6, 7, 8], []⟩ [((.exit 0), ⟨[3], []⟩)]
 (.seq (.region [.op 0 (.bin 9 .lss .plain (.tmp 8) (.tmp 7))] [])
 (.seq (.cond (.tmp 9)
 .skip
 (.exit 0))
 (.seq (.block 1 (.seq (.region [.op 0 (.iaddr 10 none 1 (.tmp 6) (.tmp 8)),
 .op 1 (.load 11 false 1 (.tmp 10)),
 .op 2 (.mov 5 (.tmp 11))] [])
 (.region [.op 0 (.mov 12 (.tmp 3)),
 .op 1 (.bin 13 .mul .plain (.tmp 12) (.const (.int .u32 31))),
 .op 2 (.mov 14 (.tmp 5)),
 .op 3 (.conv 15 (.toInt .u32) (.tmp 14)),
 .op 4 (.bin 16 .add .plain (.tmp 13) (.tmp 15)),
 .op 5 (.bin 17 .add .plain (.tmp 16) (.const (.int .u32 7))),
 .op 6 (.mov 3 (.tmp 17))] [])))
 (.region [.op 0 (.bin 18 .add .plain (.tmp 8) (.const (.int .i64 1))),
 .op 1 (.mov 8 (.tmp 18))] [])))))))
 (.seq (.region [.op 0 (.mov 19 (.tmp 3)),
 .op 1 (.mov 2 (.tmp 19))] [])
 .ret)))),
 [.tmp 2]⟩
theorem ok201 : funcOk Tryz.prog (drawOk Tryz.prog) Tryz.f201 A201 = true := by kernel_rfl
noncomputable def A202 : AFunc := ⟨1, (.seq (.region [.op 0 (.mov 2 (.const (.nilSlice)))] [])
 (.seq (.region [.op 0 (.mov 3 (.const (.nilSlice)))] [])
 (.seq (.seq (.region [.op 0 (.mov 6 (.tmp 0)),
 .op 1 (.call 7 150 [.tmp 6]),
 .op 2 (.len 8 false (.tmp 7)),
 .op 3 (.mov 9 (.const (.int .i64 0)))] [])
 (.block 0 (.loop ⟨[3, 7, 8, 9], []⟩ [((.exit 0), ⟨[3], []⟩)]
 (.seq (.region [.op 0 (.bin 10 .lss .plain (.tmp 9) (.tmp 8))] [])
 (.seq (.cond (.tmp 10)
 .skip
 (.exit 0))
 (.seq (.block 1 (.seq (.region [.op 0 (.iaddr 11 none 9 (.tmp 7) (.tmp 9)),
 .op 1 (.load 12 true 9 (.tmp 11)),
 .op 2 (.alloc 5 true [.str [], .str [], .int .i64 0, .int .i64 0, .int .i64 0, .int .i64 0, .int .i64 0, .int .i64 0, .bool false]),
 .op 3 (.store true 9 (.tmp 5) (.tmp 12))] [])
 (.seq (.region [.op 0 (.mov 13 (.tmp 3)),
 .op 1 (.faddr 14 0 (.tmp 5)),
 .op 2 (.faddr 15 0 (.tmp 14)),
 .op 3 (.load 16 false 1 (.tmp 15)),
 .op 4 (.call 17 216 [.tmp 13, .tmp 16]),
 .op 5 (.faddr 18 0 (.tmp 5)),
 .op 6 (.faddr 19 1 (.tmp 18)),
 .op 7 (.load 20 false 1 (.tmp 19)),
 .op 8 (.call 21 216 [.tmp 17, .tmp 20]),
 .op 9 (.load 22 true 9 (.tmp 5)),
 .op 10 (.call 23 177 [.tmp 22]),
 .op 11 (.call 24 215 [.tmp 21, .tmp 23]),
 .op 12 (.mov 3 (.tmp 24))] [(7, 4), (9, 4), (9, 8)])
 (.region [.op 0 (.mov 25 (.tmp 3)),
 .op 1 (.faddr 26 4 (.tmp 5)),
 .op 2 (.load 27 false 1 (.tmp 26)),
 .op 3 (.call 28 217 [.tmp 25, .tmp 27]),
 .op 4 (.mov 3 (.tmp 28))] []))))
 (.region [.op 0 (.bin 29 .add .plain (.tmp 9) (.const (.int .i64 1))),
 .op 1 (.mov 9 (.tmp 29))] [])))))))
 (.seq (.region [.op 0 (.mov 30 (.tmp 3)),
 .op 1 (.mov 2 (.tmp 30))] [])
 .ret)))),
 [.tmp 2]⟩
theorem ok202 : funcOk Tryz.prog (drawOk Tryz.prog) Tryz.f202 A202 = true := by kernel_rfl
noncomputable def A204 : AFunc := ⟨4, (.seq (.region [.op 0 (.mov 10 (.tmp 1)),
 .op 1 (.bin 11 .add .plain (.tmp 10) (.const (.int .i64 1))),
 .op 2 (.mov 8 (.tmp 11))] [])
 (.block 0 (.loop ⟨[0, 1, 2, 3, 8], []⟩ [((.exit 0), ⟨[], []⟩)]
 (.seq (.seq (.region [.op 0 (.mov 12 (.tmp 8)),
 .op 1 (.mov 13 (.tmp 2)),
 .op 2 (.bin 14 .lss .plain (.tmp 12) (.tmp 13))] [])
 (.cond (.tmp 14)
 .skip
 (.exit 0)))
 (.seq (.block 1 (.seq (.region [.op 0 (.mov 17 (.tmp 8)),
 .op 1 (.mov 9 (.tmp 17))] [])
 (.block 2 (.loop ⟨[0, 1, 2, 3, 8, 9], []⟩ [((.exit 2), ⟨[0, 1, 2, 3, 8], []⟩)]
 (.seq (.seq (.region [.op 0 (.mov 18 (.tmp 9)),
 .op 1 (.mov 19 (.tmp 1)),
 .op 2 (.bin 20 .gtr .plain (.tmp 18) (.tmp 19)),
 .op 3 (.mov 21 (.tmp 20)),
 .guard 21 true [.op 4 (.mov 22 (.tmp 3)),
 .op 5 (.mov 23 (.tmp 0)),
 .op 6 (.mov 24 (.tmp 9)),
 .op 7 (.iaddr 25 none 9 (.tmp 23) (.tmp 24)),
 .op 8 (.load 26 true 9 (.tmp 25)),
 .op 9 (.mov 27 (.tmp 0)),
 .op 10 (.mov 28 (.tmp 9)),
 .op 11 (.bin 29 .sub .plain (.tmp 28) (.const (.int .i64 1))),
 .op 12 (.iaddr 30 none 9 (.tmp 27) (.tmp 29)),
 .op 13 (.load 31 true 9 (.tmp 30)),
 .op 14 (.callv 32 (.tmp 22) [.tmp 26, .tmp 31]),
 .op 15 (.bin 33 .lss .plain (.tmp 32) (.const (.int .i64 0)))] [] [33],
 .op 16 (.pick 34 (.tmp 21) (.tmp 33) (.const (.bool false)))] [])
 (.cond (.tmp 34)
 .skip
 (.exit 2)))
 (.seq (.block 3 (.region [.op 0 (.mov 37 (.tmp 0)),
 .op 1 (.mov 38 (.tmp 9)),
 .op 2 (.mov 39 (.tmp 0)),
 .op 3 (.mov 40 (.tmp 9)),
 .op 4 (.bin 41 .sub .plain (.tmp 40) (.const (.int .i64 1))),
 .op 5 (.mov 42 (.tmp 0)),
 .op 6 (.mov 43 (.tmp 9)),
 .op 7 (.bin 44 .sub .plain (.tmp 43) (.const (.int .i64 1))),
 .op 8 (.iaddr 45 none 9 (.tmp 42) (.tmp 44)),
 .op 9 (.load 46 true 9 (.tmp 45)),
 .op 10 (.mov 47 (.tmp 0)),
 .op 11 (.mov 48 (.tmp 9)),
 .op 12 (.iaddr 49 none 9 (.tmp 47) (.tmp 48)),
 .op 13 (.load 50 true 9 (.tmp 49)),
 .op 14 (.iaddr 51 none 9 (.tmp 37) (.tmp 38)),
 .op 15 (.store true 9 (.tmp 51) (.tmp 46)),
 .op 16 (.iaddr 52 none 9 (.tmp 39) (.tmp 41)),
 .op 17 (.store true 9 (.tmp 52) (.tmp 50))] []))
 (.region [.op 0 (.mov 35 (.tmp 9)),
 .op 1 (.bin 36 .sub .plain (.tmp 35) (.const (.int .i64 1))),
 .op 2 (.mov 9 (.tmp 36))] [])))))))
 (.region [.op 0 (.mov 15 (.tmp 8)),
 .op 1 (.bin 16 .add .plain (.tmp 15) (.const (.int .i64 1))),
 .op 2 (.mov 8 (.tmp 16))] [])))))),
 []⟩
theorem ok204 : funcOk Tryz.prog (drawOk Tryz.prog) Tryz.f204 A204 = true := by kernel_rfl
noncomputable def A206 : AFunc := ⟨1, (.seq (.region [.op 0 (.mov 2 (.const (.bool false)))] [])
 (.seq (.region [.op 0 (.mov 3 (.tmp 0)),
 .op 1 (.mov 4 (.tmp 0)),
 .op 2 (.bin 5 .neq .plain (.tmp 3) (.tmp 4)),
 .op 3 (.mov 2 (.tmp 5))] [])
 .ret)),
 [.tmp 2]⟩
theorem ok206 : funcOk Tryz.prog (drawOk Tryz.prog) Tryz.f206 A206 = true := by kernel_rfl
noncomputable def A215 : AFunc := ⟨2, (.seq (.region [.op 0 (.mov 4 (.const (.nilSlice)))] [])
 (.seq (.region [.op 0 (.mov 5 (.tmp 0)),
 .op 1 (.call 6 166 [.tmp 5]),
 .op 2 (.mov 7 (.tmp 1)),
 .op 3 (.conv 8 (.toInt .u8) (.tmp 7)),
 .op 4 (.buildSl 9 [.int .u8 0] 1 1 [(0, .tmp 8)]),
 .op 5 (.append 10 1 1 [.int .u8 0] false (.tmp 6) (.tmp 9)),
 .op 6 (.mov 4 (.tmp 10))] [])
 .ret)),
 [.tmp 4]⟩
theorem ok215 : funcOk Tryz.prog (drawOk Tryz.prog) Tryz.f215 A215 = true := by kernel_rfl
noncomputable def A216 : AFunc := ⟨2, (.seq (.region [.op 0 (.mov 4 (.const (.nilSlice)))] [])
 (.seq (.region [.op 0 (.mov 5 (.tmp 1)),
 .op 1 (.mov 6 (.tmp 1)),
 .op 2 (.len 7 true (.tmp 6)),
 .op 3 (.minmax 8 false [.tmp 7, .const (.int .i64 255)]),
 .op 4 (.slice 9 .str (.tmp 5) none (some (.tmp 8)) none),
 .op 5 (.mov 1 (.tmp 9))] [])
 (.seq (.region [.op 0 (.mov 10 (.tmp 0)),
 .op 1 (.mov 11 (.tmp 1)),
 .op 2 (.len 12 true (.tmp 11)),
 .op 3 (.call 13 215 [.tmp 10, .tmp 12]),
 .op 4 (.mov 14 (.tmp 1)),
 .op 5 (.append 15 1 1 [.int .u8 0] false (.tmp 13) (.tmp 14)),
 .op 6 (.mov 4 (.tmp 15))] [])
 .ret))),
 [.tmp 4]⟩
theorem ok216 : funcOk Tryz.prog (drawOk Tryz.prog) Tryz.f216 A216 = true := by kernel_rfl
noncomputable def A217 : AFunc := ⟨2, (.seq (.region [.op 0 (.mov 4 (.const (.nilSlice)))] [])
 (.seq (.region [.op 0 (.mov 7 (.tmp 0)),
 .op 1 (.call 8 166 [.tmp 7]),
 .op 2 (.mov 5 (.tmp 8))] [])
 (.seq (.seq (.region [.op 0 (.mov 6 (.const (.int .i64 7)))] [])
 (.block 0 (.loop ⟨[1, 5, 6], []⟩ [((.exit 0), ⟨[5], []⟩)]
 (.seq (.seq (.region [.op 0 (.mov 9 (.tmp 6)),
 .op 1 (.bin 10 .geq .plain (.tmp 9) (.const (.int .i64 0)))] [])
 (.cond (.tmp 10)
 .skip
 (.exit 0)))
 (.seq (.block 1 (.region [.op 0 (.mov 13 (.tmp 5)),
 .op 1 (.mov 14 (.tmp 1)),
 .op 2 (.mov 15 (.tmp 6)),
 .op 3 (.bin 16 .mul .plain (.const (.int .i64 8)) (.tmp 15)),
 .op 4 (.bin 17 .shr .plain (.tmp 14) (.tmp 16)),
 .op 5 (.conv 18 (.toInt .u8) (.tmp 17)),
 .op 6 (.buildSl 19 [.int .u8 0] 1 1 [(0, .tmp 18)]),
 .op 7 (.append 20 1 1 [.int .u8 0] false (.tmp 13) (.tmp 19)),
 .op 8 (.mov 5 (.tmp 20))] []))
 (.region [.op 0 (.mov 11 (.tmp 6)),
 .op 1 (.bin 12 .sub .plain (.tmp 11) (.const (.int .i64 1))),
 .op 2 (.mov 6 (.tmp 12))] []))))))
 (.seq (.region [.op 0 (.mov 21 (.tmp 5)),
 .op 1 (.call 22 229 [.tmp 21]),
 .op 2 (.mov 4 (.tmp 22))] [])
 .ret)))),
 [.tmp 4]⟩
theorem ok217 : funcOk Tryz.prog (drawOk Tryz.prog) Tryz.f217 A217 = true := by kernel_rfl
noncomputable def A229 : AFunc := ⟨1, (.seq (.region [.op 0 (.mov 2 (.const (.nilSlice)))] [])
 (.seq (.region [.op 0 (.mov 3 (.tmp 0)),
 .op 1 (.mov 4 (.tmp 0)),
 .op 2 (.len 5 false (.tmp 4)),
 .op 3 (.mov 6 (.tmp 0)),
 .op 4 (.len 7 false (.tmp 6)),
 .op 5 (.slice 8 (.sl 1) (.tmp 3) none (some (.tmp 5)) (some (.tmp 7))),
 .op 6 (.mov 2 (.tmp 8))] [])
 .ret)),
 [.tmp 2]⟩
theorem ok229 : funcOk Tryz.prog (drawOk Tryz.prog) Tryz.f229 A229 = true := by kernel_rfl
noncomputable def A257 : AFunc := ⟨2, (.seq (.region [.op 0 (.alloc 4 true [.int .i64 0, .int .i64 0, .nilSlice]),
 .op 1 (.mov 5 (.const (.int .i64 0)))] [])
 (.seq (.block 0 (.seq (.region [.op 0 (.mov 8 (.tmp 0)),
 .op 1 (.mov 9 (.tmp 1)),
 .op 2 (.call 10 263 [.tmp 8, .tmp 9]),
 .op 3 (.un 11 .not (.tmp 10)),
 .op 4 (.mov 7 (.tmp 11))] [])
 (.cond (.tmp 7)
 (.seq (.region [.op 0 (.build 12 [.int .i64 0, .int .i64 0, .nilSlice] []),
 .op 1 (.store true 3 (.tmp 4) (.tmp 12)),
 .op 2 (.mov 5 (.const (.int .i64 23)))] [])
 .ret)
 (.seq (.region [.op 0 (.mov 14 (.tmp 0)),
 .op 1 (.mov 15 (.tmp 0)),
 .op 2 (.nilchk 16 (.tmp 15)),
 .op 3 (.faddr 17 1 (.tmp 16)),
 .op 4 (.load 18 false 1 (.tmp 17)),
 .op 5 (.mov 19 (.tmp 1)),
 .op 6 (.iaddr 20 none 3 (.tmp 18) (.tmp 19)),
 .op 7 (.faddr 21 0 (.tmp 20)),
 .op 8 (.load 22 false 1 (.tmp 21)),
 .op 9 (.mov 23 (.tmp 0)),
 .op 10 (.nilchk 24 (.tmp 23)),
 .op 11 (.faddr 25 1 (.tmp 24)),
 .op 12 (.load 26 false 1 (.tmp 25)),
 .op 13 (.mov 27 (.tmp 1)),
 .op 14 (.iaddr 28 none 3 (.tmp 26) (.tmp 27)),
 .op 15 (.faddr 29 1 (.tmp 28)),
 .op 16 (.load 30 false 1 (.tmp 29)),
 .op 17 (.call 31 96 [.tmp 14, .tmp 22, .tmp 30]),
 .op 18 (.mov 13 (.tmp 31))] [])
 (.cond (.tmp 13)
 (.seq (.region [.op 0 (.build 32 [.int .i64 0, .int .i64 0, .nilSlice] []),
 .op 1 (.store true 3 (.tmp 4) (.tmp 32)),
 .op 2 (.mov 5 (.const (.int .i64 26)))] [])
 .ret)
 .skip)))))
 (.seq (.region [.op 0 (.mov 33 (.tmp 0)),
 .op 1 (.nilchk 34 (.tmp 33)),
 .op 2 (.faddr 35 1 (.tmp 34)),
 .op 3 (.load 36 false 1 (.tmp 35)),
 .op 4 (.mov 37 (.tmp 1)),
 .op 5 (.iaddr 38 none 3 (.tmp 36) (.tmp 37)),
 .op 6 (.load 39 true 3 (.tmp 38)),
 .op 7 (.alloc 6 true [.int .i64 0, .int .i64 0, .nilSlice]),
 .op 8 (.store true 3 (.tmp 6) (.tmp 39))] [])
 (.seq (.region [.op 0 (.mov 40 (.tmp 0)),
 .op 1 (.mov 41 (.tmp 0)),
 .op 2 (.nilchk 42 (.tmp 41)),
 .op 3 (.faddr 43 1 (.tmp 42)),
 .op 4 (.load 44 false 1 (.tmp 43)),
 .op 5 (.mov 45 (.tmp 1)),
 .op 6 (.mov 46 (.tmp 1)),
 .op 7 (.bin 47 .add .plain (.tmp 46) (.const (.int .i64 1))),
 .op 8 (.call 48 264 [.tmp 44, .tmp 45, .tmp 47]),
 .op 9 (.nilchk 49 (.tmp 40)),
 .op 10 (.faddr 50 1 (.tmp 49)),
 .op 11 (.store false 1 (.tmp 50) (.tmp 48))] [])
 (.seq (.region [.op 0 (.load 51 true 3 (.tmp 6)),
 .op 1 (.store true 3 (.tmp 4) (.tmp 51)),
 .op 2 (.mov 5 (.const (.int .i64 0)))] [])
 .ret))))),
 [.cell 4 true 3, .tmp 5]⟩
theorem ok257 : funcOk Tryz.prog (drawOk Tryz.prog) Tryz.f257 A257 = true := by kernel_rfl
noncomputable def A260 : AFunc := ⟨2, (.seq (.region [.op 0 (.box 3 true (.tmp 1)),
 .op 1 (.mov 4 (.const (.int .i64 0)))] [])
 (.seq (.block 0 (.seq (.region [.op 0 (.mov 6 (.tmp 0)),
 .op 1 (.faddr 7 0 (.tmp 3)),
 .op 2 (.load 8 false 1 (.tmp 7)),
 .op 3 (.call 9 134 [.tmp 6, .tmp 8]),
 .op 4 (.un 10 .not (.tmp 9)),
 .op 5 (.mov 11 (.tmp 10)),
 .guard 11 false [.op 6 (.mov 12 (.tmp 0)),
 .op 7 (.faddr 13 1 (.tmp 3)),
 .op 8 (.load 14 false 1 (.tmp 13)),
 .op 9 (.call 15 134 [.tmp 12, .tmp 14]),
 .op 10 (.un 16 .not (.tmp 15))] [] [16],
 .op 11 (.pick 17 (.tmp 11) (.const (.bool true)) (.tmp 16)),
 .op 12 (.mov 5 (.tmp 17))] [])
 (.cond (.tmp 5)
 (.seq (.region [.op 0 (.mov 4 (.const (.int .i64 23)))] [])
 .ret)
 (.seq (.region [.op 0 (.mov 19 (.tmp 0)),
 .op 1 (.nilchk 20 (.tmp 19)),
 .op 2 (.faddr 21 1 (.tmp 20)),
 .op 3 (.load 22 false 1 (.tmp 21)),
 .op 4 (.len 23 false (.tmp 22)),
 .op 5 (.bin 24 .geq .plain (.tmp 23) (.const (.int .i64 64))),
 .op 6 (.mov 18 (.tmp 24))] [])
 (.cond (.tmp 18)
 (.seq (.region [.op 0 (.mov 4 (.const (.int .i64 24)))] [])
 .ret)
 .skip)))))
 (.seq (.region [.op 0 (.mov 25 (.tmp 0)),
 .op 1 (.mov 26 (.tmp 0)),
 .op 2 (.nilchk 27 (.tmp 26)),
 .op 3 (.faddr 28 1 (.tmp 27)),
 .op 4 (.load 29 false 1 (.tmp 28)),
 .op 5 (.load 30 true 3 (.tmp 3)),
 .op 6 (.call 31 133 [.tmp 30]),
 .op 7 (.buildSl 32 [.int .i64 0, .int .i64 0, .nilSlice] 3 1 [(0, .tmp 31)]),
 .op 8 (.append 33 3 40 [.int .i64 0, .int .i64 0, .nilSlice] false (.tmp 29) (.tmp 32)),
 .op 9 (.nilchk 34 (.tmp 25)),
 .op 10 (.faddr 35 1 (.tmp 34)),
 .op 11 (.store false 1 (.tmp 35) (.tmp 33))] [(4, 6), (4, 7)])
 (.seq (.region [.op 0 (.mov 4 (.const (.int .i64 0)))] [])
 .ret)))),
 [.tmp 4]⟩
theorem ok260 : funcOk Tryz.prog (drawOk Tryz.prog) Tryz.f260 A260 = true := by kernel_rfl
noncomputable def A263 : AFunc := ⟨2, (.seq (.region [.op 0 (.mov 4 (.const (.bool false)))] [])
 (.seq (.region [.op 0 (.mov 5 (.tmp 1)),
 .op 1 (.bin 6 .geq .plain (.tmp 5) (.const (.int .i64 0))),
 .op 2 (.mov 7 (.tmp 6)),
 .guard 7 true [.op 3 (.mov 8 (.tmp 1)),
 .op 4 (.mov 9 (.tmp 0)),
 .op 5 (.nilchk 10 (.tmp 9)),
 .op 6 (.faddr 11 1 (.tmp 10)),
 .op 7 (.load 12 false 1 (.tmp 11)),
 .op 8 (.len 13 false (.tmp 12)),
 .op 9 (.bin 14 .lss .plain (.tmp 8) (.tmp 13))] [] [14],
 .op 10 (.pick 15 (.tmp 7) (.tmp 14) (.const (.bool false))),
 .op 11 (.mov 4 (.tmp 15))] [])
 .ret)),
 [.tmp 4]⟩
theorem ok263 : funcOk Tryz.prog (drawOk Tryz.prog) Tryz.f263 A263 = true := by kernel_rfl
noncomputable def A264 : AFunc := ⟨3, (.seq (.region [.op 0 (.mov 6 (.const (.nilSlice)))] [])
 (.seq (.region [.op 0 (.mov 8 (.tmp 0)),
 .op 1 (.mov 9 (.tmp 1)),
 .op 2 (.mov 10 (.tmp 2)),
 .op 3 (.mov 11 (.tmp 0)),
 .op 4 (.len 12 false (.tmp 11)),
 .op 5 (.slice 13 (.sl 3) (.tmp 8) (some (.tmp 9)) (some (.tmp 10)) (some (.tmp 12)))] [])
 (.seq (.seq (.region [.op 0 (.mov 14 (.tmp 1)),
 .op 1 (.mov 15 (.tmp 2)),
 .op 2 (.bin 16 .eql .plain (.tmp 14) (.tmp 15))] [])
 (.cond (.tmp 16)
 (.seq (.region [.op 0 (.mov 17 (.tmp 0)),
 .op 1 (.mov 6 (.tmp 17))] [])
 .ret)
 .skip))
 (.seq (.region [.op 0 (.mov 18 (.tmp 0)),
 .op 1 (.len 19 false (.tmp 18)),
 .op 2 (.mov 7 (.tmp 19))] [])
 (.seq (.region [.op 0 (.mov 20 (.tmp 0)),
 .op 1 (.mov 21 (.tmp 1)),
 .op 2 (.slice 22 (.sl 3) (.tmp 20) none (some (.tmp 21)) none),
 .op 3 (.mov 23 (.tmp 0)),
 .op 4 (.mov 24 (.tmp 2)),
 .op 5 (.slice 25 (.sl 3) (.tmp 23) (some (.tmp 24)) none none),
 .op 6 (.append 26 3 40 [.int .i64 0, .int .i64 0, .nilSlice] false (.tmp 22) (.tmp 25)),
 .op 7 (.mov 0 (.tmp 26))] [])
 (.seq (.region [.op 0 (.mov 27 (.tmp 0)),
 .op 1 (.mov 28 (.tmp 0)),
 .op 2 (.len 29 false (.tmp 28)),
 .op 3 (.mov 30 (.tmp 7)),
 .op 4 (.slice 31 (.sl 3) (.tmp 27) (some (.tmp 29)) (some (.tmp 30)) none),
 .op 5 (.clear 0 [.int .i64 0, .int .i64 0, .nilSlice] (.tmp 31))] [])
 (.seq (.region [.op 0 (.mov 32 (.tmp 0)),
 .op 1 (.mov 6 (.tmp 32))] [])
 .ret))))))),
 [.tmp 6]⟩
theorem ok264 : funcOk Tryz.prog (drawOk Tryz.prog) Tryz.f264 A264 = true := by kernel_rfl
noncomputable def A265 : AFunc := ⟨2, (.seq (.region [.op 0 (.box 2 true (.tmp 0)),
 .op 1 (.alloc 4 true [.int .i64 0, .int .i64 0, .int .i64 0, .int .i64 0, .int .i64 0, .int .i64 0, .int .i64 0, .int .i64 0, .int .i64 0, .str [], .str [], .bool false, .int .u32 0, .nilSlice, .nilSlice, .int .i64 0]),
 .op 2 (.mov 5 (.const (.int .i64 0)))] [])
 (.seq (.region [.op 0 (.faddr 11 0 (.tmp 2)),
 .op 1 (.load 12 false 1 (.tmp 11)),
 .op 2 (.mov 13 (.tmp 1)),
 .op 3 (.call 14 257 [.tmp 12, .tmp 13]),
 .op 4 (.mov 10 (.tmp 14)),
 .op 5 (.extract 15 (.tmp 10) 0),
 .op 6 (.extract 16 (.tmp 10) 1),
 .op 7 (.alloc 6 true [.int .i64 0, .int .i64 0, .nilSlice]),
 .op 8 (.store true 3 (.tmp 6) (.tmp 15)),
 .op 9 (.mov 7 (.tmp 16))] [])
 (.seq (.seq (.region [.op 0 (.mov 17 (.tmp 7)),
 .op 1 (.bin 18 .neq .plain (.tmp 17) (.const (.int .i64 0)))] [])
 (.cond (.tmp 18)
 (.seq (.region [.op 0 (.build 19 [.int .i64 0, .int .i64 0, .int .i64 0, .int .i64 0, .int .i64 0, .int .i64 0, .int .i64 0, .int .i64 0, .int .i64 0, .str [], .str [], .bool false, .int .u32 0, .nilSlice, .nilSlice, .int .i64 0] []),
 .op 1 (.mov 20 (.tmp 7)),
 .op 2 (.store true 16 (.tmp 4) (.tmp 19)),
 .op 3 (.mov 5 (.tmp 20))] [])
 .ret)
 .skip))
 (.seq (.region [.op 0 (.load 22 true 3 (.tmp 6)),
 .op 1 (.call 23 267 [.tmp 22]),
 .op 2 (.mov 21 (.tmp 23)),
 .op 3 (.extract 24 (.tmp 21) 0),
 .op 4 (.extract 25 (.tmp 21) 1),
 .op 5 (.alloc 8 true [.int .i64 0, .int .i64 0, .int .i64 0, .int .i64 0, .int .i64 0, .int .i64 0, .int .i64 0, .str [], .str [], .bool false, .int .u32 0, .nilSlice, .nilSlice]),
 .op 6 (.store true 13 (.tmp 8) (.tmp 24)),
 .op 7 (.mov 9 (.tmp 25))] [])
 (.seq (.region [.op 0 (.faddr 26 0 (.tmp 6)),
 .op 1 (.load 27 false 1 (.tmp 26)),
 .op 2 (.faddr 28 1 (.tmp 6)),
 .op 3 (.load 29 false 1 (.tmp 28)),
 .op 4 (.load 30 true 13 (.tmp 8)),
 .op 5 (.mov 31 (.tmp 9)),
 .op 6 (.build 32 [.int .i64 0, .int .i64 0, .int .i64 0, .int .i64 0, .int .i64 0, .int .i64 0, .int .i64 0, .int .i64 0, .int .i64 0, .str [], .str [], .bool false, .int .u32 0, .nilSlice, .nilSlice, .int .i64 0] [(0, 1, .tmp 27), (1, 1, .tmp 29), (2, 13, .tmp 30), (15, 1, .tmp 31)]),
 .op 7 (.store true 16 (.tmp 4) (.tmp 32)),
 .op 8 (.mov 5 (.const (.int .i64 0)))] [])
 .ret))))),
 [.cell 4 true 16, .tmp 5]⟩
theorem ok265 : funcOk Tryz.prog (drawOk Tryz.prog) Tryz.f265 A265 = true := by kernel_rfl
noncomputable def A266 : AFunc := ⟨3, (.seq (.region [.op 0 (.box 3 true (.tmp 0)),
 .op 1 (.box 5 true (.tmp 2))] [])
 (.seq (.region [.op 0 (.faddr 11 1 (.tmp 5)),
 .op 1 (.load 12 true 13 (.tmp 11)),
 .op 2 (.call 13 268 [.tmp 12]),
 .op 3 (.mov 10 (.tmp 13)),
 .op 4 (.extract 14 (.tmp 10) 0),
 .op 5 (.extract 15 (.tmp 10) 1),
 .op 6 (.mov 6 (.tmp 14)),
 .op 7 (.mov 7 (.tmp 15))] [])
 (.seq (.seq (.region [.op 0 (.mov 16 (.tmp 7)),
 .op 1 (.bin 17 .neq (.iface true []) (.tmp 16) (.const (.nilIface)))] [])
 (.cond (.tmp 17)
 .ret
 .skip))
 (.seq (.region [.op 0 (.mov 19 (.tmp 6)),
 .op 1 (.call 20 269 [.tmp 19]),
 .op 2 (.mov 18 (.tmp 20)),
 .op 3 (.extract 21 (.tmp 18) 0),
 .op 4 (.extract 22 (.tmp 18) 1),
 .op 5 (.mov 8 (.tmp 21)),
 .op 6 (.mov 9 (.tmp 22))] [])
 (.seq (.region [.op 0 (.mov 23 (.tmp 9)),
 .op 1 (.bin 24 .eql .plain (.tmp 23) (.const (.int .i64 0)))] [])
 (.cond (.tmp 24)
 (.region [.op 0 (.faddr 25 0 (.tmp 3)),
 .op 1 (.load 26 false 1 (.tmp 25)),
 .op 2 (.mov 27 (.tmp 1)),
 .op 3 (.faddr 28 0 (.tmp 5)),
 .op 4 (.load 29 false 1 (.tmp 28)),
 .op 5 (.mov 30 (.tmp 8)),
 .op 6 (.build 31 [.int .i64 0, .int .i64 0, .nilSlice] [(0, 1, .tmp 27), (1, 1, .tmp 29), (2, 1, .tmp 30)]),
 .op 7 (.call 32 260 [.tmp 26, .tmp 31])] [])
 .skip)))))),
 []⟩
theorem ok266 : funcOk Tryz.prog (drawOk Tryz.prog) Tryz.f266 A266 = true := by kernel_rfl
noncomputable def A267 : AFunc := ⟨1, (.seq (.region [.op 0 (.box 1 true (.tmp 0)),
 .op 1 (.alloc 2 true [.int .i64 0, .int .i64 0, .int .i64 0, .int .i64 0, .int .i64 0, .int .i64 0, .int .i64 0, .str [], .str [], .bool false, .int .u32 0, .nilSlice, .nilSlice]),
 .op 2 (.mov 3 (.const (.int .i64 0)))] [])
 (.seq (.region [.op 0 (.faddr 9 2 (.tmp 1)),
 .op 1 (.load 10 false 1 (.tmp 9)),
 .op 2 (.call 11 270 [.tmp 10]),
 .op 3 (.mov 8 (.tmp 11)),
 .op 4 (.extract 12 (.tmp 8) 0),
 .op 5 (.extract 13 (.tmp 8) 1),
 .op 6 (.mov 4 (.tmp 12)),
 .op 7 (.mov 5 (.tmp 13))] [])
 (.seq (.seq (.region [.op 0 (.mov 14 (.tmp 5)),
 .op 1 (.bin 15 .neq .plain (.tmp 14) (.const (.int .i64 0)))] [])
 (.cond (.tmp 15)
 (.seq (.region [.op 0 (.build 16 [.int .i64 0, .int .i64 0, .int .i64 0, .int .i64 0, .int .i64 0, .int .i64 0, .int .i64 0, .str [], .str [], .bool false, .int .u32 0, .nilSlice, .nilSlice] []),
 .op 1 (.mov 17 (.tmp 5)),
 .op 2 (.store true 13 (.tmp 2) (.tmp 16)),
 .op 3 (.mov 3 (.tmp 17))] [])
 .ret)
 .skip))
 (.seq (.region [.op 0 (.mov 19 (.tmp 4)),
 .op 1 (.call 20 271 [.tmp 19]),
 .op 2 (.mov 18 (.tmp 20)),
 .op 3 (.extract 21 (.tmp 18) 0),
 .op 4 (.extract 22 (.tmp 18) 1),
 .op 5 (.alloc 6 true [.int .i64 0, .int .i64 0, .int .i64 0, .int .i64 0, .int .i64 0, .int .i64 0, .int .i64 0, .str [], .str [], .bool false, .int .u32 0, .nilSlice, .nilSlice]),
 .op 6 (.store true 13 (.tmp 6) (.tmp 21)),
 .op 7 (.mov 7 (.tmp 22))] [])
 (.seq (.region [.op 0 (.load 23 true 13 (.tmp 6)),
 .op 1 (.mov 24 (.tmp 7)),
 .op 2 (.call 25 272 [.tmp 24]),
 .op 3 (.store true 13 (.tmp 2) (.tmp 23)),
 .op 4 (.mov 3 (.tmp 25))] [(0, 2)])
 .ret))))),
 [.cell 2 true 13, .tmp 3]⟩
theorem ok267 : funcOk Tryz.prog (drawOk Tryz.prog) Tryz.f267 A267 = true := by kernel_rfl
noncomputable def A268 : AFunc := ⟨1, (.seq (.region [.op 0 (.box 1 true (.tmp 0)),
 .op 1 (.mov 2 (.const (.nilSlice))),
 .op 2 (.mov 3 (.const (.nilIface)))] [])
 (.seq (.seq (.region [.op 0 (.load 6 true 13 (.tmp 1)),
 .op 1 (.call 7 50 [.tmp 6]),
 .op 2 (.mov 4 (.tmp 7))] [])
 (.seq (.region [.op 0 (.mov 8 (.tmp 4)),
 .op 1 (.bin 9 .neq (.iface true []) (.tmp 8) (.const (.nilIface)))] [])
 (.cond (.tmp 9)
 (.seq (.region [.op 0 (.mov 10 (.tmp 4)),
 .op 1 (.call 11 273 [.const (.str [119, 114, 105, 116, 101]), .tmp 10]),
 .op 2 (.mov 2 (.const (.nilSlice))),
 .op 3 (.mov 3 (.tmp 11))] [])
 .ret)
 .skip)))
 (.seq (.region [.op 0 (.faddr 12 0 (.tmp 1)),
 .op 1 (.load 13 false 1 (.tmp 12)),
 .op 2 (.call 14 215 [.const (.nilSlice), .tmp 13]),
 .op 3 (.mov 5 (.tmp 14))] [])
 (.seq (.seq (.region [.op 0 (.faddr 15 0 (.tmp 1)),
 .op 1 (.load 16 false 1 (.tmp 15))] [])
 (.block 0 (.seq (.region [.op 0 (.bin 18 .eql .plain (.tmp 16) (.const (.int .i64 1))),
 .op 1 (.mov 17 (.tmp 18))] [])
 (.join [(.normal, ⟨[5], []⟩)] (.cond (.tmp 17)
 (.seq (.region [.op 0 (.mov 19 (.tmp 5)),
 .op 1 (.faddr 20 4 (.tmp 1)),
 .op 2 (.load 21 false 1 (.tmp 20)),
 .op 3 (.call 22 217 [.tmp 19, .tmp 21]),
 .op 4 (.faddr 23 1 (.tmp 1)),
 .op 5 (.load 24 false 1 (.tmp 23)),
 .op 6 (.call 25 215 [.tmp 22, .tmp 24]),
 .op 7 (.faddr 26 7 (.tmp 1)),
 .op 8 (.load 27 true 2 (.tmp 26)),
 .op 9 (.call 28 274 [.tmp 25, .tmp 27]),
 .op 10 (.mov 5 (.tmp 28))] [(5, 3), (8, 3), (8, 6)])
 (.region [.op 0 (.mov 29 (.tmp 5)),
 .op 1 (.faddr 30 5 (.tmp 1)),
 .op 2 (.load 31 false 1 (.tmp 30)),
 .op 3 (.call 32 217 [.tmp 29, .tmp 31]),
 .op 4 (.faddr 33 2 (.tmp 1)),
 .op 5 (.load 34 false 1 (.tmp 33)),
 .op 6 (.call 35 215 [.tmp 32, .tmp 34]),
 .op 7 (.faddr 36 6 (.tmp 1)),
 .op 8 (.load 37 false 1 (.tmp 36)),
 .op 9 (.call 38 217 [.tmp 35, .tmp 37]),
 .op 10 (.mov 5 (.tmp 38))] [(5, 3), (8, 3), (8, 6)]))
 (.seq (.region [.op 0 (.bin 40 .eql .plain (.tmp 16) (.const (.int .i64 2))),
 .op 1 (.mov 39 (.tmp 40))] [])
 (.join [(.normal, ⟨[5], []⟩)] (.cond (.tmp 39)
 (.seq (.region [.op 0 (.mov 41 (.tmp 5)),
 .op 1 (.faddr 42 4 (.tmp 1)),
 .op 2 (.load 43 false 1 (.tmp 42)),
 .op 3 (.call 44 217 [.tmp 41, .tmp 43]),
 .op 4 (.faddr 45 1 (.tmp 1)),
 .op 5 (.load 46 false 1 (.tmp 45)),
 .op 6 (.call 47 215 [.tmp 44, .tmp 46]),
 .op 7 (.faddr 48 7 (.tmp 1)),
 .op 8 (.load 49 true 2 (.tmp 48)),
 .op 9 (.call 50 274 [.tmp 47, .tmp 49]),
 .op 10 (.mov 5 (.tmp 50))] [(5, 3), (8, 3), (8, 6)])
 (.seq (.region [.op 0 (.mov 51 (.tmp 5)),
 .op 1 (.faddr 52 3 (.tmp 1)),
 .op 2 (.load 53 false 1 (.tmp 52)),
 .op 3 (.call 54 215 [.tmp 51, .tmp 53]),
 .op 4 (.faddr 55 9 (.tmp 1)),
 .op 5 (.load 56 false 1 (.tmp 55)),
 .op 6 (.call 57 275 [.tmp 56]),
 .op 7 (.call 58 215 [.tmp 54, .tmp 57]),
 .op 8 (.mov 5 (.tmp 58))] [(5, 3)])
 (.region [.op 0 (.mov 59 (.tmp 5)),
 .op 1 (.faddr 60 6 (.tmp 1)),
 .op 2 (.load 61 false 1 (.tmp 60)),
 .op 3 (.call 62 217 [.tmp 59, .tmp 61]),
 .op 4 (.faddr 63 10 (.tmp 1)),
 .op 5 (.load 64 false 1 (.tmp 63)),
 .op 6 (.conv 65 (.toInt .i64) (.tmp 64)),
 .op 7 (.call 66 217 [.tmp 62, .tmp 65]),
 .op 8 (.faddr 67 11 (.tmp 1)),
 .op 9 (.load 68 false 1 (.tmp 67)),
 .op 10 (.call 69 276 [.tmp 66, .tmp 68]),
 .op 11 (.mov 5 (.tmp 69))] [(5, 3), (9, 3), (9, 7)])))
 (.seq (.seq (.region [.op 0 (.bin 71 .eql .plain (.tmp 16) (.const (.int .i64 3))),
 .op 1 (.mov 70 (.tmp 71))] [])
 (.join [(.normal, ⟨[5, 16, 70], [1]⟩)] (.cond (.tmp 70)
 .skip
 (.region [.op 0 (.bin 72 .eql .plain (.tmp 16) (.const (.int .i64 4))),
 .op 1 (.mov 70 (.tmp 72))] []))))
 (.join [(.normal, ⟨[5], []⟩)] (.cond (.tmp 70)
 (.region [.op 0 (.mov 73 (.tmp 5)),
 .op 1 (.faddr 74 11 (.tmp 1)),
 .op 2 (.load 75 false 1 (.tmp 74)),
 .op 3 (.call 76 276 [.tmp 73, .tmp 75]),
 .op 4 (.mov 5 (.tmp 76))] [])
 (.seq (.region [.op 0 (.bin 78 .eql .plain (.tmp 16) (.const (.int .i64 5))),
 .op 1 (.mov 77 (.tmp 78))] [])
 (.join [(.normal, ⟨[5], []⟩)] (.cond (.tmp 77)
 (.region [.op 0 (.mov 79 (.tmp 5)),
 .op 1 (.faddr 80 12 (.tmp 1)),
 .op 2 (.load 81 false 1 (.tmp 80)),
 .op 3 (.call 82 277 [.tmp 79, .tmp 81]),
 .op 4 (.mov 5 (.tmp 82))] [])
 .skip))))))))))))))
 (.seq (.region [.op 0 (.mov 83 (.tmp 5)),
 .op 1 (.call 84 229 [.tmp 83]),
 .op 2 (.mov 2 (.tmp 84)),
 .op 3 (.mov 3 (.const (.nilIface)))] [])
 .ret))))),
 [.tmp 2, .tmp 3]⟩
theorem ok268 : funcOk Tryz.prog (drawOk Tryz.prog) Tryz.f268 A268 = true := by kernel_rfl
noncomputable def A269 : AFunc := ⟨1, (.seq (.region [.op 0 (.mov 2 (.const (.nilSlice))),
 .op 1 (.mov 3 (.const (.int .i64 0)))] [])
 (.seq (.seq (.region [.op 0 (.mov 5 (.tmp 0)),
 .op 1 (.len 6 false (.tmp 5)),
 .op 2 (.bin 7 .gtr .plain (.tmp 6) (.const (.int .i64 8192)))] [])
 (.cond (.tmp 7)
 (.seq (.region [.op 0 (.mov 2 (.const (.nilSlice))),
 .op 1 (.mov 3 (.const (.int .i64 3)))] [])
 .ret)
 .skip))
 (.seq (.region [.op 0 (.mov 8 (.tmp 0)),
 .op 1 (.len 9 false (.tmp 8)),
 .op 2 (.conv 10 (.toInt .u32) (.tmp 9)),
 .op 3 (.call 11 278 [.const (.nilSlice), .tmp 10]),
 .op 4 (.mov 12 (.tmp 0)),
 .op 5 (.append 13 1 1 [.int .u8 0] false (.tmp 11) (.tmp 12)),
 .op 6 (.mov 4 (.tmp 13))] [])
 (.seq (.region [.op 0 (.mov 14 (.tmp 4)),
 .op 1 (.mov 15 (.tmp 4)),
 .op 2 (.call 16 201 [.tmp 15]),
 .op 3 (.call 17 278 [.tmp 14, .tmp 16]),
 .op 4 (.call 18 229 [.tmp 17]),
 .op 5 (.mov 2 (.tmp 18)),
 .op 6 (.mov 3 (.const (.int .i64 0)))] [])
 .ret)))),
 [.tmp 2, .tmp 3]⟩
theorem ok269 : funcOk Tryz.prog (drawOk Tryz.prog) Tryz.f269 A269 = true := by kernel_rfl
noncomputable def A270 : AFunc := ⟨1, (.seq (.region [.op 0 (.mov 2 (.const (.nilSlice))),
 .op 1 (.mov 3 (.const (.int .i64 0)))] [])
 (.seq (.seq (.region [.op 0 (.mov 5 (.tmp 0)),
 .op 1 (.len 6 false (.tmp 5)),
 .op 2 (.bin 7 .lss .plain (.tmp 6) (.const (.int .i64 4)))] [])
 (.cond (.tmp 7)
 (.seq (.region [.op 0 (.mov 2 (.const (.nilSlice))),
 .op 1 (.mov 3 (.const (.int .i64 12)))] [])
 .ret)
 .skip))
 (.seq (.region [.op 0 (.mov 8 (.tmp 0)),
 .op 1 (.call 9 279 [.tmp 8]),
 .op 2 (.mov 4 (.tmp 9))] [])
 (.seq (.block 0 (.seq (.region [.op 0 (.mov 11 (.tmp 4)),
 .op 1 (.bin 12 .gtr .plain (.tmp 11) (.const (.int .u32 8192))),
 .op 2 (.mov 10 (.tmp 12))] [])
 (.cond (.tmp 10)
 (.seq (.region [.op 0 (.mov 2 (.const (.nilSlice))),
 .op 1 (.mov 3 (.const (.int .i64 3)))] [])
 .ret)
 (.seq (.region [.op 0 (.mov 14 (.tmp 0)),
 .op 1 (.len 15 false (.tmp 14)),
 .op 2 (.mov 16 (.tmp 4)),
 .op 3 (.conv 17 (.toInt .i64) (.tmp 16)),
 .op 4 (.bin 18 .add .plain (.tmp 17) (.const (.int .i64 8))),
 .op 5 (.bin 19 .neq .plain (.tmp 15) (.tmp 18)),
 .op 6 (.mov 13 (.tmp 19))] [])
 (.cond (.tmp 13)
 (.seq (.region [.op 0 (.mov 2 (.const (.nilSlice))),
 .op 1 (.mov 3 (.const (.int .i64 12)))] [])
 .ret)
 (.seq (.region [.op 0 (.mov 21 (.tmp 0)),
 .op 1 (.mov 22 (.tmp 0)),
 .op 2 (.len 23 false (.tmp 22)),
 .op 3 (.bin 24 .sub .plain (.tmp 23) (.const (.int .i64 4))),
 .op 4 (.slice 25 (.sl 1) (.tmp 21) none (some (.tmp 24)) none),
 .op 5 (.call 26 201 [.tmp 25]),
 .op 6 (.mov 27 (.tmp 0)),
 .op 7 (.mov 28 (.tmp 0)),
 .op 8 (.len 29 false (.tmp 28)),
 .op 9 (.bin 30 .sub .plain (.tmp 29) (.const (.int .i64 4))),
 .op 10 (.slice 31 (.sl 1) (.tmp 27) (some (.tmp 30)) none none),
 .op 11 (.call 32 279 [.tmp 31]),
 .op 12 (.bin 33 .neq .plain (.tmp 26) (.tmp 32)),
 .op 13 (.mov 20 (.tmp 33))] [])
 (.cond (.tmp 20)
 (.seq (.region [.op 0 (.mov 2 (.const (.nilSlice))),
 .op 1 (.mov 3 (.const (.int .i64 13)))] [])
 .ret)
 .skip)))))))
 (.seq (.region [.op 0 (.mov 34 (.tmp 0)),
 .op 1 (.mov 35 (.tmp 0)),
 .op 2 (.len 36 false (.tmp 35)),
 .op 3 (.bin 37 .sub .plain (.tmp 36) (.const (.int .i64 4))),
 .op 4 (.slice 38 (.sl 1) (.tmp 34) (some (.const (.int .i64 4))) (some (.tmp 37)) none),
 .op 5 (.call 39 166 [.tmp 38]),
 .op 6 (.mov 2 (.tmp 39)),
 .op 7 (.mov 3 (.const (.int .i64 0)))] [])
 .ret))))),
 [.tmp 2, .tmp 3]⟩
theorem ok270 : funcOk Tryz.prog (drawOk Tryz.prog) Tryz.f270 A270 = true := by kernel_rfl
noncomputable def A271 : AFunc := ⟨1, (.seq (.region [.op 0 (.alloc 2 true [.int .i64 0, .int .i64 0, .int .i64 0, .int .i64 0, .int .i64 0, .int .i64 0, .int .i64 0, .str [], .str [], .bool false, .int .u32 0, .nilSlice, .nilSlice]),
 .op 1 (.mov 3 (.const (.nilIface)))] [])
 (.seq (.region [.op 0 (.mov 7 (.tmp 0)),
 .op 1 (.call 8 280 [.tmp 7]),
 .op 2 (.build 9 [.nilPtr, .bool false] [(0, 1, .tmp 8)]),
 .op 3 (.box 10 false (.tmp 9)),
 .op 4 (.mov 4 (.tmp 10))] [])
 (.seq (.region [.op 0 (.mov 11 (.tmp 4)),
 .op 1 (.call 12 281 [.tmp 11]),
 .op 2 (.alloc 5 true [.int .i64 0, .int .i64 0, .int .i64 0, .int .i64 0, .int .i64 0, .int .i64 0, .int .i64 0, .str [], .str [], .bool false, .int .u32 0, .nilSlice, .nilSlice]),
 .op 3 (.store true 13 (.tmp 5) (.tmp 12))] [])
 (.seq (.seq (.region [.op 0 (.mov 13 (.tmp 4)),
 .op 1 (.nilchk 14 (.tmp 13)),
 .op 2 (.faddr 15 0 (.tmp 14)),
 .op 3 (.load 16 false 1 (.tmp 15)),
 .op 4 (.call 17 282 [.tmp 16]),
 .op 5 (.un 18 .not (.tmp 17)),
 .op 6 (.mov 19 (.tmp 18)),
 .guard 19 false [.op 7 (.mov 20 (.tmp 4)),
 .op 8 (.nilchk 21 (.tmp 20)),
 .op 9 (.faddr 22 1 (.tmp 21)),
 .op 10 (.load 23 false 1 (.tmp 22))] [] [23],
 .op 11 (.pick 24 (.tmp 19) (.const (.bool true)) (.tmp 23))] [])
 (.cond (.tmp 24)
 (.seq (.region [.op 0 (.build 25 [.int .i64 0, .int .i64 0, .int .i64 0, .int .i64 0, .int .i64 0, .int .i64 0, .int .i64 0, .str [], .str [], .bool false, .int .u32 0, .nilSlice, .nilSlice] []),
 .op 1 (.call 26 72 [.const (.str [98, 121, 116, 101, 115]), .const (.int .i64 12)]),
 .op 2 (.call 27 273 [.const (.str [114, 101, 97, 100]), .tmp 26]),
 .op 3 (.store true 13 (.tmp 2) (.tmp 25)),
 .op 4 (.mov 3 (.tmp 27))] [])
 .ret)
 .skip))
 (.seq (.seq (.region [.op 0 (.load 28 true 13 (.tmp 5)),
 .op 1 (.call 29 50 [.tmp 28]),
 .op 2 (.mov 6 (.tmp 29))] [])
 (.seq (.region [.op 0 (.mov 30 (.tmp 6)),
 .op 1 (.bin 31 .neq (.iface true []) (.tmp 30) (.const (.nilIface)))] [])
 (.cond (.tmp 31)
 (.seq (.region [.op 0 (.build 32 [.int .i64 0, .int .i64 0, .int .i64 0, .int .i64 0, .int .i64 0, .int .i64 0, .int .i64 0, .str [], .str [], .bool false, .int .u32 0, .nilSlice, .nilSlice] []),
 .op 1 (.mov 33 (.tmp 6)),
 .op 2 (.call 34 273 [.const (.str [114, 101, 97, 100]), .tmp 33]),
 .op 3 (.store true 13 (.tmp 2) (.tmp 32)),
 .op 4 (.mov 3 (.tmp 34))] [])
 .ret)
 .skip)))
 (.seq (.region [.op 0 (.load 35 true 13 (.tmp 5)),
 .op 1 (.store true 13 (.tmp 2) (.tmp 35)),
 .op 2 (.mov 3 (.const (.nilIface)))] [])
 .ret)))))),
 [.cell 2 true 13, .tmp 3]⟩
theorem ok271 : funcOk Tryz.prog (drawOk Tryz.prog) Tryz.f271 A271 = true := by kernel_rfl
noncomputable def A272 : AFunc := ⟨1, (.seq (.region [.op 0 (.mov 2 (.const (.int .i64 0)))] [])
 (.seq (.seq (.region [.op 0 (.mov 4 (.tmp 0)),
 .op 1 (.bin 5 .eql (.iface true []) (.tmp 4) (.const (.nilIface)))] [])
 (.cond (.tmp 5)
 (.seq (.region [.op 0 (.mov 2 (.const (.int .i64 0)))] [])
 .ret)
 .skip))
 (.seq (.region [.op 0 (.alloc 3 false [.int .i64 0])] [])
 (.seq (.seq (.region [.op 0 (.mov 6 (.tmp 0)),
 .op 1 (.mkIface 7 344 (.tmp 3)),
 .op 2 (.call 8 283 [.tmp 6, .tmp 7])] [])
 (.cond (.tmp 8)
 (.seq (.region [.op 0 (.load 9 false 1 (.tmp 3)),
 .op 1 (.mov 2 (.tmp 9))] [])
 .ret)
 .skip))
 (.seq (.region [.op 0 (.mov 2 (.const (.int .i64 14)))] [])
 .ret))))),
 [.tmp 2]⟩
theorem ok272 : funcOk Tryz.prog (drawOk Tryz.prog) Tryz.f272 A272 = true := by kernel_rfl
noncomputable def A274 : AFunc := ⟨2, (.seq (.region [.op 0 (.box 3 true (.tmp 1)),
 .op 1 (.mov 4 (.const (.nilSlice)))] [])
 (.seq (.region [.op 0 (.mov 5 (.tmp 0)),
 .op 1 (.faddr 6 0 (.tmp 3)),
 .op 2 (.load 7 false 1 (.tmp 6)),
 .op 3 (.call 8 216 [.tmp 5, .tmp 7]),
 .op 4 (.faddr 9 1 (.tmp 3)),
 .op 5 (.load 10 false 1 (.tmp 9)),
 .op 6 (.call 11 216 [.tmp 8, .tmp 10]),
 .op 7 (.mov 4 (.tmp 11))] [(5, 3)])
 .ret)),
 [.tmp 4]⟩
theorem ok274 : funcOk Tryz.prog (drawOk Tryz.prog) Tryz.f274 A274 = true := by kernel_rfl
noncomputable def A275 : AFunc := ⟨1, (.seq (.region [.op 0 (.mov 2 (.const (.int .i64 0)))] [])
 (.seq (.seq (.region [.op 0 (.mov 3 (.tmp 0))] [])
 (.cond (.tmp 3)
 (.seq (.region [.op 0 (.mov 2 (.const (.int .i64 1)))] [])
 .ret)
 .skip))
 (.seq (.region [.op 0 (.mov 2 (.const (.int .i64 0)))] [])
 .ret))),
 [.tmp 2]⟩
theorem ok275 : funcOk Tryz.prog (drawOk Tryz.prog) Tryz.f275 A275 = true := by kernel_rfl
noncomputable def A276 : AFunc := ⟨2, (.seq (.region [.op 0 (.mov 4 (.const (.nilSlice)))] [])
 (.seq (.region [.op 0 (.mov 7 (.tmp 0)),
 .op 1 (.mov 8 (.tmp 1)),
 .op 2 (.len 9 false (.tmp 8)),
 .op 3 (.call 10 215 [.tmp 7, .tmp 9]),
 .op 4 (.mov 0 (.tmp 10))] [])
 (.seq (.seq (.region [.op 0 (.mov 11 (.tmp 1)),
 .op 1 (.len 12 false (.tmp 11)),
 .op 2 (.mov 13 (.const (.int .i64 0)))] [])
 (.block 0 (.loop ⟨[0, 11, 12, 13], []⟩ [((.exit 0), ⟨[0], []⟩)]
 (.seq (.region [.op 0 (.bin 14 .lss .plain (.tmp 13) (.tmp 12))] [])
 (.seq (.cond (.tmp 14)
 .skip
 (.exit 0))
 (.seq (.block 1 (.seq (.region [.op 0 (.iaddr 15 none 9 (.tmp 11) (.tmp 13)),
 .op 1 (.load 16 true 9 (.tmp 15)),
 .op 2 (.alloc 6 true [.str [], .str [], .int .i64 0, .int .i64 0, .int .i64 0, .int .i64 0, .int .i64 0, .int .i64 0, .bool false]),
 .op 3 (.store true 9 (.tmp 6) (.tmp 16))] [])
 (.seq (.region [.op 0 (.mov 17 (.tmp 0)),
 .op 1 (.faddr 18 0 (.tmp 6)),
 .op 2 (.load 19 true 2 (.tmp 18)),
 .op 3 (.call 20 274 [.tmp 17, .tmp 19]),
 .op 4 (.faddr 21 2 (.tmp 6)),
 .op 5 (.load 22 false 1 (.tmp 21)),
 .op 6 (.call 23 215 [.tmp 20, .tmp 22]),
 .op 7 (.faddr 24 3 (.tmp 6)),
 .op 8 (.load 25 false 1 (.tmp 24)),
 .op 9 (.call 26 215 [.tmp 23, .tmp 25]),
 .op 10 (.mov 0 (.tmp 26))] [(5, 3), (8, 3), (8, 6)])
 (.seq (.region [.op 0 (.mov 27 (.tmp 0)),
 .op 1 (.faddr 28 4 (.tmp 6)),
 .op 2 (.load 29 false 1 (.tmp 28)),
 .op 3 (.call 30 217 [.tmp 27, .tmp 29]),
 .op 4 (.faddr 31 5 (.tmp 6)),
 .op 5 (.faddr 32 0 (.tmp 31)),
 .op 6 (.load 33 false 1 (.tmp 32)),
 .op 7 (.call 34 217 [.tmp 30, .tmp 33]),
 .op 8 (.faddr 35 5 (.tmp 6)),
 .op 9 (.faddr 36 1 (.tmp 35)),
 .op 10 (.load 37 false 1 (.tmp 36)),
 .op 11 (.call 38 215 [.tmp 34, .tmp 37]),
 .op 12 (.mov 0 (.tmp 38))] [(6, 3), (10, 3), (10, 7)])
 (.region [.op 0 (.mov 39 (.tmp 0)),
 .op 1 (.faddr 40 5 (.tmp 6)),
 .op 2 (.faddr 41 2 (.tmp 40)),
 .op 3 (.load 42 false 1 (.tmp 41)),
 .op 4 (.call 43 217 [.tmp 39, .tmp 42]),
 .op 5 (.faddr 44 8 (.tmp 6)),
 .op 6 (.load 45 false 1 (.tmp 44)),
 .op 7 (.call 46 275 [.tmp 45]),
 .op 8 (.call 47 215 [.tmp 43, .tmp 46]),
 .op 9 (.mov 0 (.tmp 47))] [(6, 4)])))))
 (.region [.op 0 (.bin 48 .add .plain (.tmp 13) (.const (.int .i64 1))),
 .op 1 (.mov 13 (.tmp 48))] [])))))))
 (.seq (.region [.op 0 (.mov 49 (.tmp 0)),
 .op 1 (.mov 4 (.tmp 49))] [])
 .ret)))),
 [.tmp 4]⟩
theorem ok276 : funcOk Tryz.prog (drawOk Tryz.prog) Tryz.f276 A276 = true := by kernel_rfl
noncomputable def A278 : AFunc := ⟨2, (.seq (.region [.op 0 (.mov 4 (.const (.nilSlice)))] [])
 (.seq (.seq (.region [.op 0 (.mov 5 (.const (.int .i64 3)))] [])
 (.block 0 (.loop ⟨[0, 1, 5], []⟩ [((.exit 0), ⟨[0], []⟩)]
 (.seq (.seq (.region [.op 0 (.mov 6 (.tmp 5)),
 .op 1 (.bin 7 .geq .plain (.tmp 6) (.const (.int .i64 0)))] [])
 (.cond (.tmp 7)
 .skip
 (.exit 0)))
 (.seq (.block 1 (.region [.op 0 (.mov 10 (.tmp 0)),
 .op 1 (.mov 11 (.tmp 1)),
 .op 2 (.mov 12 (.tmp 5)),
 .op 3 (.bin 13 .mul .plain (.const (.int .i64 8)) (.tmp 12)),
 .op 4 (.bin 14 .shr .plain (.tmp 11) (.tmp 13)),
 .op 5 (.conv 15 (.toInt .u8) (.tmp 14)),
 .op 6 (.buildSl 16 [.int .u8 0] 1 1 [(0, .tmp 15)]),
 .op 7 (.append 17 1 1 [.int .u8 0] false (.tmp 10) (.tmp 16)),
 .op 8 (.mov 0 (.tmp 17))] []))
 (.region [.op 0 (.mov 8 (.tmp 5)),
 .op 1 (.bin 9 .sub .plain (.tmp 8) (.const (.int .i64 1))),
 .op 2 (.mov 5 (.tmp 9))] []))))))
 (.seq (.region [.op 0 (.mov 18 (.tmp 0)),
 .op 1 (.mov 4 (.tmp 18))] [])
 .ret))),
 [.tmp 4]⟩
theorem ok278 : funcOk Tryz.prog (drawOk Tryz.prog) Tryz.f278 A278 = true := by kernel_rfl
noncomputable def A279 : AFunc := ⟨1, (.seq (.region [.op 0 (.mov 2 (.const (.int .u32 0)))] [])
 (.seq (.region [.op 0 (.mov 3 (.const (.int .u32 0)))] [])
 (.seq (.seq (.region [.op 0 (.mov 6 (.tmp 0)),
 .op 1 (.slice 7 (.sl 1) (.tmp 6) none (some (.const (.int .i64 4))) none),
 .op 2 (.len 8 false (.tmp 7)),
 .op 3 (.mov 9 (.const (.int .i64 0)))] [])
 (.block 0 (.loop ⟨[3, 7, 8, 9], []⟩ [((.exit 0), ⟨[3], []⟩)]
 (.seq (.region [.op 0 (.bin 10 .lss .plain (.tmp 9) (.tmp 8))] [])
 (.seq (.cond (.tmp 10)
 .skip
 (.exit 0))
 (.seq (.block 1 (.seq (.region [.op 0 (.iaddr 11 none 1 (.tmp 7) (.tmp 9)),
 .op 1 (.load 12 false 1 (.tmp 11)),
 .op 2 (.mov 5 (.tmp 12))] [])
 (.region [.op 0 (.mov 13 (.tmp 3)),
 .op 1 (.bin 14 .shl .plain (.tmp 13) (.const (.int .u64 8))),
 .op 2 (.mov 15 (.tmp 5)),
 .op 3 (.conv 16 (.toInt .u32) (.tmp 15)),
 .op 4 (.bin 17 .or .plain (.tmp 14) (.tmp 16)),
 .op 5 (.mov 3 (.tmp 17))] [])))
 (.region [.op 0 (.bin 18 .add .plain (.tmp 9) (.const (.int .i64 1))),
 .op 1 (.mov 9 (.tmp 18))] [])))))))
 (.seq (.region [.op 0 (.mov 19 (.tmp 3)),
 .op 1 (.mov 2 (.tmp 19))] [])
 .ret)))),
 [.tmp 2]⟩
theorem ok279 : funcOk Tryz.prog (drawOk Tryz.prog) Tryz.f279 A279 = true := by kernel_rfl
noncomputable def A280 : AFunc := ⟨1, (.seq (.region [.op 0 (.mov 2 (.const (.nilPtr)))] [])
 (.seq (.region [.op 0 (.mov 3 (.tmp 0)),
 .op 1 (.call 4 166 [.tmp 3]),
 .op 2 (.build 5 [.nilSlice, .bool false] [(0, 1, .tmp 4)]),
 .op 3 (.box 6 false (.tmp 5)),
 .op 4 (.mov 2 (.tmp 6))] [])
 .ret)),
 [.tmp 2]⟩
theorem ok280 : funcOk Tryz.prog (drawOk Tryz.prog) Tryz.f280 A280 = true := by kernel_rfl
noncomputable def A281 : AFunc := ⟨1, (.seq (.region [.op 0 (.alloc 2 true [.int .i64 0, .int .i64 0, .int .i64 0, .int .i64 0, .int .i64 0, .int .i64 0, .int .i64 0, .str [], .str [], .bool false, .int .u32 0, .nilSlice, .nilSlice])] [])
 (.seq (.region [.op 0 (.mov 4 (.tmp 0)),
 .op 1 (.nilchk 5 (.tmp 4)),
 .op 2 (.faddr 6 0 (.tmp 5)),
 .op 3 (.load 7 false 1 (.tmp 6)),
 .op 4 (.call 8 284 [.tmp 7]),
 .op 5 (.build 9 [.int .i64 0, .int .i64 0, .int .i64 0, .int .i64 0, .int .i64 0, .int .i64 0, .int .i64 0, .str [], .str [], .bool false, .int .u32 0, .nilSlice, .nilSlice] [(0, 1, .tmp 8)]),
 .op 6 (.alloc 3 true [.int .i64 0, .int .i64 0, .int .i64 0, .int .i64 0, .int .i64 0, .int .i64 0, .int .i64 0, .str [], .str [], .bool false, .int .u32 0, .nilSlice, .nilSlice]),
 .op 7 (.store true 13 (.tmp 3) (.tmp 9))] [])
 (.seq (.seq (.region [.op 0 (.faddr 10 0 (.tmp 3)),
 .op 1 (.load 11 false 1 (.tmp 10))] [])
 (.block 0 (.seq (.region [.op 0 (.bin 13 .eql .plain (.tmp 11) (.const (.int .i64 1))),
 .op 1 (.mov 12 (.tmp 13))] [])
 (.join [(.normal, ⟨[], [2, 3]⟩)] (.cond (.tmp 12)
 (.seq (.region [.op 0 (.mov 14 (.tmp 0)),
 .op 1 (.nilchk 15 (.tmp 14)),
 .op 2 (.faddr 16 0 (.tmp 15)),
 .op 3 (.load 17 false 1 (.tmp 16)),
 .op 4 (.call 18 285 [.tmp 17]),
 .op 5 (.mov 19 (.tmp 0)),
 .op 6 (.nilchk 20 (.tmp 19)),
 .op 7 (.faddr 21 0 (.tmp 20)),
 .op 8 (.load 22 false 1 (.tmp 21)),
 .op 9 (.call 23 284 [.tmp 22]),
 .op 10 (.faddr 24 4 (.tmp 3)),
 .op 11 (.store false 1 (.tmp 24) (.tmp 18)),
 .op 12 (.faddr 25 1 (.tmp 3)),
 .op 13 (.store false 1 (.tmp 25) (.tmp 23))] [(8, 4)])
 (.seq (.region [.op 0 (.mov 26 (.tmp 0)),
 .op 1 (.call 27 286 [.tmp 26]),
 .op 2 (.faddr 28 7 (.tmp 3)),
 .op 3 (.store true 2 (.tmp 28) (.tmp 27))] [])
 (.region [.op 0 (.mov 29 (.tmp 0)),
 .op 1 (.nilchk 30 (.tmp 29)),
 .op 2 (.faddr 31 0 (.tmp 30)),
 .op 3 (.load 32 false 1 (.tmp 31)),
 .op 4 (.call 33 285 [.tmp 32]),
 .op 5 (.mov 34 (.tmp 0)),
 .op 6 (.nilchk 35 (.tmp 34)),
 .op 7 (.faddr 36 0 (.tmp 35)),
 .op 8 (.load 37 false 1 (.tmp 36)),
 .op 9 (.call 38 284 [.tmp 37]),
 .op 10 (.mov 39 (.tmp 0)),
 .op 11 (.nilchk 40 (.tmp 39)),
 .op 12 (.faddr 41 0 (.tmp 40)),
 .op 13 (.load 42 false 1 (.tmp 41)),
 .op 14 (.call 43 285 [.tmp 42]),
 .op 15 (.faddr 44 5 (.tmp 3)),
 .op 16 (.store false 1 (.tmp 44) (.tmp 33)),
 .op 17 (.faddr 45 2 (.tmp 3)),
 .op 18 (.store false 1 (.tmp 45) (.tmp 38)),
 .op 19 (.faddr 46 6 (.tmp 3)),
 .op 20 (.store false 1 (.tmp 46) (.tmp 43))] [(8, 4), (13, 4), (13, 9)])))
 (.seq (.region [.op 0 (.bin 48 .eql .plain (.tmp 11) (.const (.int .i64 2))),
 .op 1 (.mov 47 (.tmp 48))] [])
 (.join [(.normal, ⟨[], [2, 3]⟩)] (.cond (.tmp 47)
 (.seq (.region [.op 0 (.mov 49 (.tmp 0)),
 .op 1 (.nilchk 50 (.tmp 49)),
 .op 2 (.faddr 51 0 (.tmp 50)),
 .op 3 (.load 52 false 1 (.tmp 51)),
 .op 4 (.call 53 285 [.tmp 52]),
 .op 5 (.mov 54 (.tmp 0)),
 .op 6 (.nilchk 55 (.tmp 54)),
 .op 7 (.faddr 56 0 (.tmp 55)),
 .op 8 (.load 57 false 1 (.tmp 56)),
 .op 9 (.call 58 284 [.tmp 57]),
 .op 10 (.faddr 59 4 (.tmp 3)),
 .op 11 (.store false 1 (.tmp 59) (.tmp 53)),
 .op 12 (.faddr 60 1 (.tmp 3)),
 .op 13 (.store false 1 (.tmp 60) (.tmp 58))] [(8, 4)])
 (.seq (.region [.op 0 (.mov 61 (.tmp 0)),
 .op 1 (.call 62 286 [.tmp 61]),
 .op 2 (.faddr 63 7 (.tmp 3)),
 .op 3 (.store true 2 (.tmp 63) (.tmp 62))] [])
 (.seq (.region [.op 0 (.mov 64 (.tmp 0)),
 .op 1 (.nilchk 65 (.tmp 64)),
 .op 2 (.faddr 66 0 (.tmp 65)),
 .op 3 (.load 67 false 1 (.tmp 66)),
 .op 4 (.call 68 284 [.tmp 67]),
 .op 5 (.mov 69 (.tmp 0)),
 .op 6 (.call 70 287 [.tmp 69]),
 .op 7 (.mov 71 (.tmp 0)),
 .op 8 (.nilchk 72 (.tmp 71)),
 .op 9 (.faddr 73 0 (.tmp 72)),
 .op 10 (.load 74 false 1 (.tmp 73)),
 .op 11 (.call 75 285 [.tmp 74]),
 .op 12 (.mov 76 (.tmp 0)),
 .op 13 (.call 77 288 [.tmp 76]),
 .op 14 (.faddr 78 3 (.tmp 3)),
 .op 15 (.store false 1 (.tmp 78) (.tmp 68)),
 .op 16 (.faddr 79 9 (.tmp 3)),
 .op 17 (.store false 1 (.tmp 79) (.tmp 70)),
 .op 18 (.faddr 80 6 (.tmp 3)),
 .op 19 (.store false 1 (.tmp 80) (.tmp 75)),
 .op 20 (.faddr 81 10 (.tmp 3)),
 .op 21 (.store false 1 (.tmp 81) (.tmp 77))] [(10, 4), (10, 6)])
 (.region [.op 0 (.mov 82 (.tmp 0)),
 .op 1 (.call 83 289 [.tmp 82]),
 .op 2 (.faddr 84 11 (.tmp 3)),
 .op 3 (.store false 1 (.tmp 84) (.tmp 83))] []))))
 (.seq (.seq (.region [.op 0 (.bin 86 .eql .plain (.tmp 11) (.const (.int .i64 3))),
 .op 1 (.mov 85 (.tmp 86))] [])
 (.join [(.normal, ⟨[0, 11, 85], [2, 3]⟩)] (.cond (.tmp 85)
 .skip
 (.region [.op 0 (.bin 87 .eql .plain (.tmp 11) (.const (.int .i64 4))),
 .op 1 (.mov 85 (.tmp 87))] []))))
 (.join [(.normal, ⟨[], [2, 3]⟩)] (.cond (.tmp 85)
 (.region [.op 0 (.mov 88 (.tmp 0)),
 .op 1 (.call 89 289 [.tmp 88]),
 .op 2 (.faddr 90 11 (.tmp 3)),
 .op 3 (.store false 1 (.tmp 90) (.tmp 89))] [])
 (.seq (.region [.op 0 (.bin 92 .eql .plain (.tmp 11) (.const (.int .i64 5))),
 .op 1 (.mov 91 (.tmp 92))] [])
 (.join [(.normal, ⟨[], [2, 3]⟩)] (.cond (.tmp 91)
 (.region [.op 0 (.mov 93 (.tmp 0)),
 .op 1 (.call 94 290 [.tmp 93]),
 .op 2 (.faddr 95 12 (.tmp 3)),
 .op 3 (.store false 1 (.tmp 95) (.tmp 94))] [])
 .skip))))))))))))))
 (.seq (.region [.op 0 (.load 96 true 13 (.tmp 3)),
 .op 1 (.store true 13 (.tmp 2) (.tmp 96))] [])
 .ret)))),
 [.cell 2 true 13]⟩
theorem ok281 : funcOk Tryz.prog (drawOk Tryz.prog) Tryz.f281 A281 = true := by kernel_rfl
noncomputable def A282 : AFunc := ⟨1, (.seq (.region [.op 0 (.mov 2 (.const (.bool false)))] [])
 (.seq (.region [.op 0 (.mov 3 (.tmp 0)),
 .op 1 (.nilchk 4 (.tmp 3)),
 .op 2 (.faddr 5 1 (.tmp 4)),
 .op 3 (.load 6 false 1 (.tmp 5)),
 .op 4 (.un 7 .not (.tmp 6)),
 .op 5 (.mov 8 (.tmp 7)),
 .guard 8 true [.op 6 (.mov 9 (.tmp 0)),
 .op 7 (.nilchk 10 (.tmp 9)),
 .op 8 (.faddr 11 0 (.tmp 10)),
 .op 9 (.load 12 false 1 (.tmp 11)),
 .op 10 (.len 13 false (.tmp 12)),
 .op 11 (.bin 14 .eql .plain (.tmp 13) (.const (.int .i64 0)))] [] [14],
 .op 12 (.pick 15 (.tmp 8) (.tmp 14) (.const (.bool false))),
 .op 13 (.mov 2 (.tmp 15))] [])
 .ret)),
 [.tmp 2]⟩
theorem ok282 : funcOk Tryz.prog (drawOk Tryz.prog) Tryz.f282 A282 = true := by kernel_rfl
noncomputable def A284 : AFunc := ⟨1, (.seq (.region [.op 0 (.mov 2 (.const (.int .i64 0)))] [])
 (.seq (.seq (.region [.op 0 (.mov 5 (.tmp 0)),
 .op 1 (.call 6 295 [.tmp 5, .const (.int .i64 1)]),
 .op 2 (.len 7 false (.tmp 6)),
 .op 3 (.mov 8 (.const (.int .i64 0)))] [])
 (.block 0 (.loop ⟨[6, 7, 8], []⟩ [((.exit 0), ⟨[], []⟩), (.ret, ⟨[2], []⟩)]
 (.seq (.region [.op 0 (.bin 9 .lss .plain (.tmp 8) (.tmp 7))] [])
 (.seq (.cond (.tmp 9)
 .skip
 (.exit 0))
 (.seq (.block 1 (.seq (.region [.op 0 (.iaddr 10 none 1 (.tmp 6) (.tmp 8)),
 .op 1 (.load 11 false 1 (.tmp 10)),
 .op 2 (.mov 4 (.tmp 11))] [])
 (.seq (.region [.op 0 (.mov 12 (.tmp 4)),
 .op 1 (.conv 13 (.toInt .i64) (.tmp 12)),
 .op 2 (.mov 2 (.tmp 13))] [])
 .ret)))
 (.region [.op 0 (.bin 14 .add .plain (.tmp 8) (.const (.int .i64 1))),
 .op 1 (.mov 8 (.tmp 14))] [])))))))
 (.seq (.region [.op 0 (.mov 2 (.const (.int .i64 0)))] [])
 .ret))),
 [.tmp 2]⟩
theorem ok284 : funcOk Tryz.prog (drawOk Tryz.prog) Tryz.f284 A284 = true := by kernel_rfl
noncomputable def A285 : AFunc := ⟨1, (.seq (.region [.op 0 (.mov 2 (.const (.int .i64 0)))] [])
 (.seq (.region [.op 0 (.mov 3 (.const (.int .i64 0)))] [])
 (.seq (.seq (.region [.op 0 (.mov 6 (.tmp 0)),
 .op 1 (.call 7 295 [.tmp 6, .const (.int .i64 8)]),
 .op 2 (.len 8 false (.tmp 7)),
 .op 3 (.mov 9 (.const (.int .i64 0)))] [])
 (.block 0 (.loop ⟨[3, 7, 8, 9], []⟩ [((.exit 0), ⟨[3], []⟩)]
 (.seq (.region [.op 0 (.bin 10 .lss .plain (.tmp 9) (.tmp 8))] [])
 (.seq (.cond (.tmp 10)
 .skip
 (.exit 0))
 (.seq (.block 1 (.seq (.region [.op 0 (.iaddr 11 none 1 (.tmp 7) (.tmp 9)),
 .op 1 (.load 12 false 1 (.tmp 11)),
 .op 2 (.mov 5 (.tmp 12))] [])
 (.region [.op 0 (.mov 13 (.tmp 3)),
 .op 1 (.bin 14 .shl .plain (.tmp 13) (.const (.int .u64 8))),
 .op 2 (.mov 15 (.tmp 5)),
 .op 3 (.conv 16 (.toInt .i64) (.tmp 15)),
 .op 4 (.bin 17 .or .plain (.tmp 14) (.tmp 16)),
 .op 5 (.mov 3 (.tmp 17))] [])))
 (.region [.op 0 (.bin 18 .add .plain (.tmp 9) (.const (.int .i64 1))),
 .op 1 (.mov 9 (.tmp 18))] [])))))))
 (.seq (.region [.op 0 (.mov 19 (.tmp 3)),
 .op 1 (.mov 2 (.tmp 19))] [])
 .ret)))),
 [.tmp 2]⟩
theorem ok285 : funcOk Tryz.prog (drawOk Tryz.prog) Tryz.f285 A285 = true := by kernel_rfl
noncomputable def A286 : AFunc := ⟨1, (.seq (.region [.op 0 (.alloc 2 true [.str [], .str []])] [])
 (.seq (.region [.op 0 (.mov 4 (.tmp 0)),
 .op 1 (.nilchk 5 (.tmp 4)),
 .op 2 (.faddr 6 0 (.tmp 5)),
 .op 3 (.load 7 false 1 (.tmp 6)),
 .op 4 (.call 8 296 [.tmp 7]),
 .op 5 (.mov 3 (.tmp 8))] [])
 (.seq (.region [.op 0 (.mov 9 (.tmp 3)),
 .op 1 (.mov 10 (.tmp 0)),
 .op 2 (.nilchk 11 (.tmp 10)),
 .op 3 (.faddr 12 0 (.tmp 11)),
 .op 4 (.load 13 false 1 (.tmp 12)),
 .op 5 (.call 14 296 [.tmp 13]),
 .op 6 (.build 15 [.str [], .str []] [(0, 1, .tmp 9), (1, 1, .tmp 14)]),
 .op 7 (.store true 2 (.tmp 2) (.tmp 15))] [])
 .ret))),
 [.cell 2 true 2]⟩
theorem ok286 : funcOk Tryz.prog (drawOk Tryz.prog) Tryz.f286 A286 = true := by kernel_rfl
noncomputable def A287 : AFunc := ⟨1, (.seq (.region [.op 0 (.mov 2 (.const (.bool false)))] [])
 (.seq (.region [.op 0 (.mov 4 (.tmp 0)),
 .op 1 (.nilchk 5 (.tmp 4)),
 .op 2 (.faddr 6 0 (.tmp 5)),
 .op 3 (.load 7 false 1 (.tmp 6)),
 .op 4 (.call 8 284 [.tmp 7]),
 .op 5 (.mov 3 (.tmp 8))] [])
 (.seq (.region [.op 0 (.mov 9 (.tmp 0)),
 .op 1 (.mov 10 (.tmp 0)),
 .op 2 (.nilchk 11 (.tmp 10)),
 .op 3 (.faddr 12 1 (.tmp 11)),
 .op 4 (.load 13 false 1 (.tmp 12)),
 .op 5 (.mov 14 (.tmp 13)),
 .guard 14 false [.op 6 (.mov 15 (.tmp 3)),
 .op 7 (.bin 16 .gtr .plain (.tmp 15) (.const (.int .i64 1)))] [] [16],
 .op 8 (.pick 17 (.tmp 14) (.const (.bool true)) (.tmp 16)),
 .op 9 (.nilchk 18 (.tmp 9)),
 .op 10 (.faddr 19 1 (.tmp 18)),
 .op 11 (.store false 1 (.tmp 19) (.tmp 17))] [])
 (.seq (.region [.op 0 (.mov 20 (.tmp 3)),
 .op 1 (.bin 21 .eql .plain (.tmp 20) (.const (.int .i64 1))),
 .op 2 (.mov 2 (.tmp 21))] [])
 .ret)))),
 [.tmp 2]⟩
theorem ok287 : funcOk Tryz.prog (drawOk Tryz.prog) Tryz.f287 A287 = true := by kernel_rfl
noncomputable def A288 : AFunc := ⟨1, (.seq (.region [.op 0 (.mov 2 (.const (.int .u32 0)))] [])
 (.seq (.region [.op 0 (.mov 4 (.tmp 0)),
 .op 1 (.nilchk 5 (.tmp 4)),
 .op 2 (.faddr 6 0 (.tmp 5)),
 .op 3 (.load 7 false 1 (.tmp 6)),
 .op 4 (.call 8 285 [.tmp 7]),
 .op 5 (.mov 3 (.tmp 8))] [])
 (.seq (.region [.op 0 (.mov 9 (.tmp 0)),
 .op 1 (.mov 10 (.tmp 0)),
 .op 2 (.nilchk 11 (.tmp 10)),
 .op 3 (.faddr 12 1 (.tmp 11)),
 .op 4 (.load 13 false 1 (.tmp 12)),
 .op 5 (.mov 14 (.tmp 13)),
 .guard 14 false [.op 6 (.mov 15 (.tmp 3)),
 .op 7 (.bin 16 .lss .plain (.tmp 15) (.const (.int .i64 0)))] [] [16],
 .op 8 (.pick 17 (.tmp 14) (.const (.bool true)) (.tmp 16)),
 .op 9 (.mov 18 (.tmp 17)),
 .guard 18 false [.op 10 (.mov 19 (.tmp 3)),
 .op 11 (.bin 20 .gtr .plain (.tmp 19) (.const (.int .i64 4294967295)))] [] [20],
 .op 12 (.pick 21 (.tmp 18) (.const (.bool true)) (.tmp 20)),
 .op 13 (.nilchk 22 (.tmp 9)),
 .op 14 (.faddr 23 1 (.tmp 22)),
 .op 15 (.store false 1 (.tmp 23) (.tmp 21))] [])
 (.seq (.region [.op 0 (.mov 24 (.tmp 3)),
 .op 1 (.conv 25 (.toInt .u32) (.tmp 24)),
 .op 2 (.mov 2 (.tmp 25))] [])
 .ret)))),
 [.tmp 2]⟩
theorem ok288 : funcOk Tryz.prog (drawOk Tryz.prog) Tryz.f288 A288 = true := by kernel_rfl
noncomputable def A289 : AFunc := ⟨1, (.seq (.region [.op 0 (.mov 2 (.const (.nilSlice)))] [])
 (.seq (.region [.op 0 (.mov 3 (.const (.nilSlice)))] [])
 (.seq (.seq (.region [.op 0 (.mov 5 (.tmp 0)),
 .op 1 (.nilchk 6 (.tmp 5)),
 .op 2 (.faddr 7 0 (.tmp 6)),
 .op 3 (.load 8 false 1 (.tmp 7)),
 .op 4 (.call 9 284 [.tmp 8]),
 .op 5 (.mov 10 (.const (.int .i64 0)))] [])
 (.block 0 (.loop ⟨[0, 3, 9, 10], []⟩ [((.exit 0), ⟨[3], []⟩)]
 (.seq (.region [.op 0 (.bin 11 .lss .plain (.tmp 10) (.tmp 9))] [])
 (.seq (.cond (.tmp 11)
 .skip
 (.exit 0))
 (.seq (.block 1 (.seq (.region [.op 0 (.mov 12 (.tmp 0)),
 .op 1 (.call 13 286 [.tmp 12]),
 .op 2 (.build 14 [.str [], .str [], .int .i64 0, .int .i64 0, .int .i64 0, .int .i64 0, .int .i64 0, .int .i64 0, .bool false] [(0, 2, .tmp 13)]),
 .op 3 (.alloc 4 true [.str [], .str [], .int .i64 0, .int .i64 0, .int .i64 0, .int .i64 0, .int .i64 0, .int .i64 0, .bool false]),
 .op 4 (.store true 9 (.tmp 4) (.tmp 14))] [])
 (.seq (.region [.op 0 (.mov 15 (.tmp 0)),
 .op 1 (.nilchk 16 (.tmp 15)),
 .op 2 (.faddr 17 0 (.tmp 16)),
 .op 3 (.load 18 false 1 (.tmp 17)),
 .op 4 (.call 19 284 [.tmp 18]),
 .op 5 (.mov 20 (.tmp 0)),
 .op 6 (.nilchk 21 (.tmp 20)),
 .op 7 (.faddr 22 0 (.tmp 21)),
 .op 8 (.load 23 false 1 (.tmp 22)),
 .op 9 (.call 24 284 [.tmp 23]),
 .op 10 (.faddr 25 2 (.tmp 4)),
 .op 11 (.store false 1 (.tmp 25) (.tmp 19)),
 .op 12 (.faddr 26 3 (.tmp 4)),
 .op 13 (.store false 1 (.tmp 26) (.tmp 24))] [(8, 4)])
 (.seq (.region [.op 0 (.mov 27 (.tmp 0)),
 .op 1 (.nilchk 28 (.tmp 27)),
 .op 2 (.faddr 29 0 (.tmp 28)),
 .op 3 (.load 30 false 1 (.tmp 29)),
 .op 4 (.call 31 285 [.tmp 30]),
 .op 5 (.mov 32 (.tmp 0)),
 .op 6 (.nilchk 33 (.tmp 32)),
 .op 7 (.faddr 34 0 (.tmp 33)),
 .op 8 (.load 35 false 1 (.tmp 34)),
 .op 9 (.call 36 285 [.tmp 35]),
 .op 10 (.faddr 37 4 (.tmp 4)),
 .op 11 (.store false 1 (.tmp 37) (.tmp 31)),
 .op 12 (.faddr 38 5 (.tmp 4)),
 .op 13 (.faddr 39 0 (.tmp 38)),
 .op 14 (.store false 1 (.tmp 39) (.tmp 36))] [(8, 4)])
 (.seq (.region [.op 0 (.mov 40 (.tmp 0)),
 .op 1 (.nilchk 41 (.tmp 40)),
 .op 2 (.faddr 42 0 (.tmp 41)),
 .op 3 (.load 43 false 1 (.tmp 42)),
 .op 4 (.call 44 284 [.tmp 43]),
 .op 5 (.faddr 45 5 (.tmp 4)),
 .op 6 (.faddr 46 1 (.tmp 45)),
 .op 7 (.store false 1 (.tmp 46) (.tmp 44))] [])
 (.seq (.region [.op 0 (.mov 47 (.tmp 0)),
 .op 1 (.nilchk 48 (.tmp 47)),
 .op 2 (.faddr 49 0 (.tmp 48)),
 .op 3 (.load 50 false 1 (.tmp 49)),
 .op 4 (.call 51 285 [.tmp 50]),
 .op 5 (.faddr 52 5 (.tmp 4)),
 .op 6 (.faddr 53 2 (.tmp 52)),
 .op 7 (.store false 1 (.tmp 53) (.tmp 51))] [])
 (.seq (.region [.op 0 (.mov 54 (.tmp 0)),
 .op 1 (.call 55 287 [.tmp 54]),
 .op 2 (.faddr 56 8 (.tmp 4)),
 .op 3 (.store false 1 (.tmp 56) (.tmp 55))] [])
 (.region [.op 0 (.mov 57 (.tmp 3)),
 .op 1 (.load 58 true 9 (.tmp 4)),
 .op 2 (.buildSl 59 [.str [], .str [], .int .i64 0, .int .i64 0, .int .i64 0, .int .i64 0, .int .i64 0, .int .i64 0, .bool false] 9 1 [(0, .tmp 58)]),
 .op 3 (.append 60 9 88 [.str [], .str [], .int .i64 0, .int .i64 0, .int .i64 0, .int .i64 0, .int .i64 0, .int .i64 0, .bool false] false (.tmp 57) (.tmp 59)),
 .op 4 (.mov 3 (.tmp 60))] []))))))))
 (.region [.op 0 (.bin 61 .add .plain (.tmp 10) (.const (.int .i64 1))),
 .op 1 (.mov 10 (.tmp 61))] [])))))))
 (.seq (.region [.op 0 (.mov 62 (.tmp 3)),
 .op 1 (.mov 2 (.tmp 62))] [])
 .ret)))),
 [.tmp 2]⟩
theorem ok289 : funcOk Tryz.prog (drawOk Tryz.prog) Tryz.f289 A289 = true := by kernel_rfl
noncomputable def A295 : AFunc := ⟨2, (.seq (.region [.op 0 (.mov 4 (.const (.nilSlice)))] [])
 (.seq (.seq (.region [.op 0 (.mov 6 (.tmp 0)),
 .op 1 (.nilchk 7 (.tmp 6)),
 .op 2 (.faddr 8 1 (.tmp 7)),
 .op 3 (.load 9 false 1 (.tmp 8)),
 .op 4 (.mov 10 (.tmp 9)),
 .guard 10 false [.op 5 (.mov 11 (.tmp 1)),
 .op 6 (.mov 12 (.tmp 0)),
 .op 7 (.nilchk 13 (.tmp 12)),
 .op 8 (.faddr 14 0 (.tmp 13)),
 .op 9 (.load 15 false 1 (.tmp 14)),
 .op 10 (.len 16 false (.tmp 15)),
 .op 11 (.bin 17 .gtr .plain (.tmp 11) (.tmp 16))] [] [17],
 .op 12 (.pick 18 (.tmp 10) (.const (.bool true)) (.tmp 17))] [])
 (.cond (.tmp 18)
 (.seq (.region [.op 0 (.mov 19 (.tmp 0)),
 .op 1 (.nilchk 20 (.tmp 19)),
 .op 2 (.faddr 21 1 (.tmp 20)),
 .op 3 (.store false 1 (.tmp 21) (.const (.bool true)))] [])
 (.seq (.region [.op 0 (.mov 4 (.const (.nilSlice)))] [])
 .ret))
 .skip))
 (.seq (.region [.op 0 (.mov 22 (.tmp 0)),
 .op 1 (.nilchk 23 (.tmp 22)),
 .op 2 (.faddr 24 0 (.tmp 23)),
 .op 3 (.load 25 false 1 (.tmp 24)),
 .op 4 (.mov 26 (.tmp 1)),
 .op 5 (.slice 27 (.sl 1) (.tmp 25) none (some (.tmp 26)) none),
 .op 6 (.mov 5 (.tmp 27))] [])
 (.seq (.region [.op 0 (.mov 28 (.tmp 0)),
 .op 1 (.mov 29 (.tmp 0)),
 .op 2 (.nilchk 30 (.tmp 29)),
 .op 3 (.faddr 31 0 (.tmp 30)),
 .op 4 (.load 32 false 1 (.tmp 31)),
 .op 5 (.mov 33 (.tmp 1)),
 .op 6 (.slice 34 (.sl 1) (.tmp 32) (some (.tmp 33)) none none),
 .op 7 (.nilchk 35 (.tmp 28)),
 .op 8 (.faddr 36 0 (.tmp 35)),
 .op 9 (.store false 1 (.tmp 36) (.tmp 34))] [])
 (.seq (.region [.op 0 (.mov 37 (.tmp 5)),
 .op 1 (.mov 4 (.tmp 37))] [])
 .ret))))),
 [.tmp 4]⟩
theorem ok295 : funcOk Tryz.prog (drawOk Tryz.prog) Tryz.f295 A295 = true := by kernel_rfl
noncomputable def A296 : AFunc := ⟨1, (.seq (.region [.op 0 (.mov 2 (.const (.str [])))] [])
 (.seq (.region [.op 0 (.mov 3 (.tmp 0)),
 .op 1 (.mov 4 (.tmp 0)),
 .op 2 (.call 5 284 [.tmp 4]),
 .op 3 (.call 6 295 [.tmp 3, .tmp 5]),
 .op 4 (.conv 7 .bytesStr (.tmp 6)),
 .op 5 (.mov 2 (.tmp 7))] [])
 .ret)),
 [.tmp 2]⟩
theorem ok296 : funcOk Tryz.prog (drawOk Tryz.prog) Tryz.f296 A296 = true := by kernel_rfl
end Go.Proofs.YtinkiihdnepfjaaGreatDoor.Code
