/- code -/
import Derived.Test.YtinkiihdnepfjaaGreatDoorProg
import Derived.Test.YtinkiihdnepfjaaGreatDoorIKH
import Derived.KernelRfl
set_option linter.unusedSimpArgs false
set_option linter.unusedVariables false
set_option maxRecDepth 100000
namespace Go.Proofs.YtinkiihdnepfjaaGreatDoor.Code
open Go.Fw Go.Fw.K
noncomputable def A95 : AFunc := ⟨1, (.seq (.region [.op 0 (.mov 2 (.const (.nilSlice)))] [])
 (.seq (.region [.op 0 (.mov 3 (.const (.nilSlice)))] [])
 (.seq (.seq (.region [.op 0 (.mov 6 (.tmp 0)),
 .op 1 (.nilchk 7 (.tmp 6)),
 .op 2 (.faddr 8 1 (.tmp 7)),
 .op 3 (.load 9 false 1 (.tmp 8)),
 .op 4 (.len 10 false (.tmp 9)),
 .op 5 (.mov 11 (.const (.int .i64 0)))] [])
 (.block 0 (.loop ⟨[3, 9, 10, 11], []⟩ [((.exit 0), ⟨[3], []⟩)]
 (.seq (.region [.op 0 (.bin 12 .lss .plain (.tmp 11) (.tmp 10))] [])
 (.seq (.cond (.tmp 12)
 .skip
 (.exit 0))
 (.seq (.block 1 (.seq (.region [.op 0 (.iaddr 13 none 3 (.tmp 9) (.tmp 11)),
 .op 1 (.load 14 true 3 (.tmp 13)),
 .op 2 (.alloc 5 true [.int .i64 0, .int .i64 0, .nilSlice]),
 .op 3 (.store true 3 (.tmp 5) (.tmp 14))] [])
 (.region [.op 0 (.mov 15 (.tmp 3)),
 .op 1 (.load 16 true 3 (.tmp 5)),
 .op 2 (.call 17 133 [.tmp 16]),
 .op 3 (.buildSl 18 [.int .i64 0, .int .i64 0, .nilSlice] 3 1 [(0, .tmp 17)]),
 .op 4 (.append 19 3 40 [.int .i64 0, .int .i64 0, .nilSlice] false (.tmp 15) (.tmp 18)),
 .op 5 (.mov 3 (.tmp 19))] [])))
 (.region [.op 0 (.bin 20 .add .plain (.tmp 11) (.const (.int .i64 1))),
 .op 1 (.mov 11 (.tmp 20))] [])))))))
 (.seq (.region [.op 0 (.mov 21 (.tmp 3)),
 .op 1 (.mov 2 (.tmp 21))] [])
 .ret)))),
 [.tmp 2]⟩
theorem ok95 : funcOk Tryz.prog (drawOk Tryz.prog) Tryz.f95 A95 = true := by kernel_rfl
noncomputable def L95_0 (call : TCall) (xs : List AVal) (h : TH) : KJ :=
 U4 (fun g5 g6 g7 g8 =>
 V (kLss g8 g7) fun v9 =>
 C v9
 (V (kIaddr 3 g6 g8) fun v10 =>
 V (kLdA h 3 v10) fun v11 =>
 V (kStL [.int .i64 0, .int .i64 0, .nilSlice] 0 3 v11) fun c12 =>
 V (kLdL c12 true 0 3) fun v13 =>
 R (call 133 [v13] h) fun v14 h15 =>
 V (aFill (reps [.int .i64 0, .int .i64 0, .nilSlice] 1) [(0, 3, v14)]) fun c16 =>
 R (kAppend 3 40 [.int .i64 0, .int .i64 0, .nilSlice] false g5 (.slice h15.next 0 1 1 3 true) (h15.alloc c16)) fun v17 h18 =>
 V (kAdd g8 (.int .i64 1)) fun v19 =>
 .out 0 [v17, g6, g7, v19] h18)
 (.out 1 [g5] h)) xs
noncomputable def F95 (call : TCall) (args : List AVal) (h : TH) : KR := ans (U1 (fun a0 =>
 V (kNil a0) fun v1 =>
 V (kFaddr 1 v1) fun v2 =>
 V (kLd1 h v2) fun v3 =>
 V (kLen false v3) fun v4 =>
 Jn (Lp (L95_0 call) [(.nilSlice), v3, v4, (.int .i64 0)] h) fun i22 x21 h20 =>
 ifB (Nat.beq i22 1) (U1 (fun g23 =>
 .out 0 [g23] h20) x21) (
 .no)) args)
theorem st95 (call : TCall) (args : List AVal) (h : TH) : kFunc call A95 args h = F95 call args h := by kernel_rfl
noncomputable def A96 : AFunc := ⟨3, (.seq (.region [.op 0 (.mov 6 (.const (.bool false)))] [])
 (.seq (.region [.op 0 (.mov 7 (.tmp 0)),
 .op 1 (.mov 8 (.tmp 1)),
 .op 2 (.call 9 134 [.tmp 7, .tmp 8]),
 .op 3 (.mov 10 (.tmp 9)),
 .guard 10 true [.op 4 (.mov 11 (.tmp 0)),
 .op 5 (.mov 12 (.tmp 2)),
 .op 6 (.call 13 134 [.tmp 11, .tmp 12])] [] [13],
 .op 7 (.pick 14 (.tmp 10) (.tmp 13) (.const (.bool false))),
 .op 8 (.mov 15 (.tmp 14)),
 .guard 15 true [.op 9 (.mov 16 (.tmp 0)),
 .op 10 (.mov 17 (.tmp 1)),
 .op 11 (.mov 18 (.tmp 2)),
 .op 12 (.nilchk 19 (.tmp 16)),
 .op 13 (.faddr 20 2 (.tmp 19)),
 .op 14 (.iaddr 21 (some 6) 6 (.tmp 20) (.tmp 17)),
 .op 15 (.iaddr 22 (some 6) 1 (.tmp 21) (.tmp 18)),
 .op 16 (.load 23 false 1 (.tmp 22))] [] [23],
 .op 17 (.pick 24 (.tmp 15) (.tmp 23) (.const (.bool false))),
 .op 18 (.mov 6 (.tmp 24))] [])
 .ret)),
 [.tmp 6]⟩
theorem ok96 : funcOk Tryz.prog (drawOk Tryz.prog) Tryz.f96 A96 = true := by kernel_rfl
noncomputable def F96 (call : TCall) (args : List AVal) (h : TH) : KR := ans (U3 (fun a0 a1 a2 =>
 R (call 134 [a0, a1] h) fun v1 h2 =>
 Jn (G v1 true
 (R (call 134 [a0, a2] h2) fun v3 h4 =>
 .out 0 [v3] h4)
 (.out 0 [skipV] h2)) fun _ x6 h5 =>
 U1 (fun g7 =>
 V (kPick v1 g7 (.bool false)) fun v8 =>
 Jn (G v8 true
 (V (kNil a0) fun v9 =>
 V (kFaddr 2 v9) fun v10 =>
 V (kIaddrA 6 6 v10 a1) fun v11 =>
 V (kIaddrA 6 1 v11 a2) fun v12 =>
 V (kLd1 h5 v12) fun v13 =>
 .out 0 [v13] h5)
 (.out 0 [skipV] h5)) fun _ x15 h14 =>
 U1 (fun g16 =>
 V (kPick v8 g16 (.bool false)) fun v17 =>
 .out 0 [v17] h14) x15) x6) args)
theorem st96 (call : TCall) (args : List AVal) (h : TH) : kFunc call A96 args h = F96 call args h := by kernel_rfl
noncomputable def A97 : AFunc := ⟨2, (.seq (.region [.op 0 (.box 3 true (.tmp 1)),
 .op 1 (.alloc 4 true [.int .i64 0, .int .i64 0, .int .i64 0, .nilSlice, .int .i64 0])] [])
 (.seq (.region [.op 0 (.mov 5 (.tmp 0)),
 .op 1 (.mov 6 (.tmp 0)),
 .op 2 (.nilchk 7 (.tmp 6)),
 .op 3 (.faddr 8 1 (.tmp 7)),
 .op 4 (.load 9 false 1 (.tmp 8)),
 .op 5 (.load 10 true 7 (.tmp 3)),
 .op 6 (.buildSl 11 [.int .i64 0, .int .i64 0, .int .i64 0, .int .i64 0, .int .i64 0, .int .i64 0, .str []] 7 1 [(0, .tmp 10)]),
 .op 7 (.append 12 7 64 [.int .i64 0, .int .i64 0, .int .i64 0, .int .i64 0, .int .i64 0, .int .i64 0, .str []] false (.tmp 9) (.tmp 11)),
 .op 8 (.nilchk 13 (.tmp 5)),
 .op 9 (.faddr 14 1 (.tmp 13)),
 .op 10 (.store false 1 (.tmp 14) (.tmp 12))] [(4, 6)])
 (.seq (.region [.op 0 (.mov 15 (.tmp 0)),
 .op 1 (.nilchk 16 (.tmp 15)),
 .op 2 (.faddr 17 0 (.tmp 16)),
 .op 3 (.load 18 false 1 (.tmp 17)),
 .op 4 (.load 19 true 7 (.tmp 3)),
 .op 5 (.call 20 24 [.tmp 18, .tmp 19]),
 .op 6 (.store true 5 (.tmp 4) (.tmp 20))] [])
 .ret))),
 [.cell 4 true 5]⟩
theorem ok97 : funcOk Tryz.prog (drawOk Tryz.prog) Tryz.f97 A97 = true := by kernel_rfl
noncomputable def F97 (call : TCall) (args : List AVal) (h : TH) : KR := ans (U2 (fun a0 a1 =>
 V (kCellsQ a1) fun c1 =>
 V (kNil a0) fun v2 =>
 V (kFaddr 1 v2) fun v3 =>
 V (kLd1 h v3) fun v4 =>
 V (kLdL c1 true 0 7) fun v5 =>
 V (aFill (reps [.int .i64 0, .int .i64 0, .int .i64 0, .int .i64 0, .int .i64 0, .int .i64 0, .str []] 1) [(0, 7, v5)]) fun c6 =>
 R (kAppend 7 64 [.int .i64 0, .int .i64 0, .int .i64 0, .int .i64 0, .int .i64 0, .int .i64 0, .str []] false v4 (.slice h.next 0 1 1 7 true) (h.alloc c6)) fun v7 h8 =>
 V (kNil a0) fun v9 =>
 V (kFaddr 1 v9) fun v10 =>
 V (kSt h8 1 v10 v7) fun h11 =>
 ifB (kCheck [(6, some (.al h.next)), (4, kLogRd v3 1)] [(4, 6)]) (V (kNil a0) fun v12 =>
 V (kFaddr 0 v12) fun v13 =>
 V (kLd1 h11 v13) fun v14 =>
 V (kLdL c1 true 0 7) fun v15 =>
 R (call 24 [v14, v15] h11) fun v16 h17 =>
 V (kStL [.int .i64 0, .int .i64 0, .int .i64 0, .nilSlice, .int .i64 0] 0 5 v16) fun c18 =>
 V (kLdL c18 true 0 5) fun v19 =>
 .out 0 [v19] h17) .no) args)
theorem st97 (call : TCall) (args : List AVal) (h : TH) : kFunc call A97 args h = F97 call args h := by kernel_rfl
noncomputable def A98 : AFunc := ⟨1, (.seq (.region [.op 0 (.mov 2 (.const (.str [])))] [])
 (.seq (.region [.op 0 (.mov 3 (.tmp 0)),
 .op 1 (.call 4 135 [.tmp 3, .const (.int .i64 10)]),
 .op 2 (.mov 2 (.tmp 4))] [])
 .ret)),
 [.tmp 2]⟩
theorem ok98 : funcOk Tryz.prog (drawOk Tryz.prog) Tryz.f98 A98 = true := by kernel_rfl
noncomputable def F98 (call : TCall) (args : List AVal) (h : TH) : KR := ans (U1 (fun a0 =>
 R (call 135 [a0, (.int .i64 10)] h) fun v1 h2 =>
 .out 0 [v1] h2) args)
theorem st98 (call : TCall) (args : List AVal) (h : TH) : kFunc call A98 args h = F98 call args h := by kernel_rfl
noncomputable def A99 : AFunc := ⟨1, (.seq (.region [.op 0 (.mov 2 (.const (.bool false)))] [])
 (.seq (.seq (.region [.op 0 (.mov 5 (.tmp 0)),
 .op 1 (.len 6 true (.tmp 5)),
 .op 2 (.bin 7 .eql .plain (.tmp 6) (.const (.int .i64 0))),
 .op 3 (.mov 8 (.tmp 7)),
 .guard 8 false [.op 4 (.mov 9 (.tmp 0)),
 .op 5 (.len 10 true (.tmp 9)),
 .op 6 (.bin 11 .gtr .plain (.tmp 10) (.const (.int .i64 16)))] [] [11],
 .op 7 (.pick 12 (.tmp 8) (.const (.bool true)) (.tmp 11))] [])
 (.cond (.tmp 12)
 (.seq (.region [.op 0 (.mov 2 (.const (.bool false)))] [])
 .ret)
 .skip))
 (.seq (.seq (.region [.op 0 (.mov 13 (.tmp 0)),
 .op 1 (.len 14 true (.tmp 13)),
 .op 2 (.mov 15 (.const (.int .i64 0)))] [])
 (.block 0 (.loop ⟨[0, 14, 15], []⟩ [((.exit 0), ⟨[], []⟩), (.ret, ⟨[2], []⟩)]
 (.seq (.region [.op 0 (.bin 16 .lss .plain (.tmp 15) (.tmp 14))] [])
 (.seq (.cond (.tmp 16)
 .skip
 (.exit 0))
 (.seq (.block 1 (.seq (.region [.op 0 (.mov 17 (.tmp 15)),
 .op 1 (.mov 3 (.tmp 17))] [])
 (.seq (.region [.op 0 (.mov 18 (.tmp 0)),
 .op 1 (.mov 19 (.tmp 3)),
 .op 2 (.index 20 .str (.tmp 18) (.tmp 19)),
 .op 3 (.mov 4 (.tmp 20))] [])
 (.seq (.region [.op 0 (.mov 21 (.tmp 4)),
 .op 1 (.bin 22 .lss .plain (.tmp 21) (.const (.int .u8 97))),
 .op 2 (.mov 23 (.tmp 22)),
 .guard 23 false [.op 3 (.mov 24 (.tmp 4)),
 .op 4 (.bin 25 .gtr .plain (.tmp 24) (.const (.int .u8 122)))] [] [25],
 .op 5 (.pick 26 (.tmp 23) (.const (.bool true)) (.tmp 25)),
 .op 6 (.mov 27 (.tmp 26)),
 .guard 27 true [.op 7 (.mov 28 (.tmp 4)),
 .op 8 (.bin 29 .lss .plain (.tmp 28) (.const (.int .u8 48))),
 .op 9 (.mov 30 (.tmp 29)),
 .guard 30 false [.op 10 (.mov 31 (.tmp 4)),
 .op 11 (.bin 32 .gtr .plain (.tmp 31) (.const (.int .u8 57)))] [] [32],
 .op 12 (.pick 33 (.tmp 30) (.const (.bool true)) (.tmp 32))] [] [33],
 .op 13 (.pick 34 (.tmp 27) (.tmp 33) (.const (.bool false)))] [])
 (.cond (.tmp 34)
 (.seq (.region [.op 0 (.mov 2 (.const (.bool false)))] [])
 .ret)
 .skip)))))
 (.region [.op 0 (.bin 35 .add .plain (.tmp 15) (.const (.int .i64 1))),
 .op 1 (.mov 15 (.tmp 35))] [])))))))
 (.seq (.region [.op 0 (.mov 2 (.const (.bool true)))] [])
 .ret)))),
 [.tmp 2]⟩
theorem ok99 : funcOk Tryz.prog (drawOk Tryz.prog) Tryz.f99 A99 = true := by kernel_rfl
noncomputable def L99_0 (call : TCall) (xs : List AVal) (h : TH) : KJ :=
 U3 (fun g10 g11 g12 =>
 V (kLss g12 g11) fun v13 =>
 C v13
 (V (kIndexStr g10 g12) fun v14 =>
 V (kLss v14 (.int .u8 97)) fun v15 =>
 Jn (G v15 false
 (V (kGtr v14 (.int .u8 122)) fun v16 =>
 .out 0 [v16] h)
 (.out 0 [skipV] h)) fun _ x18 h17 =>
 U1 (fun g19 =>
 V (kPick v15 (.bool true) g19) fun v20 =>
 Jn (G v20 true
 (V (kLss v14 (.int .u8 48)) fun v21 =>
 Jn (G v21 false
 (V (kGtr v14 (.int .u8 57)) fun v22 =>
 .out 0 [v22] h17)
 (.out 0 [skipV] h17)) fun _ x24 h23 =>
 U1 (fun g25 =>
 V (kPick v21 (.bool true) g25) fun v26 =>
 .out 0 [v26] h23) x24)
 (.out 0 [skipV] h17)) fun _ x28 h27 =>
 U1 (fun g29 =>
 V (kPick v20 g29 (.bool false)) fun v30 =>
 C v30
 (.out 2 [(.bool false)] h27)
 (V (kAdd g12 (.int .i64 1)) fun v31 =>
 .out 0 [g10, g11, v31] h27)) x28) x18)
 (.out 1 [] h)) xs
noncomputable def F99 (call : TCall) (args : List AVal) (h : TH) : KR := ans (U1 (fun a0 =>
 V (kLen true a0) fun v1 =>
 V (kEql v1 (.int .i64 0)) fun v2 =>
 Jn (G v2 false
 (V (kLen true a0) fun v3 =>
 V (kGtr v3 (.int .i64 16)) fun v4 =>
 .out 0 [v4] h)
 (.out 0 [skipV] h)) fun _ x6 h5 =>
 U1 (fun g7 =>
 V (kPick v2 (.bool true) g7) fun v8 =>
 C v8
 (.out 0 [(.bool false)] h5)
 (V (kLen true a0) fun v9 =>
 Jn (Lp (L99_0 call) [a0, v9, (.int .i64 0)] h5) fun i34 x33 h32 =>
 ifB (Nat.beq i34 1) (U0 (.out 0 [(.bool true)] h32) x33) (
 ifB (Nat.beq i34 2) (U1 (fun g35 =>
 .out 0 [g35] h32) x33) (
 .no)))) x6) args)
theorem st99 (call : TCall) (args : List AVal) (h : TH) : kFunc call A99 args h = F99 call args h := by kernel_rfl
noncomputable def A100 : AFunc := ⟨0, (.seq (.region [.op 0 (.mov 0 (.const (.nilPtr)))] [])
 (.seq (.region [.op 0 (.build 1 [.nilSlice, .int .i64 0] [(1, 1, .const (.int .i64 (-1)))]),
 .op 1 (.box 2 false (.tmp 1)),
 .op 2 (.mov 0 (.tmp 2))] [])
 .ret)),
 [.tmp 0]⟩
theorem ok100 : funcOk Tryz.prog (drawOk Tryz.prog) Tryz.f100 A100 = true := by kernel_rfl
noncomputable def F100 (call : TCall) (args : List AVal) (h : TH) : KR := ans (U0 (V (aFill [.nilSlice, .int .i64 0] [(1, 1, (.int .i64 (-1)))]) fun c1 =>
 V (kCellsQ (.agg c1)) fun c2 =>
 .out 0 [(.ptr h.next 0)] (h.alloc c2)) args)
theorem st100 (call : TCall) (args : List AVal) (h : TH) : kFunc call A100 args h = F100 call args h := by kernel_rfl
noncomputable def A101 : AFunc := ⟨3, (.seq (.region [.op 0 (.box 5 true (.tmp 2)),
 .op 1 (.alloc 6 true [.int .i64 0, .int .i64 0, .int .i64 0, .nilSlice, .int .i64 0])] [])
 (.seq (.seq (.region [.op 0 (.mov 9 (.tmp 0)),
 .op 1 (.nilchk 10 (.tmp 9)),
 .op 2 (.faddr 11 2 (.tmp 10)),
 .op 3 (.load 12 false 1 (.tmp 11)),
 .op 4 (.faddr 13 1 (.tmp 5)),
 .op 5 (.load 14 false 1 (.tmp 13)),
 .op 6 (.faddr 15 5 (.tmp 5)),
 .op 7 (.load 16 false 1 (.tmp 15)),
 .op 8 (.call 17 136 [.tmp 12, .tmp 14, .tmp 16]),
 .op 9 (.mov 7 (.tmp 17))] [])
 (.seq (.region [.op 0 (.mov 18 (.tmp 7)),
 .op 1 (.bin 19 .neq .plain (.tmp 18) (.const (.int .i64 0)))] [])
 (.cond (.tmp 19)
 (.seq (.region [.op 0 (.mov 20 (.tmp 7)),
 .op 1 (.build 21 [.int .i64 0, .int .i64 0, .int .i64 0, .nilSlice, .int .i64 0] [(0, 1, .tmp 20)]),
 .op 2 (.store true 5 (.tmp 6) (.tmp 21))] [])
 .ret)
 .skip)))
 (.seq (.seq (.region [.op 0 (.mov 22 (.tmp 0)),
 .op 1 (.faddr 23 1 (.tmp 5)),
 .op 2 (.load 24 false 1 (.tmp 23)),
 .op 3 (.call 25 58 [.tmp 22, .tmp 24]),
 .op 4 (.mov 8 (.tmp 25))] [])
 (.seq (.region [.op 0 (.mov 26 (.tmp 8)),
 .op 1 (.bin 27 .neq .ptr (.tmp 26) (.const (.nilPtr)))] [])
 (.join [(.normal, ⟨[], [5, 6]⟩)] (.cond (.tmp 27)
 (.region [.op 0 (.mov 28 (.tmp 1)),
 .op 1 (.faddr 29 1 (.tmp 5)),
 .op 2 (.load 30 false 1 (.tmp 29)),
 .op 3 (.mov 31 (.tmp 8)),
 .op 4 (.faddr 32 5 (.tmp 5)),
 .op 5 (.load 33 false 1 (.tmp 32)),
 .op 6 (.call 34 138 [.tmp 31, .tmp 33]),
 .op 7 (.call 35 137 [.tmp 28, .tmp 30, .tmp 34])] [(2, 6)])
 (.region [.op 0 (.mov 36 (.tmp 1)),
 .op 1 (.faddr 37 1 (.tmp 5)),
 .op 2 (.load 38 false 1 (.tmp 37)),
 .op 3 (.mov 39 (.tmp 0)),
 .op 4 (.faddr 40 1 (.tmp 5)),
 .op 5 (.load 41 false 1 (.tmp 40)),
 .op 6 (.call 42 139 [.tmp 39, .tmp 41]),
 .op 7 (.faddr 43 5 (.tmp 5)),
 .op 8 (.load 44 false 1 (.tmp 43)),
 .op 9 (.call 45 140 [.tmp 42, .tmp 44]),
 .op 10 (.call 46 137 [.tmp 36, .tmp 38, .tmp 45])] [(2, 6), (2, 9), (8, 6)])))))
 (.seq (.region [.op 0 (.faddr 47 1 (.tmp 5)),
 .op 1 (.load 48 false 1 (.tmp 47)),
 .op 2 (.build 49 [.int .i64 0, .int .i64 0, .int .i64 0, .nilSlice, .int .i64 0] [(1, 1, .tmp 48)]),
 .op 3 (.store true 5 (.tmp 6) (.tmp 49))] [])
 .ret)))),
 [.cell 6 true 5]⟩
theorem ok101 : funcOk Tryz.prog (drawOk Tryz.prog) Tryz.f101 A101 = true := by kernel_rfl
noncomputable def F101 (call : TCall) (args : List AVal) (h : TH) : KR := ans (U3 (fun a0 a1 a2 =>
 V (kCellsQ a2) fun c1 =>
 V (kNil a0) fun v2 =>
 V (kFaddr 2 v2) fun v3 =>
 V (kLd1 h v3) fun v4 =>
 V (kLdL c1 false 1 1) fun v5 =>
 V (kLdL c1 false 5 1) fun v6 =>
 R (call 136 [v4, v5, v6] h) fun v7 h8 =>
 V (kNeq v7 (.int .i64 0)) fun v9 =>
 C v9
 (V (aFill [.int .i64 0, .int .i64 0, .int .i64 0, .nilSlice, .int .i64 0] [(0, 1, v7)]) fun c10 =>
 V (kStL [.int .i64 0, .int .i64 0, .int .i64 0, .nilSlice, .int .i64 0] 0 5 (.agg c10)) fun c11 =>
 V (kLdL c11 true 0 5) fun v12 =>
 .out 0 [v12] h8)
 (V (kLdL c1 false 1 1) fun v13 =>
 R (call 58 [a0, v13] h8) fun v14 h15 =>
 V (kNe .ptr v14 (.nilPtr)) fun v16 =>
 Jn (C v16
 (V (kLdL c1 false 1 1) fun v17 =>
 V (kLdL c1 false 5 1) fun v18 =>
 R (call 138 [v14, v18] h15) fun v19 h20 =>
 R (call 137 [a1, v17, v19] h20) fun v21 h22 =>
 ifB (kCheck [(6, some (.ef [(6, [.int .i64 0, .int .i64 0, .int .i64 0, .nilSlice, .int .i64 0]), (5, c1)] h15 [(6, [.int .i64 0, .int .i64 0, .int .i64 0, .nilSlice, .int .i64 0]), (5, c1)] h20)), (2, some (.lrd 5 1 1))] [(2, 6)]) (.out 0 [(.agg c1), (.agg [.int .i64 0, .int .i64 0, .int .i64 0, .nilSlice, .int .i64 0])] h22) .no)
 (V (kLdL c1 false 1 1) fun v23 =>
 V (kLdL c1 false 1 1) fun v24 =>
 R (call 139 [a0, v24] h15) fun v25 h26 =>
 V (kLdL c1 false 5 1) fun v27 =>
 R (call 140 [v25, v27] h26) fun v28 h29 =>
 R (call 137 [a1, v23, v28] h29) fun v30 h31 =>
 ifB (kCheck [(9, some (.ef [(6, [.int .i64 0, .int .i64 0, .int .i64 0, .nilSlice, .int .i64 0]), (5, c1)] h26 [(6, [.int .i64 0, .int .i64 0, .int .i64 0, .nilSlice, .int .i64 0]), (5, c1)] h29)), (8, some (.lrd 5 5 1)), (6, some (.ef [(6, [.int .i64 0, .int .i64 0, .int .i64 0, .nilSlice, .int .i64 0]), (5, c1)] h15 [(6, [.int .i64 0, .int .i64 0, .int .i64 0, .nilSlice, .int .i64 0]), (5, c1)] h26)), (2, some (.lrd 5 1 1))] [(2, 6), (2, 9), (8, 6)]) (.out 0 [(.agg c1), (.agg [.int .i64 0, .int .i64 0, .int .i64 0, .nilSlice, .int .i64 0])] h31) .no)) fun i34 x33 h32 =>
 ifB (Nat.beq i34 0) (U2 (fun g35 g36 =>
 V (kLdL (kAggCells g35) false 1 1) fun v37 =>
 V (aFill [.int .i64 0, .int .i64 0, .int .i64 0, .nilSlice, .int .i64 0] [(1, 1, v37)]) fun c38 =>
 V (kStL (kAggCells g36) 0 5 (.agg c38)) fun c39 =>
 V (kLdL c39 true 0 5) fun v40 =>
 .out 0 [v40] h32) x33) (
 .no))) args)
theorem st101 (call : TCall) (args : List AVal) (h : TH) : kFunc call A101 args h = F101 call args h := by kernel_rfl
noncomputable def A102 : AFunc := ⟨3, (.seq (.region [.op 0 (.alloc 6 true [.int .i64 0, .int .i64 0, .int .i64 0, .nilSlice, .int .i64 0])] [])
 (.seq (.region [.op 0 (.mov 12 (.tmp 1)),
 .op 1 (.mov 13 (.tmp 2)),
 .op 2 (.invoke 14 [(85, 257, none), (90, 257, some (0, 1, false)), (91, 265, none)] (.tmp 12) [.tmp 13]),
 .op 3 (.mov 11 (.tmp 14)),
 .op 4 (.extract 15 (.tmp 11) 0),
 .op 5 (.extract 16 (.tmp 11) 1),
 .op 6 (.alloc 7 true [.int .i64 0, .int .i64 0, .int .i64 0, .int .i64 0, .int .i64 0, .int .i64 0, .int .i64 0, .int .i64 0, .int .i64 0, .str [], .str [], .bool false, .int .u32 0, .nilSlice, .nilSlice, .int .i64 0]),
 .op 7 (.store true 16 (.tmp 7) (.tmp 15)),
 .op 8 (.mov 8 (.tmp 16))] [])
 (.seq (.seq (.region [.op 0 (.mov 17 (.tmp 8)),
 .op 1 (.bin 18 .neq .plain (.tmp 17) (.const (.int .i64 0)))] [])
 (.cond (.tmp 18)
 (.seq (.region [.op 0 (.mov 19 (.tmp 8)),
 .op 1 (.build 20 [.int .i64 0, .int .i64 0, .int .i64 0, .nilSlice, .int .i64 0] [(0, 1, .tmp 19)]),
 .op 2 (.store true 5 (.tmp 6) (.tmp 20))] [])
 .ret)
 .skip))
 (.seq (.region [.op 0 (.faddr 21 1 (.tmp 7)),
 .op 1 (.load 22 false 1 (.tmp 21)),
 .op 2 (.faddr 23 15 (.tmp 7)),
 .op 3 (.load 24 false 1 (.tmp 23)),
 .op 4 (.build 25 [.int .i64 0, .int .i64 0, .int .i64 0, .nilSlice, .int .i64 0] [(1, 1, .tmp 22), (2, 1, .tmp 24)]),
 .op 5 (.alloc 9 true [.int .i64 0, .int .i64 0, .int .i64 0, .nilSlice, .int .i64 0]),
 .op 6 (.store true 5 (.tmp 9) (.tmp 25))] [])
 (.seq (.seq (.region [.op 0 (.faddr 26 15 (.tmp 7)),
 .op 1 (.load 27 false 1 (.tmp 26)),
 .op 2 (.bin 28 .neq .plain (.tmp 27) (.const (.int .i64 0)))] [])
 (.cond (.tmp 28)
 (.seq (.region [.op 0 (.load 29 true 5 (.tmp 9)),
 .op 1 (.store true 5 (.tmp 6) (.tmp 29))] [])
 .ret)
 .skip))
 (.seq (.seq (.region [.op 0 (.mov 30 (.tmp 0)),
 .op 1 (.faddr 31 1 (.tmp 7)),
 .op 2 (.load 32 false 1 (.tmp 31)),
 .op 3 (.call 33 58 [.tmp 30, .tmp 32]),
 .op 4 (.mov 10 (.tmp 33))] [])
 (.seq (.region [.op 0 (.mov 34 (.tmp 10)),
 .op 1 (.bin 35 .neq .ptr (.tmp 34) (.const (.nilPtr)))] [])
 (.join [(.normal, ⟨[], [6, 9]⟩)] (.cond (.tmp 35)
 (.region [.op 0 (.mov 36 (.tmp 1)),
 .op 1 (.faddr 37 1 (.tmp 7)),
 .op 2 (.load 38 false 1 (.tmp 37)),
 .op 3 (.mov 39 (.tmp 10)),
 .op 4 (.faddr 40 0 (.tmp 7)),
 .op 5 (.load 41 false 1 (.tmp 40)),
 .op 6 (.faddr 42 2 (.tmp 7)),
 .op 7 (.load 43 true 13 (.tmp 42)),
 .op 8 (.call 44 30 [.tmp 39, .tmp 41, .tmp 43]),
 .op 9 (.call 45 137 [.tmp 36, .tmp 38, .tmp 44])] [(2, 8)])
 (.region [.op 0 (.mov 46 (.tmp 0)),
 .op 1 (.faddr 47 1 (.tmp 7)),
 .op 2 (.load 48 false 1 (.tmp 47)),
 .op 3 (.call 49 139 [.tmp 46, .tmp 48]),
 .op 4 (.faddr 50 0 (.tmp 7)),
 .op 5 (.load 51 false 1 (.tmp 50)),
 .op 6 (.faddr 52 2 (.tmp 7)),
 .op 7 (.load 53 true 13 (.tmp 52)),
 .op 8 (.call 54 141 [.tmp 49, .tmp 51, .tmp 53]),
 .op 9 (.faddr 55 2 (.tmp 9)),
 .op 10 (.store false 1 (.tmp 55) (.tmp 54))] [(5, 3), (7, 3)])))))
 (.seq (.region [.op 0 (.load 56 true 5 (.tmp 9)),
 .op 1 (.store true 5 (.tmp 6) (.tmp 56))] [])
 .ret))))))),
 [.cell 6 true 5]⟩
theorem ok102 : funcOk Tryz.prog (drawOk Tryz.prog) Tryz.f102 A102 = true := by kernel_rfl
noncomputable def F102 (call : TCall) (args : List AVal) (h : TH) : KR := ans (U3 (fun a0 a1 a2 =>
 V (kMeth [(85, 257, none), (90, 257, some (0, 1, false)), (91, 265, none)] a1) fun q1 =>
 R (call q1.1 (q1.2 :: [a2]) h) fun v2 h3 =>
 V (kExtract 0 v2) fun v4 =>
 V (kExtract 1 v2) fun v5 =>
 V (kStL [.int .i64 0, .int .i64 0, .int .i64 0, .int .i64 0, .int .i64 0, .int .i64 0, .int .i64 0, .int .i64 0, .int .i64 0, .str [], .str [], .bool false, .int .u32 0, .nilSlice, .nilSlice, .int .i64 0] 0 16 v4) fun c6 =>
 V (kNeq v5 (.int .i64 0)) fun v7 =>
 C v7
 (V (aFill [.int .i64 0, .int .i64 0, .int .i64 0, .nilSlice, .int .i64 0] [(0, 1, v5)]) fun c8 =>
 V (kStL [.int .i64 0, .int .i64 0, .int .i64 0, .nilSlice, .int .i64 0] 0 5 (.agg c8)) fun c9 =>
 V (kLdL c9 true 0 5) fun v10 =>
 .out 0 [v10] h3)
 (V (kLdL c6 false 1 1) fun v11 =>
 V (kLdL c6 false 15 1) fun v12 =>
 V (aFill [.int .i64 0, .int .i64 0, .int .i64 0, .nilSlice, .int .i64 0] [(1, 1, v11), (2, 1, v12)]) fun c13 =>
 V (kStL [.int .i64 0, .int .i64 0, .int .i64 0, .nilSlice, .int .i64 0] 0 5 (.agg c13)) fun c14 =>
 V (kLdL c6 false 15 1) fun v15 =>
 V (kNeq v15 (.int .i64 0)) fun v16 =>
 C v16
 (V (kLdL c14 true 0 5) fun v17 =>
 V (kStL [.int .i64 0, .int .i64 0, .int .i64 0, .nilSlice, .int .i64 0] 0 5 v17) fun c18 =>
 V (kLdL c18 true 0 5) fun v19 =>
 .out 0 [v19] h3)
 (V (kLdL c6 false 1 1) fun v20 =>
 R (call 58 [a0, v20] h3) fun v21 h22 =>
 V (kNe .ptr v21 (.nilPtr)) fun v23 =>
 Jn (C v23
 (V (kLdL c6 false 1 1) fun v24 =>
 V (kLdL c6 false 0 1) fun v25 =>
 V (kLdL c6 true 2 13) fun v26 =>
 R (call 30 [v21, v25, v26] h22) fun v27 h28 =>
 R (call 137 [a1, v24, v27] h28) fun v29 h30 =>
 ifB (kCheck [(8, some (.ef [(9, c14), (7, c6), (6, [.int .i64 0, .int .i64 0, .int .i64 0, .nilSlice, .int .i64 0])] h22 [(9, c14), (7, c6), (6, [.int .i64 0, .int .i64 0, .int .i64 0, .nilSlice, .int .i64 0])] h28)), (2, some (.lrd 7 1 1))] [(2, 8)]) (.out 0 [(.agg [.int .i64 0, .int .i64 0, .int .i64 0, .nilSlice, .int .i64 0]), (.agg c14)] h30) .no)
 (V (kLdL c6 false 1 1) fun v31 =>
 R (call 139 [a0, v31] h22) fun v32 h33 =>
 V (kLdL c6 false 0 1) fun v34 =>
 V (kLdL c6 true 2 13) fun v35 =>
 R (call 141 [v32, v34, v35] h33) fun v36 h37 =>
 V (kStL c14 2 1 v36) fun c38 =>
 ifB (kCheck [(7, some (.lrd 7 2 13)), (5, some (.lrd 7 0 1)), (3, some (.ef [(9, c14), (7, c6), (6, [.int .i64 0, .int .i64 0, .int .i64 0, .nilSlice, .int .i64 0])] h22 [(9, c14), (7, c6), (6, [.int .i64 0, .int .i64 0, .int .i64 0, .nilSlice, .int .i64 0])] h33))] [(5, 3), (7, 3)]) (.out 0 [(.agg [.int .i64 0, .int .i64 0, .int .i64 0, .nilSlice, .int .i64 0]), (.agg c38)] h37) .no)) fun i41 x40 h39 =>
 ifB (Nat.beq i41 0) (U2 (fun g42 g43 =>
 V (kLdL (kAggCells g43) true 0 5) fun v44 =>
 V (kStL (kAggCells g42) 0 5 v44) fun c45 =>
 V (kLdL c45 true 0 5) fun v46 =>
 .out 0 [v46] h39) x40) (
 .no)))) args)
theorem st102 (call : TCall) (args : List AVal) (h : TH) : kFunc call A102 args h = F102 call args h := by kernel_rfl
noncomputable def A104 : AFunc := ⟨2, (.seq (.region [.op 0 (.box 3 true (.tmp 1)),
 .op 1 (.alloc 4 true [.int .i64 0, .int .i64 0, .int .i64 0, .nilSlice, .int .i64 0])] [])
 (.seq (.region [.op 0 (.mov 6 (.tmp 0)),
 .op 1 (.faddr 7 1 (.tmp 3)),
 .op 2 (.load 8 false 1 (.tmp 7)),
 .op 3 (.call 9 139 [.tmp 6, .tmp 8]),
 .op 4 (.mov 5 (.tmp 9))] [])
 (.seq (.block 0 (.seq (.region [.op 0 (.mov 11 (.tmp 5)),
 .op 1 (.bin 12 .eql .ptr (.tmp 11) (.const (.nilPtr))),
 .op 2 (.mov 10 (.tmp 12))] [])
 (.cond (.tmp 10)
 (.seq (.region [.op 0 (.build 13 [.int .i64 0, .int .i64 0, .int .i64 0, .nilSlice, .int .i64 0] [(0, 1, .const (.int .i64 23))]),
 .op 1 (.store true 5 (.tmp 4) (.tmp 13))] [])
 .ret)
 (.seq (.region [.op 0 (.faddr 15 0 (.tmp 3)),
 .op 1 (.load 16 false 1 (.tmp 15)),
 .op 2 (.bin 17 .eql .plain (.tmp 16) (.const (.int .i64 9))),
 .op 3 (.mov 14 (.tmp 17))] [])
 (.cond (.tmp 14)
 (.seq (.region [.op 0 (.mov 18 (.tmp 5)),
 .op 1 (.call 19 144 [.tmp 18]),
 .op 2 (.call 20 145 [.tmp 19]),
 .op 3 (.faddr 21 6 (.tmp 3)),
 .op 4 (.load 22 false 1 (.tmp 21)),
 .op 5 (.call 23 143 [.tmp 20, .tmp 22]),
 .op 6 (.build 24 [.int .i64 0, .int .i64 0, .int .i64 0, .nilSlice, .int .i64 0] [(3, 1, .tmp 23)]),
 .op 7 (.store true 5 (.tmp 4) (.tmp 24))] [(4, 1), (4, 2)])
 .ret)
 .skip)))))
 (.seq (.region [.op 0 (.mov 25 (.tmp 5)),
 .op 1 (.faddr 26 3 (.tmp 3)),
 .op 2 (.load 27 false 1 (.tmp 26)),
 .op 3 (.faddr 28 5 (.tmp 3)),
 .op 4 (.load 29 false 1 (.tmp 28)),
 .op 5 (.faddr 30 4 (.tmp 3)),
 .op 6 (.load 31 false 1 (.tmp 30)),
 .op 7 (.call 32 146 [.tmp 25, .tmp 27, .tmp 29, .tmp 31]),
 .op 8 (.build 33 [.int .i64 0, .int .i64 0, .int .i64 0, .nilSlice, .int .i64 0] [(0, 1, .tmp 32)]),
 .op 9 (.store true 5 (.tmp 4) (.tmp 33))] [])
 .ret)))),
 [.cell 4 true 5]⟩
theorem ok104 : funcOk Tryz.prog (drawOk Tryz.prog) Tryz.f104 A104 = true := by kernel_rfl
noncomputable def F104 (call : TCall) (args : List AVal) (h : TH) : KR := ans (U2 (fun a0 a1 =>
 V (kCellsQ a1) fun c1 =>
 V (kLdL c1 false 1 1) fun v2 =>
 R (call 139 [a0, v2] h) fun v3 h4 =>
 V (kEq .ptr v3 (.nilPtr)) fun v5 =>
 C v5
 (V (aFill [.int .i64 0, .int .i64 0, .int .i64 0, .nilSlice, .int .i64 0] [(0, 1, (.int .i64 23))]) fun c6 =>
 V (kStL [.int .i64 0, .int .i64 0, .int .i64 0, .nilSlice, .int .i64 0] 0 5 (.agg c6)) fun c7 =>
 V (kLdL c7 true 0 5) fun v8 =>
 .out 0 [v8] h4)
 (V (kLdL c1 false 0 1) fun v9 =>
 V (kEql v9 (.int .i64 9)) fun v10 =>
 C v10
 (R (call 144 [v3] h4) fun v11 h12 =>
 R (call 145 [v11] h12) fun v13 h14 =>
 V (kLdL c1 false 6 1) fun v15 =>
 R (call 143 [v13, v15] h14) fun v16 h17 =>
 V (aFill [.int .i64 0, .int .i64 0, .int .i64 0, .nilSlice, .int .i64 0] [(3, 1, v16)]) fun c18 =>
 V (kStL [.int .i64 0, .int .i64 0, .int .i64 0, .nilSlice, .int .i64 0] 0 5 (.agg c18)) fun c19 =>
 ifB (kCheck [(4, some (.lrd 3 6 1)), (2, some (.ef [(4, [.int .i64 0, .int .i64 0, .int .i64 0, .nilSlice, .int .i64 0]), (3, c1)] h12 [(4, [.int .i64 0, .int .i64 0, .int .i64 0, .nilSlice, .int .i64 0]), (3, c1)] h14)), (1, some (.ef [(4, [.int .i64 0, .int .i64 0, .int .i64 0, .nilSlice, .int .i64 0]), (3, c1)] h4 [(4, [.int .i64 0, .int .i64 0, .int .i64 0, .nilSlice, .int .i64 0]), (3, c1)] h12))] [(4, 1), (4, 2)]) (V (kLdL c19 true 0 5) fun v20 =>
 .out 0 [v20] h17) .no)
 (V (kLdL c1 false 3 1) fun v21 =>
 V (kLdL c1 false 5 1) fun v22 =>
 V (kLdL c1 false 4 1) fun v23 =>
 R (call 146 [v3, v21, v22, v23] h4) fun v24 h25 =>
 V (aFill [.int .i64 0, .int .i64 0, .int .i64 0, .nilSlice, .int .i64 0] [(0, 1, v24)]) fun c26 =>
 V (kStL [.int .i64 0, .int .i64 0, .int .i64 0, .nilSlice, .int .i64 0] 0 5 (.agg c26)) fun c27 =>
 V (kLdL c27 true 0 5) fun v28 =>
 .out 0 [v28] h25))) args)
theorem st104 (call : TCall) (args : List AVal) (h : TH) : kFunc call A104 args h = F104 call args h := by kernel_rfl
noncomputable def A105 : AFunc := ⟨2, (.seq (.region [.op 0 (.mov 4 (.const (.int .i64 0)))] [])
 (.seq (.seq (.region [.op 0 (.mov 6 (.tmp 0)),
 .op 1 (.len 7 false (.tmp 6)),
 .op 2 (.mov 8 (.const (.int .i64 0)))] [])
 (.block 0 (.loop ⟨[0, 1, 7, 8], []⟩ [((.exit 0), ⟨[], []⟩), (.ret, ⟨[4], []⟩)]
 (.seq (.region [.op 0 (.bin 9 .lss .plain (.tmp 8) (.tmp 7))] [])
 (.seq (.cond (.tmp 9)
 .skip
 (.exit 0))
 (.seq (.block 1 (.seq (.region [.op 0 (.mov 10 (.tmp 8)),
 .op 1 (.mov 5 (.tmp 10))] [])
 (.seq (.region [.op 0 (.mov 11 (.tmp 1)),
 .op 1 (.mov 12 (.tmp 0)),
 .op 2 (.mov 13 (.tmp 5)),
 .op 3 (.iaddr 14 none 1 (.tmp 12) (.tmp 13)),
 .op 4 (.load 15 false 1 (.tmp 14)),
 .op 5 (.bin 16 .eql .plain (.tmp 11) (.tmp 15))] [])
 (.cond (.tmp 16)
 (.seq (.region [.op 0 (.mov 17 (.tmp 5)),
 .op 1 (.mov 4 (.tmp 17))] [])
 .ret)
 .skip))))
 (.region [.op 0 (.bin 18 .add .plain (.tmp 8) (.const (.int .i64 1))),
 .op 1 (.mov 8 (.tmp 18))] [])))))))
 (.seq (.region [.op 0 (.mov 4 (.const (.int .i64 (-1))))] [])
 .ret))),
 [.tmp 4]⟩
theorem ok105 : funcOk Tryz.prog (drawOk Tryz.prog) Tryz.f105 A105 = true := by kernel_rfl
noncomputable def L105_0 (call : TCall) (xs : List AVal) (h : TH) : KJ :=
 U4 (fun g2 g3 g4 g5 =>
 V (kLss g5 g4) fun v6 =>
 C v6
 (V (kIaddr 1 g2 g5) fun v7 =>
 V (kLd1 h v7) fun v8 =>
 V (kEql g3 v8) fun v9 =>
 C v9
 (.out 2 [g5] h)
 (V (kAdd g5 (.int .i64 1)) fun v10 =>
 .out 0 [g2, g3, g4, v10] h))
 (.out 1 [] h)) xs
noncomputable def F105 (call : TCall) (args : List AVal) (h : TH) : KR := ans (U2 (fun a0 a1 =>
 V (kLen false a0) fun v1 =>
 Jn (Lp (L105_0 call) [a0, a1, v1, (.int .i64 0)] h) fun i13 x12 h11 =>
 ifB (Nat.beq i13 1) (U0 (.out 0 [(.int .i64 (-1))] h11) x12) (
 ifB (Nat.beq i13 2) (U1 (fun g14 =>
 .out 0 [g14] h11) x12) (
 .no))) args)
theorem st105 (call : TCall) (args : List AVal) (h : TH) : kFunc call A105 args h = F105 call args h := by kernel_rfl
noncomputable def A106 : AFunc := ⟨2, (.seq (.region [.op 0 (.box 2 true (.tmp 0)),
 .op 1 (.box 3 true (.tmp 1)),
 .op 2 (.mov 4 (.const (.bool false)))] [])
 (.seq (.seq (.region [.op 0 (.faddr 5 11 (.tmp 2)),
 .op 1 (.load 6 false 1 (.tmp 5)),
 .op 2 (.faddr 7 11 (.tmp 3)),
 .op 3 (.load 8 false 1 (.tmp 7)),
 .op 4 (.call 9 147 [.tmp 6, .tmp 8]),
 .op 5 (.un 10 .not (.tmp 9)),
 .op 6 (.mov 11 (.tmp 10)),
 .guard 11 false [.op 7 (.faddr 12 12 (.tmp 2)),
 .op 8 (.load 13 false 1 (.tmp 12)),
 .op 9 (.faddr 14 12 (.tmp 3)),
 .op 10 (.load 15 false 1 (.tmp 14)),
 .op 11 (.call 16 148 [.tmp 13, .tmp 15]),
 .op 12 (.un 17 .not (.tmp 16))] [] [17],
 .op 13 (.pick 18 (.tmp 11) (.const (.bool true)) (.tmp 17))] [])
 (.cond (.tmp 18)
 (.seq (.region [.op 0 (.mov 4 (.const (.bool false)))] [])
 .ret)
 .skip))
 (.seq (.region [.op 0 (.faddr 19 0 (.tmp 2)),
 .op 1 (.load 20 false 1 (.tmp 19)),
 .op 2 (.faddr 21 0 (.tmp 3)),
 .op 3 (.load 22 false 1 (.tmp 21)),
 .op 4 (.bin 23 .eql .plain (.tmp 20) (.tmp 22)),
 .op 5 (.mov 24 (.tmp 23)),
 .guard 24 true [.op 6 (.faddr 25 1 (.tmp 2)),
 .op 7 (.load 26 false 1 (.tmp 25)),
 .op 8 (.faddr 27 1 (.tmp 3)),
 .op 9 (.load 28 false 1 (.tmp 27)),
 .op 10 (.bin 29 .eql .plain (.tmp 26) (.tmp 28))] [] [29],
 .op 11 (.pick 30 (.tmp 24) (.tmp 29) (.const (.bool false))),
 .op 12 (.mov 31 (.tmp 30)),
 .guard 31 true [.op 13 (.faddr 32 2 (.tmp 2)),
 .op 14 (.load 33 false 1 (.tmp 32)),
 .op 15 (.faddr 34 2 (.tmp 3)),
 .op 16 (.load 35 false 1 (.tmp 34)),
 .op 17 (.bin 36 .eql .plain (.tmp 33) (.tmp 35))] [] [36],
 .op 18 (.pick 37 (.tmp 31) (.tmp 36) (.const (.bool false))),
 .op 19 (.mov 38 (.tmp 37)),
 .guard 38 true [.op 20 (.faddr 39 3 (.tmp 2)),
 .op 21 (.load 40 false 1 (.tmp 39)),
 .op 22 (.faddr 41 3 (.tmp 3)),
 .op 23 (.load 42 false 1 (.tmp 41)),
 .op 24 (.bin 43 .eql .plain (.tmp 40) (.tmp 42))] [] [43],
 .op 25 (.pick 44 (.tmp 38) (.tmp 43) (.const (.bool false))),
 .op 26 (.mov 45 (.tmp 44)),
 .guard 45 true [.op 27 (.faddr 46 4 (.tmp 2)),
 .op 28 (.load 47 false 1 (.tmp 46)),
 .op 29 (.faddr 48 4 (.tmp 3)),
 .op 30 (.load 49 false 1 (.tmp 48)),
 .op 31 (.bin 50 .eql .plain (.tmp 47) (.tmp 49))] [] [50],
 .op 32 (.pick 51 (.tmp 45) (.tmp 50) (.const (.bool false))),
 .op 33 (.mov 52 (.tmp 51)),
 .guard 52 true [.op 34 (.faddr 53 5 (.tmp 2)),
 .op 35 (.load 54 false 1 (.tmp 53)),
 .op 36 (.faddr 55 5 (.tmp 3)),
 .op 37 (.load 56 false 1 (.tmp 55)),
 .op 38 (.bin 57 .eql .plain (.tmp 54) (.tmp 56))] [] [57],
 .op 39 (.pick 58 (.tmp 52) (.tmp 57) (.const (.bool false))),
 .op 40 (.mov 59 (.tmp 58)),
 .guard 59 true [.op 41 (.faddr 60 6 (.tmp 2)),
 .op 42 (.load 61 false 1 (.tmp 60)),
 .op 43 (.faddr 62 6 (.tmp 3)),
 .op 44 (.load 63 false 1 (.tmp 62)),
 .op 45 (.bin 64 .eql .plain (.tmp 61) (.tmp 63))] [] [64],
 .op 46 (.pick 65 (.tmp 59) (.tmp 64) (.const (.bool false))),
 .op 47 (.mov 66 (.tmp 65)),
 .guard 66 true [.op 48 (.faddr 67 7 (.tmp 2)),
 .op 49 (.load 68 true 2 (.tmp 67)),
 .op 50 (.faddr 69 7 (.tmp 3)),
 .op 51 (.load 70 true 2 (.tmp 69)),
 .op 52 (.bin 71 .eql (.cells [2, 2]) (.tmp 68) (.tmp 70))] [] [71],
 .op 53 (.pick 72 (.tmp 66) (.tmp 71) (.const (.bool false))),
 .op 54 (.mov 73 (.tmp 72)),
 .guard 73 true [.op 55 (.faddr 74 9 (.tmp 2)),
 .op 56 (.load 75 false 1 (.tmp 74)),
 .op 57 (.faddr 76 9 (.tmp 3)),
 .op 58 (.load 77 false 1 (.tmp 76)),
 .op 59 (.bin 78 .eql .bool (.tmp 75) (.tmp 77))] [] [78],
 .op 60 (.pick 79 (.tmp 73) (.tmp 78) (.const (.bool false))),
 .op 61 (.mov 80 (.tmp 79)),
 .guard 80 true [.op 62 (.faddr 81 10 (.tmp 2)),
 .op 63 (.load 82 false 1 (.tmp 81)),
 .op 64 (.faddr 83 10 (.tmp 3)),
 .op 65 (.load 84 false 1 (.tmp 83)),
 .op 66 (.bin 85 .eql .plain (.tmp 82) (.tmp 84))] [] [85],
 .op 67 (.pick 86 (.tmp 80) (.tmp 85) (.const (.bool false))),
 .op 68 (.mov 4 (.tmp 86))] [])
 .ret))),
 [.tmp 4]⟩
theorem ok106 : funcOk Tryz.prog (drawOk Tryz.prog) Tryz.f106 A106 = true := by kernel_rfl
noncomputable def F106 (call : TCall) (args : List AVal) (h : TH) : KR := ans (U2 (fun a0 a1 =>
 V (kCellsQ a0) fun c1 =>
 V (kCellsQ a1) fun c2 =>
 V (kLdL c1 false 11 1) fun v3 =>
 V (kLdL c2 false 11 1) fun v4 =>
 R (call 147 [v3, v4] h) fun v5 h6 =>
 V (kNot v5) fun v7 =>
 Jn (G v7 false
 (V (kLdL c1 false 12 1) fun v8 =>
 V (kLdL c2 false 12 1) fun v9 =>
 R (call 148 [v8, v9] h6) fun v10 h11 =>
 V (kNot v10) fun v12 =>
 .out 0 [v12] h11)
 (.out 0 [skipV] h6)) fun _ x14 h13 =>
 U1 (fun g15 =>
 V (kPick v7 (.bool true) g15) fun v16 =>
 C v16
 (.out 0 [(.bool false)] h13)
 (V (kLdL c1 false 0 1) fun v17 =>
 V (kLdL c2 false 0 1) fun v18 =>
 V (kEql v17 v18) fun v19 =>
 Jn (G v19 true
 (V (kLdL c1 false 1 1) fun v20 =>
 V (kLdL c2 false 1 1) fun v21 =>
 V (kEql v20 v21) fun v22 =>
 .out 0 [v22] h13)
 (.out 0 [skipV] h13)) fun _ x24 h23 =>
 U1 (fun g25 =>
 V (kPick v19 g25 (.bool false)) fun v26 =>
 Jn (G v26 true
 (V (kLdL c1 false 2 1) fun v27 =>
 V (kLdL c2 false 2 1) fun v28 =>
 V (kEql v27 v28) fun v29 =>
 .out 0 [v29] h23)
 (.out 0 [skipV] h23)) fun _ x31 h30 =>
 U1 (fun g32 =>
 V (kPick v26 g32 (.bool false)) fun v33 =>
 Jn (G v33 true
 (V (kLdL c1 false 3 1) fun v34 =>
 V (kLdL c2 false 3 1) fun v35 =>
 V (kEql v34 v35) fun v36 =>
 .out 0 [v36] h30)
 (.out 0 [skipV] h30)) fun _ x38 h37 =>
 U1 (fun g39 =>
 V (kPick v33 g39 (.bool false)) fun v40 =>
 Jn (G v40 true
 (V (kLdL c1 false 4 1) fun v41 =>
 V (kLdL c2 false 4 1) fun v42 =>
 V (kEql v41 v42) fun v43 =>
 .out 0 [v43] h37)
 (.out 0 [skipV] h37)) fun _ x45 h44 =>
 U1 (fun g46 =>
 V (kPick v40 g46 (.bool false)) fun v47 =>
 Jn (G v47 true
 (V (kLdL c1 false 5 1) fun v48 =>
 V (kLdL c2 false 5 1) fun v49 =>
 V (kEql v48 v49) fun v50 =>
 .out 0 [v50] h44)
 (.out 0 [skipV] h44)) fun _ x52 h51 =>
 U1 (fun g53 =>
 V (kPick v47 g53 (.bool false)) fun v54 =>
 Jn (G v54 true
 (V (kLdL c1 false 6 1) fun v55 =>
 V (kLdL c2 false 6 1) fun v56 =>
 V (kEql v55 v56) fun v57 =>
 .out 0 [v57] h51)
 (.out 0 [skipV] h51)) fun _ x59 h58 =>
 U1 (fun g60 =>
 V (kPick v54 g60 (.bool false)) fun v61 =>
 Jn (G v61 true
 (V (kLdL c1 true 7 2) fun v62 =>
 V (kLdL c2 true 7 2) fun v63 =>
 V (kEq (.cells [2, 2]) v62 v63) fun v64 =>
 .out 0 [v64] h58)
 (.out 0 [skipV] h58)) fun _ x66 h65 =>
 U1 (fun g67 =>
 V (kPick v61 g67 (.bool false)) fun v68 =>
 Jn (G v68 true
 (V (kLdL c1 false 9 1) fun v69 =>
 V (kLdL c2 false 9 1) fun v70 =>
 V (kEq .bool v69 v70) fun v71 =>
 .out 0 [v71] h65)
 (.out 0 [skipV] h65)) fun _ x73 h72 =>
 U1 (fun g74 =>
 V (kPick v68 g74 (.bool false)) fun v75 =>
 Jn (G v75 true
 (V (kLdL c1 false 10 1) fun v76 =>
 V (kLdL c2 false 10 1) fun v77 =>
 V (kEql v76 v77) fun v78 =>
 .out 0 [v78] h72)
 (.out 0 [skipV] h72)) fun _ x80 h79 =>
 U1 (fun g81 =>
 V (kPick v75 g81 (.bool false)) fun v82 =>
 .out 0 [v82] h79) x80) x73) x66) x59) x52) x45) x38) x31) x24)) x14) args)
theorem st106 (call : TCall) (args : List AVal) (h : TH) : kFunc call A106 args h = F106 call args h := by kernel_rfl
noncomputable def A107 : AFunc := ⟨1, (.seq (.region [.op 0 (.box 1 true (.tmp 0)),
 .op 1 (.mov 2 (.const (.bool false)))] [])
 (.seq (.region [.op 0 (.faddr 3 0 (.tmp 1)),
 .op 1 (.load 4 false 1 (.tmp 3)),
 .op 2 (.bin 5 .eql .plain (.tmp 4) (.const (.int .i64 1))),
 .op 3 (.mov 6 (.tmp 5)),
 .guard 6 false [.op 4 (.faddr 7 0 (.tmp 1)),
 .op 5 (.load 8 false 1 (.tmp 7)),
 .op 6 (.bin 9 .eql .plain (.tmp 8) (.const (.int .i64 2)))] [] [9],
 .op 7 (.pick 10 (.tmp 6) (.const (.bool true)) (.tmp 9)),
 .op 8 (.mov 2 (.tmp 10))] [])
 .ret)),
 [.tmp 2]⟩
theorem ok107 : funcOk Tryz.prog (drawOk Tryz.prog) Tryz.f107 A107 = true := by kernel_rfl
noncomputable def F107 (call : TCall) (args : List AVal) (h : TH) : KR := ans (U1 (fun a0 =>
 V (kCellsQ a0) fun c1 =>
 V (kLdL c1 false 0 1) fun v2 =>
 V (kEql v2 (.int .i64 1)) fun v3 =>
 Jn (G v3 false
 (V (kLdL c1 false 0 1) fun v4 =>
 V (kEql v4 (.int .i64 2)) fun v5 =>
 .out 0 [v5] h)
 (.out 0 [skipV] h)) fun _ x7 h6 =>
 U1 (fun g8 =>
 V (kPick v3 (.bool true) g8) fun v9 =>
 .out 0 [v9] h6) x7) args)
theorem st107 (call : TCall) (args : List AVal) (h : TH) : kFunc call A107 args h = F107 call args h := by kernel_rfl
noncomputable def A108 : AFunc := ⟨2, (.seq (.region [.op 0 (.mov 4 (.const (.int .i64 0)))] [])
 (.seq (.seq (.region [.op 0 (.mov 6 (.tmp 0)),
 .op 1 (.len 7 false (.tmp 6)),
 .op 2 (.mov 8 (.const (.int .i64 0)))] [])
 (.block 0 (.loop ⟨[0, 1, 7, 8], []⟩ [((.exit 0), ⟨[], []⟩), (.ret, ⟨[4], []⟩)]
 (.seq (.region [.op 0 (.bin 9 .lss .plain (.tmp 8) (.tmp 7))] [])
 (.seq (.cond (.tmp 9)
 .skip
 (.exit 0))
 (.seq (.block 1 (.seq (.region [.op 0 (.mov 10 (.tmp 8)),
 .op 1 (.mov 5 (.tmp 10))] [])
 (.seq (.region [.op 0 (.mov 11 (.tmp 1)),
 .op 1 (.mov 12 (.tmp 0)),
 .op 2 (.mov 13 (.tmp 5)),
 .op 3 (.iaddr 14 none 9 (.tmp 12) (.tmp 13)),
 .op 4 (.load 15 true 9 (.tmp 14)),
 .op 5 (.callv 16 (.tmp 11) [.tmp 15])] [])
 (.cond (.tmp 16)
 (.seq (.region [.op 0 (.mov 17 (.tmp 5)),
 .op 1 (.mov 4 (.tmp 17))] [])
 .ret)
 .skip))))
 (.region [.op 0 (.bin 18 .add .plain (.tmp 8) (.const (.int .i64 1))),
 .op 1 (.mov 8 (.tmp 18))] [])))))))
 (.seq (.region [.op 0 (.mov 4 (.const (.int .i64 (-1))))] [])
 .ret))),
 [.tmp 4]⟩
theorem ok108 : funcOk Tryz.prog (drawOk Tryz.prog) Tryz.f108 A108 = true := by kernel_rfl
noncomputable def L108_0 (call : TCall) (xs : List AVal) (h : TH) : KJ :=
 U4 (fun g2 g3 g4 g5 =>
 V (kLss g5 g4) fun v6 =>
 C v6
 (V (kIaddr 9 g2 g5) fun v7 =>
 V (kLdA h 9 v7) fun v8 =>
 V (kFn g3) fun q9 =>
 R (call q9.1 ([v8] ++ q9.2) h) fun v10 h11 =>
 C v10
 (.out 2 [g5] h11)
 (V (kAdd g5 (.int .i64 1)) fun v12 =>
 .out 0 [g2, g3, g4, v12] h11))
 (.out 1 [] h)) xs
noncomputable def F108 (call : TCall) (args : List AVal) (h : TH) : KR := ans (U2 (fun a0 a1 =>
 V (kLen false a0) fun v1 =>
 Jn (Lp (L108_0 call) [a0, a1, v1, (.int .i64 0)] h) fun i15 x14 h13 =>
 ifB (Nat.beq i15 1) (U0 (.out 0 [(.int .i64 (-1))] h13) x14) (
 ifB (Nat.beq i15 2) (U1 (fun g16 =>
 .out 0 [g16] h13) x14) (
 .no))) args)
theorem st108 (call : TCall) (args : List AVal) (h : TH) : kFunc call A108 args h = F108 call args h := by kernel_rfl
noncomputable def A109 : AFunc := ⟨1, (.seq (.region [.op 0 (.box 1 true (.tmp 0)),
 .op 1 (.mov 2 (.const (.bool false)))] [])
 (.seq (.region [.op 0 (.faddr 3 0 (.tmp 1)),
 .op 1 (.load 4 false 1 (.tmp 3)),
 .op 2 (.bin 5 .geq .plain (.tmp 4) (.const (.int .i64 0))),
 .op 3 (.mov 6 (.tmp 5)),
 .guard 6 true [.op 4 (.faddr 7 2 (.tmp 1)),
 .op 5 (.load 8 false 1 (.tmp 7)),
 .op 6 (.bin 9 .geq .plain (.tmp 8) (.const (.int .i64 0)))] [] [9],
 .op 7 (.pick 10 (.tmp 6) (.tmp 9) (.const (.bool false))),
 .op 8 (.mov 11 (.tmp 10)),
 .guard 11 true [.op 9 (.faddr 12 1 (.tmp 1)),
 .op 10 (.load 13 false 1 (.tmp 12)),
 .op 11 (.bin 14 .geq .plain (.tmp 13) (.const (.int .i64 0)))] [] [14],
 .op 12 (.pick 15 (.tmp 11) (.tmp 14) (.const (.bool false))),
 .op 13 (.mov 16 (.tmp 15)),
 .guard 16 true [.op 14 (.faddr 17 1 (.tmp 1)),
 .op 15 (.load 18 false 1 (.tmp 17)),
 .op 16 (.bin 19 .lss .plain (.tmp 18) (.const (.int .i64 6)))] [] [19],
 .op 17 (.pick 20 (.tmp 16) (.tmp 19) (.const (.bool false))),
 .op 18 (.mov 2 (.tmp 20))] [])
 .ret)),
 [.tmp 2]⟩
theorem ok109 : funcOk Tryz.prog (drawOk Tryz.prog) Tryz.f109 A109 = true := by kernel_rfl
noncomputable def F109 (call : TCall) (args : List AVal) (h : TH) : KR := ans (U1 (fun a0 =>
 V (kCellsQ a0) fun c1 =>
 V (kLdL c1 false 0 1) fun v2 =>
 V (kGeq v2 (.int .i64 0)) fun v3 =>
 Jn (G v3 true
 (V (kLdL c1 false 2 1) fun v4 =>
 V (kGeq v4 (.int .i64 0)) fun v5 =>
 .out 0 [v5] h)
 (.out 0 [skipV] h)) fun _ x7 h6 =>
 U1 (fun g8 =>
 V (kPick v3 g8 (.bool false)) fun v9 =>
 Jn (G v9 true
 (V (kLdL c1 false 1 1) fun v10 =>
 V (kGeq v10 (.int .i64 0)) fun v11 =>
 .out 0 [v11] h6)
 (.out 0 [skipV] h6)) fun _ x13 h12 =>
 U1 (fun g14 =>
 V (kPick v9 g14 (.bool false)) fun v15 =>
 Jn (G v15 true
 (V (kLdL c1 false 1 1) fun v16 =>
 V (kLss v16 (.int .i64 6)) fun v17 =>
 .out 0 [v17] h12)
 (.out 0 [skipV] h12)) fun _ x19 h18 =>
 U1 (fun g20 =>
 V (kPick v15 g20 (.bool false)) fun v21 =>
 .out 0 [v21] h18) x19) x13) x7) args)
theorem st109 (call : TCall) (args : List AVal) (h : TH) : kFunc call A109 args h = F109 call args h := by kernel_rfl
noncomputable def A110 : AFunc := ⟨2, (.seq (.region [.op 0 (.mov 4 (.const (.int .i64 0)))] [])
 (.seq (.seq (.region [.op 0 (.mov 6 (.tmp 0)),
 .op 1 (.len 7 false (.tmp 6)),
 .op 2 (.mov 8 (.const (.int .i64 0)))] [])
 (.block 0 (.loop ⟨[0, 1, 7, 8], []⟩ [((.exit 0), ⟨[], []⟩), (.ret, ⟨[4], []⟩)]
 (.seq (.region [.op 0 (.bin 9 .lss .plain (.tmp 8) (.tmp 7))] [])
 (.seq (.cond (.tmp 9)
 .skip
 (.exit 0))
 (.seq (.block 1 (.seq (.region [.op 0 (.mov 10 (.tmp 8)),
 .op 1 (.mov 5 (.tmp 10))] [])
 (.seq (.region [.op 0 (.mov 11 (.tmp 1)),
 .op 1 (.mov 12 (.tmp 0)),
 .op 2 (.mov 13 (.tmp 5)),
 .op 3 (.iaddr 14 none 2 (.tmp 12) (.tmp 13)),
 .op 4 (.load 15 true 2 (.tmp 14)),
 .op 5 (.callv 16 (.tmp 11) [.tmp 15])] [])
 (.cond (.tmp 16)
 (.seq (.region [.op 0 (.mov 17 (.tmp 5)),
 .op 1 (.mov 4 (.tmp 17))] [])
 .ret)
 .skip))))
 (.region [.op 0 (.bin 18 .add .plain (.tmp 8) (.const (.int .i64 1))),
 .op 1 (.mov 8 (.tmp 18))] [])))))))
 (.seq (.region [.op 0 (.mov 4 (.const (.int .i64 (-1))))] [])
 .ret))),
 [.tmp 4]⟩
theorem ok110 : funcOk Tryz.prog (drawOk Tryz.prog) Tryz.f110 A110 = true := by kernel_rfl
noncomputable def L110_0 (call : TCall) (xs : List AVal) (h : TH) : KJ :=
 U4 (fun g2 g3 g4 g5 =>
 V (kLss g5 g4) fun v6 =>
 C v6
 (V (kIaddr 2 g2 g5) fun v7 =>
 V (kLdA h 2 v7) fun v8 =>
 V (kFn g3) fun q9 =>
 R (call q9.1 ([v8] ++ q9.2) h) fun v10 h11 =>
 C v10
 (.out 2 [g5] h11)
 (V (kAdd g5 (.int .i64 1)) fun v12 =>
 .out 0 [g2, g3, g4, v12] h11))
 (.out 1 [] h)) xs
noncomputable def F110 (call : TCall) (args : List AVal) (h : TH) : KR := ans (U2 (fun a0 a1 =>
 V (kLen false a0) fun v1 =>
 Jn (Lp (L110_0 call) [a0, a1, v1, (.int .i64 0)] h) fun i15 x14 h13 =>
 ifB (Nat.beq i15 1) (U0 (.out 0 [(.int .i64 (-1))] h13) x14) (
 ifB (Nat.beq i15 2) (U1 (fun g16 =>
 .out 0 [g16] h13) x14) (
 .no))) args)
theorem st110 (call : TCall) (args : List AVal) (h : TH) : kFunc call A110 args h = F110 call args h := by kernel_rfl
noncomputable def A111 : AFunc := ⟨2, (.seq (.region [.op 0 (.alloc 4 true [.int .i64 0, .int .i64 0, .int .i64 0, .int .i64 0, .int .i64 0, .int .i64 0, .int .i64 0, .str [], .str [], .bool false, .int .u32 0, .nilSlice, .nilSlice])] [])
 (.seq (.seq (.region [.op 0 (.mov 6 (.tmp 0)),
 .op 1 (.bin 7 .eql .ptr (.tmp 6) (.const (.nilPtr))),
 .op 2 (.mov 8 (.tmp 7)),
 .guard 8 false [.op 3 (.mov 9 (.tmp 1)),
 .op 4 (.bin 10 .eql .ptr (.tmp 9) (.const (.nilPtr)))] [] [10],
 .op 5 (.pick 11 (.tmp 8) (.const (.bool true)) (.tmp 10))] [])
 (.cond (.tmp 11)
 (.seq (.region [.op 0 (.build 12 [.int .i64 0, .int .i64 0, .int .i64 0, .int .i64 0, .int .i64 0, .int .i64 0, .int .i64 0, .str [], .str [], .bool false, .int .u32 0, .nilSlice, .nilSlice] []),
 .op 1 (.store true 13 (.tmp 4) (.tmp 12))] [])
 .ret)
 .skip))
 (.seq (.region [.op 0 (.mov 13 (.tmp 0)),
 .op 1 (.mov 14 (.tmp 1)),
 .op 2 (.call 15 149 [.tmp 13, .tmp 14]),
 .op 3 (.alloc 5 true [.int .i64 0, .int .i64 0, .int .i64 0, .int .i64 0, .int .i64 0, .int .i64 0, .int .i64 0, .str [], .str [], .bool false, .int .u32 0, .nilSlice, .nilSlice]),
 .op 4 (.store true 13 (.tmp 5) (.tmp 15))] [])
 (.seq (.region [.op 0 (.mov 16 (.tmp 0)),
 .op 1 (.call 17 32 [.tmp 16]),
 .op 2 (.call 18 150 [.tmp 17]),
 .op 3 (.faddr 19 9 (.tmp 5)),
 .op 4 (.store false 1 (.tmp 19) (.const (.bool true))),
 .op 5 (.faddr 20 11 (.tmp 5)),
 .op 6 (.store false 1 (.tmp 20) (.tmp 18))] [])
 (.seq (.region [.op 0 (.load 21 true 13 (.tmp 5)),
 .op 1 (.store true 13 (.tmp 4) (.tmp 21))] [])
 .ret))))),
 [.cell 4 true 13]⟩
theorem ok111 : funcOk Tryz.prog (drawOk Tryz.prog) Tryz.f111 A111 = true := by kernel_rfl
noncomputable def F111 (call : TCall) (args : List AVal) (h : TH) : KR := ans (U2 (fun a0 a1 =>
 V (kEq .ptr a0 (.nilPtr)) fun v1 =>
 Jn (G v1 false
 (V (kEq .ptr a1 (.nilPtr)) fun v2 =>
 .out 0 [v2] h)
 (.out 0 [skipV] h)) fun _ x4 h3 =>
 U1 (fun g5 =>
 V (kPick v1 (.bool true) g5) fun v6 =>
 C v6
 (V (aFill [.int .i64 0, .int .i64 0, .int .i64 0, .int .i64 0, .int .i64 0, .int .i64 0, .int .i64 0, .str [], .str [], .bool false, .int .u32 0, .nilSlice, .nilSlice] []) fun c7 =>
 V (kStL [.int .i64 0, .int .i64 0, .int .i64 0, .int .i64 0, .int .i64 0, .int .i64 0, .int .i64 0, .str [], .str [], .bool false, .int .u32 0, .nilSlice, .nilSlice] 0 13 (.agg c7)) fun c8 =>
 V (kLdL c8 true 0 13) fun v9 =>
 .out 0 [v9] h3)
 (R (call 149 [a0, a1] h3) fun v10 h11 =>
 V (kStL [.int .i64 0, .int .i64 0, .int .i64 0, .int .i64 0, .int .i64 0, .int .i64 0, .int .i64 0, .str [], .str [], .bool false, .int .u32 0, .nilSlice, .nilSlice] 0 13 v10) fun c12 =>
 R (call 32 [a0] h11) fun v13 h14 =>
 R (call 150 [v13] h14) fun v15 h16 =>
 V (kStL c12 9 1 (.bool true)) fun c17 =>
 V (kStL c17 11 1 v15) fun c18 =>
 V (kLdL c18 true 0 13) fun v19 =>
 V (kStL [.int .i64 0, .int .i64 0, .int .i64 0, .int .i64 0, .int .i64 0, .int .i64 0, .int .i64 0, .str [], .str [], .bool false, .int .u32 0, .nilSlice, .nilSlice] 0 13 v19) fun c20 =>
 V (kLdL c20 true 0 13) fun v21 =>
 .out 0 [v21] h16)) x4) args)
theorem st111 (call : TCall) (args : List AVal) (h : TH) : kFunc call A111 args h = F111 call args h := by kernel_rfl
noncomputable def A113 : AFunc := ⟨5, (.seq (.region [.op 0 (.box 6 true (.tmp 1)),
 .op 1 (.box 7 true (.tmp 2)),
 .op 2 (.mov 10 (.const (.nilSlice))),
 .op 3 (.mov 11 (.const (.int .i64 0)))] [])
 (.seq (.seq (.region [.op 0 (.faddr 13 5 (.tmp 6)),
 .op 1 (.load 14 false 1 (.tmp 13)),
 .op 2 (.bin 15 .lss .plain (.tmp 14) (.const (.int .i64 1))),
 .op 3 (.mov 16 (.tmp 15)),
 .guard 16 false [.op 4 (.faddr 17 5 (.tmp 6)),
 .op 5 (.load 18 false 1 (.tmp 17)),
 .op 6 (.bin 19 .gtr .plain (.tmp 18) (.const (.int .i64 1048576)))] [] [19],
 .op 7 (.pick 20 (.tmp 16) (.const (.bool true)) (.tmp 19)),
 .op 8 (.mov 21 (.tmp 20)),
 .guard 21 false [.op 9 (.faddr 22 2 (.tmp 6)),
 .op 10 (.load 23 false 1 (.tmp 22)),
 .op 11 (.bin 24 .neq .plain (.tmp 23) (.const (.int .i64 1))),
 .op 12 (.mov 25 (.tmp 24)),
 .guard 25 true [.op 13 (.faddr 26 2 (.tmp 6)),
 .op 14 (.load 27 false 1 (.tmp 26)),
 .op 15 (.bin 28 .neq .plain (.tmp 27) (.const (.int .i64 2)))] [] [28],
 .op 16 (.pick 29 (.tmp 25) (.tmp 28) (.const (.bool false)))] [] [29],
 .op 17 (.pick 30 (.tmp 21) (.const (.bool true)) (.tmp 29))] [])
 (.cond (.tmp 30)
 (.seq (.region [.op 0 (.mov 10 (.const (.nilSlice))),
 .op 1 (.mov 11 (.const (.int .i64 1)))] [])
 .ret)
 .skip))
 (.seq (.regionF 1 [.op 0 (.faddr 31 7 (.tmp 6)),
 .op 1 (.load 32 true 2 (.tmp 31)),
 .op 2 (.faddr 33 2 (.tmp 6)),
 .op 3 (.load 34 false 1 (.tmp 33)),
 .op 4 (.faddr 35 5 (.tmp 6)),
 .op 5 (.load 36 false 1 (.tmp 35)),
 .op 6 (.mov 37 (.tmp 0)),
 .op 7 (.faddr 38 0 (.tmp 7)),
 .op 8 (.load 39 true 9 (.tmp 38)),
 .op 9 (.mov 40 (.tmp 4)),
 .op 10 (.call 41 117 [.tmp 37, .tmp 39, .tmp 40]),
 .op 11 (.build 42 [.str [], .str [], .int .i64 0, .int .i64 0, .int .i64 0, .int .i64 0, .int .i64 0, .int .i64 0, .bool false] [(0, 2, .tmp 32), (2, 1, .tmp 34), (4, 1, .tmp 36), (5, 3, .tmp 41)]),
 .op 12 (.fl 12 0 none [.str [], .str [], .int .i64 0, .int .i64 0, .int .i64 0, .int .i64 0, .int .i64 0, .int .i64 0, .bool false] []),
 .op 13 (.store true 9 (.tmp 12) (.tmp 42))] [(1, 10), (3, 10), (5, 10)])
 (.seq (.region [.op 0 (.mov 43 (.tmp 0)),
 .op 1 (.load 44 true 10 (.tmp 7)),
 .op 2 (.mov 45 (.tmp 3)),
 .op 3 (.load 46 true 9 (.tmp 12)),
 .op 4 (.mov 47 (.tmp 4)),
 .op 5 (.call 48 152 [.tmp 44, .tmp 45, .tmp 46, .tmp 47]),
 .op 6 (.call 49 119 [.tmp 43, .tmp 48]),
 .op 7 (.extract 50 (.tmp 49) 0),
 .op 8 (.extract 51 (.tmp 49) 1),
 .op 9 (.mov 10 (.tmp 50)),
 .op 10 (.mov 11 (.tmp 51))] [])
 .ret)))),
 [.tmp 10, .tmp 11]⟩
theorem ok113 : funcOk Tryz.prog (drawOk Tryz.prog) Tryz.f113 A113 = true := by kernel_rfl
noncomputable def F113 (call : TCall) (args : List AVal) (h : TH) : KR := ans (U5 (fun a0 a1 a2 a3 a4 =>
 V (kCellsQ a1) fun c1 =>
 V (kCellsQ a2) fun c2 =>
 V (kLdL c1 false 5 1) fun v3 =>
 V (kLss v3 (.int .i64 1)) fun v4 =>
 Jn (G v4 false
 (V (kLdL c1 false 5 1) fun v5 =>
 V (kGtr v5 (.int .i64 1048576)) fun v6 =>
 .out 0 [v6] h)
 (.out 0 [skipV] h)) fun _ x8 h7 =>
 U1 (fun g9 =>
 V (kPick v4 (.bool true) g9) fun v10 =>
 Jn (G v10 false
 (V (kLdL c1 false 2 1) fun v11 =>
 V (kNeq v11 (.int .i64 1)) fun v12 =>
 Jn (G v12 true
 (V (kLdL c1 false 2 1) fun v13 =>
 V (kNeq v13 (.int .i64 2)) fun v14 =>
 .out 0 [v14] h7)
 (.out 0 [skipV] h7)) fun _ x16 h15 =>
 U1 (fun g17 =>
 V (kPick v12 g17 (.bool false)) fun v18 =>
 .out 0 [v18] h15) x16)
 (.out 0 [skipV] h7)) fun _ x20 h19 =>
 U1 (fun g21 =>
 V (kPick v10 (.bool true) g21) fun v22 =>
 C v22
 (.out 0 [.tuple [(.nilSlice), (.int .i64 1)]] h19)
 (V (kLdL c1 true 7 2) fun v23 =>
 V (kLdL c1 false 2 1) fun v24 =>
 V (kLdL c1 false 5 1) fun v25 =>
 V (kLdL c2 true 0 9) fun v26 =>
 R (call 117 [a0, v26, a4] (h19.res 1)) fun v27 h28 =>
 V (aFill [.str [], .str [], .int .i64 0, .int .i64 0, .int .i64 0, .int .i64 0, .int .i64 0, .int .i64 0, .bool false] [(0, 2, v23), (2, 1, v24), (4, 1, v25), (5, 3, v27)]) fun c29 =>
 V (kSt (h28.setBlk (h19.next + 0) (some ⟨[.str [], .str [], .int .i64 0, .int .i64 0, .int .i64 0, .int .i64 0, .int .i64 0, .int .i64 0, .bool false], true⟩)) 9 (.ptr (h19.next + 0) 0) (.agg c29)) fun h30 =>
 ifB (kCheck [(10, some (.ef [(7, c2), (6, c1)] (h19.res 1) [(7, c2), (6, c1)] h28)), (5, some (.lrd 6 5 1)), (3, some (.lrd 6 2 1)), (1, some (.lrd 6 7 2))] [(1, 10), (3, 10), (5, 10)]) (V (kLdL c2 true 0 10) fun v31 =>
 V (kLdA h30 9 (.ptr (h19.next + 0) 0)) fun v32 =>
 R (call 152 [v31, a3, v32, a4] h30) fun v33 h34 =>
 R (call 119 [a0, v33] h34) fun v35 h36 =>
 V (kExtract 0 v35) fun v37 =>
 V (kExtract 1 v35) fun v38 =>
 .out 0 [.tuple [v37, v38]] h36) .no)) x20) x8) args)
theorem st113 (call : TCall) (args : List AVal) (h : TH) : kFunc call A113 args h = F113 call args h := by kernel_rfl
noncomputable def A117 : AFunc := ⟨3, (.seq (.region [.op 0 (.box 4 true (.tmp 1)),
 .op 1 (.alloc 6 true [.int .i64 0, .int .i64 0, .int .i64 0])] [])
 (.seq (.region [.op 0 (.mov 7 (.tmp 0)),
 .op 1 (.nilchk 8 (.tmp 7)),
 .op 2 (.faddr 9 1 (.tmp 8)),
 .op 3 (.load 10 true 3 (.tmp 9)),
 .op 4 (.faddr 11 5 (.tmp 4)),
 .op 5 (.load 12 true 3 (.tmp 11)),
 .op 6 (.call 13 154 [.tmp 10, .tmp 12]),
 .op 7 (.mov 14 (.tmp 2)),
 .op 8 (.mov 15 (.tmp 0)),
 .op 9 (.nilchk 16 (.tmp 15)),
 .op 10 (.faddr 17 0 (.tmp 16)),
 .op 11 (.load 18 false 1 (.tmp 17)),
 .op 12 (.call 19 153 [.tmp 13, .tmp 14, .tmp 18]),
 .op 13 (.store true 3 (.tmp 6) (.tmp 19))] [(11, 6)])
 .ret)),
 [.cell 6 true 3]⟩
theorem ok117 : funcOk Tryz.prog (drawOk Tryz.prog) Tryz.f117 A117 = true := by kernel_rfl
noncomputable def F117 (call : TCall) (args : List AVal) (h : TH) : KR := ans (U3 (fun a0 a1 a2 =>
 V (kCellsQ a1) fun c1 =>
 V (kNil a0) fun v2 =>
 V (kFaddr 1 v2) fun v3 =>
 V (kLdA h 3 v3) fun v4 =>
 V (kLdL c1 true 5 3) fun v5 =>
 R (call 154 [v4, v5] h) fun v6 h7 =>
 V (kNil a0) fun v8 =>
 V (kFaddr 0 v8) fun v9 =>
 V (kLd1 h7 v9) fun v10 =>
 R (call 153 [v6, a2, v10] h7) fun v11 h12 =>
 V (kStL [.int .i64 0, .int .i64 0, .int .i64 0] 0 3 v11) fun c13 =>
 ifB (kCheck [(11, kLogRd v9 1), (6, some (.ef [(6, [.int .i64 0, .int .i64 0, .int .i64 0]), (4, c1)] h [(6, [.int .i64 0, .int .i64 0, .int .i64 0]), (4, c1)] h7))] [(11, 6)]) (V (kLdL c13 true 0 3) fun v14 =>
 .out 0 [v14] h12) .no) args)
theorem st117 (call : TCall) (args : List AVal) (h : TH) : kFunc call A117 args h = F117 call args h := by kernel_rfl
noncomputable def A119 : AFunc := ⟨2, (.seq (.region [.op 0 (.box 3 true (.tmp 1)),
 .op 1 (.mov 4 (.const (.nilSlice))),
 .op 2 (.mov 5 (.const (.int .i64 0)))] [])
 (.seq (.seq (.region [.op 0 (.mov 7 (.tmp 0)),
 .op 1 (.load 8 true 10 (.tmp 3)),
 .op 2 (.call 9 87 [.tmp 7, .tmp 8]),
 .op 3 (.mov 6 (.tmp 9))] [])
 (.seq (.region [.op 0 (.mov 10 (.tmp 6)),
 .op 1 (.bin 11 .neq .plain (.tmp 10) (.const (.int .i64 0)))] [])
 (.cond (.tmp 11)
 (.seq (.region [.op 0 (.mov 12 (.tmp 6)),
 .op 1 (.mov 4 (.const (.nilSlice))),
 .op 2 (.mov 5 (.tmp 12))] [])
 .ret)
 .skip)))
 (.seq (.region [.op 0 (.mov 13 (.tmp 0)),
 .op 1 (.faddr 14 0 (.tmp 3)),
 .op 2 (.faddr 15 5 (.tmp 14)),
 .op 3 (.load 16 true 3 (.tmp 15)),
 .op 4 (.nilchk 17 (.tmp 13)),
 .op 5 (.faddr 18 1 (.tmp 17)),
 .op 6 (.store true 3 (.tmp 18) (.tmp 16))] [])
 (.seq (.region [.op 0 (.faddr 19 0 (.tmp 3)),
 .op 1 (.load 20 true 9 (.tmp 19)),
 .op 2 (.buildSl 21 [.str [], .str [], .int .i64 0, .int .i64 0, .int .i64 0, .int .i64 0, .int .i64 0, .int .i64 0, .bool false] 9 1 [(0, .tmp 20)]),
 .op 3 (.mov 4 (.tmp 21)),
 .op 4 (.mov 5 (.const (.int .i64 0)))] [])
 .ret)))),
 [.tmp 4, .tmp 5]⟩
theorem ok119 : funcOk Tryz.prog (drawOk Tryz.prog) Tryz.f119 A119 = true := by kernel_rfl
noncomputable def F119 (call : TCall) (args : List AVal) (h : TH) : KR := ans (U2 (fun a0 a1 =>
 V (kCellsQ a1) fun c1 =>
 V (kLdL c1 true 0 10) fun v2 =>
 R (call 87 [a0, v2] h) fun v3 h4 =>
 V (kNeq v3 (.int .i64 0)) fun v5 =>
 C v5
 (.out 0 [.tuple [(.nilSlice), v3]] h4)
 (V (kLdL c1 true 5 3) fun v6 =>
 V (kNil a0) fun v7 =>
 V (kFaddr 1 v7) fun v8 =>
 V (kSt h4 3 v8 v6) fun h9 =>
 V (kLdL c1 true 0 9) fun v10 =>
 V (aFill (reps [.str [], .str [], .int .i64 0, .int .i64 0, .int .i64 0, .int .i64 0, .int .i64 0, .int .i64 0, .bool false] 1) [(0, 9, v10)]) fun c11 =>
 .out 0 [.tuple [(.slice h9.next 0 1 1 9 true), (.int .i64 0)]] (h9.alloc c11))) args)
theorem st119 (call : TCall) (args : List AVal) (h : TH) : kFunc call A119 args h = F119 call args h := by kernel_rfl
noncomputable def A120 : AFunc := ⟨2, (.seq (.region [.op 0 (.mov 4 (.const (.nilSlice)))] [])
 (.seq (.region [.op 0 (.mov 8 (.tmp 0)),
 .op 1 (.mov 9 (.tmp 1)),
 .op 2 (.call 10 108 [.tmp 8, .tmp 9]),
 .op 3 (.mov 5 (.tmp 10))] [])
 (.seq (.seq (.region [.op 0 (.mov 11 (.tmp 5)),
 .op 1 (.bin 12 .eql .plain (.tmp 11) (.const (.int .i64 (-1))))] [])
 (.cond (.tmp 12)
 (.seq (.region [.op 0 (.mov 13 (.tmp 0)),
 .op 1 (.mov 4 (.tmp 13))] [])
 .ret)
 .skip))
 (.seq (.seq (.region [.op 0 (.mov 14 (.tmp 5)),
 .op 1 (.bin 15 .add .plain (.tmp 14) (.const (.int .i64 1))),
 .op 2 (.mov 6 (.tmp 15))] [])
 (.block 0 (.loop ⟨[0, 1, 5, 6], []⟩ [((.exit 0), ⟨[0, 5], []⟩)]
 (.seq (.seq (.region [.op 0 (.mov 16 (.tmp 6)),
 .op 1 (.mov 17 (.tmp 0)),
 .op 2 (.len 18 false (.tmp 17)),
 .op 3 (.bin 19 .lss .plain (.tmp 16) (.tmp 18))] [])
 (.cond (.tmp 19)
 .skip
 (.exit 0)))
 (.seq (.block 1 (.seq (.region [.op 0 (.mov 22 (.tmp 0)),
 .op 1 (.mov 23 (.tmp 6)),
 .op 2 (.iaddr 24 none 9 (.tmp 22) (.tmp 23)),
 .op 3 (.load 25 true 9 (.tmp 24)),
 .op 4 (.alloc 7 true [.str [], .str [], .int .i64 0, .int .i64 0, .int .i64 0, .int .i64 0, .int .i64 0, .int .i64 0, .bool false]),
 .op 5 (.store true 9 (.tmp 7) (.tmp 25))] [])
 (.seq (.region [.op 0 (.mov 26 (.tmp 1)),
 .op 1 (.load 27 true 9 (.tmp 7)),
 .op 2 (.callv 28 (.tmp 26) [.tmp 27]),
 .op 3 (.un 29 .not (.tmp 28))] [])
 (.join [(.normal, ⟨[0, 1, 5, 6], []⟩)] (.cond (.tmp 29)
 (.seq (.region [.op 0 (.mov 30 (.tmp 0)),
 .op 1 (.mov 31 (.tmp 5)),
 .op 2 (.load 32 true 9 (.tmp 7)),
 .op 3 (.iaddr 33 none 9 (.tmp 30) (.tmp 31)),
 .op 4 (.store true 9 (.tmp 33) (.tmp 32))] [])
 (.region [.op 0 (.mov 34 (.tmp 5)),
 .op 1 (.bin 35 .add .plain (.tmp 34) (.const (.int .i64 1))),
 .op 2 (.mov 5 (.tmp 35))] []))
 .skip)))))
 (.region [.op 0 (.mov 20 (.tmp 6)),
 .op 1 (.bin 21 .add .plain (.tmp 20) (.const (.int .i64 1))),
 .op 2 (.mov 6 (.tmp 21))] []))))))
 (.seq (.region [.op 0 (.mov 36 (.tmp 0)),
 .op 1 (.mov 37 (.tmp 5)),
 .op 2 (.slice 38 (.sl 9) (.tmp 36) (some (.tmp 37)) none none),
 .op 3 (.clear 0 [.str [], .str [], .int .i64 0, .int .i64 0, .int .i64 0, .int .i64 0, .int .i64 0, .int .i64 0, .bool false] (.tmp 38))] [])
 (.seq (.region [.op 0 (.mov 39 (.tmp 0)),
 .op 1 (.mov 40 (.tmp 5)),
 .op 2 (.slice 41 (.sl 9) (.tmp 39) none (some (.tmp 40)) none),
 .op 3 (.mov 4 (.tmp 41))] [])
 .ret)))))),
 [.tmp 4]⟩
theorem ok120 : funcOk Tryz.prog (drawOk Tryz.prog) Tryz.f120 A120 = true := by kernel_rfl
noncomputable def L120_0 (call : TCall) (xs : List AVal) (h : TH) : KJ :=
 U4 (fun g5 g6 g7 g8 =>
 V (kLen false g5) fun v9 =>
 V (kLss g8 v9) fun v10 =>
 C v10
 (V (kIaddr 9 g5 g8) fun v11 =>
 V (kLdA h 9 v11) fun v12 =>
 V (kStL [.str [], .str [], .int .i64 0, .int .i64 0, .int .i64 0, .int .i64 0, .int .i64 0, .int .i64 0, .bool false] 0 9 v12) fun c13 =>
 V (kLdL c13 true 0 9) fun v14 =>
 V (kFn g6) fun q15 =>
 R (call q15.1 ([v14] ++ q15.2) h) fun v16 h17 =>
 V (kNot v16) fun v18 =>
 Jn (C v18
 (V (kLdL c13 true 0 9) fun v19 =>
 V (kIaddr 9 g5 g7) fun v20 =>
 V (kSt h17 9 v20 v19) fun h21 =>
 V (kAdd g7 (.int .i64 1)) fun v22 =>
 .out 0 [g5, g6, v22, g8] h21)
 (.out 0 [g5, g6, g7, g8] h17)) fun i25 x24 h23 =>
 ifB (Nat.beq i25 0) (U4 (fun g26 g27 g28 g29 =>
 V (kAdd g29 (.int .i64 1)) fun v30 =>
 .out 0 [g26, g27, g28, v30] h23) x24) (
 .no))
 (.out 1 [g5, g7] h)) xs
noncomputable def F120 (call : TCall) (args : List AVal) (h : TH) : KR := ans (U2 (fun a0 a1 =>
 R (call 108 [a0, a1] h) fun v1 h2 =>
 V (kEql v1 (.int .i64 (-1))) fun v3 =>
 C v3
 (.out 0 [a0] h2)
 (V (kAdd v1 (.int .i64 1)) fun v4 =>
 Jn (Lp (L120_0 call) [a0, a1, v1, v4] h2) fun i33 x32 h31 =>
 ifB (Nat.beq i33 1) (U2 (fun g34 g35 =>
 V (kSlSl 9 g34 (some g35) none none) fun v36 =>
 R (kClear [.str [], .str [], .int .i64 0, .int .i64 0, .int .i64 0, .int .i64 0, .int .i64 0, .int .i64 0, .bool false] v36 h31) fun _ h38 =>
 V (kSlSl 9 g34 none (some g35) none) fun v39 =>
 .out 0 [v39] h38) x32) (
 .no))) args)
theorem st120 (call : TCall) (args : List AVal) (h : TH) : kFunc call A120 args h = F120 call args h := by kernel_rfl
noncomputable def A121 : AFunc := ⟨2, (.seq (.region [.op 0 (.box 2 true (.tmp 0)),
 .op 1 (.mov 3 (.const (.bool false)))] [])
 (.seq (.region [.op 0 (.faddr 4 0 (.tmp 2)),
 .op 1 (.load 5 true 2 (.tmp 4)),
 .op 2 (.faddr 6 0 (.tmp 1)),
 .op 3 (.load 7 true 2 (.tmp 6)),
 .op 4 (.bin 8 .eql (.cells [2, 2]) (.tmp 5) (.tmp 7)),
 .op 5 (.mov 3 (.tmp 8))] [])
 .ret)),
 [.tmp 3]⟩
theorem ok121 : funcOk Tryz.prog (drawOk Tryz.prog) Tryz.f121 A121 = true := by kernel_rfl
noncomputable def F121 (call : TCall) (args : List AVal) (h : TH) : KR := ans (U2 (fun a0 a1 =>
 V (kCellsQ a0) fun c1 =>
 V (kLdL c1 true 0 2) fun v2 =>
 V (kFaddr 0 a1) fun v3 =>
 V (kLdA h 2 v3) fun v4 =>
 V (kEq (.cells [2, 2]) v2 v4) fun v5 =>
 .out 0 [v5] h) args)
theorem st121 (call : TCall) (args : List AVal) (h : TH) : kFunc call A121 args h = F121 call args h := by kernel_rfl
noncomputable def A122 : AFunc := ⟨3, (.seq (.region [.op 0 (.mov 6 (.const (.nilSlice)))] [])
 (.seq (.region [.op 0 (.mov 8 (.tmp 0)),
 .op 1 (.mov 9 (.tmp 1)),
 .op 2 (.mov 10 (.tmp 2)),
 .op 3 (.mov 11 (.tmp 0)),
 .op 4 (.len 12 false (.tmp 11)),
 .op 5 (.slice 13 (.sl 9) (.tmp 8) (some (.tmp 9)) (some (.tmp 10)) (some (.tmp 12)))] [])
 (.seq (.seq (.region [.op 0 (.mov 14 (.tmp 1)),
 .op 1 (.mov 15 (.tmp 2)),
 .op 2 (.bin 16 .eql .plain (.tmp 14) (.tmp 15))] [])
 (.cond (.tmp 16)
 (.seq (.region [.op 0 (.mov 17 (.tmp 0)),
 .op 1 (.mov 6 (.tmp 17))] [])
 .ret)
 .skip))
 (.seq (.region [.op 0 (.mov 18 (.tmp 0)),
 .op 1 (.len 19 false (.tmp 18)),
 .op 2 (.mov 7 (.tmp 19))] [])
 (.seq (.region [.op 0 (.mov 20 (.tmp 0)),
 .op 1 (.mov 21 (.tmp 1)),
 .op 2 (.slice 22 (.sl 9) (.tmp 20) none (some (.tmp 21)) none),
 .op 3 (.mov 23 (.tmp 0)),
 .op 4 (.mov 24 (.tmp 2)),
 .op 5 (.slice 25 (.sl 9) (.tmp 23) (some (.tmp 24)) none none),
 .op 6 (.append 26 9 88 [.str [], .str [], .int .i64 0, .int .i64 0, .int .i64 0, .int .i64 0, .int .i64 0, .int .i64 0, .bool false] false (.tmp 22) (.tmp 25)),
 .op 7 (.mov 0 (.tmp 26))] [])
 (.seq (.region [.op 0 (.mov 27 (.tmp 0)),
 .op 1 (.mov 28 (.tmp 0)),
 .op 2 (.len 29 false (.tmp 28)),
 .op 3 (.mov 30 (.tmp 7)),
 .op 4 (.slice 31 (.sl 9) (.tmp 27) (some (.tmp 29)) (some (.tmp 30)) none),
 .op 5 (.clear 0 [.str [], .str [], .int .i64 0, .int .i64 0, .int .i64 0, .int .i64 0, .int .i64 0, .int .i64 0, .bool false] (.tmp 31))] [])
 (.seq (.region [.op 0 (.mov 32 (.tmp 0)),
 .op 1 (.mov 6 (.tmp 32))] [])
 .ret))))))),
 [.tmp 6]⟩
theorem ok122 : funcOk Tryz.prog (drawOk Tryz.prog) Tryz.f122 A122 = true := by kernel_rfl
noncomputable def F122 (call : TCall) (args : List AVal) (h : TH) : KR := ans (U3 (fun a0 a1 a2 =>
 V (kLen false a0) fun v1 =>
 V (kSlSl 9 a0 (some a1) (some a2) (some v1)) fun v2 =>
 V (kEql a1 a2) fun v3 =>
 C v3
 (.out 0 [a0] h)
 (V (kLen false a0) fun v4 =>
 V (kSlSl 9 a0 none (some a1) none) fun v5 =>
 V (kSlSl 9 a0 (some a2) none none) fun v6 =>
 R (kAppend 9 88 [.str [], .str [], .int .i64 0, .int .i64 0, .int .i64 0, .int .i64 0, .int .i64 0, .int .i64 0, .bool false] false v5 v6 h) fun v7 h8 =>
 V (kLen false v7) fun v9 =>
 V (kSlSl 9 v7 (some v9) (some v4) none) fun v10 =>
 R (kClear [.str [], .str [], .int .i64 0, .int .i64 0, .int .i64 0, .int .i64 0, .int .i64 0, .int .i64 0, .bool false] v10 h8) fun _ h12 =>
 .out 0 [v7] h12)) args)
theorem st122 (call : TCall) (args : List AVal) (h : TH) : kFunc call A122 args h = F122 call args h := by kernel_rfl
noncomputable def A123 : AFunc := ⟨2, (.seq (.region [.op 0 (.box 3 true (.tmp 1)),
 .op 1 (.mov 4 (.const (.int .i64 0))),
 .op 2 (.mov 5 (.const (.bool false)))] [])
 (.seq (.region [.op 0 (.mov 6 (.const (.int .i64 0)))] [])
 (.seq (.block 0 (.loop ⟨[0, 6], [3]⟩ [((.exit 0), ⟨[0, 6], [3]⟩)]
 (.seq (.seq (.region [.op 0 (.mov 7 (.tmp 6)),
 .op 1 (.mov 8 (.tmp 0)),
 .op 2 (.nilchk 9 (.tmp 8)),
 .op 3 (.faddr 10 1 (.tmp 9)),
 .op 4 (.load 11 false 1 (.tmp 10)),
 .op 5 (.len 12 false (.tmp 11)),
 .op 6 (.bin 13 .lss .plain (.tmp 7) (.tmp 12)),
 .op 7 (.mov 14 (.tmp 13)),
 .guard 14 true [.op 8 (.mov 15 (.tmp 0)),
 .op 9 (.nilchk 16 (.tmp 15)),
 .op 10 (.faddr 17 1 (.tmp 16)),
 .op 11 (.load 18 false 1 (.tmp 17)),
 .op 12 (.mov 19 (.tmp 6)),
 .op 13 (.iaddr 20 none 10 (.tmp 18) (.tmp 19)),
 .op 14 (.faddr 21 0 (.tmp 20)),
 .op 15 (.faddr 22 0 (.tmp 21)),
 .op 16 (.load 23 true 2 (.tmp 22)),
 .op 17 (.load 24 true 2 (.tmp 3)),
 .op 18 (.call 25 155 [.tmp 23, .tmp 24])] [] [25],
 .op 19 (.pick 26 (.tmp 14) (.tmp 25) (.const (.bool false)))] [])
 (.cond (.tmp 26)
 .skip
 (.exit 0)))
 (.block 1 (.region [.op 0 (.mov 27 (.tmp 6)),
 .op 1 (.bin 28 .add .plain (.tmp 27) (.const (.int .i64 1))),
 .op 2 (.mov 6 (.tmp 28))] [])))))
 (.seq (.region [.op 0 (.mov 29 (.tmp 6)),
 .op 1 (.mov 30 (.tmp 6)),
 .op 2 (.mov 31 (.tmp 0)),
 .op 3 (.nilchk 32 (.tmp 31)),
 .op 4 (.faddr 33 1 (.tmp 32)),
 .op 5 (.load 34 false 1 (.tmp 33)),
 .op 6 (.len 35 false (.tmp 34)),
 .op 7 (.bin 36 .lss .plain (.tmp 30) (.tmp 35)),
 .op 8 (.mov 37 (.tmp 36)),
 .guard 37 true [.op 9 (.mov 38 (.tmp 0)),
 .op 10 (.nilchk 39 (.tmp 38)),
 .op 11 (.faddr 40 1 (.tmp 39)),
 .op 12 (.load 41 false 1 (.tmp 40)),
 .op 13 (.mov 42 (.tmp 6)),
 .op 14 (.iaddr 43 none 10 (.tmp 41) (.tmp 42)),
 .op 15 (.faddr 44 0 (.tmp 43)),
 .op 16 (.faddr 45 0 (.tmp 44)),
 .op 17 (.load 46 true 2 (.tmp 45)),
 .op 18 (.load 47 true 2 (.tmp 3)),
 .op 19 (.bin 48 .eql (.cells [2, 2]) (.tmp 46) (.tmp 47))] [] [48],
 .op 20 (.pick 49 (.tmp 37) (.tmp 48) (.const (.bool false))),
 .op 21 (.mov 4 (.tmp 29)),
 .op 22 (.mov 5 (.tmp 49))] [])
 .ret)))),
 [.tmp 4, .tmp 5]⟩
theorem ok123 : funcOk Tryz.prog (drawOk Tryz.prog) Tryz.f123 A123 = true := by kernel_rfl
noncomputable def L123_0 (call : TCall) (xs : List AVal) (h : TH) : KJ :=
 U3 (fun g2 g3 g4 =>
 V (kNil g2) fun v5 =>
 V (kFaddr 1 v5) fun v6 =>
 V (kLd1 h v6) fun v7 =>
 V (kLen false v7) fun v8 =>
 V (kLss g3 v8) fun v9 =>
 Jn (G v9 true
 (V (kNil g2) fun v10 =>
 V (kFaddr 1 v10) fun v11 =>
 V (kLd1 h v11) fun v12 =>
 V (kIaddr 10 v12 g3) fun v13 =>
 V (kFaddr 0 v13) fun v14 =>
 V (kFaddr 0 v14) fun v15 =>
 V (kLdA h 2 v15) fun v16 =>
 V (kLdL (kAggCells g4) true 0 2) fun v17 =>
 R (call 155 [v16, v17] h) fun v18 h19 =>
 .out 0 [v18] h19)
 (.out 0 [skipV] h)) fun _ x21 h20 =>
 U1 (fun g22 =>
 V (kPick v9 g22 (.bool false)) fun v23 =>
 C v23
 (V (kAdd g3 (.int .i64 1)) fun v24 =>
 .out 0 [g2, v24, (.agg (kAggCells g4))] h20)
 (.out 1 [g2, g3, (.agg (kAggCells g4))] h20)) x21) xs
noncomputable def F123 (call : TCall) (args : List AVal) (h : TH) : KR := ans (U2 (fun a0 a1 =>
 V (kCellsQ a1) fun c1 =>
 Jn (Lp (L123_0 call) [a0, (.int .i64 0), (.agg c1)] h) fun i27 x26 h25 =>
 ifB (Nat.beq i27 1) (U3 (fun g28 g29 g30 =>
 V (kNil g28) fun v31 =>
 V (kFaddr 1 v31) fun v32 =>
 V (kLd1 h25 v32) fun v33 =>
 V (kLen false v33) fun v34 =>
 V (kLss g29 v34) fun v35 =>
 Jn (G v35 true
 (V (kNil g28) fun v36 =>
 V (kFaddr 1 v36) fun v37 =>
 V (kLd1 h25 v37) fun v38 =>
 V (kIaddr 10 v38 g29) fun v39 =>
 V (kFaddr 0 v39) fun v40 =>
 V (kFaddr 0 v40) fun v41 =>
 V (kLdA h25 2 v41) fun v42 =>
 V (kLdL (kAggCells g30) true 0 2) fun v43 =>
 V (kEq (.cells [2, 2]) v42 v43) fun v44 =>
 .out 0 [v44] h25)
 (.out 0 [skipV] h25)) fun _ x46 h45 =>
 U1 (fun g47 =>
 V (kPick v35 g47 (.bool false)) fun v48 =>
 .out 0 [.tuple [g29, v48]] h45) x46) x26) (
 .no)) args)
theorem st123 (call : TCall) (args : List AVal) (h : TH) : kFunc call A123 args h = F123 call args h := by kernel_rfl
noncomputable def A124 : AFunc := ⟨1, (.seq (.region [.op 0 (.mov 2 (.const (.int .i64 0)))] [])
 (.seq (.region [.op 0 (.mov 3 (.const (.int .i64 0)))] [])
 (.seq (.seq (.region [.op 0 (.mov 6 (.tmp 0)),
 .op 1 (.len 7 false (.tmp 6)),
 .op 2 (.mov 8 (.const (.int .i64 0)))] [])
 (.block 0 (.loop ⟨[3, 6, 7, 8], []⟩ [((.exit 0), ⟨[3], []⟩), (.ret, ⟨[2], []⟩)]
 (.seq (.region [.op 0 (.bin 9 .lss .plain (.tmp 8) (.tmp 7))] [])
 (.seq (.cond (.tmp 9)
 .skip
 (.exit 0))
 (.seq (.block 1 (.seq (.region [.op 0 (.iaddr 10 none 1 (.tmp 6) (.tmp 8)),
 .op 1 (.load 11 false 1 (.tmp 10)),
 .op 2 (.mov 5 (.tmp 11))] [])
 (.seq (.region [.op 0 (.mov 12 (.tmp 5)),
 .op 1 (.mov 13 (.tmp 3)),
 .op 2 (.bin 14 .neq .plain (.tmp 12) (.tmp 13))] [])
 (.cond (.tmp 14)
 (.seq (.region [.op 0 (.mov 15 (.tmp 5)),
 .op 1 (.mov 2 (.tmp 15))] [])
 .ret)
 .skip))))
 (.region [.op 0 (.bin 16 .add .plain (.tmp 8) (.const (.int .i64 1))),
 .op 1 (.mov 8 (.tmp 16))] [])))))))
 (.seq (.region [.op 0 (.mov 17 (.tmp 3)),
 .op 1 (.mov 2 (.tmp 17))] [])
 .ret)))),
 [.tmp 2]⟩
theorem ok124 : funcOk Tryz.prog (drawOk Tryz.prog) Tryz.f124 A124 = true := by kernel_rfl
noncomputable def L124_0 (call : TCall) (xs : List AVal) (h : TH) : KJ :=
 U4 (fun g2 g3 g4 g5 =>
 V (kLss g5 g4) fun v6 =>
 C v6
 (V (kIaddr 1 g3 g5) fun v7 =>
 V (kLd1 h v7) fun v8 =>
 V (kNeq v8 g2) fun v9 =>
 C v9
 (.out 2 [v8] h)
 (V (kAdd g5 (.int .i64 1)) fun v10 =>
 .out 0 [g2, g3, g4, v10] h))
 (.out 1 [g2] h)) xs
noncomputable def F124 (call : TCall) (args : List AVal) (h : TH) : KR := ans (U1 (fun a0 =>
 V (kLen false a0) fun v1 =>
 Jn (Lp (L124_0 call) [(.int .i64 0), a0, v1, (.int .i64 0)] h) fun i13 x12 h11 =>
 ifB (Nat.beq i13 1) (U1 (fun g14 =>
 .out 0 [g14] h11) x12) (
 ifB (Nat.beq i13 2) (U1 (fun g15 =>
 .out 0 [g15] h11) x12) (
 .no))) args)
theorem st124 (call : TCall) (args : List AVal) (h : TH) : kFunc call A124 args h = F124 call args h := by kernel_rfl
noncomputable def A125 : AFunc := ⟨2, (.seq (.region [.op 0 (.mov 4 (.const (.int .i64 0)))] [])
 (.seq (.region [.op 0 (.mov 7 (.tmp 0)),
 .op 1 (.call 8 156 [.tmp 7]),
 .op 2 (.mov 5 (.tmp 8))] [])
 (.seq (.region [.op 0 (.mov 9 (.tmp 1)),
 .op 1 (.call 10 156 [.tmp 9]),
 .op 2 (.mov 6 (.tmp 10))] [])
 (.seq (.seq (.region [.op 0 (.mov 11 (.tmp 5))] [])
 (.cond (.tmp 11)
 (.seq (.seq (.region [.op 0 (.mov 12 (.tmp 6))] [])
 (.cond (.tmp 12)
 (.seq (.region [.op 0 (.mov 4 (.const (.int .i64 0)))] [])
 .ret)
 .skip))
 (.seq (.region [.op 0 (.mov 4 (.const (.int .i64 (-1))))] [])
 .ret))
 .skip))
 (.seq (.seq (.region [.op 0 (.mov 13 (.tmp 6))] [])
 (.cond (.tmp 13)
 (.seq (.region [.op 0 (.mov 4 (.const (.int .i64 1)))] [])
 .ret)
 .skip))
 (.seq (.seq (.region [.op 0 (.mov 14 (.tmp 0)),
 .op 1 (.mov 15 (.tmp 1)),
 .op 2 (.bin 16 .lss .plain (.tmp 14) (.tmp 15))] [])
 (.cond (.tmp 16)
 (.seq (.region [.op 0 (.mov 4 (.const (.int .i64 (-1))))] [])
 .ret)
 .skip))
 (.seq (.seq (.region [.op 0 (.mov 17 (.tmp 0)),
 .op 1 (.mov 18 (.tmp 1)),
 .op 2 (.bin 19 .gtr .plain (.tmp 17) (.tmp 18))] [])
 (.cond (.tmp 19)
 (.seq (.region [.op 0 (.mov 4 (.const (.int .i64 1)))] [])
 .ret)
 .skip))
 (.seq (.region [.op 0 (.mov 4 (.const (.int .i64 0)))] [])
 .ret)))))))),
 [.tmp 4]⟩
theorem ok125 : funcOk Tryz.prog (drawOk Tryz.prog) Tryz.f125 A125 = true := by kernel_rfl
noncomputable def F125 (call : TCall) (args : List AVal) (h : TH) : KR := ans (U2 (fun a0 a1 =>
 R (call 156 [a0] h) fun v1 h2 =>
 R (call 156 [a1] h2) fun v3 h4 =>
 C v1
 (C v3
 (.out 0 [(.int .i64 0)] h4)
 (.out 0 [(.int .i64 (-1))] h4))
 (C v3
 (.out 0 [(.int .i64 1)] h4)
 (V (kLss a0 a1) fun v5 =>
 C v5
 (.out 0 [(.int .i64 (-1))] h4)
 (V (kGtr a0 a1) fun v6 =>
 C v6
 (.out 0 [(.int .i64 1)] h4)
 (.out 0 [(.int .i64 0)] h4))))) args)
theorem st125 (call : TCall) (args : List AVal) (h : TH) : kFunc call A125 args h = F125 call args h := by kernel_rfl
noncomputable def A126 : AFunc := ⟨2, (.seq (.region [.op 0 (.mov 4 (.const (.int .i64 0)))] [])
 (.seq (.region [.op 0 (.mov 7 (.tmp 0)),
 .op 1 (.call 8 157 [.tmp 7]),
 .op 2 (.mov 5 (.tmp 8))] [])
 (.seq (.region [.op 0 (.mov 9 (.tmp 1)),
 .op 1 (.call 10 157 [.tmp 9]),
 .op 2 (.mov 6 (.tmp 10))] [])
 (.seq (.seq (.region [.op 0 (.mov 11 (.tmp 5))] [])
 (.cond (.tmp 11)
 (.seq (.seq (.region [.op 0 (.mov 12 (.tmp 6))] [])
 (.cond (.tmp 12)
 (.seq (.region [.op 0 (.mov 4 (.const (.int .i64 0)))] [])
 .ret)
 .skip))
 (.seq (.region [.op 0 (.mov 4 (.const (.int .i64 (-1))))] [])
 .ret))
 .skip))
 (.seq (.seq (.region [.op 0 (.mov 13 (.tmp 6))] [])
 (.cond (.tmp 13)
 (.seq (.region [.op 0 (.mov 4 (.const (.int .i64 1)))] [])
 .ret)
 .skip))
 (.seq (.seq (.region [.op 0 (.mov 14 (.tmp 0)),
 .op 1 (.mov 15 (.tmp 1)),
 .op 2 (.bin 16 .lss .plain (.tmp 14) (.tmp 15))] [])
 (.cond (.tmp 16)
 (.seq (.region [.op 0 (.mov 4 (.const (.int .i64 (-1))))] [])
 .ret)
 .skip))
 (.seq (.seq (.region [.op 0 (.mov 17 (.tmp 0)),
 .op 1 (.mov 18 (.tmp 1)),
 .op 2 (.bin 19 .gtr .plain (.tmp 17) (.tmp 18))] [])
 (.cond (.tmp 19)
 (.seq (.region [.op 0 (.mov 4 (.const (.int .i64 1)))] [])
 .ret)
 .skip))
 (.seq (.region [.op 0 (.mov 4 (.const (.int .i64 0)))] [])
 .ret)))))))),
 [.tmp 4]⟩
theorem ok126 : funcOk Tryz.prog (drawOk Tryz.prog) Tryz.f126 A126 = true := by kernel_rfl
noncomputable def F126 (call : TCall) (args : List AVal) (h : TH) : KR := ans (U2 (fun a0 a1 =>
 R (call 157 [a0] h) fun v1 h2 =>
 R (call 157 [a1] h2) fun v3 h4 =>
 C v1
 (C v3
 (.out 0 [(.int .i64 0)] h4)
 (.out 0 [(.int .i64 (-1))] h4))
 (C v3
 (.out 0 [(.int .i64 1)] h4)
 (V (kLss a0 a1) fun v5 =>
 C v5
 (.out 0 [(.int .i64 (-1))] h4)
 (V (kGtr a0 a1) fun v6 =>
 C v6
 (.out 0 [(.int .i64 1)] h4)
 (.out 0 [(.int .i64 0)] h4))))) args)
theorem st126 (call : TCall) (args : List AVal) (h : TH) : kFunc call A126 args h = F126 call args h := by kernel_rfl
noncomputable def A127 : AFunc := ⟨2, (.seq (.region [.op 0 (.box 3 true (.tmp 1)),
 .op 1 (.mov 4 (.const (.int .i64 0)))] [])
 (.seq (.region [.op 0 (.mov 5 (.tmp 0)),
 .op 1 (.nilchk 6 (.tmp 5)),
 .op 2 (.faddr 7 0 (.tmp 6)),
 .op 3 (.load 8 false 1 (.tmp 7)),
 .op 4 (.bin 9 .add .plain (.tmp 8) (.const (.int .i64 1))),
 .op 5 (.nilchk 10 (.tmp 5)),
 .op 6 (.faddr 11 0 (.tmp 10)),
 .op 7 (.store false 1 (.tmp 11) (.tmp 9))] [])
 (.seq (.region [.op 0 (.mov 12 (.tmp 0)),
 .op 1 (.mov 13 (.tmp 0)),
 .op 2 (.nilchk 14 (.tmp 13)),
 .op 3 (.faddr 15 1 (.tmp 14)),
 .op 4 (.load 16 false 1 (.tmp 15)),
 .op 5 (.load 17 true 2 (.tmp 3)),
 .op 6 (.buildSl 18 [.str [], .str []] 2 1 [(0, .tmp 17)]),
 .op 7 (.append 19 2 32 [.str [], .str []] false (.tmp 16) (.tmp 18)),
 .op 8 (.nilchk 20 (.tmp 12)),
 .op 9 (.faddr 21 1 (.tmp 20)),
 .op 10 (.store false 1 (.tmp 21) (.tmp 19))] [(4, 6)])
 (.seq (.region [.op 0 (.mov 22 (.tmp 0)),
 .op 1 (.mov 23 (.tmp 0)),
 .op 2 (.nilchk 24 (.tmp 23)),
 .op 3 (.faddr 25 1 (.tmp 24)),
 .op 4 (.load 26 false 1 (.tmp 25)),
 .op 5 (.mov 27 (.tmp 0)),
 .op 6 (.nilchk 28 (.tmp 27)),
 .op 7 (.faddr 29 1 (.tmp 28)),
 .op 8 (.load 30 false 1 (.tmp 29)),
 .op 9 (.len 31 false (.tmp 30)),
 .op 10 (.bin 32 .sub .plain (.tmp 31) (.const (.int .i64 16))),
 .op 11 (.minmax 33 true [.const (.int .i64 0), .tmp 32]),
 .op 12 (.slice 34 (.sl 2) (.tmp 26) (some (.tmp 33)) none none),
 .op 13 (.call 35 158 [.tmp 34]),
 .op 14 (.nilchk 36 (.tmp 22)),
 .op 15 (.faddr 37 1 (.tmp 36)),
 .op 16 (.store false 1 (.tmp 37) (.tmp 35))] [])
 (.seq (.region [.op 0 (.mov 38 (.tmp 0)),
 .op 1 (.nilchk 39 (.tmp 38)),
 .op 2 (.faddr 40 0 (.tmp 39)),
 .op 3 (.load 41 false 1 (.tmp 40)),
 .op 4 (.mov 4 (.tmp 41))] [])
 .ret))))),
 [.tmp 4]⟩
theorem ok127 : funcOk Tryz.prog (drawOk Tryz.prog) Tryz.f127 A127 = true := by kernel_rfl
noncomputable def F127 (call : TCall) (args : List AVal) (h : TH) : KR := ans (U2 (fun a0 a1 =>
 V (kCellsQ a1) fun c1 =>
 V (kNil a0) fun v2 =>
 V (kFaddr 0 v2) fun v3 =>
 V (kLd1 h v3) fun v4 =>
 V (kAdd v4 (.int .i64 1)) fun v5 =>
 V (kNil a0) fun v6 =>
 V (kFaddr 0 v6) fun v7 =>
 V (kSt h 1 v7 v5) fun h8 =>
 V (kNil a0) fun v9 =>
 V (kFaddr 1 v9) fun v10 =>
 V (kLd1 h8 v10) fun v11 =>
 V (kLdL c1 true 0 2) fun v12 =>
 V (aFill (reps [.str [], .str []] 1) [(0, 2, v12)]) fun c13 =>
 R (kAppend 2 32 [.str [], .str []] false v11 (.slice h8.next 0 1 1 2 true) (h8.alloc c13)) fun v14 h15 =>
 V (kNil a0) fun v16 =>
 V (kFaddr 1 v16) fun v17 =>
 V (kSt h15 1 v17 v14) fun h18 =>
 ifB (kCheck [(6, some (.al h8.next)), (4, kLogRd v10 1)] [(4, 6)]) (V (kNil a0) fun v19 =>
 V (kFaddr 1 v19) fun v20 =>
 V (kLd1 h18 v20) fun v21 =>
 V (kNil a0) fun v22 =>
 V (kFaddr 1 v22) fun v23 =>
 V (kLd1 h18 v23) fun v24 =>
 V (kLen false v24) fun v25 =>
 V (kSub v25 (.int .i64 16)) fun v26 =>
 V (aMinMaxL true [(.int .i64 0), v26]) fun v27 =>
 V (kSlSl 2 v21 (some v27) none none) fun v28 =>
 R (call 158 [v28] h18) fun v29 h30 =>
 V (kNil a0) fun v31 =>
 V (kFaddr 1 v31) fun v32 =>
 V (kSt h30 1 v32 v29) fun h33 =>
 V (kNil a0) fun v34 =>
 V (kFaddr 0 v34) fun v35 =>
 V (kLd1 h33 v35) fun v36 =>
 .out 0 [v36] h33) .no) args)
theorem st127 (call : TCall) (args : List AVal) (h : TH) : kFunc call A127 args h = F127 call args h := by kernel_rfl
noncomputable def A128 : AFunc := ⟨3, (.seq (.region [.op 0 (.mov 6 (.const (.nilSlice)))] [])
 (.seq (.region [.op 0 (.mov 10 (.tmp 0)),
 .op 1 (.mov 11 (.tmp 1)),
 .op 2 (.slice 12 (.sl 10) (.tmp 10) (some (.tmp 11)) none none)] [])
 (.seq (.region [.op 0 (.mov 13 (.tmp 2)),
 .op 1 (.len 14 false (.tmp 13)),
 .op 2 (.mov 7 (.tmp 14))] [])
 (.seq (.seq (.region [.op 0 (.mov 15 (.tmp 7)),
 .op 1 (.bin 16 .eql .plain (.tmp 15) (.const (.int .i64 0)))] [])
 (.cond (.tmp 16)
 (.seq (.region [.op 0 (.mov 17 (.tmp 0)),
 .op 1 (.mov 6 (.tmp 17))] [])
 .ret)
 .skip))
 (.seq (.region [.op 0 (.mov 18 (.tmp 0)),
 .op 1 (.len 19 false (.tmp 18)),
 .op 2 (.mov 8 (.tmp 19))] [])
 (.seq (.seq (.region [.op 0 (.mov 20 (.tmp 1)),
 .op 1 (.mov 21 (.tmp 8)),
 .op 2 (.bin 22 .eql .plain (.tmp 20) (.tmp 21))] [])
 (.cond (.tmp 22)
 (.seq (.region [.op 0 (.mov 23 (.tmp 0)),
 .op 1 (.mov 24 (.tmp 2)),
 .op 2 (.append 25 10 96 [.str [], .str [], .int .i64 0, .int .i64 0, .int .i64 0, .int .i64 0, .int .i64 0, .int .i64 0, .bool false, .int .i64 0] false (.tmp 23) (.tmp 24)),
 .op 3 (.mov 6 (.tmp 25))] [])
 .ret)
 .skip))
 (.seq (.seq (.region [.op 0 (.mov 26 (.tmp 8)),
 .op 1 (.mov 27 (.tmp 7)),
 .op 2 (.bin 28 .add .plain (.tmp 26) (.tmp 27)),
 .op 3 (.mov 29 (.tmp 0)),
 .op 4 (.cap 30 (.tmp 29)),
 .op 5 (.bin 31 .gtr .plain (.tmp 28) (.tmp 30))] [])
 (.cond (.tmp 31)
 (.seq (.region [.op 0 (.mov 32 (.tmp 0)),
 .op 1 (.mov 33 (.tmp 1)),
 .op 2 (.slice 34 (.sl 10) (.tmp 32) none (some (.tmp 33)) none),
 .op 3 (.mov 35 (.tmp 8)),
 .op 4 (.mov 36 (.tmp 7)),
 .op 5 (.bin 37 .add .plain (.tmp 35) (.tmp 36)),
 .op 6 (.mov 38 (.tmp 1)),
 .op 7 (.bin 39 .sub .plain (.tmp 37) (.tmp 38)),
 .op 8 (.append 40 10 96 [.str [], .str [], .int .i64 0, .int .i64 0, .int .i64 0, .int .i64 0, .int .i64 0, .int .i64 0, .bool false, .int .i64 0] true (.tmp 34) (.tmp 39)),
 .op 9 (.mov 9 (.tmp 40))] [])
 (.seq (.region [.op 0 (.mov 41 (.tmp 9)),
 .op 1 (.mov 42 (.tmp 1)),
 .op 2 (.slice 43 (.sl 10) (.tmp 41) (some (.tmp 42)) none none),
 .op 3 (.mov 44 (.tmp 2)),
 .op 4 (.copy 45 10 (.tmp 43) (.tmp 44))] [])
 (.seq (.region [.op 0 (.mov 46 (.tmp 9)),
 .op 1 (.mov 47 (.tmp 1)),
 .op 2 (.mov 48 (.tmp 7)),
 .op 3 (.bin 49 .add .plain (.tmp 47) (.tmp 48)),
 .op 4 (.slice 50 (.sl 10) (.tmp 46) (some (.tmp 49)) none none),
 .op 5 (.mov 51 (.tmp 0)),
 .op 6 (.mov 52 (.tmp 1)),
 .op 7 (.slice 53 (.sl 10) (.tmp 51) (some (.tmp 52)) none none),
 .op 8 (.copy 54 10 (.tmp 50) (.tmp 53))] [])
 (.seq (.region [.op 0 (.mov 55 (.tmp 9)),
 .op 1 (.mov 6 (.tmp 55))] [])
 .ret))))
 .skip))
 (.seq (.region [.op 0 (.mov 56 (.tmp 0)),
 .op 1 (.mov 57 (.tmp 8)),
 .op 2 (.mov 58 (.tmp 7)),
 .op 3 (.bin 59 .add .plain (.tmp 57) (.tmp 58)),
 .op 4 (.slice 60 (.sl 10) (.tmp 56) none (some (.tmp 59)) none),
 .op 5 (.mov 0 (.tmp 60))] [])
 (.seq (.seq (.region [.op 0 (.mov 61 (.tmp 2)),
 .op 1 (.mov 62 (.tmp 0)),
 .op 2 (.mov 63 (.tmp 1)),
 .op 3 (.mov 64 (.tmp 7)),
 .op 4 (.bin 65 .add .plain (.tmp 63) (.tmp 64)),
 .op 5 (.slice 66 (.sl 10) (.tmp 62) (some (.tmp 65)) none none),
 .op 6 (.call 67 159 [.tmp 61, .tmp 66]),
 .op 7 (.un 68 .not (.tmp 67))] [])
 (.cond (.tmp 68)
 (.seq (.region [.op 0 (.mov 69 (.tmp 0)),
 .op 1 (.mov 70 (.tmp 1)),
 .op 2 (.mov 71 (.tmp 7)),
 .op 3 (.bin 72 .add .plain (.tmp 70) (.tmp 71)),
 .op 4 (.slice 73 (.sl 10) (.tmp 69) (some (.tmp 72)) none none),
 .op 5 (.mov 74 (.tmp 0)),
 .op 6 (.mov 75 (.tmp 1)),
 .op 7 (.slice 76 (.sl 10) (.tmp 74) (some (.tmp 75)) none none),
 .op 8 (.copy 77 10 (.tmp 73) (.tmp 76))] [])
 (.seq (.region [.op 0 (.mov 78 (.tmp 0)),
 .op 1 (.mov 79 (.tmp 1)),
 .op 2 (.slice 80 (.sl 10) (.tmp 78) (some (.tmp 79)) none none),
 .op 3 (.mov 81 (.tmp 2)),
 .op 4 (.copy 82 10 (.tmp 80) (.tmp 81))] [])
 (.seq (.region [.op 0 (.mov 83 (.tmp 0)),
 .op 1 (.mov 6 (.tmp 83))] [])
 .ret)))
 .skip))
 (.seq (.region [.op 0 (.mov 84 (.tmp 0)),
 .op 1 (.mov 85 (.tmp 8)),
 .op 2 (.slice 86 (.sl 10) (.tmp 84) (some (.tmp 85)) none none),
 .op 3 (.mov 87 (.tmp 2)),
 .op 4 (.copy 88 10 (.tmp 86) (.tmp 87))] [])
 (.seq (.region [.op 0 (.mov 89 (.tmp 0)),
 .op 1 (.mov 90 (.tmp 1)),
 .op 2 (.slice 91 (.sl 10) (.tmp 89) (some (.tmp 90)) none none),
 .op 3 (.mov 92 (.tmp 7)),
 .op 4 (.call 93 160 [.tmp 91, .tmp 92])] [])
 (.seq (.region [.op 0 (.mov 94 (.tmp 0)),
 .op 1 (.mov 6 (.tmp 94))] [])
 .ret)))))))))))),
 [.tmp 6]⟩
theorem ok128 : funcOk Tryz.prog (drawOk Tryz.prog) Tryz.f128 A128 = true := by kernel_rfl
noncomputable def F128 (call : TCall) (args : List AVal) (h : TH) : KR := ans (U3 (fun a0 a1 a2 =>
 V (kSlSl 10 a0 (some a1) none none) fun v1 =>
 V (kLen false a2) fun v2 =>
 V (kEql v2 (.int .i64 0)) fun v3 =>
 C v3
 (.out 0 [a0] h)
 (V (kLen false a0) fun v4 =>
 V (kEql a1 v4) fun v5 =>
 C v5
 (R (kAppend 10 96 [.str [], .str [], .int .i64 0, .int .i64 0, .int .i64 0, .int .i64 0, .int .i64 0, .int .i64 0, .bool false, .int .i64 0] false a0 a2 h) fun v6 h7 =>
 .out 0 [v6] h7)
 (V (kAdd v4 v2) fun v8 =>
 V (aCap a0) fun v9 =>
 V (kGtr v8 v9) fun v10 =>
 C v10
 (V (kSlSl 10 a0 none (some a1) none) fun v11 =>
 V (kAdd v4 v2) fun v12 =>
 V (kSub v12 a1) fun v13 =>
 R (kAppend 10 96 [.str [], .str [], .int .i64 0, .int .i64 0, .int .i64 0, .int .i64 0, .int .i64 0, .int .i64 0, .bool false, .int .i64 0] true v11 v13 h) fun v14 h15 =>
 V (kSlSl 10 v14 (some a1) none none) fun v16 =>
 R (kCopy 10 v16 a2 h15) fun v17 h18 =>
 V (kAdd a1 v2) fun v19 =>
 V (kSlSl 10 v14 (some v19) none none) fun v20 =>
 V (kSlSl 10 a0 (some a1) none none) fun v21 =>
 R (kCopy 10 v20 v21 h18) fun v22 h23 =>
 .out 0 [v14] h23)
 (V (kAdd v4 v2) fun v24 =>
 V (kSlSl 10 a0 none (some v24) none) fun v25 =>
 V (kAdd a1 v2) fun v26 =>
 V (kSlSl 10 v25 (some v26) none none) fun v27 =>
 R (call 159 [a2, v27] h) fun v28 h29 =>
 V (kNot v28) fun v30 =>
 C v30
 (V (kAdd a1 v2) fun v31 =>
 V (kSlSl 10 v25 (some v31) none none) fun v32 =>
 V (kSlSl 10 v25 (some a1) none none) fun v33 =>
 R (kCopy 10 v32 v33 h29) fun v34 h35 =>
 V (kSlSl 10 v25 (some a1) none none) fun v36 =>
 R (kCopy 10 v36 a2 h35) fun v37 h38 =>
 .out 0 [v25] h38)
 (V (kSlSl 10 v25 (some v4) none none) fun v39 =>
 R (kCopy 10 v39 a2 h29) fun v40 h41 =>
 V (kSlSl 10 v25 (some a1) none none) fun v42 =>
 R (call 160 [v42, v2] h41) fun v43 h44 =>
 .out 0 [v25] h44))))) args)
theorem st128 (call : TCall) (args : List AVal) (h : TH) : kFunc call A128 args h = F128 call args h := by kernel_rfl
noncomputable def A130 : AFunc := ⟨1, (.seq (.region [.op 0 (.mov 2 (.const (.nilSlice)))] [])
 (.seq (.region [.op 0 (.mov 4 (.tmp 0)),
 .op 1 (.call 5 161 [.tmp 4]),
 .op 2 (.mov 3 (.tmp 5))] [])
 (.seq (.region [.op 0 (.mov 6 (.tmp 3)),
 .op 1 (.call 7 162 [.tmp 6, .const (.func 163 [])])] [])
 (.seq (.region [.op 0 (.mov 8 (.tmp 3)),
 .op 1 (.call 9 165 [.tmp 8]),
 .op 2 (.mov 2 (.tmp 9))] [])
 .ret)))),
 [.tmp 2]⟩
theorem ok130 : funcOk Tryz.prog (drawOk Tryz.prog) Tryz.f130 A130 = true := by kernel_rfl
noncomputable def F130 (call : TCall) (args : List AVal) (h : TH) : KR := ans (U1 (fun a0 =>
 R (call 161 [a0] h) fun v1 h2 =>
 R (call 162 [v1, (.func 163 [])] h2) fun v3 h4 =>
 R (call 165 [v1] h4) fun v5 h6 =>
 .out 0 [v5] h6) args)
theorem st130 (call : TCall) (args : List AVal) (h : TH) : kFunc call A130 args h = F130 call args h := by kernel_rfl
noncomputable def A133 : AFunc := ⟨1, (.seq (.region [.op 0 (.box 1 true (.tmp 0)),
 .op 1 (.alloc 2 true [.int .i64 0, .int .i64 0, .nilSlice])] [])
 (.seq (.region [.op 0 (.faddr 3 2 (.tmp 1)),
 .op 1 (.load 4 false 1 (.tmp 3)),
 .op 2 (.call 5 166 [.tmp 4]),
 .op 3 (.faddr 6 2 (.tmp 1)),
 .op 4 (.store false 1 (.tmp 6) (.tmp 5))] [])
 (.seq (.region [.op 0 (.load 7 true 3 (.tmp 1)),
 .op 1 (.store true 3 (.tmp 2) (.tmp 7))] [])
 .ret))),
 [.cell 2 true 3]⟩
theorem ok133 : funcOk Tryz.prog (drawOk Tryz.prog) Tryz.f133 A133 = true := by kernel_rfl
noncomputable def F133 (call : TCall) (args : List AVal) (h : TH) : KR := ans (U1 (fun a0 =>
 V (kCellsQ a0) fun c1 =>
 V (kLdL c1 false 2 1) fun v2 =>
 R (call 166 [v2] h) fun v3 h4 =>
 V (kStL c1 2 1 v3) fun c5 =>
 V (kLdL c5 true 0 3) fun v6 =>
 V (kStL [.int .i64 0, .int .i64 0, .nilSlice] 0 3 v6) fun c7 =>
 V (kLdL c7 true 0 3) fun v8 =>
 .out 0 [v8] h4) args)
theorem st133 (call : TCall) (args : List AVal) (h : TH) : kFunc call A133 args h = F133 call args h := by kernel_rfl
noncomputable def A134 : AFunc := ⟨2, (.seq (.region [.op 0 (.mov 4 (.const (.bool false)))] [])
 (.seq (.region [.op 0 (.mov 5 (.tmp 1)),
 .op 1 (.bin 6 .geq .plain (.tmp 5) (.const (.int .i64 0))),
 .op 2 (.mov 7 (.tmp 6)),
 .guard 7 true [.op 3 (.mov 8 (.tmp 1)),
 .op 4 (.mov 9 (.tmp 0)),
 .op 5 (.nilchk 10 (.tmp 9)),
 .op 6 (.faddr 11 0 (.tmp 10)),
 .op 7 (.load 12 false 1 (.tmp 11)),
 .op 8 (.bin 13 .lss .plain (.tmp 8) (.tmp 12))] [] [13],
 .op 9 (.pick 14 (.tmp 7) (.tmp 13) (.const (.bool false))),
 .op 10 (.mov 4 (.tmp 14))] [])
 .ret)),
 [.tmp 4]⟩
theorem ok134 : funcOk Tryz.prog (drawOk Tryz.prog) Tryz.f134 A134 = true := by kernel_rfl
noncomputable def F134 (call : TCall) (args : List AVal) (h : TH) : KR := ans (U2 (fun a0 a1 =>
 V (kGeq a1 (.int .i64 0)) fun v1 =>
 Jn (G v1 true
 (V (kNil a0) fun v2 =>
 V (kFaddr 0 v2) fun v3 =>
 V (kLd1 h v3) fun v4 =>
 V (kLss a1 v4) fun v5 =>
 .out 0 [v5] h)
 (.out 0 [skipV] h)) fun _ x7 h6 =>
 U1 (fun g8 =>
 V (kPick v1 g8 (.bool false)) fun v9 =>
 .out 0 [v9] h6) x7) args)
theorem st134 (call : TCall) (args : List AVal) (h : TH) : kFunc call A134 args h = F134 call args h := by kernel_rfl
noncomputable def A135 : AFunc := ⟨2, (.seq (.region [.op 0 (.mov 4 (.const (.str [])))] [])
 (.seq (.seq (.region [.op 0 (.mov 10 (.tmp 1)),
 .op 1 (.bin 11 .eql .plain (.tmp 10) (.const (.int .i64 10)))] [])
 (.cond (.tmp 11)
 (.seq (.seq (.region [.op 0 (.mov 12 (.tmp 0)),
 .op 1 (.bin 13 .leq .plain (.const (.int .i64 0)) (.tmp 12)),
 .op 2 (.mov 14 (.tmp 13)),
 .guard 14 true [.op 3 (.mov 15 (.tmp 0)),
 .op 4 (.bin 16 .lss .plain (.tmp 15) (.const (.int .i64 100)))] [] [16],
 .op 5 (.pick 17 (.tmp 14) (.tmp 16) (.const (.bool false)))] [])
 (.cond (.tmp 17)
 (.seq (.region [.op 0 (.mov 18 (.tmp 0)),
 .op 1 (.call 19 167 [.tmp 18]),
 .op 2 (.mov 4 (.tmp 19))] [])
 .ret)
 .skip))
 (.seq (.region [.op 0 (.alloc 5 false [.int .u8 0, .int .u8 0, .int .u8 0, .int .u8 0, .int .u8 0, .int .u8 0, .int .u8 0, .int .u8 0, .int .u8 0, .int .u8 0, .int .u8 0, .int .u8 0, .int .u8 0, .int .u8 0, .int .u8 0, .int .u8 0, .int .u8 0, .int .u8 0, .int .u8 0, .int .u8 0, .int .u8 0, .int .u8 0, .int .u8 0, .int .u8 0])] [])
 (.seq (.region [.op 0 (.mov 20 (.tmp 0)),
 .op 1 (.conv 21 (.toInt .u64) (.tmp 20)),
 .op 2 (.mov 6 (.tmp 21))] [])
 (.seq (.seq (.region [.op 0 (.mov 22 (.tmp 0)),
 .op 1 (.bin 23 .lss .plain (.tmp 22) (.const (.int .i64 0)))] [])
 (.join [(.normal, ⟨[0, 5, 6], []⟩)] (.cond (.tmp 23)
 (.region [.op 0 (.mov 24 (.tmp 6)),
 .op 1 (.un 25 .neg (.tmp 24)),
 .op 2 (.mov 6 (.tmp 25))] [])
 .skip)))
 (.seq (.region [.op 0 (.mov 26 (.tmp 6)),
 .op 1 (.call 27 168 [.tmp 26]),
 .op 2 (.mov 7 (.tmp 27))] [])
 (.seq .dead
 (.seq (.seq (.region [.op 0 (.mov 33 (.tmp 0)),
 .op 1 (.bin 34 .lss .plain (.tmp 33) (.const (.int .i64 0)))] [])
 (.cond (.tmp 34)
 (.seq (.region [.op 0 (.iaddr 35 (some 24) 1 (.tmp 5) (.const (.int .i64 0))),
 .op 1 (.store false 1 (.tmp 35) (.const (.int .u8 45)))] [])
 (.seq .dead
 .ret))
 .skip))
 (.seq .dead
 .ret))))))))
 .skip))
 (.seq (.region [.op 0 (.mov 45 (.tmp 0)),
 .op 1 (.conv 46 (.toInt .u64) (.tmp 45)),
 .op 2 (.mov 47 (.tmp 1)),
 .op 3 (.mov 48 (.tmp 0)),
 .op 4 (.bin 49 .lss .plain (.tmp 48) (.const (.int .i64 0))),
 .op 5 (.call 50 170 [.const (.nilSlice), .tmp 46, .tmp 47, .tmp 49, .const (.bool false)]),
 .op 6 (.mov 44 (.tmp 50)),
 .op 7 (.extract 51 (.tmp 44) 0),
 .op 8 (.extract 52 (.tmp 44) 1),
 .op 9 (.mov 8 (.tmp 51)),
 .op 10 (.mov 9 (.tmp 52))] [])
 (.seq (.region [.op 0 (.mov 53 (.tmp 9)),
 .op 1 (.mov 4 (.tmp 53))] [])
 .ret)))),
 [.tmp 4]⟩
theorem ok135 : funcOk Tryz.prog (drawOk Tryz.prog) Tryz.f135 A135 = true := by kernel_rfl
noncomputable def F135 (call : TCall) (args : List AVal) (h : TH) : KR := ans (U2 (fun a0 a1 =>
 V (kEql a1 (.int .i64 10)) fun v1 =>
 C v1
 (V (kLeq (.int .i64 0) a0) fun v2 =>
 Jn (G v2 true
 (V (kLss a0 (.int .i64 100)) fun v3 =>
 .out 0 [v3] h)
 (.out 0 [skipV] h)) fun _ x5 h4 =>
 U1 (fun g6 =>
 V (kPick v2 g6 (.bool false)) fun v7 =>
 C v7
 (R (call 167 [a0] h4) fun v8 h9 =>
 .out 0 [v8] h9)
 (V (kToInt .u64 a0) fun v10 =>
 V (kLss a0 (.int .i64 0)) fun v11 =>
 Jn (C v11
 (V (aUn .neg v10) fun v12 =>
 .out 0 [a0, (.ptr h4.next 0), v12] (h4.alloc [.int .u8 0, .int .u8 0, .int .u8 0, .int .u8 0, .int .u8 0, .int .u8 0, .int .u8 0, .int .u8 0, .int .u8 0, .int .u8 0, .int .u8 0, .int .u8 0, .int .u8 0, .int .u8 0, .int .u8 0, .int .u8 0, .int .u8 0, .int .u8 0, .int .u8 0, .int .u8 0, .int .u8 0, .int .u8 0, .int .u8 0, .int .u8 0]))
 (.out 0 [a0, (.ptr h4.next 0), v10] (h4.alloc [.int .u8 0, .int .u8 0, .int .u8 0, .int .u8 0, .int .u8 0, .int .u8 0, .int .u8 0, .int .u8 0, .int .u8 0, .int .u8 0, .int .u8 0, .int .u8 0, .int .u8 0, .int .u8 0, .int .u8 0, .int .u8 0, .int .u8 0, .int .u8 0, .int .u8 0, .int .u8 0, .int .u8 0, .int .u8 0, .int .u8 0, .int .u8 0]))) fun i15 x14 h13 =>
 ifB (Nat.beq i15 0) (U3 (fun g16 g17 g18 =>
 R (call 168 [g18] h13) fun v19 h20 =>
 .no) x14) (
 .no))) x5)
 (V (kToInt .u64 a0) fun v22 =>
 V (kLss a0 (.int .i64 0)) fun v23 =>
 R (call 170 [(.nilSlice), v22, a1, v23, (.bool false)] h) fun v24 h25 =>
 V (kExtract 0 v24) fun v26 =>
 V (kExtract 1 v24) fun v27 =>
 .out 0 [v27] h25)) args)
theorem st135 (call : TCall) (args : List AVal) (h : TH) : kFunc call A135 args h = F135 call args h := by kernel_rfl
noncomputable def A136 : AFunc := ⟨3, (.seq (.region [.op 0 (.mov 6 (.const (.int .i64 0)))] [])
 (.seq (.block 0 (.seq (.region [.op 0 (.mov 8 (.tmp 0)),
 .op 1 (.mov 9 (.tmp 1)),
 .op 2 (.call 10 171 [.tmp 8, .tmp 9]),
 .op 3 (.un 11 .not (.tmp 10)),
 .op 4 (.mov 7 (.tmp 11))] [])
 (.cond (.tmp 7)
 (.seq (.region [.op 0 (.mov 6 (.const (.int .i64 23)))] [])
 .ret)
 (.seq (.region [.op 0 (.mov 13 (.tmp 2)),
 .op 1 (.bin 14 .lss .plain (.tmp 13) (.const (.int .i64 1))),
 .op 2 (.mov 15 (.tmp 14)),
 .guard 15 false [.op 3 (.mov 16 (.tmp 2)),
 .op 4 (.bin 17 .gtr .plain (.tmp 16) (.const (.int .i64 1024)))] [] [17],
 .op 5 (.pick 18 (.tmp 15) (.const (.bool true)) (.tmp 17)),
 .op 6 (.mov 12 (.tmp 18))] [])
 (.cond (.tmp 12)
 (.seq (.region [.op 0 (.mov 6 (.const (.int .i64 1)))] [])
 .ret)
 .skip)))))
 (.seq (.region [.op 0 (.mov 19 (.tmp 0)),
 .op 1 (.nilchk 20 (.tmp 19)),
 .op 2 (.faddr 21 0 (.tmp 20)),
 .op 3 (.load 22 false 1 (.tmp 21)),
 .op 4 (.mov 23 (.tmp 1)),
 .op 5 (.iaddr 24 none 1 (.tmp 22) (.tmp 23)),
 .op 6 (.load 25 false 1 (.tmp 24)),
 .op 7 (.mov 26 (.tmp 2)),
 .op 8 (.bin 27 .add .plain (.tmp 25) (.tmp 26)),
 .op 9 (.iaddr 28 none 1 (.tmp 22) (.tmp 23)),
 .op 10 (.store false 1 (.tmp 28) (.tmp 27))] [])
 (.seq (.region [.op 0 (.mov 6 (.const (.int .i64 0)))] [])
 .ret)))),
 [.tmp 6]⟩
theorem ok136 : funcOk Tryz.prog (drawOk Tryz.prog) Tryz.f136 A136 = true := by kernel_rfl
noncomputable def F136 (call : TCall) (args : List AVal) (h : TH) : KR := ans (U3 (fun a0 a1 a2 =>
 R (call 171 [a0, a1] h) fun v1 h2 =>
 V (kNot v1) fun v3 =>
 C v3
 (.out 0 [(.int .i64 23)] h2)
 (V (kLss a2 (.int .i64 1)) fun v4 =>
 Jn (G v4 false
 (V (kGtr a2 (.int .i64 1024)) fun v5 =>
 .out 0 [v5] h2)
 (.out 0 [skipV] h2)) fun _ x7 h6 =>
 U1 (fun g8 =>
 V (kPick v4 (.bool true) g8) fun v9 =>
 C v9
 (.out 0 [(.int .i64 1)] h6)
 (V (kNil a0) fun v10 =>
 V (kFaddr 0 v10) fun v11 =>
 V (kLd1 h6 v11) fun v12 =>
 V (kIaddr 1 v12 a1) fun v13 =>
 V (kLd1 h6 v13) fun v14 =>
 V (kAdd v14 a2) fun v15 =>
 V (kIaddr 1 v12 a1) fun v16 =>
 V (kSt h6 1 v16 v15) fun h17 =>
 .out 0 [(.int .i64 0)] h17)) x7)) args)
theorem st136 (call : TCall) (args : List AVal) (h : TH) : kFunc call A136 args h = F136 call args h := by kernel_rfl
noncomputable def A137 : AFunc := ⟨3, (.seq (.region [.op 0 (.mov 8 (.tmp 2)),
 .op 1 (.len 9 false (.tmp 8)),
 .op 2 (.mov 10 (.const (.int .i64 0)))] [])
 (.block 0 (.loop ⟨[0, 1, 8, 9, 10], []⟩ [((.exit 0), ⟨[], []⟩)]
 (.seq (.region [.op 0 (.bin 11 .lss .plain (.tmp 10) (.tmp 9))] [])
 (.seq (.cond (.tmp 11)
 .skip
 (.exit 0))
 (.seq (.block 1 (.seq (.region [.op 0 (.iaddr 12 none 14 (.tmp 8) (.tmp 10)),
 .op 1 (.load 13 true 14 (.tmp 12)),
 .op 2 (.alloc 7 true [.int .i64 0, .int .i64 0, .int .i64 0, .int .i64 0, .int .i64 0, .int .i64 0, .int .i64 0, .int .i64 0, .str [], .str [], .bool false, .int .u32 0, .nilSlice, .nilSlice]),
 .op 3 (.store true 14 (.tmp 7) (.tmp 13))] [])
 (.region [.op 0 (.mov 14 (.tmp 0)),
 .op 1 (.mov 15 (.tmp 1)),
 .op 2 (.load 16 true 14 (.tmp 7)),
 .op 3 (.invoke 17 [(85, 260, none), (90, 260, some (0, 1, false)), (91, 266, none)] (.tmp 14) [.tmp 15, .tmp 16])] [])))
 (.region [.op 0 (.bin 18 .add .plain (.tmp 10) (.const (.int .i64 1))),
 .op 1 (.mov 10 (.tmp 18))] []))))))),
 []⟩
theorem ok137 : funcOk Tryz.prog (drawOk Tryz.prog) Tryz.f137 A137 = true := by kernel_rfl
noncomputable def L137_0 (call : TCall) (xs : List AVal) (h : TH) : KJ :=
 U5 (fun g2 g3 g4 g5 g6 =>
 V (kLss g6 g5) fun v7 =>
 C v7
 (V (kIaddr 14 g4 g6) fun v8 =>
 V (kLdA h 14 v8) fun v9 =>
 V (kStL [.int .i64 0, .int .i64 0, .int .i64 0, .int .i64 0, .int .i64 0, .int .i64 0, .int .i64 0, .int .i64 0, .str [], .str [], .bool false, .int .u32 0, .nilSlice, .nilSlice] 0 14 v9) fun c10 =>
 V (kLdL c10 true 0 14) fun v11 =>
 V (kMeth [(85, 260, none), (90, 260, some (0, 1, false)), (91, 266, none)] g2) fun q12 =>
 R (call q12.1 (q12.2 :: [g3, v11]) h) fun v13 h14 =>
 V (kAdd g6 (.int .i64 1)) fun v15 =>
 .out 0 [g2, g3, g4, g5, v15] h14)
 (.out 1 [] h)) xs
noncomputable def F137 (call : TCall) (args : List AVal) (h : TH) : KR := ans (U3 (fun a0 a1 a2 =>
 V (kLen false a2) fun v1 =>
 Jn (Lp (L137_0 call) [a0, a1, a2, v1, (.int .i64 0)] h) fun i18 x17 h16 =>
 ifB (Nat.beq i18 1) (U0 (.out 0 [.tuple []] h16) x17) (
 .no)) args)
theorem st137 (call : TCall) (args : List AVal) (h : TH) : kFunc call A137 args h = F137 call args h := by kernel_rfl
noncomputable def A138 : AFunc := ⟨2, (.seq (.region [.op 0 (.mov 4 (.const (.nilSlice)))] [])
 (.seq (.region [.op 0 (.mov 5 (.const (.nilSlice)))] [])
 (.seq (.seq (.region [.op 0 (.mov 6 (.tmp 1)),
 .op 1 (.minmax 7 false [.tmp 6, .const (.int .i64 1024)]),
 .op 2 (.minmax 8 true [.const (.int .i64 0), .tmp 7]),
 .op 3 (.mov 9 (.const (.int .i64 0)))] [])
 (.block 0 (.loop ⟨[0, 5, 8, 9], []⟩ [((.exit 0), ⟨[5], []⟩)]
 (.seq (.region [.op 0 (.bin 10 .lss .plain (.tmp 9) (.tmp 8))] [])
 (.seq (.cond (.tmp 10)
 .skip
 (.exit 0))
 (.seq (.block 1 (.region [.op 0 (.mov 11 (.tmp 5)),
 .op 1 (.mov 12 (.tmp 0)),
 .op 2 (.call 13 172 [.tmp 12]),
 .op 3 (.append 14 14 152 [.int .i64 0, .int .i64 0, .int .i64 0, .int .i64 0, .int .i64 0, .int .i64 0, .int .i64 0, .int .i64 0, .str [], .str [], .bool false, .int .u32 0, .nilSlice, .nilSlice] false (.tmp 11) (.tmp 13)),
 .op 4 (.mov 5 (.tmp 14))] []))
 (.region [.op 0 (.bin 15 .add .plain (.tmp 9) (.const (.int .i64 1))),
 .op 1 (.mov 9 (.tmp 15))] [])))))))
 (.seq (.region [.op 0 (.mov 16 (.tmp 5)),
 .op 1 (.mov 4 (.tmp 16))] [])
 .ret)))),
 [.tmp 4]⟩
theorem ok138 : funcOk Tryz.prog (drawOk Tryz.prog) Tryz.f138 A138 = true := by kernel_rfl
noncomputable def L138_0 (call : TCall) (xs : List AVal) (h : TH) : KJ :=
 U4 (fun g3 g4 g5 g6 =>
 V (kLss g6 g5) fun v7 =>
 C v7
 (R (call 172 [g3] h) fun v8 h9 =>
 R (kAppend 14 152 [.int .i64 0, .int .i64 0, .int .i64 0, .int .i64 0, .int .i64 0, .int .i64 0, .int .i64 0, .int .i64 0, .str [], .str [], .bool false, .int .u32 0, .nilSlice, .nilSlice] false g4 v8 h9) fun v10 h11 =>
 V (kAdd g6 (.int .i64 1)) fun v12 =>
 .out 0 [g3, v10, g5, v12] h11)
 (.out 1 [g4] h)) xs
noncomputable def F138 (call : TCall) (args : List AVal) (h : TH) : KR := ans (U2 (fun a0 a1 =>
 V (aMinMaxL false [a1, (.int .i64 1024)]) fun v1 =>
 V (aMinMaxL true [(.int .i64 0), v1]) fun v2 =>
 Jn (Lp (L138_0 call) [a0, (.nilSlice), v2, (.int .i64 0)] h) fun i15 x14 h13 =>
 ifB (Nat.beq i15 1) (U1 (fun g16 =>
 .out 0 [g16] h13) x14) (
 .no)) args)
theorem st138 (call : TCall) (args : List AVal) (h : TH) : kFunc call A138 args h = F138 call args h := by kernel_rfl
noncomputable def A139 : AFunc := ⟨2, (.seq (.region [.op 0 (.mov 4 (.const (.nilPtr)))] [])
 (.seq (.seq (.region [.op 0 (.mov 5 (.tmp 1)),
 .op 1 (.mov 6 (.tmp 0)),
 .op 2 (.nilchk 7 (.tmp 6)),
 .op 3 (.faddr 8 0 (.tmp 7)),
 .op 4 (.load 9 false 1 (.tmp 8)),
 .op 5 (.len 10 false (.tmp 9)),
 .op 6 (.bin 11 .lss .plain (.tmp 5) (.tmp 10))] [])
 (.cond (.tmp 11)
 (.seq (.region [.op 0 (.mov 4 (.const (.nilPtr)))] [])
 .ret)
 .skip))
 (.seq (.region [.op 0 (.mov 12 (.tmp 0)),
 .op 1 (.mov 13 (.tmp 1)),
 .op 2 (.mov 14 (.tmp 0)),
 .op 3 (.nilchk 15 (.tmp 14)),
 .op 4 (.faddr 16 0 (.tmp 15)),
 .op 5 (.load 17 false 1 (.tmp 16)),
 .op 6 (.len 18 false (.tmp 17)),
 .op 7 (.bin 19 .sub .plain (.tmp 13) (.tmp 18)),
 .op 8 (.call 20 57 [.tmp 12, .tmp 19]),
 .op 9 (.mov 4 (.tmp 20))] [])
 .ret))),
 [.tmp 4]⟩
theorem ok139 : funcOk Tryz.prog (drawOk Tryz.prog) Tryz.f139 A139 = true := by kernel_rfl
noncomputable def F139 (call : TCall) (args : List AVal) (h : TH) : KR := ans (U2 (fun a0 a1 =>
 V (kNil a0) fun v1 =>
 V (kFaddr 0 v1) fun v2 =>
 V (kLd1 h v2) fun v3 =>
 V (kLen false v3) fun v4 =>
 V (kLss a1 v4) fun v5 =>
 C v5
 (.out 0 [(.nilPtr)] h)
 (V (kNil a0) fun v6 =>
 V (kFaddr 0 v6) fun v7 =>
 V (kLd1 h v7) fun v8 =>
 V (kLen false v8) fun v9 =>
 V (kSub a1 v9) fun v10 =>
 R (call 57 [a0, v10] h) fun v11 h12 =>
 .out 0 [v11] h12)) args)
theorem st139 (call : TCall) (args : List AVal) (h : TH) : kFunc call A139 args h = F139 call args h := by kernel_rfl
noncomputable def A140 : AFunc := ⟨2, (.seq (.region [.op 0 (.mov 4 (.const (.nilSlice)))] [])
 (.seq (.region [.op 0 (.mov 5 (.const (.nilSlice)))] [])
 (.seq (.seq (.region [.op 0 (.mov 8 (.tmp 1)),
 .op 1 (.minmax 9 false [.tmp 8, .const (.int .i64 1024)]),
 .op 2 (.minmax 10 true [.const (.int .i64 0), .tmp 9]),
 .op 3 (.mov 11 (.const (.int .i64 0)))] [])
 (.block 0 (.loop ⟨[0, 5, 10, 11], []⟩ [((.exit 0), ⟨[5], []⟩)]
 (.seq (.region [.op 0 (.bin 12 .lss .plain (.tmp 11) (.tmp 10))] [])
 (.seq (.cond (.tmp 12)
 .skip
 (.exit 0))
 (.seq (.join [(.normal, ⟨[0, 5, 10, 11], []⟩)] (.block 1 (.seq (.region [.op 0 (.mov 13 (.tmp 0)),
 .op 1 (.nilchk 14 (.tmp 13)),
 .op 2 (.faddr 15 4 (.tmp 14)),
 .op 3 (.load 16 false 1 (.tmp 15)),
 .op 4 (.bin 17 .add .plain (.tmp 16) (.const (.int .i64 1))),
 .op 5 (.nilchk 18 (.tmp 13)),
 .op 6 (.faddr 19 4 (.tmp 18)),
 .op 7 (.store false 1 (.tmp 19) (.tmp 17))] [])
 (.seq (.seq (.region [.op 0 (.mov 20 (.tmp 0)),
 .op 1 (.nilchk 21 (.tmp 20)),
 .op 2 (.faddr 22 12 (.tmp 21)),
 .op 3 (.load 23 false 1 (.tmp 22)),
 .op 4 (.mov 24 (.tmp 23)),
 .guard 24 true [.op 5 (.mov 25 (.tmp 0)),
 .op 6 (.nilchk 26 (.tmp 25)),
 .op 7 (.faddr 27 4 (.tmp 26)),
 .op 8 (.load 28 false 1 (.tmp 27)),
 .op 9 (.mov 29 (.tmp 0)),
 .op 10 (.nilchk 30 (.tmp 29)),
 .op 11 (.faddr 31 26 (.tmp 30)),
 .op 12 (.load 32 false 1 (.tmp 31)),
 .op 13 (.bin 33 .sub .plain (.tmp 28) (.tmp 32)),
 .op 14 (.bin 34 .geq .plain (.tmp 33) (.const (.int .i64 8)))] [] [34],
 .op 15 (.pick 35 (.tmp 24) (.tmp 34) (.const (.bool false)))] [])
 (.join [(.normal, ⟨[0, 5, 10, 11], []⟩)] (.cond (.tmp 35)
 (.region [.op 0 (.mov 36 (.tmp 0)),
 .op 1 (.call 37 173 [.tmp 36])] [])
 .skip)))
 (.seq (.seq (.region [.op 0 (.mov 38 (.tmp 0)),
 .op 1 (.nilchk 39 (.tmp 38)),
 .op 2 (.faddr 40 12 (.tmp 39)),
 .op 3 (.load 41 false 1 (.tmp 40))] [])
 (.cond (.tmp 41)
 (.exit 1)
 .skip))
 (.seq (.region [.op 0 (.mov 43 (.tmp 0)),
 .op 1 (.call 44 174 [.tmp 43]),
 .op 2 (.mov 42 (.tmp 44)),
 .op 3 (.extract 45 (.tmp 42) 0),
 .op 4 (.extract 46 (.tmp 42) 1),
 .op 5 (.alloc 6 true [.int .i64 0, .int .i64 0, .int .i64 0, .int .i64 0, .int .i64 0, .int .i64 0, .int .i64 0, .str [], .str [], .bool false, .int .u32 0, .nilSlice, .nilSlice]),
 .op 6 (.store true 13 (.tmp 6) (.tmp 45)),
 .op 7 (.mov 7 (.tmp 46))] [])
 (.seq (.region [.op 0 (.mov 47 (.tmp 7))] [])
 (.join [(.normal, ⟨[0, 5, 10, 11], []⟩)] (.cond (.tmp 47)
 (.region [.op 0 (.mov 48 (.tmp 5)),
 .op 1 (.mov 49 (.tmp 0)),
 .op 2 (.load 50 true 13 (.tmp 6)),
 .op 3 (.call 51 175 [.tmp 49, .tmp 50]),
 .op 4 (.buildSl 52 [.int .i64 0, .int .i64 0, .int .i64 0, .int .i64 0, .int .i64 0, .int .i64 0, .int .i64 0, .int .i64 0, .str [], .str [], .bool false, .int .u32 0, .nilSlice, .nilSlice] 14 1 [(0, .tmp 51)]),
 .op 5 (.append 53 14 152 [.int .i64 0, .int .i64 0, .int .i64 0, .int .i64 0, .int .i64 0, .int .i64 0, .int .i64 0, .int .i64 0, .str [], .str [], .bool false, .int .u32 0, .nilSlice, .nilSlice] false (.tmp 48) (.tmp 52)),
 .op 6 (.mov 5 (.tmp 53))] [])
 .skip)))))))))
 (.region [.op 0 (.bin 54 .add .plain (.tmp 11) (.const (.int .i64 1))),
 .op 1 (.mov 11 (.tmp 54))] [])))))))
 (.seq (.region [.op 0 (.mov 55 (.tmp 5)),
 .op 1 (.mov 4 (.tmp 55))] [])
 .ret)))),
 [.tmp 4]⟩
theorem ok140 : funcOk Tryz.prog (drawOk Tryz.prog) Tryz.f140 A140 = true := by kernel_rfl
noncomputable def L140_0 (call : TCall) (xs : List AVal) (h : TH) : KJ :=
 U4 (fun g3 g4 g5 g6 =>
 V (kLss g6 g5) fun v7 =>
 C v7
 (Jn (V (kNil g3) fun v8 =>
 V (kFaddr 4 v8) fun v9 =>
 V (kLd1 h v9) fun v10 =>
 V (kAdd v10 (.int .i64 1)) fun v11 =>
 V (kNil g3) fun v12 =>
 V (kFaddr 4 v12) fun v13 =>
 V (kSt h 1 v13 v11) fun h14 =>
 V (kNil g3) fun v15 =>
 V (kFaddr 12 v15) fun v16 =>
 V (kLd1 h14 v16) fun v17 =>
 Jn (G v17 true
 (V (kNil g3) fun v18 =>
 V (kFaddr 4 v18) fun v19 =>
 V (kLd1 h14 v19) fun v20 =>
 V (kNil g3) fun v21 =>
 V (kFaddr 26 v21) fun v22 =>
 V (kLd1 h14 v22) fun v23 =>
 V (kSub v20 v23) fun v24 =>
 V (kGeq v24 (.int .i64 8)) fun v25 =>
 .out 0 [v25] h14)
 (.out 0 [skipV] h14)) fun _ x27 h26 =>
 U1 (fun g28 =>
 V (kPick v17 g28 (.bool false)) fun v29 =>
 Jn (C v29
 (R (call 173 [g3] h26) fun v30 h31 =>
 .out 0 [g3, g4, g5, g6] h31)
 (.out 0 [g3, g4, g5, g6] h26)) fun i34 x33 h32 =>
 ifB (Nat.beq i34 0) (U4 (fun g35 g36 g37 g38 =>
 V (kNil g35) fun v39 =>
 V (kFaddr 12 v39) fun v40 =>
 V (kLd1 h32 v40) fun v41 =>
 C v41
 (.out 0 [g35, g36, g37, g38] h32)
 (R (call 174 [g35] h32) fun v42 h43 =>
 V (kExtract 0 v42) fun v44 =>
 V (kExtract 1 v42) fun v45 =>
 V (kStL [.int .i64 0, .int .i64 0, .int .i64 0, .int .i64 0, .int .i64 0, .int .i64 0, .int .i64 0, .str [], .str [], .bool false, .int .u32 0, .nilSlice, .nilSlice] 0 13 v44) fun c46 =>
 Jn (C v45
 (V (kLdL c46 true 0 13) fun v47 =>
 R (call 175 [g35, v47] h43) fun v48 h49 =>
 V (aFill (reps [.int .i64 0, .int .i64 0, .int .i64 0, .int .i64 0, .int .i64 0, .int .i64 0, .int .i64 0, .int .i64 0, .str [], .str [], .bool false, .int .u32 0, .nilSlice, .nilSlice] 1) [(0, 14, v48)]) fun c50 =>
 R (kAppend 14 152 [.int .i64 0, .int .i64 0, .int .i64 0, .int .i64 0, .int .i64 0, .int .i64 0, .int .i64 0, .int .i64 0, .str [], .str [], .bool false, .int .u32 0, .nilSlice, .nilSlice] false g36 (.slice h49.next 0 1 1 14 true) (h49.alloc c50)) fun v51 h52 =>
 .out 0 [g35, v51, g37, g38] h52)
 (.out 0 [g35, g36, g37, g38] h43)) fun i55 x54 h53 =>
 ifB (Nat.beq i55 0) (U4 (fun g56 g57 g58 g59 =>
 .out 0 [g56, g57, g58, g59] h53) x54) (
 .no))) x33) (
 .no)) x27) fun i62 x61 h60 =>
 ifB (Nat.beq i62 0) (U4 (fun g63 g64 g65 g66 =>
 V (kAdd g66 (.int .i64 1)) fun v67 =>
 .out 0 [g63, g64, g65, v67] h60) x61) (
 .no))
 (.out 1 [g4] h)) xs
noncomputable def F140 (call : TCall) (args : List AVal) (h : TH) : KR := ans (U2 (fun a0 a1 =>
 V (aMinMaxL false [a1, (.int .i64 1024)]) fun v1 =>
 V (aMinMaxL true [(.int .i64 0), v1]) fun v2 =>
 Jn (Lp (L140_0 call) [a0, (.nilSlice), v2, (.int .i64 0)] h) fun i70 x69 h68 =>
 ifB (Nat.beq i70 1) (U1 (fun g71 =>
 .out 0 [g71] h68) x69) (
 .no)) args)
theorem st140 (call : TCall) (args : List AVal) (h : TH) : kFunc call A140 args h = F140 call args h := by kernel_rfl
noncomputable def A141 : AFunc := ⟨3, (.seq (.region [.op 0 (.box 5 true (.tmp 2)),
 .op 1 (.mov 6 (.const (.int .i64 0)))] [])
 (.seq (.seq (.region [.op 0 (.faddr 8 0 (.tmp 5)),
 .op 1 (.load 9 false 1 (.tmp 8)),
 .op 2 (.bin 10 .neq .plain (.tmp 9) (.const (.int .i64 2))),
 .op 3 (.mov 11 (.tmp 10)),
 .guard 11 false [.op 4 (.load 12 true 13 (.tmp 5)),
 .op 5 (.call 13 50 [.tmp 12]),
 .op 6 (.bin 14 .neq (.iface true []) (.tmp 13) (.const (.nilIface)))] [] [14],
 .op 7 (.pick 15 (.tmp 11) (.const (.bool true)) (.tmp 14)),
 .op 8 (.mov 16 (.tmp 15)),
 .guard 16 false [.op 9 (.mov 17 (.tmp 1)),
 .op 10 (.mov 18 (.tmp 0)),
 .op 11 (.call 19 36 [.tmp 18]),
 .op 12 (.bin 20 .neq .plain (.tmp 17) (.tmp 19))] [] [20],
 .op 13 (.pick 21 (.tmp 16) (.const (.bool true)) (.tmp 20)),
 .op 14 (.mov 22 (.tmp 21)),
 .guard 22 false [.op 15 (.mov 23 (.tmp 0)),
 .op 16 (.nilchk 24 (.tmp 23)),
 .op 17 (.faddr 25 12 (.tmp 24)),
 .op 18 (.load 26 false 1 (.tmp 25)),
 .op 19 (.un 27 .not (.tmp 26))] [] [27],
 .op 20 (.pick 28 (.tmp 22) (.const (.bool true)) (.tmp 27)),
 .op 21 (.mov 29 (.tmp 28)),
 .guard 29 false [.op 22 (.faddr 30 4 (.tmp 5)),
 .op 23 (.load 31 false 1 (.tmp 30)),
 .op 24 (.mov 32 (.tmp 0)),
 .op 25 (.nilchk 33 (.tmp 32)),
 .op 26 (.faddr 34 13 (.tmp 33)),
 .op 27 (.faddr 35 4 (.tmp 34)),
 .op 28 (.load 36 false 1 (.tmp 35)),
 .op 29 (.bin 37 .neq .plain (.tmp 31) (.tmp 36))] [] [37],
 .op 30 (.pick 38 (.tmp 29) (.const (.bool true)) (.tmp 37)),
 .op 31 (.mov 39 (.tmp 38)),
 .guard 39 false [.op 32 (.faddr 40 1 (.tmp 5)),
 .op 33 (.load 41 false 1 (.tmp 40)),
 .op 34 (.mov 42 (.tmp 0)),
 .op 35 (.nilchk 43 (.tmp 42)),
 .op 36 (.faddr 44 13 (.tmp 43)),
 .op 37 (.faddr 45 1 (.tmp 44)),
 .op 38 (.load 46 false 1 (.tmp 45)),
 .op 39 (.bin 47 .neq .plain (.tmp 41) (.tmp 46))] [] [47],
 .op 40 (.pick 48 (.tmp 39) (.const (.bool true)) (.tmp 47))] [])
 (.cond (.tmp 48)
 (.seq (.region [.op 0 (.mov 6 (.const (.int .i64 (-1))))] [])
 .ret)
 .skip))
 (.seq (.region [.op 0 (.mov 49 (.tmp 0)),
 .op 1 (.nilchk 50 (.tmp 49)),
 .op 2 (.faddr 51 12 (.tmp 50)),
 .op 3 (.store false 1 (.tmp 51) (.const (.bool false)))] [])
 (.seq (.region [.op 0 (.faddr 52 3 (.tmp 5)),
 .op 1 (.load 53 false 1 (.tmp 52)),
 .op 2 (.mov 7 (.tmp 53))] [])
 (.seq (.block 0 (.seq (.region [.op 0 (.faddr 55 1 (.tmp 5)),
 .op 1 (.load 56 false 1 (.tmp 55)),
 .op 2 (.bin 57 .eql .plain (.tmp 56) (.const (.int .i64 1))),
 .op 3 (.mov 58 (.tmp 57)),
 .guard 58 true [.op 4 (.mov 59 (.tmp 7)),
 .op 5 (.bin 60 .eql .plain (.tmp 59) (.const (.int .i64 0)))] [] [60],
 .op 6 (.pick 61 (.tmp 58) (.tmp 60) (.const (.bool false))),
 .op 7 (.mov 54 (.tmp 61))] [])
 (.join [(.normal, ⟨[7], []⟩)] (.cond (.tmp 54)
 (.region [.op 0 (.mov 62 (.tmp 0)),
 .op 1 (.nilchk 63 (.tmp 62)),
 .op 2 (.faddr 64 11 (.tmp 63)),
 .op 3 (.store false 1 (.tmp 64) (.const (.bool true)))] [])
 (.seq (.region [.op 0 (.faddr 66 1 (.tmp 5)),
 .op 1 (.load 67 false 1 (.tmp 66)),
 .op 2 (.bin 68 .eql .plain (.tmp 67) (.const (.int .i64 2))),
 .op 3 (.mov 69 (.tmp 68)),
 .guard 69 true [.op 4 (.mov 70 (.tmp 7)),
 .op 5 (.bin 71 .eql .plain (.tmp 70) (.const (.int .i64 22)))] [] [71],
 .op 6 (.pick 72 (.tmp 69) (.tmp 71) (.const (.bool false))),
 .op 7 (.mov 65 (.tmp 72))] [])
 (.join [(.normal, ⟨[7], []⟩)] (.cond (.tmp 65)
 (.region [.op 0 (.mov 73 (.tmp 0)),
 .op 1 (.mov 74 (.tmp 0)),
 .op 2 (.build 75 [.bool false, .int .i64 0] []),
 .op 3 (.nilchk 76 (.tmp 73)),
 .op 4 (.faddr 77 11 (.tmp 76)),
 .op 5 (.store false 1 (.tmp 77) (.const (.bool false))),
 .op 6 (.nilchk 78 (.tmp 74)),
 .op 7 (.faddr 79 27 (.tmp 78)),
 .op 8 (.store true 2 (.tmp 79) (.tmp 75))] [])
 (.seq (.region [.op 0 (.faddr 81 1 (.tmp 5)),
 .op 1 (.load 82 false 1 (.tmp 81)),
 .op 2 (.bin 83 .eql .plain (.tmp 82) (.const (.int .i64 3))),
 .op 3 (.mov 84 (.tmp 83)),
 .guard 84 true [.op 4 (.mov 85 (.tmp 7)),
 .op 5 (.bin 86 .eql .plain (.tmp 85) (.const (.int .i64 0))),
 .op 6 (.mov 87 (.tmp 86)),
 .guard 87 false [.op 7 (.mov 88 (.tmp 7)),
 .op 8 (.bin 89 .eql .plain (.tmp 88) (.const (.int .i64 22)))] [] [89],
 .op 9 (.pick 90 (.tmp 87) (.const (.bool true)) (.tmp 89))] [] [90],
 .op 10 (.pick 91 (.tmp 84) (.tmp 90) (.const (.bool false))),
 .op 11 (.mov 80 (.tmp 91))] [])
 (.join [(.normal, ⟨[7], []⟩)] (.cond (.tmp 80)
 (.region [.op 0 (.mov 92 (.tmp 0)),
 .op 1 (.nilchk 93 (.tmp 92)),
 .op 2 (.faddr 94 11 (.tmp 93)),
 .op 3 (.store false 1 (.tmp 94) (.const (.bool false)))] [])
 (.seq (.region [.op 0 (.faddr 96 1 (.tmp 5)),
 .op 1 (.load 97 false 1 (.tmp 96)),
 .op 2 (.bin 98 .eql .plain (.tmp 97) (.const (.int .i64 5))),
 .op 3 (.mov 99 (.tmp 98)),
 .guard 99 true [.op 4 (.mov 100 (.tmp 7)),
 .op 5 (.bin 101 .eql .plain (.tmp 100) (.const (.int .i64 0)))] [] [101],
 .op 6 (.pick 102 (.tmp 99) (.tmp 101) (.const (.bool false))),
 .op 7 (.mov 95 (.tmp 102))] [])
 (.join [(.normal, ⟨[7], []⟩)] (.cond (.tmp 95)
 (.seq (.region [.op 0 (.mov 103 (.tmp 0)),
 .op 1 (.nilchk 104 (.tmp 103)),
 .op 2 (.faddr 105 5 (.tmp 104)),
 .op 3 (.load 106 false 1 (.tmp 105)),
 .op 4 (.load 107 true 13 (.tmp 5)),
 .op 5 (.call 108 176 [.tmp 106, .tmp 107]),
 .op 6 (.mov 7 (.tmp 108))] [])
 (.seq (.region [.op 0 (.mov 109 (.tmp 7)),
 .op 1 (.bin 110 .eql .plain (.tmp 109) (.const (.int .i64 25)))] [])
 (.join [(.normal, ⟨[7], []⟩)] (.cond (.tmp 110)
 (.region [.op 0 (.mov 111 (.tmp 0)),
 .op 1 (.build 112 [.bool false, .int .i64 0] []),
 .op 2 (.nilchk 113 (.tmp 111)),
 .op 3 (.faddr 114 29 (.tmp 113)),
 .op 4 (.store true 2 (.tmp 114) (.tmp 112))] [])
 .skip))))
 .skip)))))))))))))
 (.seq (.region [.op 0 (.mov 115 (.tmp 7)),
 .op 1 (.mov 6 (.tmp 115))] [])
 .ret)))))),
 [.tmp 6]⟩
theorem ok141 : funcOk Tryz.prog (drawOk Tryz.prog) Tryz.f141 A141 = true := by kernel_rfl
noncomputable def F141 (call : TCall) (args : List AVal) (h : TH) : KR := ans (U3 (fun a0 a1 a2 =>
 V (kCellsQ a2) fun c1 =>
 V (kLdL c1 false 0 1) fun v2 =>
 V (kNeq v2 (.int .i64 2)) fun v3 =>
 Jn (G v3 false
 (V (kLdL c1 true 0 13) fun v4 =>
 R (call 50 [v4] h) fun v5 h6 =>
 V (kNe (.iface true []) v5 (.nilIface)) fun v7 =>
 .out 0 [v7] h6)
 (.out 0 [skipV] h)) fun _ x9 h8 =>
 U1 (fun g10 =>
 V (kPick v3 (.bool true) g10) fun v11 =>
 Jn (G v11 false
 (R (call 36 [a0] h8) fun v12 h13 =>
 V (kNeq a1 v12) fun v14 =>
 .out 0 [v14] h13)
 (.out 0 [skipV] h8)) fun _ x16 h15 =>
 U1 (fun g17 =>
 V (kPick v11 (.bool true) g17) fun v18 =>
 Jn (G v18 false
 (V (kNil a0) fun v19 =>
 V (kFaddr 12 v19) fun v20 =>
 V (kLd1 h15 v20) fun v21 =>
 V (kNot v21) fun v22 =>
 .out 0 [v22] h15)
 (.out 0 [skipV] h15)) fun _ x24 h23 =>
 U1 (fun g25 =>
 V (kPick v18 (.bool true) g25) fun v26 =>
 Jn (G v26 false
 (V (kLdL c1 false 4 1) fun v27 =>
 V (kNil a0) fun v28 =>
 V (kFaddr 13 v28) fun v29 =>
 V (kFaddr 4 v29) fun v30 =>
 V (kLd1 h23 v30) fun v31 =>
 V (kNeq v27 v31) fun v32 =>
 .out 0 [v32] h23)
 (.out 0 [skipV] h23)) fun _ x34 h33 =>
 U1 (fun g35 =>
 V (kPick v26 (.bool true) g35) fun v36 =>
 Jn (G v36 false
 (V (kLdL c1 false 1 1) fun v37 =>
 V (kNil a0) fun v38 =>
 V (kFaddr 13 v38) fun v39 =>
 V (kFaddr 1 v39) fun v40 =>
 V (kLd1 h33 v40) fun v41 =>
 V (kNeq v37 v41) fun v42 =>
 .out 0 [v42] h33)
 (.out 0 [skipV] h33)) fun _ x44 h43 =>
 U1 (fun g45 =>
 V (kPick v36 (.bool true) g45) fun v46 =>
 C v46
 (.out 0 [(.int .i64 (-1))] h43)
 (V (kNil a0) fun v47 =>
 V (kFaddr 12 v47) fun v48 =>
 V (kSt h43 1 v48 (.bool false)) fun h49 =>
 V (kLdL c1 false 3 1) fun v50 =>
 V (kLdL c1 false 1 1) fun v51 =>
 V (kEql v51 (.int .i64 1)) fun v52 =>
 Jn (G v52 true
 (V (kEql v50 (.int .i64 0)) fun v53 =>
 .out 0 [v53] h49)
 (.out 0 [skipV] h49)) fun _ x55 h54 =>
 U1 (fun g56 =>
 V (kPick v52 g56 (.bool false)) fun v57 =>
 Jn (C v57
 (V (kNil a0) fun v58 =>
 V (kFaddr 11 v58) fun v59 =>
 V (kSt h54 1 v59 (.bool true)) fun h60 =>
 .out 0 [v50] h60)
 (V (kLdL c1 false 1 1) fun v61 =>
 V (kEql v61 (.int .i64 2)) fun v62 =>
 Jn (G v62 true
 (V (kEql v50 (.int .i64 22)) fun v63 =>
 .out 0 [v63] h54)
 (.out 0 [skipV] h54)) fun _ x65 h64 =>
 U1 (fun g66 =>
 V (kPick v62 g66 (.bool false)) fun v67 =>
 Jn (C v67
 (V (aFill [.bool false, .int .i64 0] []) fun c68 =>
 V (kNil a0) fun v69 =>
 V (kFaddr 11 v69) fun v70 =>
 V (kSt h64 1 v70 (.bool false)) fun h71 =>
 V (kNil a0) fun v72 =>
 V (kFaddr 27 v72) fun v73 =>
 V (kSt h71 2 v73 (.agg c68)) fun h74 =>
 .out 0 [v50] h74)
 (V (kLdL c1 false 1 1) fun v75 =>
 V (kEql v75 (.int .i64 3)) fun v76 =>
 Jn (G v76 true
 (V (kEql v50 (.int .i64 0)) fun v77 =>
 Jn (G v77 false
 (V (kEql v50 (.int .i64 22)) fun v78 =>
 .out 0 [v78] h64)
 (.out 0 [skipV] h64)) fun _ x80 h79 =>
 U1 (fun g81 =>
 V (kPick v77 (.bool true) g81) fun v82 =>
 .out 0 [v82] h79) x80)
 (.out 0 [skipV] h64)) fun _ x84 h83 =>
 U1 (fun g85 =>
 V (kPick v76 g85 (.bool false)) fun v86 =>
 Jn (C v86
 (V (kNil a0) fun v87 =>
 V (kFaddr 11 v87) fun v88 =>
 V (kSt h83 1 v88 (.bool false)) fun h89 =>
 .out 0 [v50] h89)
 (V (kLdL c1 false 1 1) fun v90 =>
 V (kEql v90 (.int .i64 5)) fun v91 =>
 Jn (G v91 true
 (V (kEql v50 (.int .i64 0)) fun v92 =>
 .out 0 [v92] h83)
 (.out 0 [skipV] h83)) fun _ x94 h93 =>
 U1 (fun g95 =>
 V (kPick v91 g95 (.bool false)) fun v96 =>
 Jn (C v96
 (V (kNil a0) fun v97 =>
 V (kFaddr 5 v97) fun v98 =>
 V (kLd1 h93 v98) fun v99 =>
 V (kLdL c1 true 0 13) fun v100 =>
 R (call 176 [v99, v100] h93) fun v101 h102 =>
 V (kEql v101 (.int .i64 25)) fun v103 =>
 Jn (C v103
 (V (aFill [.bool false, .int .i64 0] []) fun c104 =>
 V (kNil a0) fun v105 =>
 V (kFaddr 29 v105) fun v106 =>
 V (kSt h102 2 v106 (.agg c104)) fun h107 =>
 .out 0 [v101] h107)
 (.out 0 [v101] h102)) fun i110 x109 h108 =>
 ifB (Nat.beq i110 0) (U1 (fun g111 =>
 .out 0 [g111] h108) x109) (
 .no))
 (.out 0 [v50] h93)) fun i114 x113 h112 =>
 ifB (Nat.beq i114 0) (U1 (fun g115 =>
 .out 0 [g115] h112) x113) (
 .no)) x94)) fun i118 x117 h116 =>
 ifB (Nat.beq i118 0) (U1 (fun g119 =>
 .out 0 [g119] h116) x117) (
 .no)) x84)) fun i122 x121 h120 =>
 ifB (Nat.beq i122 0) (U1 (fun g123 =>
 .out 0 [g123] h120) x121) (
 .no)) x65)) fun i126 x125 h124 =>
 ifB (Nat.beq i126 0) (U1 (fun g127 =>
 .out 0 [g127] h124) x125) (
 .no)) x55)) x44) x34) x24) x16) x9) args)
theorem st141 (call : TCall) (args : List AVal) (h : TH) : kFunc call A141 args h = F141 call args h := by kernel_rfl
noncomputable def A143 : AFunc := ⟨2, (.seq (.region [.op 0 (.mov 4 (.const (.nilSlice)))] [])
 (.seq (.region [.op 0 (.mov 5 (.const (.nilSlice)))] [])
 (.seq (.seq (.region [.op 0 (.mov 8 (.tmp 0)),
 .op 1 (.call 9 130 [.tmp 8]),
 .op 2 (.len 10 false (.tmp 9)),
 .op 3 (.mov 11 (.const (.int .i64 0)))] [])
 (.block 0 (.loop ⟨[1, 5, 9, 10, 11], []⟩ [((.exit 0), ⟨[5], []⟩)]
 (.seq (.region [.op 0 (.bin 12 .lss .plain (.tmp 11) (.tmp 10))] [])
 (.seq (.cond (.tmp 12)
 .skip
 (.exit 0))
 (.seq (.block 1 (.seq (.region [.op 0 (.iaddr 13 none 9 (.tmp 9) (.tmp 11)),
 .op 1 (.load 14 true 9 (.tmp 13)),
 .op 2 (.alloc 7 true [.str [], .str [], .int .i64 0, .int .i64 0, .int .i64 0, .int .i64 0, .int .i64 0, .int .i64 0, .bool false]),
 .op 3 (.store true 9 (.tmp 7) (.tmp 14))] [])
 (.seq (.region [.op 0 (.faddr 15 0 (.tmp 7)),
 .op 1 (.faddr 16 0 (.tmp 15)),
 .op 2 (.load 17 false 1 (.tmp 16)),
 .op 3 (.mov 18 (.tmp 1)),
 .op 4 (.bin 19 .eql .plain (.tmp 17) (.tmp 18)),
 .op 5 (.mov 20 (.tmp 19)),
 .guard 20 true [.op 6 (.load 21 true 9 (.tmp 7)),
 .op 7 (.call 22 177 [.tmp 21]),
 .op 8 (.bin 23 .eql .plain (.tmp 22) (.const (.int .i64 1)))] [] [23],
 .op 9 (.pick 24 (.tmp 20) (.tmp 23) (.const (.bool false)))] [])
 (.join [(.normal, ⟨[1, 5, 9, 10, 11], []⟩)] (.cond (.tmp 24)
 (.region [.op 0 (.mov 25 (.tmp 5)),
 .op 1 (.load 26 true 9 (.tmp 7)),
 .op 2 (.buildSl 27 [.str [], .str [], .int .i64 0, .int .i64 0, .int .i64 0, .int .i64 0, .int .i64 0, .int .i64 0, .bool false] 9 1 [(0, .tmp 26)]),
 .op 3 (.append 28 9 88 [.str [], .str [], .int .i64 0, .int .i64 0, .int .i64 0, .int .i64 0, .int .i64 0, .int .i64 0, .bool false] false (.tmp 25) (.tmp 27)),
 .op 4 (.mov 5 (.tmp 28))] [])
 .skip)))))
 (.region [.op 0 (.bin 29 .add .plain (.tmp 11) (.const (.int .i64 1))),
 .op 1 (.mov 11 (.tmp 29))] [])))))))
 (.seq (.region [.op 0 (.mov 30 (.tmp 5)),
 .op 1 (.mov 4 (.tmp 30))] [])
 .ret)))),
 [.tmp 4]⟩
theorem ok143 : funcOk Tryz.prog (drawOk Tryz.prog) Tryz.f143 A143 = true := by kernel_rfl
noncomputable def L143_0 (call : TCall) (xs : List AVal) (h : TH) : KJ :=
 U5 (fun g4 g5 g6 g7 g8 =>
 V (kLss g8 g7) fun v9 =>
 C v9
 (V (kIaddr 9 g6 g8) fun v10 =>
 V (kLdA h 9 v10) fun v11 =>
 V (kStL [.str [], .str [], .int .i64 0, .int .i64 0, .int .i64 0, .int .i64 0, .int .i64 0, .int .i64 0, .bool false] 0 9 v11) fun c12 =>
 V (kLdL c12 false 0 1) fun v13 =>
 V (kEql v13 g4) fun v14 =>
 Jn (G v14 true
 (V (kLdL c12 true 0 9) fun v15 =>
 R (call 177 [v15] h) fun v16 h17 =>
 V (kEql v16 (.int .i64 1)) fun v18 =>
 .out 0 [v18] h17)
 (.out 0 [skipV] h)) fun _ x20 h19 =>
 U1 (fun g21 =>
 V (kPick v14 g21 (.bool false)) fun v22 =>
 Jn (C v22
 (V (kLdL c12 true 0 9) fun v23 =>
 V (aFill (reps [.str [], .str [], .int .i64 0, .int .i64 0, .int .i64 0, .int .i64 0, .int .i64 0, .int .i64 0, .bool false] 1) [(0, 9, v23)]) fun c24 =>
 R (kAppend 9 88 [.str [], .str [], .int .i64 0, .int .i64 0, .int .i64 0, .int .i64 0, .int .i64 0, .int .i64 0, .bool false] false g5 (.slice h19.next 0 1 1 9 true) (h19.alloc c24)) fun v25 h26 =>
 .out 0 [g4, v25, g6, g7, g8] h26)
 (.out 0 [g4, g5, g6, g7, g8] h19)) fun i29 x28 h27 =>
 ifB (Nat.beq i29 0) (U5 (fun g30 g31 g32 g33 g34 =>
 V (kAdd g34 (.int .i64 1)) fun v35 =>
 .out 0 [g30, g31, g32, g33, v35] h27) x28) (
 .no)) x20)
 (.out 1 [g5] h)) xs
noncomputable def F143 (call : TCall) (args : List AVal) (h : TH) : KR := ans (U2 (fun a0 a1 =>
 R (call 130 [a0] h) fun v1 h2 =>
 V (kLen false v1) fun v3 =>
 Jn (Lp (L143_0 call) [a1, (.nilSlice), v1, v3, (.int .i64 0)] h2) fun i38 x37 h36 =>
 ifB (Nat.beq i38 1) (U1 (fun g39 =>
 .out 0 [g39] h36) x37) (
 .no)) args)
theorem st143 (call : TCall) (args : List AVal) (h : TH) : kFunc call A143 args h = F143 call args h := by kernel_rfl
noncomputable def A144 : AFunc := ⟨1, (.seq (.region [.op 0 (.mov 2 (.const (.nilPtr)))] [])
 (.seq (.region [.op 0 (.mov 3 (.tmp 0)),
 .op 1 (.nilchk 4 (.tmp 3)),
 .op 2 (.faddr 5 5 (.tmp 4)),
 .op 3 (.load 6 false 1 (.tmp 5)),
 .op 4 (.mov 2 (.tmp 6))] [])
 .ret)),
 [.tmp 2]⟩
theorem ok144 : funcOk Tryz.prog (drawOk Tryz.prog) Tryz.f144 A144 = true := by kernel_rfl
noncomputable def F144 (call : TCall) (args : List AVal) (h : TH) : KR := ans (U1 (fun a0 =>
 V (kNil a0) fun v1 =>
 V (kFaddr 5 v1) fun v2 =>
 V (kLd1 h v2) fun v3 =>
 .out 0 [v3] h) args)
theorem st144 (call : TCall) (args : List AVal) (h : TH) : kFunc call A144 args h = F144 call args h := by kernel_rfl
noncomputable def A145 : AFunc := ⟨1, (.seq (.region [.op 0 (.mov 2 (.const (.nilSlice)))] [])
 (.seq (.region [.op 0 (.mov 3 (.tmp 0)),
 .op 1 (.nilchk 4 (.tmp 3)),
 .op 2 (.faddr 5 0 (.tmp 4)),
 .op 3 (.load 6 false 1 (.tmp 5)),
 .op 4 (.call 7 130 [.tmp 6]),
 .op 5 (.mov 2 (.tmp 7))] [])
 .ret)),
 [.tmp 2]⟩
theorem ok145 : funcOk Tryz.prog (drawOk Tryz.prog) Tryz.f145 A145 = true := by kernel_rfl
noncomputable def F145 (call : TCall) (args : List AVal) (h : TH) : KR := ans (U1 (fun a0 =>
 V (kNil a0) fun v1 =>
 V (kFaddr 0 v1) fun v2 =>
 V (kLd1 h v2) fun v3 =>
 R (call 130 [v3] h) fun v4 h5 =>
 .out 0 [v4] h5) args)
theorem st145 (call : TCall) (args : List AVal) (h : TH) : kFunc call A145 args h = F145 call args h := by kernel_rfl
noncomputable def A146 : AFunc := ⟨4, (.seq (.region [.op 0 (.mov 8 (.const (.int .i64 0)))] [])
 (.seq (.block 0 (.seq (.region [.op 0 (.mov 10 (.tmp 1)),
 .op 1 (.mov 11 (.tmp 2)),
 .op 2 (.mov 12 (.tmp 3)),
 .op 3 (.call 13 178 [.tmp 10, .tmp 11, .tmp 12]),
 .op 4 (.un 14 .not (.tmp 13)),
 .op 5 (.mov 9 (.tmp 14))] [])
 (.cond (.tmp 9)
 (.seq (.region [.op 0 (.mov 8 (.const (.int .i64 1)))] [])
 .ret)
 (.seq (.region [.op 0 (.mov 16 (.tmp 0)),
 .op 1 (.nilchk 17 (.tmp 16)),
 .op 2 (.faddr 18 6 (.tmp 17)),
 .op 3 (.load 19 false 1 (.tmp 18)),
 .op 4 (.len 20 false (.tmp 19)),
 .op 5 (.bin 21 .geq .plain (.tmp 20) (.const (.int .i64 8))),
 .op 6 (.mov 15 (.tmp 21))] [])
 (.cond (.tmp 15)
 (.seq (.region [.op 0 (.mov 8 (.const (.int .i64 24)))] [])
 .ret)
 .skip)))))
 (.seq (.region [.op 0 (.mov 22 (.tmp 0)),
 .op 1 (.mov 23 (.tmp 0)),
 .op 2 (.nilchk 24 (.tmp 23)),
 .op 3 (.faddr 25 6 (.tmp 24)),
 .op 4 (.load 26 false 1 (.tmp 25)),
 .op 5 (.mov 27 (.tmp 1)),
 .op 6 (.mov 28 (.tmp 2)),
 .op 7 (.mov 29 (.tmp 3)),
 .op 8 (.build 30 [.int .i64 0, .int .i64 0, .int .i64 0] [(0, 1, .tmp 27), (1, 1, .tmp 28), (2, 1, .tmp 29)]),
 .op 9 (.buildSl 31 [.int .i64 0, .int .i64 0, .int .i64 0] 3 1 [(0, .tmp 30)]),
 .op 10 (.append 32 3 24 [.int .i64 0, .int .i64 0, .int .i64 0] false (.tmp 26) (.tmp 31)),
 .op 11 (.nilchk 33 (.tmp 22)),
 .op 12 (.faddr 34 6 (.tmp 33)),
 .op 13 (.store false 1 (.tmp 34) (.tmp 32))] [])
 (.seq (.region [.op 0 (.mov 8 (.const (.int .i64 0)))] [])
 .ret)))),
 [.tmp 8]⟩
theorem ok146 : funcOk Tryz.prog (drawOk Tryz.prog) Tryz.f146 A146 = true := by kernel_rfl
noncomputable def F146 (call : TCall) (args : List AVal) (h : TH) : KR := ans (U4 (fun a0 a1 a2 a3 =>
 R (call 178 [a1, a2, a3] h) fun v1 h2 =>
 V (kNot v1) fun v3 =>
 C v3
 (.out 0 [(.int .i64 1)] h2)
 (V (kNil a0) fun v4 =>
 V (kFaddr 6 v4) fun v5 =>
 V (kLd1 h2 v5) fun v6 =>
 V (kLen false v6) fun v7 =>
 V (kGeq v7 (.int .i64 8)) fun v8 =>
 C v8
 (.out 0 [(.int .i64 24)] h2)
 (V (kNil a0) fun v9 =>
 V (kFaddr 6 v9) fun v10 =>
 V (kLd1 h2 v10) fun v11 =>
 V (aFill [.int .i64 0, .int .i64 0, .int .i64 0] [(0, 1, a1), (1, 1, a2), (2, 1, a3)]) fun c12 =>
 V (aFill (reps [.int .i64 0, .int .i64 0, .int .i64 0] 1) [(0, 3, (.agg c12))]) fun c13 =>
 R (kAppend 3 24 [.int .i64 0, .int .i64 0, .int .i64 0] false v11 (.slice h2.next 0 1 1 3 true) (h2.alloc c13)) fun v14 h15 =>
 V (kNil a0) fun v16 =>
 V (kFaddr 6 v16) fun v17 =>
 V (kSt h15 1 v17 v14) fun h18 =>
 .out 0 [(.int .i64 0)] h18))) args)
theorem st146 (call : TCall) (args : List AVal) (h : TH) : kFunc call A146 args h = F146 call args h := by kernel_rfl
noncomputable def A147 : AFunc := ⟨2, (.seq (.region [.op 0 (.mov 4 (.const (.bool false)))] [])
 (.seq (.seq (.region [.op 0 (.mov 6 (.tmp 0)),
 .op 1 (.len 7 false (.tmp 6)),
 .op 2 (.mov 8 (.tmp 1)),
 .op 3 (.len 9 false (.tmp 8)),
 .op 4 (.bin 10 .neq .plain (.tmp 7) (.tmp 9))] [])
 (.cond (.tmp 10)
 (.seq (.region [.op 0 (.mov 4 (.const (.bool false)))] [])
 .ret)
 .skip))
 (.seq (.seq (.region [.op 0 (.mov 11 (.tmp 0)),
 .op 1 (.len 12 false (.tmp 11)),
 .op 2 (.mov 13 (.const (.int .i64 0)))] [])
 (.block 0 (.loop ⟨[0, 1, 12, 13], []⟩ [((.exit 0), ⟨[], []⟩), (.ret, ⟨[4], []⟩)]
 (.seq (.region [.op 0 (.bin 14 .lss .plain (.tmp 13) (.tmp 12))] [])
 (.seq (.cond (.tmp 14)
 .skip
 (.exit 0))
 (.seq (.block 1 (.seq (.region [.op 0 (.mov 15 (.tmp 13)),
 .op 1 (.mov 5 (.tmp 15))] [])
 (.seq (.region [.op 0 (.mov 16 (.tmp 0)),
 .op 1 (.mov 17 (.tmp 5)),
 .op 2 (.iaddr 18 none 9 (.tmp 16) (.tmp 17)),
 .op 3 (.load 19 true 9 (.tmp 18)),
 .op 4 (.mov 20 (.tmp 1)),
 .op 5 (.mov 21 (.tmp 5)),
 .op 6 (.iaddr 22 none 9 (.tmp 20) (.tmp 21)),
 .op 7 (.load 23 true 9 (.tmp 22)),
 .op 8 (.bin 24 .neq (.cells [2, 2, 1, 1, 1, 1, 1, 1, 0]) (.tmp 19) (.tmp 23))] [])
 (.cond (.tmp 24)
 (.seq (.region [.op 0 (.mov 4 (.const (.bool false)))] [])
 .ret)
 .skip))))
 (.region [.op 0 (.bin 25 .add .plain (.tmp 13) (.const (.int .i64 1))),
 .op 1 (.mov 13 (.tmp 25))] [])))))))
 (.seq (.region [.op 0 (.mov 4 (.const (.bool true)))] [])
 .ret)))),
 [.tmp 4]⟩
theorem ok147 : funcOk Tryz.prog (drawOk Tryz.prog) Tryz.f147 A147 = true := by kernel_rfl
noncomputable def L147_0 (call : TCall) (xs : List AVal) (h : TH) : KJ :=
 U4 (fun g5 g6 g7 g8 =>
 V (kLss g8 g7) fun v9 =>
 C v9
 (V (kIaddr 9 g5 g8) fun v10 =>
 V (kLdA h 9 v10) fun v11 =>
 V (kIaddr 9 g6 g8) fun v12 =>
 V (kLdA h 9 v12) fun v13 =>
 V (kNe (.cells [2, 2, 1, 1, 1, 1, 1, 1, 0]) v11 v13) fun v14 =>
 C v14
 (.out 2 [(.bool false)] h)
 (V (kAdd g8 (.int .i64 1)) fun v15 =>
 .out 0 [g5, g6, g7, v15] h))
 (.out 1 [] h)) xs
noncomputable def F147 (call : TCall) (args : List AVal) (h : TH) : KR := ans (U2 (fun a0 a1 =>
 V (kLen false a0) fun v1 =>
 V (kLen false a1) fun v2 =>
 V (kNeq v1 v2) fun v3 =>
 C v3
 (.out 0 [(.bool false)] h)
 (V (kLen false a0) fun v4 =>
 Jn (Lp (L147_0 call) [a0, a1, v4, (.int .i64 0)] h) fun i18 x17 h16 =>
 ifB (Nat.beq i18 1) (U0 (.out 0 [(.bool true)] h16) x17) (
 ifB (Nat.beq i18 2) (U1 (fun g19 =>
 .out 0 [g19] h16) x17) (
 .no)))) args)
theorem st147 (call : TCall) (args : List AVal) (h : TH) : kFunc call A147 args h = F147 call args h := by kernel_rfl
noncomputable def A148 : AFunc := ⟨2, (.seq (.region [.op 0 (.mov 4 (.const (.bool false)))] [])
 (.seq (.seq (.region [.op 0 (.mov 6 (.tmp 0)),
 .op 1 (.len 7 false (.tmp 6)),
 .op 2 (.mov 8 (.tmp 1)),
 .op 3 (.len 9 false (.tmp 8)),
 .op 4 (.bin 10 .neq .plain (.tmp 7) (.tmp 9))] [])
 (.cond (.tmp 10)
 (.seq (.region [.op 0 (.mov 4 (.const (.bool false)))] [])
 .ret)
 .skip))
 (.seq (.seq (.region [.op 0 (.mov 11 (.tmp 0)),
 .op 1 (.len 12 false (.tmp 11)),
 .op 2 (.mov 13 (.const (.int .i64 0)))] [])
 (.block 0 (.loop ⟨[0, 1, 12, 13], []⟩ [((.exit 0), ⟨[], []⟩), (.ret, ⟨[4], []⟩)]
 (.seq (.region [.op 0 (.bin 14 .lss .plain (.tmp 13) (.tmp 12))] [])
 (.seq (.cond (.tmp 14)
 .skip
 (.exit 0))
 (.seq (.block 1 (.seq (.region [.op 0 (.mov 15 (.tmp 13)),
 .op 1 (.mov 5 (.tmp 15))] [])
 (.seq (.region [.op 0 (.mov 16 (.tmp 0)),
 .op 1 (.mov 17 (.tmp 5)),
 .op 2 (.iaddr 18 none 2 (.tmp 16) (.tmp 17)),
 .op 3 (.load 19 true 2 (.tmp 18)),
 .op 4 (.mov 20 (.tmp 1)),
 .op 5 (.mov 21 (.tmp 5)),
 .op 6 (.iaddr 22 none 2 (.tmp 20) (.tmp 21)),
 .op 7 (.load 23 true 2 (.tmp 22)),
 .op 8 (.bin 24 .neq (.cells [2, 2]) (.tmp 19) (.tmp 23))] [])
 (.cond (.tmp 24)
 (.seq (.region [.op 0 (.mov 4 (.const (.bool false)))] [])
 .ret)
 .skip))))
 (.region [.op 0 (.bin 25 .add .plain (.tmp 13) (.const (.int .i64 1))),
 .op 1 (.mov 13 (.tmp 25))] [])))))))
 (.seq (.region [.op 0 (.mov 4 (.const (.bool true)))] [])
 .ret)))),
 [.tmp 4]⟩
theorem ok148 : funcOk Tryz.prog (drawOk Tryz.prog) Tryz.f148 A148 = true := by kernel_rfl
noncomputable def L148_0 (call : TCall) (xs : List AVal) (h : TH) : KJ :=
 U4 (fun g5 g6 g7 g8 =>
 V (kLss g8 g7) fun v9 =>
 C v9
 (V (kIaddr 2 g5 g8) fun v10 =>
 V (kLdA h 2 v10) fun v11 =>
 V (kIaddr 2 g6 g8) fun v12 =>
 V (kLdA h 2 v12) fun v13 =>
 V (kNe (.cells [2, 2]) v11 v13) fun v14 =>
 C v14
 (.out 2 [(.bool false)] h)
 (V (kAdd g8 (.int .i64 1)) fun v15 =>
 .out 0 [g5, g6, g7, v15] h))
 (.out 1 [] h)) xs
noncomputable def F148 (call : TCall) (args : List AVal) (h : TH) : KR := ans (U2 (fun a0 a1 =>
 V (kLen false a0) fun v1 =>
 V (kLen false a1) fun v2 =>
 V (kNeq v1 v2) fun v3 =>
 C v3
 (.out 0 [(.bool false)] h)
 (V (kLen false a0) fun v4 =>
 Jn (Lp (L148_0 call) [a0, a1, v4, (.int .i64 0)] h) fun i18 x17 h16 =>
 ifB (Nat.beq i18 1) (U0 (.out 0 [(.bool true)] h16) x17) (
 ifB (Nat.beq i18 2) (U1 (fun g19 =>
 .out 0 [g19] h16) x17) (
 .no)))) args)
theorem st148 (call : TCall) (args : List AVal) (h : TH) : kFunc call A148 args h = F148 call args h := by kernel_rfl
noncomputable def A149 : AFunc := ⟨2, (.seq (.region [.op 0 (.alloc 4 true [.int .i64 0, .int .i64 0, .int .i64 0, .int .i64 0, .int .i64 0, .int .i64 0, .int .i64 0, .str [], .str [], .bool false, .int .u32 0, .nilSlice, .nilSlice])] [])
 (.seq (.region [.op 0 (.mov 5 (.tmp 1)),
 .op 1 (.call 6 179 [.tmp 5]),
 .op 2 (.mov 7 (.tmp 0)),
 .op 3 (.call 8 32 [.tmp 7]),
 .op 4 (.call 9 180 [.tmp 8]),
 .op 5 (.build 10 [.int .i64 0, .int .i64 0, .int .i64 0, .int .i64 0, .int .i64 0, .int .i64 0, .int .i64 0, .str [], .str [], .bool false, .int .u32 0, .nilSlice, .nilSlice] [(0, 1, .const (.int .i64 2)), (1, 1, .const (.int .i64 5)), (6, 1, .tmp 6), (10, 1, .tmp 9)]),
 .op 6 (.store true 13 (.tmp 4) (.tmp 10))] [])
 .ret)),
 [.cell 4 true 13]⟩
theorem ok149 : funcOk Tryz.prog (drawOk Tryz.prog) Tryz.f149 A149 = true := by kernel_rfl
noncomputable def F149 (call : TCall) (args : List AVal) (h : TH) : KR := ans (U2 (fun a0 a1 =>
 R (call 179 [a1] h) fun v1 h2 =>
 R (call 32 [a0] h2) fun v3 h4 =>
 R (call 180 [v3] h4) fun v5 h6 =>
 V (aFill [.int .i64 0, .int .i64 0, .int .i64 0, .int .i64 0, .int .i64 0, .int .i64 0, .int .i64 0, .str [], .str [], .bool false, .int .u32 0, .nilSlice, .nilSlice] [(0, 1, (.int .i64 2)), (1, 1, (.int .i64 5)), (6, 1, v1), (10, 1, v5)]) fun c7 =>
 V (kStL [.int .i64 0, .int .i64 0, .int .i64 0, .int .i64 0, .int .i64 0, .int .i64 0, .int .i64 0, .str [], .str [], .bool false, .int .u32 0, .nilSlice, .nilSlice] 0 13 (.agg c7)) fun c8 =>
 V (kLdL c8 true 0 13) fun v9 =>
 .out 0 [v9] h6) args)
theorem st149 (call : TCall) (args : List AVal) (h : TH) : kFunc call A149 args h = F149 call args h := by kernel_rfl
noncomputable def A150 : AFunc := ⟨1, (.seq (.region [.op 0 (.mov 2 (.const (.nilSlice)))] [])
 (.seq (.region [.op 0 (.mov 3 (.const (.nilSlice)))] [])
 (.seq (.seq (.region [.op 0 (.mov 6 (.tmp 0)),
 .op 1 (.len 7 false (.tmp 6)),
 .op 2 (.mov 8 (.const (.int .i64 0)))] [])
 (.block 0 (.loop ⟨[3, 6, 7, 8], []⟩ [((.exit 0), ⟨[3], []⟩)]
 (.seq (.region [.op 0 (.bin 9 .lss .plain (.tmp 8) (.tmp 7))] [])
 (.seq (.cond (.tmp 9)
 .skip
 (.exit 0))
 (.seq (.block 1 (.seq (.region [.op 0 (.iaddr 10 none 9 (.tmp 6) (.tmp 8)),
 .op 1 (.load 11 true 9 (.tmp 10)),
 .op 2 (.alloc 5 true [.str [], .str [], .int .i64 0, .int .i64 0, .int .i64 0, .int .i64 0, .int .i64 0, .int .i64 0, .bool false]),
 .op 3 (.store true 9 (.tmp 5) (.tmp 11))] [])
 (.seq (.region [.op 0 (.faddr 12 8 (.tmp 5)),
 .op 1 (.load 13 false 1 (.tmp 12)),
 .op 2 (.un 14 .not (.tmp 13))] [])
 (.join [(.normal, ⟨[3, 6, 7, 8], []⟩)] (.cond (.tmp 14)
 (.region [.op 0 (.mov 15 (.tmp 3)),
 .op 1 (.load 16 true 9 (.tmp 5)),
 .op 2 (.buildSl 17 [.str [], .str [], .int .i64 0, .int .i64 0, .int .i64 0, .int .i64 0, .int .i64 0, .int .i64 0, .bool false] 9 1 [(0, .tmp 16)]),
 .op 3 (.append 18 9 88 [.str [], .str [], .int .i64 0, .int .i64 0, .int .i64 0, .int .i64 0, .int .i64 0, .int .i64 0, .bool false] false (.tmp 15) (.tmp 17)),
 .op 4 (.mov 3 (.tmp 18))] [])
 .skip)))))
 (.region [.op 0 (.bin 19 .add .plain (.tmp 8) (.const (.int .i64 1))),
 .op 1 (.mov 8 (.tmp 19))] [])))))))
 (.seq (.region [.op 0 (.mov 20 (.tmp 3)),
 .op 1 (.call 21 130 [.tmp 20]),
 .op 2 (.mov 2 (.tmp 21))] [])
 .ret)))),
 [.tmp 2]⟩
theorem ok150 : funcOk Tryz.prog (drawOk Tryz.prog) Tryz.f150 A150 = true := by kernel_rfl
noncomputable def L150_0 (call : TCall) (xs : List AVal) (h : TH) : KJ :=
 U4 (fun g2 g3 g4 g5 =>
 V (kLss g5 g4) fun v6 =>
 C v6
 (V (kIaddr 9 g3 g5) fun v7 =>
 V (kLdA h 9 v7) fun v8 =>
 V (kStL [.str [], .str [], .int .i64 0, .int .i64 0, .int .i64 0, .int .i64 0, .int .i64 0, .int .i64 0, .bool false] 0 9 v8) fun c9 =>
 V (kLdL c9 false 8 1) fun v10 =>
 V (kNot v10) fun v11 =>
 Jn (C v11
 (V (kLdL c9 true 0 9) fun v12 =>
 V (aFill (reps [.str [], .str [], .int .i64 0, .int .i64 0, .int .i64 0, .int .i64 0, .int .i64 0, .int .i64 0, .bool false] 1) [(0, 9, v12)]) fun c13 =>
 R (kAppend 9 88 [.str [], .str [], .int .i64 0, .int .i64 0, .int .i64 0, .int .i64 0, .int .i64 0, .int .i64 0, .bool false] false g2 (.slice h.next 0 1 1 9 true) (h.alloc c13)) fun v14 h15 =>
 .out 0 [v14, g3, g4, g5] h15)
 (.out 0 [g2, g3, g4, g5] h)) fun i18 x17 h16 =>
 ifB (Nat.beq i18 0) (U4 (fun g19 g20 g21 g22 =>
 V (kAdd g22 (.int .i64 1)) fun v23 =>
 .out 0 [g19, g20, g21, v23] h16) x17) (
 .no))
 (.out 1 [g2] h)) xs
noncomputable def F150 (call : TCall) (args : List AVal) (h : TH) : KR := ans (U1 (fun a0 =>
 V (kLen false a0) fun v1 =>
 Jn (Lp (L150_0 call) [(.nilSlice), a0, v1, (.int .i64 0)] h) fun i26 x25 h24 =>
 ifB (Nat.beq i26 1) (U1 (fun g27 =>
 R (call 130 [g27] h24) fun v28 h29 =>
 .out 0 [v28] h29) x25) (
 .no)) args)
theorem st150 (call : TCall) (args : List AVal) (h : TH) : kFunc call A150 args h = F150 call args h := by kernel_rfl
noncomputable def A152 : AFunc := ⟨4, (.seq (.region [.op 0 (.box 4 true (.tmp 0)),
 .op 1 (.box 6 true (.tmp 2)),
 .op 2 (.alloc 8 true [.str [], .str [], .int .i64 0, .int .i64 0, .int .i64 0, .int .i64 0, .int .i64 0, .int .i64 0, .bool false, .int .i64 0])] [])
 (.seq (.region [.op 0 (.faddr 9 3 (.tmp 6)),
 .op 1 (.store false 1 (.tmp 9) (.const (.int .i64 0))),
 .op 2 (.faddr 10 8 (.tmp 6)),
 .op 3 (.store false 1 (.tmp 10) (.const (.bool false)))] [])
 (.seq (.seq (.region [.op 0 (.mov 11 (.tmp 1)),
 .op 1 (.mov 12 (.tmp 11)),
 .guard 12 true [.op 2 (.faddr 13 0 (.tmp 4)),
 .op 3 (.faddr 14 8 (.tmp 13)),
 .op 4 (.load 15 false 1 (.tmp 14)),
 .op 5 (.un 16 .not (.tmp 15))] [] [16],
 .op 6 (.pick 17 (.tmp 12) (.tmp 16) (.const (.bool false)))] [])
 (.join [(.normal, ⟨[3], [6, 8]⟩)] (.cond (.tmp 17)
 (.region [.op 0 (.faddr 18 0 (.tmp 4)),
 .op 1 (.faddr 19 3 (.tmp 18)),
 .op 2 (.load 20 false 1 (.tmp 19)),
 .op 3 (.faddr 21 3 (.tmp 6)),
 .op 4 (.store false 1 (.tmp 21) (.tmp 20))] [])
 .skip)))
 (.seq (.region [.op 0 (.load 22 true 9 (.tmp 6)),
 .op 1 (.mov 23 (.tmp 3)),
 .op 2 (.build 24 [.str [], .str [], .int .i64 0, .int .i64 0, .int .i64 0, .int .i64 0, .int .i64 0, .int .i64 0, .bool false, .int .i64 0] [(0, 9, .tmp 22), (9, 1, .tmp 23)]),
 .op 3 (.store true 10 (.tmp 8) (.tmp 24))] [])
 .ret)))),
 [.cell 8 true 10]⟩
theorem ok152 : funcOk Tryz.prog (drawOk Tryz.prog) Tryz.f152 A152 = true := by kernel_rfl
noncomputable def F152 (call : TCall) (args : List AVal) (h : TH) : KR := ans (U4 (fun a0 a1 a2 a3 =>
 V (kCellsQ a0) fun c1 =>
 V (kCellsQ a2) fun c2 =>
 V (kStL c2 3 1 (.int .i64 0)) fun c3 =>
 V (kStL c3 8 1 (.bool false)) fun c4 =>
 Jn (G a1 true
 (V (kLdL c1 false 8 1) fun v5 =>
 V (kNot v5) fun v6 =>
 .out 0 [v6] h)
 (.out 0 [skipV] h)) fun _ x8 h7 =>
 U1 (fun g9 =>
 V (kPick a1 g9 (.bool false)) fun v10 =>
 Jn (C v10
 (V (kLdL c1 false 3 1) fun v11 =>
 V (kStL c4 3 1 v11) fun c12 =>
 .out 0 [a3, (.agg c12), (.agg [.str [], .str [], .int .i64 0, .int .i64 0, .int .i64 0, .int .i64 0, .int .i64 0, .int .i64 0, .bool false, .int .i64 0])] h7)
 (.out 0 [a3, (.agg c4), (.agg [.str [], .str [], .int .i64 0, .int .i64 0, .int .i64 0, .int .i64 0, .int .i64 0, .int .i64 0, .bool false, .int .i64 0])] h7)) fun i15 x14 h13 =>
 ifB (Nat.beq i15 0) (U3 (fun g16 g17 g18 =>
 V (kLdL (kAggCells g17) true 0 9) fun v19 =>
 V (aFill [.str [], .str [], .int .i64 0, .int .i64 0, .int .i64 0, .int .i64 0, .int .i64 0, .int .i64 0, .bool false, .int .i64 0] [(0, 9, v19), (9, 1, g16)]) fun c20 =>
 V (kStL (kAggCells g18) 0 10 (.agg c20)) fun c21 =>
 V (kLdL c21 true 0 10) fun v22 =>
 .out 0 [v22] h13) x14) (
 .no)) x8) args)
theorem st152 (call : TCall) (args : List AVal) (h : TH) : kFunc call A152 args h = F152 call args h := by kernel_rfl
noncomputable def A153 : AFunc := ⟨3, (.seq (.region [.op 0 (.box 3 true (.tmp 0)),
 .op 1 (.alloc 6 true [.int .i64 0, .int .i64 0, .int .i64 0])] [])
 (.seq (.region [.op 0 (.faddr 8 2 (.tmp 3)),
 .op 1 (.load 9 false 1 (.tmp 8)),
 .op 2 (.mov 7 (.tmp 9))] [])
 (.seq (.seq (.region [.op 0 (.mov 10 (.tmp 7)),
 .op 1 (.bin 11 .lss .plain (.tmp 10) (.const (.int .i64 9223372036854775807)))] [])
 (.join [(.normal, ⟨[1, 2, 7], [3, 6]⟩)] (.cond (.tmp 11)
 (.region [.op 0 (.mov 12 (.tmp 7)),
 .op 1 (.bin 13 .add .plain (.tmp 12) (.const (.int .i64 1))),
 .op 2 (.mov 7 (.tmp 13))] [])
 .skip)))
 (.seq (.region [.op 0 (.faddr 14 0 (.tmp 3)),
 .op 1 (.load 15 false 1 (.tmp 14)),
 .op 2 (.mov 16 (.tmp 1)),
 .op 3 (.minmax 17 true [.tmp 15, .tmp 16]),
 .op 4 (.mov 18 (.tmp 2)),
 .op 5 (.mov 19 (.tmp 7)),
 .op 6 (.build 20 [.int .i64 0, .int .i64 0, .int .i64 0] [(0, 1, .tmp 17), (1, 1, .tmp 18), (2, 1, .tmp 19)]),
 .op 7 (.store true 3 (.tmp 6) (.tmp 20))] [])
 .ret)))),
 [.cell 6 true 3]⟩
theorem ok153 : funcOk Tryz.prog (drawOk Tryz.prog) Tryz.f153 A153 = true := by kernel_rfl
noncomputable def F153 (call : TCall) (args : List AVal) (h : TH) : KR := ans (U3 (fun a0 a1 a2 =>
 V (kCellsQ a0) fun c1 =>
 V (kLdL c1 false 2 1) fun v2 =>
 V (kLss v2 (.int .i64 9223372036854775807)) fun v3 =>
 Jn (C v3
 (V (kAdd v2 (.int .i64 1)) fun v4 =>
 .out 0 [a1, a2, v4, (.agg c1), (.agg [.int .i64 0, .int .i64 0, .int .i64 0])] h)
 (.out 0 [a1, a2, v2, (.agg c1), (.agg [.int .i64 0, .int .i64 0, .int .i64 0])] h)) fun i7 x6 h5 =>
 ifB (Nat.beq i7 0) (U5 (fun g8 g9 g10 g11 g12 =>
 V (kLdL (kAggCells g11) false 0 1) fun v13 =>
 V (aMinMaxL true [v13, g8]) fun v14 =>
 V (aFill [.int .i64 0, .int .i64 0, .int .i64 0] [(0, 1, v14), (1, 1, g9), (2, 1, g10)]) fun c15 =>
 V (kStL (kAggCells g12) 0 3 (.agg c15)) fun c16 =>
 V (kLdL c16 true 0 3) fun v17 =>
 .out 0 [v17] h5) x6) (
 .no)) args)
theorem st153 (call : TCall) (args : List AVal) (h : TH) : kFunc call A153 args h = F153 call args h := by kernel_rfl
noncomputable def A154 : AFunc := ⟨2, (.seq (.region [.op 0 (.box 2 true (.tmp 0)),
 .op 1 (.box 3 true (.tmp 1)),
 .op 2 (.alloc 4 true [.int .i64 0, .int .i64 0, .int .i64 0])] [])
 (.seq (.block 0 (.seq (.join [((.exit 0), ⟨[], [3, 4]⟩), (.normal, ⟨[], [2, 4]⟩)] (.block 2 (.block 1 (.seq (.seq (.seq (.region [.op 0 (.load 6 true 3 (.tmp 3)),
 .op 1 (.load 7 true 3 (.tmp 2)),
 .op 2 (.call 8 86 [.tmp 6, .tmp 7]),
 .op 3 (.mov 5 (.tmp 8))] [])
 (.cond (.tmp 5)
 (.exit 1)
 .skip))
 (.seq (.region [.op 0 (.load 10 true 3 (.tmp 2)),
 .op 1 (.load 11 true 3 (.tmp 3)),
 .op 2 (.bin 12 .eql (.cells [1, 1, 1]) (.tmp 10) (.tmp 11)),
 .op 3 (.mov 9 (.tmp 12))] [])
 (.cond (.tmp 9)
 (.exit 2)
 .skip)))
 (.exit 0)))))
 (.seq (.seq (.region [.op 0 (.load 13 true 3 (.tmp 2)),
 .op 1 (.store true 3 (.tmp 4) (.tmp 13))] [])
 .ret)
 (.exit 0))))
 (.seq (.region [.op 0 (.load 14 true 3 (.tmp 3)),
 .op 1 (.store true 3 (.tmp 4) (.tmp 14))] [])
 .ret))),
 [.cell 4 true 3]⟩
theorem ok154 : funcOk Tryz.prog (drawOk Tryz.prog) Tryz.f154 A154 = true := by kernel_rfl
noncomputable def F154 (call : TCall) (args : List AVal) (h : TH) : KR := ans (U2 (fun a0 a1 =>
 V (kCellsQ a0) fun c1 =>
 V (kCellsQ a1) fun c2 =>
 Jn (V (kLdL c2 true 0 3) fun v3 =>
 V (kLdL c1 true 0 3) fun v4 =>
 R (call 86 [v3, v4] h) fun v5 h6 =>
 C v5
 (.out 1 [(.agg c1), (.agg [.int .i64 0, .int .i64 0, .int .i64 0])] h6)
 (V (kLdL c1 true 0 3) fun v7 =>
 V (kLdL c2 true 0 3) fun v8 =>
 V (kEq (.cells [1, 1, 1]) v7 v8) fun v9 =>
 C v9
 (.out 1 [(.agg c1), (.agg [.int .i64 0, .int .i64 0, .int .i64 0])] h6)
 (.out 0 [(.agg c2), (.agg [.int .i64 0, .int .i64 0, .int .i64 0])] h6))) fun i12 x11 h10 =>
 ifB (Nat.beq i12 0) (U2 (fun g13 g14 =>
 V (kLdL (kAggCells g13) true 0 3) fun v15 =>
 V (kStL (kAggCells g14) 0 3 v15) fun c16 =>
 V (kLdL c16 true 0 3) fun v17 =>
 .out 0 [v17] h10) x11) (
 ifB (Nat.beq i12 1) (U2 (fun g18 g19 =>
 V (kLdL (kAggCells g18) true 0 3) fun v20 =>
 V (kStL (kAggCells g19) 0 3 v20) fun c21 =>
 V (kLdL c21 true 0 3) fun v22 =>
 .out 0 [v22] h10) x11) (
 .no))) args)
theorem st154 (call : TCall) (args : List AVal) (h : TH) : kFunc call A154 args h = F154 call args h := by kernel_rfl
noncomputable def A155 : AFunc := ⟨2, (.seq (.region [.op 0 (.box 2 true (.tmp 0)),
 .op 1 (.box 3 true (.tmp 1)),
 .op 2 (.mov 4 (.const (.bool false)))] [])
 (.seq (.region [.op 0 (.load 5 true 2 (.tmp 2)),
 .op 1 (.load 6 true 2 (.tmp 3)),
 .op 2 (.call 7 164 [.tmp 5, .tmp 6]),
 .op 3 (.bin 8 .lss .plain (.tmp 7) (.const (.int .i64 0))),
 .op 4 (.mov 4 (.tmp 8))] [])
 .ret)),
 [.tmp 4]⟩
theorem ok155 : funcOk Tryz.prog (drawOk Tryz.prog) Tryz.f155 A155 = true := by kernel_rfl
noncomputable def F155 (call : TCall) (args : List AVal) (h : TH) : KR := ans (U2 (fun a0 a1 =>
 V (kCellsQ a0) fun c1 =>
 V (kCellsQ a1) fun c2 =>
 V (kLdL c1 true 0 2) fun v3 =>
 V (kLdL c2 true 0 2) fun v4 =>
 R (call 164 [v3, v4] h) fun v5 h6 =>
 V (kLss v5 (.int .i64 0)) fun v7 =>
 .out 0 [v7] h6) args)
theorem st155 (call : TCall) (args : List AVal) (h : TH) : kFunc call A155 args h = F155 call args h := by kernel_rfl
noncomputable def A156 : AFunc := ⟨1, (.seq (.region [.op 0 (.mov 2 (.const (.bool false)))] [])
 (.seq (.region [.op 0 (.mov 3 (.tmp 0)),
 .op 1 (.mov 4 (.tmp 0)),
 .op 2 (.bin 5 .neq .plain (.tmp 3) (.tmp 4)),
 .op 3 (.mov 2 (.tmp 5))] [])
 .ret)),
 [.tmp 2]⟩
theorem ok156 : funcOk Tryz.prog (drawOk Tryz.prog) Tryz.f156 A156 = true := by kernel_rfl
noncomputable def F156 (call : TCall) (args : List AVal) (h : TH) : KR := ans (U1 (fun a0 =>
 V (kNeq a0 a0) fun v1 =>
 .out 0 [v1] h) args)
theorem st156 (call : TCall) (args : List AVal) (h : TH) : kFunc call A156 args h = F156 call args h := by kernel_rfl
noncomputable def A157 : AFunc := ⟨1, (.seq (.region [.op 0 (.mov 2 (.const (.bool false)))] [])
 (.seq (.region [.op 0 (.mov 3 (.tmp 0)),
 .op 1 (.mov 4 (.tmp 0)),
 .op 2 (.bin 5 .neq .plain (.tmp 3) (.tmp 4)),
 .op 3 (.mov 2 (.tmp 5))] [])
 .ret)),
 [.tmp 2]⟩
theorem ok157 : funcOk Tryz.prog (drawOk Tryz.prog) Tryz.f157 A157 = true := by kernel_rfl
noncomputable def F157 (call : TCall) (args : List AVal) (h : TH) : KR := ans (U1 (fun a0 =>
 V (kNeq a0 a0) fun v1 =>
 .out 0 [v1] h) args)
theorem st157 (call : TCall) (args : List AVal) (h : TH) : kFunc call A157 args h = F157 call args h := by kernel_rfl
noncomputable def A158 : AFunc := ⟨1, (.seq (.region [.op 0 (.mov 2 (.const (.nilSlice)))] [])
 (.seq (.seq (.region [.op 0 (.mov 3 (.tmp 0)),
 .op 1 (.bin 4 .eql .slice (.tmp 3) (.const (.nilSlice)))] [])
 (.cond (.tmp 4)
 (.seq (.region [.op 0 (.mov 2 (.const (.nilSlice)))] [])
 .ret)
 .skip))
 (.seq (.region [.op 0 (.buildSl 5 [.str [], .str []] 2 0 []),
 .op 1 (.mov 6 (.tmp 0)),
 .op 2 (.append 7 2 32 [.str [], .str []] false (.tmp 5) (.tmp 6)),
 .op 3 (.mov 2 (.tmp 7))] [])
 .ret))),
 [.tmp 2]⟩
theorem ok158 : funcOk Tryz.prog (drawOk Tryz.prog) Tryz.f158 A158 = true := by kernel_rfl
noncomputable def F158 (call : TCall) (args : List AVal) (h : TH) : KR := ans (U1 (fun a0 =>
 V (kEq .slice a0 (.nilSlice)) fun v1 =>
 C v1
 (.out 0 [(.nilSlice)] h)
 (V (aFill (reps [.str [], .str []] 0) []) fun c2 =>
 R (kAppend 2 32 [.str [], .str []] false (.slice h.next 0 0 0 2 true) a0 (h.alloc c2)) fun v3 h4 =>
 .out 0 [v3] h4)) args)
theorem st158 (call : TCall) (args : List AVal) (h : TH) : kFunc call A158 args h = F158 call args h := by kernel_rfl
noncomputable def A161 : AFunc := ⟨1, (.seq (.region [.op 0 (.mov 2 (.const (.nilSlice)))] [])
 (.seq (.seq (.region [.op 0 (.mov 3 (.tmp 0)),
 .op 1 (.bin 4 .eql .slice (.tmp 3) (.const (.nilSlice)))] [])
 (.cond (.tmp 4)
 (.seq (.region [.op 0 (.mov 2 (.const (.nilSlice)))] [])
 .ret)
 .skip))
 (.seq (.region [.op 0 (.buildSl 5 [.str [], .str [], .int .i64 0, .int .i64 0, .int .i64 0, .int .i64 0, .int .i64 0, .int .i64 0, .bool false] 9 0 []),
 .op 1 (.mov 6 (.tmp 0)),
 .op 2 (.append 7 9 88 [.str [], .str [], .int .i64 0, .int .i64 0, .int .i64 0, .int .i64 0, .int .i64 0, .int .i64 0, .bool false] false (.tmp 5) (.tmp 6)),
 .op 3 (.mov 2 (.tmp 7))] [])
 .ret))),
 [.tmp 2]⟩
theorem ok161 : funcOk Tryz.prog (drawOk Tryz.prog) Tryz.f161 A161 = true := by kernel_rfl
noncomputable def F161 (call : TCall) (args : List AVal) (h : TH) : KR := ans (U1 (fun a0 =>
 V (kEq .slice a0 (.nilSlice)) fun v1 =>
 C v1
 (.out 0 [(.nilSlice)] h)
 (V (aFill (reps [.str [], .str [], .int .i64 0, .int .i64 0, .int .i64 0, .int .i64 0, .int .i64 0, .int .i64 0, .bool false] 0) []) fun c2 =>
 R (kAppend 9 88 [.str [], .str [], .int .i64 0, .int .i64 0, .int .i64 0, .int .i64 0, .int .i64 0, .int .i64 0, .bool false] false (.slice h.next 0 0 0 9 true) a0 (h.alloc c2)) fun v3 h4 =>
 .out 0 [v3] h4)) args)
theorem st161 (call : TCall) (args : List AVal) (h : TH) : kFunc call A161 args h = F161 call args h := by kernel_rfl
noncomputable def A162 : AFunc := ⟨2, (.region [.op 0 (.mov 4 (.tmp 0)),
 .op 1 (.mov 5 (.tmp 0)),
 .op 2 (.len 6 false (.tmp 5)),
 .op 3 (.mov 7 (.tmp 1)),
 .op 4 (.call 8 182 [.tmp 4, .tmp 6, .tmp 7])] []),
 []⟩
theorem ok162 : funcOk Tryz.prog (drawOk Tryz.prog) Tryz.f162 A162 = true := by kernel_rfl
noncomputable def F162 (call : TCall) (args : List AVal) (h : TH) : KR := ans (U2 (fun a0 a1 =>
 V (kLen false a0) fun v1 =>
 R (call 182 [a0, v1, a1] h) fun v2 h3 =>
 .out 0 [.tuple []] h3) args)
theorem st162 (call : TCall) (args : List AVal) (h : TH) : kFunc call A162 args h = F162 call args h := by kernel_rfl
noncomputable def A164 : AFunc := ⟨2, (.seq (.region [.op 0 (.box 2 true (.tmp 0)),
 .op 1 (.box 3 true (.tmp 1)),
 .op 2 (.mov 4 (.const (.int .i64 0)))] [])
 (.seq (.region [.op 0 (.faddr 5 0 (.tmp 2)),
 .op 1 (.load 6 false 1 (.tmp 5)),
 .op 2 (.faddr 7 0 (.tmp 3)),
 .op 3 (.load 8 false 1 (.tmp 7)),
 .op 4 (.call 9 183 [.tmp 6, .tmp 8]),
 .op 5 (.faddr 10 1 (.tmp 2)),
 .op 6 (.load 11 false 1 (.tmp 10)),
 .op 7 (.faddr 12 1 (.tmp 3)),
 .op 8 (.load 13 false 1 (.tmp 12)),
 .op 9 (.call 14 183 [.tmp 11, .tmp 13]),
 .op 10 (.buildSl 15 [.int .i64 0] 1 2 [(0, .tmp 9), (1, .tmp 14)]),
 .op 11 (.call 16 124 [.tmp 15]),
 .op 12 (.mov 4 (.tmp 16))] [(6, 4), (8, 4)])
 .ret)),
 [.tmp 4]⟩
theorem ok164 : funcOk Tryz.prog (drawOk Tryz.prog) Tryz.f164 A164 = true := by kernel_rfl
noncomputable def F164 (call : TCall) (args : List AVal) (h : TH) : KR := ans (U2 (fun a0 a1 =>
 V (kCellsQ a0) fun c1 =>
 V (kCellsQ a1) fun c2 =>
 V (kLdL c1 false 0 1) fun v3 =>
 V (kLdL c2 false 0 1) fun v4 =>
 R (call 183 [v3, v4] h) fun v5 h6 =>
 V (kLdL c1 false 1 1) fun v7 =>
 V (kLdL c2 false 1 1) fun v8 =>
 R (call 183 [v7, v8] h6) fun v9 h10 =>
 V (aFill (reps [.int .i64 0] 2) [(0, 1, v5), (1, 1, v9)]) fun c11 =>
 R (call 124 [(.slice h10.next 0 2 2 1 true)] (h10.alloc c11)) fun v12 h13 =>
 ifB (kCheck [(8, some (.lrd 3 1 1)), (6, some (.lrd 2 1 1)), (4, some (.ef [(3, c2), (2, c1)] h [(3, c2), (2, c1)] h6))] [(6, 4), (8, 4)]) (.out 0 [v12] h13) .no) args)
theorem st164 (call : TCall) (args : List AVal) (h : TH) : kFunc call A164 args h = F164 call args h := by kernel_rfl
noncomputable def A165 : AFunc := ⟨1, (.seq (.region [.op 0 (.mov 2 (.const (.nilSlice)))] [])
 (.seq (.region [.op 0 (.mov 3 (.tmp 0)),
 .op 1 (.mov 4 (.tmp 0)),
 .op 2 (.len 5 false (.tmp 4)),
 .op 3 (.mov 6 (.tmp 0)),
 .op 4 (.len 7 false (.tmp 6)),
 .op 5 (.slice 8 (.sl 9) (.tmp 3) none (some (.tmp 5)) (some (.tmp 7))),
 .op 6 (.mov 2 (.tmp 8))] [])
 .ret)),
 [.tmp 2]⟩
theorem ok165 : funcOk Tryz.prog (drawOk Tryz.prog) Tryz.f165 A165 = true := by kernel_rfl
noncomputable def F165 (call : TCall) (args : List AVal) (h : TH) : KR := ans (U1 (fun a0 =>
 V (kLen false a0) fun v1 =>
 V (kLen false a0) fun v2 =>
 V (kSlSl 9 a0 none (some v1) (some v2)) fun v3 =>
 .out 0 [v3] h) args)
theorem st165 (call : TCall) (args : List AVal) (h : TH) : kFunc call A165 args h = F165 call args h := by kernel_rfl
noncomputable def A166 : AFunc := ⟨1, (.seq (.region [.op 0 (.mov 2 (.const (.nilSlice)))] [])
 (.seq (.seq (.region [.op 0 (.mov 3 (.tmp 0)),
 .op 1 (.bin 4 .eql .slice (.tmp 3) (.const (.nilSlice)))] [])
 (.cond (.tmp 4)
 (.seq (.region [.op 0 (.mov 2 (.const (.nilSlice)))] [])
 .ret)
 .skip))
 (.seq (.region [.op 0 (.buildSl 5 [.int .u8 0] 1 0 []),
 .op 1 (.mov 6 (.tmp 0)),
 .op 2 (.append 7 1 1 [.int .u8 0] false (.tmp 5) (.tmp 6)),
 .op 3 (.mov 2 (.tmp 7))] [])
 .ret))),
 [.tmp 2]⟩
theorem ok166 : funcOk Tryz.prog (drawOk Tryz.prog) Tryz.f166 A166 = true := by kernel_rfl
noncomputable def F166 (call : TCall) (args : List AVal) (h : TH) : KR := ans (U1 (fun a0 =>
 V (kEq .slice a0 (.nilSlice)) fun v1 =>
 C v1
 (.out 0 [(.nilSlice)] h)
 (V (aFill (reps [.int .u8 0] 0) []) fun c2 =>
 R (kAppend 1 1 [.int .u8 0] false (.slice h.next 0 0 0 1 true) a0 (h.alloc c2)) fun v3 h4 =>
 .out 0 [v3] h4)) args)
theorem st166 (call : TCall) (args : List AVal) (h : TH) : kFunc call A166 args h = F166 call args h := by kernel_rfl
noncomputable def A167 : AFunc := ⟨1, (.seq (.region [.op 0 (.mov 2 (.const (.str [])))] [])
 (.seq (.seq (.region [.op 0 (.mov 3 (.tmp 0)),
 .op 1 (.bin 4 .lss .plain (.tmp 3) (.const (.int .i64 10)))] [])
 (.cond (.tmp 4)
 (.seq (.region [.op 0 (.mov 5 (.tmp 0)),
 .op 1 (.mov 6 (.tmp 0)),
 .op 2 (.bin 7 .add .plain (.tmp 6) (.const (.int .i64 1))),
 .op 3 (.slice 8 .str (.const (.str [48, 49, 50, 51, 52, 53, 54, 55, 56, 57, 97, 98, 99, 100, 101, 102, 103, 104, 105, 106, 107, 108, 109, 110, 111, 112, 113, 114, 115, 116, 117, 118, 119, 120, 121, 122])) (some (.tmp 5)) (some (.tmp 7)) none),
 .op 4 (.mov 2 (.tmp 8))] [])
 .ret)
 .skip))
 (.seq (.region [.op 0 (.mov 9 (.tmp 0)),
 .op 1 (.bin 10 .mul .plain (.tmp 9) (.const (.int .i64 2))),
 .op 2 (.mov 11 (.tmp 0)),
 .op 3 (.bin 12 .mul .plain (.tmp 11) (.const (.int .i64 2))),
 .op 4 (.bin 13 .add .plain (.tmp 12) (.const (.int .i64 2))),
 .op 5 (.slice 14 .str (.const (.str [48, 48, 48, 49, 48, 50, 48, 51, 48, 52, 48, 53, 48, 54, 48, 55, 48, 56, 48, 57, 49, 48, 49, 49, 49, 50, 49, 51, 49, 52, 49, 53, 49, 54, 49, 55, 49, 56, 49, 57, 50, 48, 50, 49, 50, 50, 50, 51, 50, 52, 50, 53, 50, 54, 50, 55, 50, 56, 50, 57, 51, 48, 51, 49, 51, 50, 51, 51, 51, 52, 51, 53, 51, 54, 51, 55, 51, 56, 51, 57, 52, 48, 52, 49, 52, 50, 52, 51, 52, 52, 52, 53, 52, 54, 52, 55, 52, 56, 52, 57, 53, 48, 53, 49, 53, 50, 53, 51, 53, 52, 53, 53, 53, 54, 53, 55, 53, 56, 53, 57, 54, 48, 54, 49, 54, 50, 54, 51, 54, 52, 54, 53, 54, 54, 54, 55, 54, 56, 54, 57, 55, 48, 55, 49, 55, 50, 55, 51, 55, 52, 55, 53, 55, 54, 55, 55, 55, 56, 55, 57, 56, 48, 56, 49, 56, 50, 56, 51, 56, 52, 56, 53, 56, 54, 56, 55, 56, 56, 56, 57, 57, 48, 57, 49, 57, 50, 57, 51, 57, 52, 57, 53, 57, 54, 57, 55, 57, 56, 57, 57])) (some (.tmp 10)) (some (.tmp 13)) none),
 .op 6 (.mov 2 (.tmp 14))] [])
 .ret))),
 [.tmp 2]⟩
theorem ok167 : funcOk Tryz.prog (drawOk Tryz.prog) Tryz.f167 A167 = true := by kernel_rfl
noncomputable def F167 (call : TCall) (args : List AVal) (h : TH) : KR := ans (U1 (fun a0 =>
 V (kLss a0 (.int .i64 10)) fun v1 =>
 C v1
 (V (kAdd a0 (.int .i64 1)) fun v2 =>
 V (kSlStr (.str [48, 49, 50, 51, 52, 53, 54, 55, 56, 57, 97, 98, 99, 100, 101, 102, 103, 104, 105, 106, 107, 108, 109, 110, 111, 112, 113, 114, 115, 116, 117, 118, 119, 120, 121, 122]) (some a0) (some v2)) fun v3 =>
 .out 0 [v3] h)
 (V (kMul a0 (.int .i64 2)) fun v4 =>
 V (kMul a0 (.int .i64 2)) fun v5 =>
 V (kAdd v5 (.int .i64 2)) fun v6 =>
 V (kSlStr (.str [48, 48, 48, 49, 48, 50, 48, 51, 48, 52, 48, 53, 48, 54, 48, 55, 48, 56, 48, 57, 49, 48, 49, 49, 49, 50, 49, 51, 49, 52, 49, 53, 49, 54, 49, 55, 49, 56, 49, 57, 50, 48, 50, 49, 50, 50, 50, 51, 50, 52, 50, 53, 50, 54, 50, 55, 50, 56, 50, 57, 51, 48, 51, 49, 51, 50, 51, 51, 51, 52, 51, 53, 51, 54, 51, 55, 51, 56, 51, 57, 52, 48, 52, 49, 52, 50, 52, 51, 52, 52, 52, 53, 52, 54, 52, 55, 52, 56, 52, 57, 53, 48, 53, 49, 53, 50, 53, 51, 53, 52, 53, 53, 53, 54, 53, 55, 53, 56, 53, 57, 54, 48, 54, 49, 54, 50, 54, 51, 54, 52, 54, 53, 54, 54, 54, 55, 54, 56, 54, 57, 55, 48, 55, 49, 55, 50, 55, 51, 55, 52, 55, 53, 55, 54, 55, 55, 55, 56, 55, 57, 56, 48, 56, 49, 56, 50, 56, 51, 56, 52, 56, 53, 56, 54, 56, 55, 56, 56, 56, 57, 57, 48, 57, 49, 57, 50, 57, 51, 57, 52, 57, 53, 57, 54, 57, 55, 57, 56, 57, 57]) (some v4) (some v6)) fun v7 =>
 .out 0 [v7] h)) args)
theorem st167 (call : TCall) (args : List AVal) (h : TH) : kFunc call A167 args h = F167 call args h := by kernel_rfl
noncomputable def A171 : AFunc := ⟨2, (.seq (.region [.op 0 (.mov 4 (.const (.bool false)))] [])
 (.seq (.region [.op 0 (.mov 5 (.tmp 1)),
 .op 1 (.bin 6 .geq .plain (.tmp 5) (.const (.int .i64 0))),
 .op 2 (.mov 7 (.tmp 6)),
 .guard 7 true [.op 3 (.mov 8 (.tmp 1)),
 .op 4 (.mov 9 (.tmp 0)),
 .op 5 (.nilchk 10 (.tmp 9)),
 .op 6 (.faddr 11 0 (.tmp 10)),
 .op 7 (.load 12 false 1 (.tmp 11)),
 .op 8 (.len 13 false (.tmp 12)),
 .op 9 (.bin 14 .lss .plain (.tmp 8) (.tmp 13))] [] [14],
 .op 10 (.pick 15 (.tmp 7) (.tmp 14) (.const (.bool false))),
 .op 11 (.mov 4 (.tmp 15))] [])
 .ret)),
 [.tmp 4]⟩
theorem ok171 : funcOk Tryz.prog (drawOk Tryz.prog) Tryz.f171 A171 = true := by kernel_rfl
noncomputable def F171 (call : TCall) (args : List AVal) (h : TH) : KR := ans (U2 (fun a0 a1 =>
 V (kGeq a1 (.int .i64 0)) fun v1 =>
 Jn (G v1 true
 (V (kNil a0) fun v2 =>
 V (kFaddr 0 v2) fun v3 =>
 V (kLd1 h v3) fun v4 =>
 V (kLen false v4) fun v5 =>
 V (kLss a1 v5) fun v6 =>
 .out 0 [v6] h)
 (.out 0 [skipV] h)) fun _ x8 h7 =>
 U1 (fun g9 =>
 V (kPick v1 g9 (.bool false)) fun v10 =>
 .out 0 [v10] h7) x8) args)
theorem st171 (call : TCall) (args : List AVal) (h : TH) : kFunc call A171 args h = F171 call args h := by kernel_rfl
noncomputable def A172 : AFunc := ⟨1, (.seq (.region [.op 0 (.mov 2 (.const (.nilSlice)))] [])
 (.seq (.region [.op 0 (.mov 6 (.tmp 0)),
 .op 1 (.nilchk 7 (.tmp 6)),
 .op 2 (.faddr 8 0 (.tmp 7)),
 .op 3 (.load 9 false 1 (.tmp 8)),
 .op 4 (.bin 10 .add .plain (.tmp 9) (.const (.int .i64 1))),
 .op 5 (.nilchk 11 (.tmp 6)),
 .op 6 (.faddr 12 0 (.tmp 11)),
 .op 7 (.store false 1 (.tmp 12) (.tmp 10))] [])
 (.seq (.region [.op 0 (.mov 13 (.tmp 0)),
 .op 1 (.nilchk 14 (.tmp 13)),
 .op 2 (.faddr 15 4 (.tmp 14)),
 .op 3 (.load 16 false 1 (.tmp 15)),
 .op 4 (.call 17 189 [.tmp 16]),
 .op 5 (.mov 18 (.tmp 0)),
 .op 6 (.nilchk 19 (.tmp 18)),
 .op 7 (.faddr 20 0 (.tmp 19)),
 .op 8 (.load 21 false 1 (.tmp 20)),
 .op 9 (.call 22 190 [.tmp 17, .tmp 21])] [(8, 4)])
 (.seq (.seq (.region [.op 0 (.mov 23 (.tmp 0)),
 .op 1 (.nilchk 24 (.tmp 23)),
 .op 2 (.faddr 25 0 (.tmp 24)),
 .op 3 (.load 26 false 1 (.tmp 25)),
 .op 4 (.bin 27 .rem .plain (.tmp 26) (.const (.int .i64 20))),
 .op 5 (.bin 28 .eql .plain (.tmp 27) (.const (.int .i64 0)))] [])
 (.join [(.normal, ⟨[0], []⟩)] (.cond (.tmp 28)
 (.seq (.region [.op 0 (.mov 29 (.tmp 0)),
 .op 1 (.nilchk 30 (.tmp 29)),
 .op 2 (.faddr 31 5 (.tmp 30)),
 .op 3 (.load 32 false 1 (.tmp 31)),
 .op 4 (.mov 33 (.tmp 0)),
 .op 5 (.nilchk 34 (.tmp 33)),
 .op 6 (.faddr 35 4 (.tmp 34)),
 .op 7 (.load 36 false 1 (.tmp 35)),
 .op 8 (.mov 37 (.tmp 0)),
 .op 9 (.nilchk 38 (.tmp 37)),
 .op 10 (.faddr 39 0 (.tmp 38)),
 .op 11 (.load 40 false 1 (.tmp 39)),
 .op 12 (.mov 41 (.tmp 0)),
 .op 13 (.nilchk 42 (.tmp 41)),
 .op 14 (.faddr 43 0 (.tmp 42)),
 .op 15 (.load 44 false 1 (.tmp 43)),
 .op 16 (.mov 45 (.tmp 0)),
 .op 17 (.nilchk 46 (.tmp 45)),
 .op 18 (.faddr 47 1 (.tmp 46)),
 .op 19 (.load 48 false 1 (.tmp 47)),
 .op 20 (.bin 49 .sub .plain (.tmp 44) (.tmp 48)),
 .op 21 (.bin 50 .sub .plain (.tmp 49) (.const (.int .i64 20))),
 .op 22 (.call 51 191 [.tmp 36, .tmp 40, .tmp 50]),
 .op 23 (.call 52 52 [.tmp 32, .tmp 51])] [(3, 22)])
 (.seq (.region [.op 0 (.mov 53 (.tmp 0)),
 .op 1 (.mov 54 (.tmp 0)),
 .op 2 (.nilchk 55 (.tmp 54)),
 .op 3 (.faddr 56 0 (.tmp 55)),
 .op 4 (.load 57 false 1 (.tmp 56)),
 .op 5 (.nilchk 58 (.tmp 53)),
 .op 6 (.faddr 59 1 (.tmp 58)),
 .op 7 (.store false 1 (.tmp 59) (.tmp 57))] [])
 (.region [.op 0 (.mov 60 (.tmp 0)),
 .op 1 (.nilchk 61 (.tmp 60)),
 .op 2 (.faddr 62 4 (.tmp 61)),
 .op 3 (.load 63 false 1 (.tmp 62)),
 .op 4 (.mov 64 (.tmp 0)),
 .op 5 (.nilchk 65 (.tmp 64)),
 .op 6 (.faddr 66 0 (.tmp 65)),
 .op 7 (.load 67 false 1 (.tmp 66)),
 .op 8 (.call 68 192 [.tmp 63, .tmp 67])] [])))
 .skip)))
 (.seq (.region [.op 0 (.mov 3 (.const (.nilSlice)))] [])
 (.seq (.seq (.region [.op 0 (.mov 69 (.tmp 0)),
 .op 1 (.nilchk 70 (.tmp 69)),
 .op 2 (.faddr 71 0 (.tmp 70)),
 .op 3 (.load 72 false 1 (.tmp 71)),
 .op 4 (.bin 73 .rem .plain (.tmp 72) (.const (.int .i64 15))),
 .op 5 (.bin 74 .eql .plain (.tmp 73) (.const (.int .i64 0))),
 .op 6 (.mov 75 (.tmp 74)),
 .guard 75 true [.op 7 (.mov 76 (.tmp 0)),
 .op 8 (.nilchk 77 (.tmp 76)),
 .op 9 (.faddr 78 2 (.tmp 77)),
 .op 10 (.load 79 false 1 (.tmp 78)),
 .op 11 (.len 80 false (.tmp 79)),
 .op 12 (.bin 81 .gtr .plain (.tmp 80) (.const (.int .i64 0)))] [] [81],
 .op 13 (.pick 82 (.tmp 75) (.tmp 81) (.const (.bool false)))] [])
 (.join [(.normal, ⟨[0, 3], []⟩)] (.cond (.tmp 82)
 (.seq (.region [.op 0 (.mov 83 (.tmp 3)),
 .op 1 (.mov 84 (.tmp 0)),
 .op 2 (.nilchk 85 (.tmp 84)),
 .op 3 (.faddr 86 2 (.tmp 85)),
 .op 4 (.load 87 false 1 (.tmp 86)),
 .op 5 (.mov 88 (.tmp 0)),
 .op 6 (.nilchk 89 (.tmp 88)),
 .op 7 (.faddr 90 3 (.tmp 89)),
 .op 8 (.load 91 false 1 (.tmp 90)),
 .op 9 (.iaddr 92 none 1 (.tmp 87) (.tmp 91)),
 .op 10 (.load 93 false 1 (.tmp 92)),
 .op 11 (.mov 94 (.tmp 0)),
 .op 12 (.nilchk 95 (.tmp 94)),
 .op 13 (.faddr 96 4 (.tmp 95)),
 .op 14 (.load 97 false 1 (.tmp 96)),
 .op 15 (.call 98 28 [.tmp 97]),
 .op 16 (.call 99 32 [.tmp 98]),
 .op 17 (.call 100 193 [.tmp 99]),
 .op 18 (.build 101 [.int .i64 0, .int .i64 0, .int .i64 0, .int .i64 0, .int .i64 0, .int .i64 0, .int .i64 0, .int .i64 0, .str [], .str [], .bool false, .int .u32 0, .nilSlice, .nilSlice] [(0, 1, .tmp 93), (1, 13, .tmp 100)]),
 .op 19 (.buildSl 102 [.int .i64 0, .int .i64 0, .int .i64 0, .int .i64 0, .int .i64 0, .int .i64 0, .int .i64 0, .int .i64 0, .str [], .str [], .bool false, .int .u32 0, .nilSlice, .nilSlice] 14 1 [(0, .tmp 101)]),
 .op 20 (.append 103 14 152 [.int .i64 0, .int .i64 0, .int .i64 0, .int .i64 0, .int .i64 0, .int .i64 0, .int .i64 0, .int .i64 0, .str [], .str [], .bool false, .int .u32 0, .nilSlice, .nilSlice] false (.tmp 83) (.tmp 102)),
 .op 21 (.mov 3 (.tmp 103))] [(4, 15), (4, 16), (4, 17), (8, 15), (8, 16), (8, 17), (10, 15), (10, 16), (10, 17)])
 (.region [.op 0 (.mov 104 (.tmp 0)),
 .op 1 (.mov 105 (.tmp 0)),
 .op 2 (.nilchk 106 (.tmp 105)),
 .op 3 (.faddr 107 3 (.tmp 106)),
 .op 4 (.load 108 false 1 (.tmp 107)),
 .op 5 (.bin 109 .add .plain (.tmp 108) (.const (.int .i64 1))),
 .op 6 (.mov 110 (.tmp 0)),
 .op 7 (.nilchk 111 (.tmp 110)),
 .op 8 (.faddr 112 2 (.tmp 111)),
 .op 9 (.load 113 false 1 (.tmp 112)),
 .op 10 (.len 114 false (.tmp 113)),
 .op 11 (.bin 115 .rem .plain (.tmp 109) (.tmp 114)),
 .op 12 (.nilchk 116 (.tmp 104)),
 .op 13 (.faddr 117 3 (.tmp 116)),
 .op 14 (.store false 1 (.tmp 117) (.tmp 115))] []))
 .skip)))
 (.seq (.seq (.region [.op 0 (.mov 118 (.tmp 0)),
 .op 1 (.nilchk 119 (.tmp 118)),
 .op 2 (.faddr 120 2 (.tmp 119)),
 .op 3 (.load 121 false 1 (.tmp 120)),
 .op 4 (.len 122 false (.tmp 121)),
 .op 5 (.mov 123 (.const (.int .i64 0)))] [])
 (.block 0 (.loop ⟨[0, 3, 121, 122, 123], []⟩ [((.exit 0), ⟨[3], []⟩)]
 (.seq (.region [.op 0 (.bin 124 .lss .plain (.tmp 123) (.tmp 122))] [])
 (.seq (.cond (.tmp 124)
 .skip
 (.exit 0))
 (.seq (.block 1 (.seq (.region [.op 0 (.iaddr 125 none 1 (.tmp 121) (.tmp 123)),
 .op 1 (.load 126 false 1 (.tmp 125)),
 .op 2 (.mov 5 (.tmp 126))] [])
 (.region [.op 0 (.mov 127 (.tmp 3)),
 .op 1 (.mov 128 (.tmp 5)),
 .op 2 (.mov 129 (.tmp 0)),
 .op 3 (.nilchk 130 (.tmp 129)),
 .op 4 (.faddr 131 5 (.tmp 130)),
 .op 5 (.load 132 false 1 (.tmp 131)),
 .op 6 (.mov 133 (.tmp 5)),
 .op 7 (.call 134 194 [.tmp 132, .tmp 133]),
 .op 8 (.call 135 55 [.tmp 128, .tmp 134]),
 .op 9 (.append 136 14 152 [.int .i64 0, .int .i64 0, .int .i64 0, .int .i64 0, .int .i64 0, .int .i64 0, .int .i64 0, .int .i64 0, .str [], .str [], .bool false, .int .u32 0, .nilSlice, .nilSlice] false (.tmp 127) (.tmp 135)),
 .op 10 (.mov 3 (.tmp 136))] [])))
 (.region [.op 0 (.bin 137 .add .plain (.tmp 123) (.const (.int .i64 1))),
 .op 1 (.mov 123 (.tmp 137))] [])))))))
 (.seq (.region [.op 0 (.mov 138 (.tmp 3)),
 .op 1 (.mov 2 (.tmp 138))] [])
 .ret)))))))),
 [.tmp 2]⟩
theorem ok172 : funcOk Tryz.prog (drawOk Tryz.prog) Tryz.f172 A172 = true := by kernel_rfl
noncomputable def L172_0 (call : TCall) (xs : List AVal) (h : TH) : KJ :=
 U5 (fun g118 g119 g120 g121 g122 =>
 V (kLss g122 g121) fun v123 =>
 C v123
 (V (kIaddr 1 g120 g122) fun v124 =>
 V (kLd1 h v124) fun v125 =>
 V (kNil g118) fun v126 =>
 V (kFaddr 5 v126) fun v127 =>
 V (kLd1 h v127) fun v128 =>
 R (call 194 [v128, v125] h) fun v129 h130 =>
 R (call 55 [v125, v129] h130) fun v131 h132 =>
 R (kAppend 14 152 [.int .i64 0, .int .i64 0, .int .i64 0, .int .i64 0, .int .i64 0, .int .i64 0, .int .i64 0, .int .i64 0, .str [], .str [], .bool false, .int .u32 0, .nilSlice, .nilSlice] false g119 v131 h132) fun v133 h134 =>
 V (kAdd g122 (.int .i64 1)) fun v135 =>
 .out 0 [g118, v133, g120, g121, v135] h134)
 (.out 1 [g119] h)) xs
noncomputable def F172 (call : TCall) (args : List AVal) (h : TH) : KR := ans (U1 (fun a0 =>
 V (kNil a0) fun v1 =>
 V (kFaddr 0 v1) fun v2 =>
 V (kLd1 h v2) fun v3 =>
 V (kAdd v3 (.int .i64 1)) fun v4 =>
 V (kNil a0) fun v5 =>
 V (kFaddr 0 v5) fun v6 =>
 V (kSt h 1 v6 v4) fun h7 =>
 V (kNil a0) fun v8 =>
 V (kFaddr 4 v8) fun v9 =>
 V (kLd1 h7 v9) fun v10 =>
 R (call 189 [v10] h7) fun v11 h12 =>
 V (kNil a0) fun v13 =>
 V (kFaddr 0 v13) fun v14 =>
 V (kLd1 h12 v14) fun v15 =>
 R (call 190 [v11, v15] h12) fun v16 h17 =>
 ifB (kCheck [(8, kLogRd v14 1), (4, some (.ef [] h7 [] h12))] [(8, 4)]) (V (kNil a0) fun v18 =>
 V (kFaddr 0 v18) fun v19 =>
 V (kLd1 h17 v19) fun v20 =>
 V (kRem v20 (.int .i64 20)) fun v21 =>
 V (kEql v21 (.int .i64 0)) fun v22 =>
 Jn (C v22
 (V (kNil a0) fun v23 =>
 V (kFaddr 5 v23) fun v24 =>
 V (kLd1 h17 v24) fun v25 =>
 V (kNil a0) fun v26 =>
 V (kFaddr 4 v26) fun v27 =>
 V (kLd1 h17 v27) fun v28 =>
 V (kNil a0) fun v29 =>
 V (kFaddr 0 v29) fun v30 =>
 V (kLd1 h17 v30) fun v31 =>
 V (kNil a0) fun v32 =>
 V (kFaddr 0 v32) fun v33 =>
 V (kLd1 h17 v33) fun v34 =>
 V (kNil a0) fun v35 =>
 V (kFaddr 1 v35) fun v36 =>
 V (kLd1 h17 v36) fun v37 =>
 V (kSub v34 v37) fun v38 =>
 V (kSub v38 (.int .i64 20)) fun v39 =>
 R (call 191 [v28, v31, v39] h17) fun v40 h41 =>
 R (call 52 [v25, v40] h41) fun v42 h43 =>
 ifB (kCheck [(22, some (.ef [] h17 [] h41)), (3, kLogRd v24 1)] [(3, 22)]) (V (kNil a0) fun v44 =>
 V (kFaddr 0 v44) fun v45 =>
 V (kLd1 h43 v45) fun v46 =>
 V (kNil a0) fun v47 =>
 V (kFaddr 1 v47) fun v48 =>
 V (kSt h43 1 v48 v46) fun h49 =>
 V (kNil a0) fun v50 =>
 V (kFaddr 4 v50) fun v51 =>
 V (kLd1 h49 v51) fun v52 =>
 V (kNil a0) fun v53 =>
 V (kFaddr 0 v53) fun v54 =>
 V (kLd1 h49 v54) fun v55 =>
 R (call 192 [v52, v55] h49) fun v56 h57 =>
 .out 0 [a0] h57) .no)
 (.out 0 [a0] h17)) fun i60 x59 h58 =>
 ifB (Nat.beq i60 0) (U1 (fun g61 =>
 V (kNil g61) fun v62 =>
 V (kFaddr 0 v62) fun v63 =>
 V (kLd1 h58 v63) fun v64 =>
 V (kRem v64 (.int .i64 15)) fun v65 =>
 V (kEql v65 (.int .i64 0)) fun v66 =>
 Jn (G v66 true
 (V (kNil g61) fun v67 =>
 V (kFaddr 2 v67) fun v68 =>
 V (kLd1 h58 v68) fun v69 =>
 V (kLen false v69) fun v70 =>
 V (kGtr v70 (.int .i64 0)) fun v71 =>
 .out 0 [v71] h58)
 (.out 0 [skipV] h58)) fun _ x73 h72 =>
 U1 (fun g74 =>
 V (kPick v66 g74 (.bool false)) fun v75 =>
 Jn (C v75
 (V (kNil g61) fun v76 =>
 V (kFaddr 2 v76) fun v77 =>
 V (kLd1 h72 v77) fun v78 =>
 V (kNil g61) fun v79 =>
 V (kFaddr 3 v79) fun v80 =>
 V (kLd1 h72 v80) fun v81 =>
 V (kIaddr 1 v78 v81) fun v82 =>
 V (kLd1 h72 v82) fun v83 =>
 V (kNil g61) fun v84 =>
 V (kFaddr 4 v84) fun v85 =>
 V (kLd1 h72 v85) fun v86 =>
 R (call 28 [v86] h72) fun v87 h88 =>
 R (call 32 [v87] h88) fun v89 h90 =>
 R (call 193 [v89] h90) fun v91 h92 =>
 V (aFill [.int .i64 0, .int .i64 0, .int .i64 0, .int .i64 0, .int .i64 0, .int .i64 0, .int .i64 0, .int .i64 0, .str [], .str [], .bool false, .int .u32 0, .nilSlice, .nilSlice] [(0, 1, v83), (1, 13, v91)]) fun c93 =>
 V (aFill (reps [.int .i64 0, .int .i64 0, .int .i64 0, .int .i64 0, .int .i64 0, .int .i64 0, .int .i64 0, .int .i64 0, .str [], .str [], .bool false, .int .u32 0, .nilSlice, .nilSlice] 1) [(0, 14, (.agg c93))]) fun c94 =>
 R (kAppend 14 152 [.int .i64 0, .int .i64 0, .int .i64 0, .int .i64 0, .int .i64 0, .int .i64 0, .int .i64 0, .int .i64 0, .str [], .str [], .bool false, .int .u32 0, .nilSlice, .nilSlice] false (.nilSlice) (.slice h92.next 0 1 1 14 true) (h92.alloc c94)) fun v95 h96 =>
 ifB (kCheck [(17, some (.ef [] h90 [] h92)), (16, some (.ef [] h88 [] h90)), (15, some (.ef [] h72 [] h88)), (10, kLogRd v82 1), (8, kLogRd v80 1), (4, kLogRd v77 1)] [(4, 15), (4, 16), (4, 17), (8, 15), (8, 16), (8, 17), (10, 15), (10, 16), (10, 17)]) (V (kNil g61) fun v97 =>
 V (kFaddr 3 v97) fun v98 =>
 V (kLd1 h96 v98) fun v99 =>
 V (kAdd v99 (.int .i64 1)) fun v100 =>
 V (kNil g61) fun v101 =>
 V (kFaddr 2 v101) fun v102 =>
 V (kLd1 h96 v102) fun v103 =>
 V (kLen false v103) fun v104 =>
 V (kRem v100 v104) fun v105 =>
 V (kNil g61) fun v106 =>
 V (kFaddr 3 v106) fun v107 =>
 V (kSt h96 1 v107 v105) fun h108 =>
 .out 0 [g61, v95] h108) .no)
 (.out 0 [g61, (.nilSlice)] h72)) fun i111 x110 h109 =>
 ifB (Nat.beq i111 0) (U2 (fun g112 g113 =>
 V (kNil g112) fun v114 =>
 V (kFaddr 2 v114) fun v115 =>
 V (kLd1 h109 v115) fun v116 =>
 V (kLen false v116) fun v117 =>
 Jn (Lp (L172_0 call) [g112, g113, v116, v117, (.int .i64 0)] h109) fun i138 x137 h136 =>
 ifB (Nat.beq i138 1) (U1 (fun g139 =>
 .out 0 [g139] h136) x137) (
 .no)) x110) (
 .no)) x73) x59) (
 .no)) .no) args)
theorem st172 (call : TCall) (args : List AVal) (h : TH) : kFunc call A172 args h = F172 call args h := by kernel_rfl
end Go.Proofs.YtinkiihdnepfjaaGreatDoor.Code
