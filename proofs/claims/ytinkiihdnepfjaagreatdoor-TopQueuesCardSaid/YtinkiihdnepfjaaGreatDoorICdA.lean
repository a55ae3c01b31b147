/- code -/
import Derived.Test.YtinkiihdnepfjaaGreatDoorProg
import Derived.Test.YtinkiihdnepfjaaGreatDoorIKH
import Derived.KernelRfl
set_option linter.unusedSimpArgs false
set_option linter.unusedVariables false
set_option maxRecDepth 100000
namespace Go.Proofs.YtinkiihdnepfjaaGreatDoor.Code
open Go.Fw Go.Fw.K
noncomputable def A17 : AFunc := ⟨3, (.seq (.region [.op 0 (.mov 6 (.const (.int .i64 0)))] [])
 (.seq (.seq (.region [.op 0 (.mov 7 (.tmp 0)),
 .op 1 (.mov 8 (.tmp 1)),
 .op 2 (.bin 9 .geq .plain (.tmp 7) (.tmp 8)),
 .op 3 (.mov 10 (.tmp 9)),
 .guard 10 true [.op 4 (.mov 11 (.tmp 0)),
 .op 5 (.mov 12 (.tmp 2)),
 .op 6 (.bin 13 .leq .plain (.tmp 11) (.tmp 12))] [] [13],
 .op 7 (.pick 14 (.tmp 10) (.tmp 13) (.const (.bool false)))] [])
 (.cond (.tmp 14)
 (.seq (.region [.op 0 (.mov 15 (.tmp 0)),
 .op 1 (.mov 6 (.tmp 15))] [])
 .ret)
 .skip))
 (.seq (.region [.op 0 (.mov 16 (.tmp 0)),
 .op 1 (.mov 17 (.tmp 2)),
 .op 2 (.mov 18 (.tmp 1)),
 .op 3 (.bin 19 .sub .plain (.tmp 17) (.tmp 18)),
 .op 4 (.bin 20 .add .plain (.tmp 19) (.const (.int .i64 1))),
 .op 5 (.bin 21 .rem .plain (.tmp 16) (.tmp 20)),
 .op 6 (.mov 0 (.tmp 21))] [])
 (.seq (.seq (.region [.op 0 (.mov 22 (.tmp 0)),
 .op 1 (.bin 23 .lss .plain (.tmp 22) (.const (.int .i64 0)))] [])
 (.join [(.normal, ⟨[0, 1], []⟩)] (.cond (.tmp 23)
 (.region [.op 0 (.mov 24 (.tmp 0)),
 .op 1 (.mov 25 (.tmp 2)),
 .op 2 (.bin 26 .add .plain (.tmp 24) (.tmp 25)),
 .op 3 (.mov 27 (.tmp 1)),
 .op 4 (.bin 28 .sub .plain (.tmp 26) (.tmp 27)),
 .op 5 (.bin 29 .add .plain (.tmp 28) (.const (.int .i64 1))),
 .op 6 (.mov 0 (.tmp 29))] [])
 .skip)))
 (.seq (.region [.op 0 (.mov 30 (.tmp 1)),
 .op 1 (.mov 31 (.tmp 0)),
 .op 2 (.bin 32 .add .plain (.tmp 30) (.tmp 31)),
 .op 3 (.mov 6 (.tmp 32))] [])
 .ret))))),
 [.tmp 6]⟩
theorem ok17 : funcOk Tryz.prog (drawOk Tryz.prog) Tryz.f17 A17 = true := by kernel_rfl
noncomputable def F17 (call : TCall) (args : List AVal) (h : TH) : KR := ans (U3 (fun a0 a1 a2 =>
 V (kGeq a0 a1) fun v1 =>
 Jn (G v1 true
 (V (kLeq a0 a2) fun v2 =>
 .out 0 [v2] h)
 (.out 0 [skipV] h)) fun _ x4 h3 =>
 U1 (fun g5 =>
 V (kPick v1 g5 (.bool false)) fun v6 =>
 C v6
 (.out 0 [a0] h3)
 (V (kSub a2 a1) fun v7 =>
 V (kAdd v7 (.int .i64 1)) fun v8 =>
 V (kRem a0 v8) fun v9 =>
 V (kLss v9 (.int .i64 0)) fun v10 =>
 Jn (C v10
 (V (kAdd v9 a2) fun v11 =>
 V (kSub v11 a1) fun v12 =>
 V (kAdd v12 (.int .i64 1)) fun v13 =>
 .out 0 [v13, a1] h3)
 (.out 0 [v9, a1] h3)) fun i16 x15 h14 =>
 ifB (Nat.beq i16 0) (U2 (fun g17 g18 =>
 V (kAdd g18 g17) fun v19 =>
 .out 0 [v19] h14) x15) (
 .no))) x4) args)
theorem st17 (call : TCall) (args : List AVal) (h : TH) : kFunc call A17 args h = F17 call args h := by kernel_rfl
noncomputable def A18 : AFunc := ⟨2, (.seq (.region [.op 0 (.mov 4 (.const (.bool false)))] [])
 (.seq (.seq (.region [.op 0 (.mov 7 (.tmp 1)),
 .op 1 (.len 8 false (.tmp 7)),
 .op 2 (.mov 9 (.const (.int .i64 0)))] [])
 (.block 0 (.loop ⟨[0, 7, 8, 9], []⟩ [((.exit 0), ⟨[], []⟩), (.ret, ⟨[4], []⟩)]
 (.seq (.region [.op 0 (.bin 10 .lss .plain (.tmp 9) (.tmp 8))] [])
 (.seq (.cond (.tmp 10)
 .skip
 (.exit 0))
 (.seq (.block 1 (.seq (.region [.op 0 (.iaddr 11 none 7 (.tmp 7) (.tmp 9)),
 .op 1 (.load 12 true 7 (.tmp 11)),
 .op 2 (.alloc 6 true [.int .i64 0, .int .i64 0, .int .i64 0, .int .i64 0, .int .i64 0, .int .i64 0, .str []]),
 .op 3 (.store true 7 (.tmp 6) (.tmp 12))] [])
 (.seq (.region [.op 0 (.mov 13 (.tmp 0)),
 .op 1 (.load 14 true 7 (.tmp 6)),
 .op 2 (.call 15 24 [.tmp 13, .tmp 14]),
 .op 3 (.field 16 false 0 1 (.tmp 15)),
 .op 4 (.bin 17 .neq .plain (.tmp 16) (.const (.int .i64 0)))] [])
 (.cond (.tmp 17)
 (.seq (.region [.op 0 (.mov 4 (.const (.bool false)))] [])
 .ret)
 .skip))))
 (.region [.op 0 (.bin 18 .add .plain (.tmp 9) (.const (.int .i64 1))),
 .op 1 (.mov 9 (.tmp 18))] [])))))))
 (.seq (.region [.op 0 (.mov 4 (.const (.bool true)))] [])
 .ret))),
 [.tmp 4]⟩
theorem ok18 : funcOk Tryz.prog (drawOk Tryz.prog) Tryz.f18 A18 = true := by kernel_rfl
noncomputable def L18_0 (call : TCall) (xs : List AVal) (h : TH) : KJ :=
 U4 (fun g2 g3 g4 g5 =>
 V (kLss g5 g4) fun v6 =>
 C v6
 (V (kIaddr 7 g3 g5) fun v7 =>
 V (kLdA h 7 v7) fun v8 =>
 V (kStL [.int .i64 0, .int .i64 0, .int .i64 0, .int .i64 0, .int .i64 0, .int .i64 0, .str []] 0 7 v8) fun c9 =>
 V (kLdL c9 true 0 7) fun v10 =>
 R (call 24 [g2, v10] h) fun v11 h12 =>
 V (kField false 0 1 v11) fun v13 =>
 V (kNeq v13 (.int .i64 0)) fun v14 =>
 C v14
 (.out 2 [(.bool false)] h12)
 (V (kAdd g5 (.int .i64 1)) fun v15 =>
 .out 0 [g2, g3, g4, v15] h12))
 (.out 1 [] h)) xs
noncomputable def F18 (call : TCall) (args : List AVal) (h : TH) : KR := ans (U2 (fun a0 a1 =>
 V (kLen false a1) fun v1 =>
 Jn (Lp (L18_0 call) [a0, a1, v1, (.int .i64 0)] h) fun i18 x17 h16 =>
 ifB (Nat.beq i18 1) (U0 (.out 0 [(.bool true)] h16) x17) (
 ifB (Nat.beq i18 2) (U1 (fun g19 =>
 .out 0 [g19] h16) x17) (
 .no))) args)
theorem st18 (call : TCall) (args : List AVal) (h : TH) : kFunc call A18 args h = F18 call args h := by kernel_rfl
noncomputable def A19 : AFunc := ⟨3, (.seq (.region [.op 0 (.mov 6 (.const (.bool false)))] [])
 (.seq (.seq (.region [.op 0 (.mov 7 (.const (.int .i64 0)))] [])
 (.block 0 (.loop ⟨[0, 1, 2, 7], []⟩ [((.exit 0), ⟨[], []⟩), (.ret, ⟨[6], []⟩)]
 (.seq (.seq (.region [.op 0 (.mov 10 (.tmp 7)),
 .op 1 (.mov 11 (.tmp 2)),
 .op 2 (.bin 12 .lss .plain (.tmp 10) (.tmp 11))] [])
 (.cond (.tmp 12)
 .skip
 (.exit 0)))
 (.seq (.block 1 (.seq (.seq (.region [.op 0 (.mov 15 (.tmp 0)),
 .op 1 (.mov 16 (.tmp 1)),
 .op 2 (.build 17 [.int .i64 0, .int .i64 0, .int .i64 0, .int .i64 0, .int .i64 0, .int .i64 0, .str []] [(0, 1, .const (.int .i64 1)), (1, 1, .tmp 16), (5, 1, .const (.int .i64 1))]),
 .op 3 (.buildSl 18 [.int .i64 0, .int .i64 0, .int .i64 0, .int .i64 0, .int .i64 0, .int .i64 0, .str []] 7 1 [(0, .tmp 17)]),
 .op 4 (.call 19 18 [.tmp 15, .tmp 18]),
 .op 5 (.un 20 .not (.tmp 19))] [])
 (.cond (.tmp 20)
 (.seq (.region [.op 0 (.mov 6 (.const (.bool false)))] [])
 .ret)
 .skip))
 (.seq (.region [.op 0 (.mov 22 (.tmp 0)),
 .op 1 (.call 23 40 [.tmp 22, .const (.int .i64 200)]),
 .op 2 (.mov 21 (.tmp 23)),
 .op 3 (.extract 24 (.tmp 21) 0),
 .op 4 (.extract 25 (.tmp 21) 1),
 .op 5 (.mov 8 (.tmp 24)),
 .op 6 (.mov 9 (.tmp 25))] [])
 (.seq (.region [.op 0 (.mov 26 (.tmp 9)),
 .op 1 (.un 27 .not (.tmp 26))] [])
 (.cond (.tmp 27)
 (.seq (.region [.op 0 (.mov 6 (.const (.bool false)))] [])
 .ret)
 .skip)))))
 (.region [.op 0 (.mov 13 (.tmp 7)),
 .op 1 (.bin 14 .add .plain (.tmp 13) (.const (.int .i64 1))),
 .op 2 (.mov 7 (.tmp 14))] []))))))
 (.seq (.region [.op 0 (.mov 6 (.const (.bool true)))] [])
 .ret))),
 [.tmp 6]⟩
theorem ok19 : funcOk Tryz.prog (drawOk Tryz.prog) Tryz.f19 A19 = true := by kernel_rfl
noncomputable def L19_0 (call : TCall) (xs : List AVal) (h : TH) : KJ :=
 U4 (fun g1 g2 g3 g4 =>
 V (kLss g4 g3) fun v5 =>
 C v5
 (V (aFill [.int .i64 0, .int .i64 0, .int .i64 0, .int .i64 0, .int .i64 0, .int .i64 0, .str []] [(0, 1, (.int .i64 1)), (1, 1, g2), (5, 1, (.int .i64 1))]) fun c6 =>
 V (aFill (reps [.int .i64 0, .int .i64 0, .int .i64 0, .int .i64 0, .int .i64 0, .int .i64 0, .str []] 1) [(0, 7, (.agg c6))]) fun c7 =>
 R (call 18 [g1, (.slice h.next 0 1 1 7 true)] (h.alloc c7)) fun v8 h9 =>
 V (kNot v8) fun v10 =>
 C v10
 (.out 2 [(.bool false)] h9)
 (R (call 40 [g1, (.int .i64 200)] h9) fun v11 h12 =>
 V (kExtract 0 v11) fun v13 =>
 V (kExtract 1 v11) fun v14 =>
 V (kNot v14) fun v15 =>
 C v15
 (.out 2 [(.bool false)] h12)
 (V (kAdd g4 (.int .i64 1)) fun v16 =>
 .out 0 [g1, g2, g3, v16] h12)))
 (.out 1 [] h)) xs
noncomputable def F19 (call : TCall) (args : List AVal) (h : TH) : KR := ans (U3 (fun a0 a1 a2 =>
 Jn (Lp (L19_0 call) [a0, a1, a2, (.int .i64 0)] h) fun i19 x18 h17 =>
 ifB (Nat.beq i19 1) (U0 (.out 0 [(.bool true)] h17) x18) (
 ifB (Nat.beq i19 2) (U1 (fun g20 =>
 .out 0 [g20] h17) x18) (
 .no))) args)
theorem st19 (call : TCall) (args : List AVal) (h : TH) : kFunc call A19 args h = F19 call args h := by kernel_rfl
noncomputable def A21 : AFunc := ⟨3, (.seq (.region [.op 0 (.mov 6 (.const (.int .i64 0)))] [])
 (.seq (.region [.op 0 (.mov 7 (.tmp 0)),
 .op 1 (.mov 8 (.tmp 1)),
 .op 2 (.mov 9 (.tmp 2)),
 .op 3 (.build 10 [.int .i64 0, .int .i64 0, .int .i64 0, .int .i64 0, .int .i64 0, .int .i64 0, .str []] [(0, 1, .const (.int .i64 9)), (1, 1, .tmp 8), (6, 1, .tmp 9)]),
 .op 4 (.call 11 24 [.tmp 7, .tmp 10]),
 .op 5 (.field 12 false 3 1 (.tmp 11)),
 .op 6 (.len 13 false (.tmp 12)),
 .op 7 (.mov 6 (.tmp 13))] [])
 .ret)),
 [.tmp 6]⟩
theorem ok21 : funcOk Tryz.prog (drawOk Tryz.prog) Tryz.f21 A21 = true := by kernel_rfl
noncomputable def F21 (call : TCall) (args : List AVal) (h : TH) : KR := ans (U3 (fun a0 a1 a2 =>
 V (aFill [.int .i64 0, .int .i64 0, .int .i64 0, .int .i64 0, .int .i64 0, .int .i64 0, .str []] [(0, 1, (.int .i64 9)), (1, 1, a1), (6, 1, a2)]) fun c1 =>
 R (call 24 [a0, (.agg c1)] h) fun v2 h3 =>
 V (kField false 3 1 v2) fun v4 =>
 V (kLen false v4) fun v5 =>
 .out 0 [v5] h3) args)
theorem st21 (call : TCall) (args : List AVal) (h : TH) : kFunc call A21 args h = F21 call args h := by kernel_rfl
noncomputable def A22 : AFunc := ⟨0, (.seq (.region [.op 0 (.mov 0 (.const (.bool false)))] [])
 (.seq (.region [.op 0 (.call 2 23 [.const (.int .i64 1), .const (.int .i64 1)]),
 .op 1 (.mov 1 (.tmp 2))] [])
 (.seq (.region [.op 0 (.mov 3 (.tmp 1)),
 .op 1 (.bin 4 .neq .ptr (.tmp 3) (.const (.nilPtr))),
 .op 2 (.mov 5 (.tmp 4)),
 .guard 5 true [.op 3 (.mov 6 (.tmp 1)),
 .op 4 (.call 7 39 [.tmp 6, .const (.int .i64 1), .const (.int .i64 50)])] [] [7],
 .op 5 (.pick 8 (.tmp 5) (.tmp 7) (.const (.bool false))),
 .op 6 (.mov 9 (.tmp 8)),
 .guard 9 true [.op 7 (.mov 10 (.tmp 1)),
 .op 8 (.call 11 21 [.tmp 10, .const (.int .i64 1), .const (.str [97, 112, 112, 48])]),
 .op 9 (.bin 12 .eql .plain (.tmp 11) (.const (.int .i64 1)))] [] [12],
 .op 10 (.pick 13 (.tmp 9) (.tmp 12) (.const (.bool false))),
 .op 11 (.mov 0 (.tmp 13))] [])
 .ret))),
 [.tmp 0]⟩
theorem ok22 : funcOk Tryz.prog (drawOk Tryz.prog) Tryz.f22 A22 = true := by kernel_rfl
noncomputable def F22 (call : TCall) (args : List AVal) (h : TH) : KR := ans (U0 (R (call 23 [(.int .i64 1), (.int .i64 1)] h) fun v1 h2 =>
 V (kNe .ptr v1 (.nilPtr)) fun v3 =>
 Jn (G v3 true
 (R (call 39 [v1, (.int .i64 1), (.int .i64 50)] h2) fun v4 h5 =>
 .out 0 [v4] h5)
 (.out 0 [skipV] h2)) fun _ x7 h6 =>
 U1 (fun g8 =>
 V (kPick v3 g8 (.bool false)) fun v9 =>
 Jn (G v9 true
 (R (call 21 [v1, (.int .i64 1), (.str [97, 112, 112, 48])] h6) fun v10 h11 =>
 V (kEql v10 (.int .i64 1)) fun v12 =>
 .out 0 [v12] h11)
 (.out 0 [skipV] h6)) fun _ x14 h13 =>
 U1 (fun g15 =>
 V (kPick v9 g15 (.bool false)) fun v16 =>
 .out 0 [v16] h13) x14) x7) args)
theorem st22 (call : TCall) (args : List AVal) (h : TH) : kFunc call A22 args h = F22 call args h := by kernel_rfl
noncomputable def A23 : AFunc := ⟨2, (.seq (.region [.op 0 (.mov 4 (.const (.nilPtr)))] [])
 (.seq (.region [.op 0 (.mov 6 (.tmp 0)),
 .op 1 (.mov 7 (.tmp 1)),
 .op 2 (.call 8 41 [.tmp 6, .tmp 7]),
 .op 3 (.mov 5 (.tmp 8))] [])
 (.seq (.seq (.region [.op 0 (.mov 9 (.tmp 5)),
 .op 1 (.bin 10 .eql .ptr (.tmp 9) (.const (.nilPtr)))] [])
 (.cond (.tmp 10)
 (.seq (.region [.op 0 (.mov 4 (.const (.nilPtr)))] [])
 .ret)
 .skip))
 (.seq (.region [.op 0 (.mov 11 (.tmp 5)),
 .op 1 (.mov 12 (.tmp 5)),
 .op 2 (.call 13 43 [.tmp 12]),
 .op 3 (.call 14 42 [.tmp 13]),
 .op 4 (.build 15 [.nilPtr, .nilPtr] [(0, 1, .tmp 11), (1, 1, .tmp 14)]),
 .op 5 (.box 16 false (.tmp 15)),
 .op 6 (.mov 4 (.tmp 16))] [])
 .ret)))),
 [.tmp 4]⟩
theorem ok23 : funcOk Tryz.prog (drawOk Tryz.prog) Tryz.f23 A23 = true := by kernel_rfl
noncomputable def F23 (call : TCall) (args : List AVal) (h : TH) : KR := ans (U2 (fun a0 a1 =>
 R (call 41 [a0, a1] h) fun v1 h2 =>
 V (kEq .ptr v1 (.nilPtr)) fun v3 =>
 C v3
 (.out 0 [(.nilPtr)] h2)
 (R (call 43 [v1] h2) fun v4 h5 =>
 R (call 42 [v4] h5) fun v6 h7 =>
 V (aFill [.nilPtr, .nilPtr] [(0, 1, v1), (1, 1, v6)]) fun c8 =>
 V (kCellsQ (.agg c8)) fun c9 =>
 .out 0 [(.ptr h7.next 0)] (h7.alloc c9))) args)
theorem st23 (call : TCall) (args : List AVal) (h : TH) : kFunc call A23 args h = F23 call args h := by kernel_rfl
noncomputable def A24 : AFunc := ⟨2, (.seq (.region [.op 0 (.box 3 true (.tmp 1)),
 .op 1 (.alloc 4 true [.int .i64 0, .int .i64 0, .int .i64 0, .nilSlice, .int .i64 0])] [])
 (.seq (.region [.op 0 (.mov 5 (.tmp 0)),
 .op 1 (.nilchk 6 (.tmp 5)),
 .op 2 (.faddr 7 0 (.tmp 6)),
 .op 3 (.load 8 false 1 (.tmp 7)),
 .op 4 (.mov 9 (.tmp 0)),
 .op 5 (.nilchk 10 (.tmp 9)),
 .op 6 (.faddr 11 1 (.tmp 10)),
 .op 7 (.load 12 false 1 (.tmp 11)),
 .op 8 (.build 13 [.nilPtr] [(0, 1, .tmp 12)]),
 .op 9 (.mkIface 14 91 (.tmp 13)),
 .op 10 (.load 15 true 7 (.tmp 3)),
 .op 11 (.call 16 44 [.tmp 8, .tmp 14, .tmp 15]),
 .op 12 (.store true 5 (.tmp 4) (.tmp 16))] [])
 .ret)),
 [.cell 4 true 5]⟩
theorem ok24 : funcOk Tryz.prog (drawOk Tryz.prog) Tryz.f24 A24 = true := by kernel_rfl
noncomputable def F24 (call : TCall) (args : List AVal) (h : TH) : KR := ans (U2 (fun a0 a1 =>
 V (kCellsQ a1) fun c1 =>
 V (kNil a0) fun v2 =>
 V (kFaddr 0 v2) fun v3 =>
 V (kLd1 h v3) fun v4 =>
 V (kNil a0) fun v5 =>
 V (kFaddr 1 v5) fun v6 =>
 V (kLd1 h v6) fun v7 =>
 V (aFill [.nilPtr] [(0, 1, v7)]) fun c8 =>
 V (kLdL c1 true 0 7) fun v9 =>
 R (call 44 [v4, (.iface 91 (.agg c8)), v9] h) fun v10 h11 =>
 V (kStL [.int .i64 0, .int .i64 0, .int .i64 0, .nilSlice, .int .i64 0] 0 5 v10) fun c12 =>
 V (kLdL c12 true 0 5) fun v13 =>
 .out 0 [v13] h11) args)
theorem st24 (call : TCall) (args : List AVal) (h : TH) : kFunc call A24 args h = F24 call args h := by kernel_rfl
noncomputable def A26 : AFunc := ⟨2, (.seq (.region [.op 0 (.mov 4 (.const (.nilPtr)))] [])
 (.seq (.region [.op 0 (.mov 7 (.tmp 0)),
 .op 1 (.call 8 45 [.tmp 7, .const (.int .i64 0)]),
 .op 2 (.mov 5 (.tmp 8))] [])
 (.seq (.seq (.region [.op 0 (.mov 9 (.tmp 5)),
 .op 1 (.bin 10 .eql .ptr (.tmp 9) (.const (.nilPtr)))] [])
 (.cond (.tmp 10)
 (.seq (.region [.op 0 (.mov 4 (.const (.nilPtr)))] [])
 .ret)
 .skip))
 (.seq (.region [.op 0 (.mov 11 (.tmp 1)),
 .op 1 (.call 12 46 [.tmp 11]),
 .op 2 (.mov 6 (.tmp 12))] [])
 (.seq (.region [.op 0 (.mov 13 (.tmp 6)),
 .op 1 (.call 14 47 [.tmp 13]),
 .op 2 (.mov 15 (.tmp 5)),
 .op 3 (.mov 16 (.tmp 6)),
 .op 4 (.build 17 [.int .i64 0, .int .i64 0, .nilSlice, .int .i64 0, .nilPtr, .nilPtr] [(2, 1, .tmp 14), (4, 1, .tmp 15), (5, 1, .tmp 16)]),
 .op 5 (.box 18 false (.tmp 17)),
 .op 6 (.mov 4 (.tmp 18))] [])
 .ret))))),
 [.tmp 4]⟩
theorem ok26 : funcOk Tryz.prog (drawOk Tryz.prog) Tryz.f26 A26 = true := by kernel_rfl
noncomputable def F26 (call : TCall) (args : List AVal) (h : TH) : KR := ans (U2 (fun a0 a1 =>
 R (call 45 [a0, (.int .i64 0)] h) fun v1 h2 =>
 V (kEq .ptr v1 (.nilPtr)) fun v3 =>
 C v3
 (.out 0 [(.nilPtr)] h2)
 (R (call 46 [a1] h2) fun v4 h5 =>
 R (call 47 [v4] h5) fun v6 h7 =>
 V (aFill [.int .i64 0, .int .i64 0, .nilSlice, .int .i64 0, .nilPtr, .nilPtr] [(2, 1, v6), (4, 1, v1), (5, 1, v4)]) fun c8 =>
 V (kCellsQ (.agg c8)) fun c9 =>
 .out 0 [(.ptr h7.next 0)] (h7.alloc c9))) args)
theorem st26 (call : TCall) (args : List AVal) (h : TH) : kFunc call A26 args h = F26 call args h := by kernel_rfl
noncomputable def A27 : AFunc := ⟨1, (.seq (.region [.op 0 (.mov 2 (.const (.nilPtr)))] [])
 (.seq (.region [.op 0 (.mov 3 (.tmp 0)),
 .op 1 (.nilchk 4 (.tmp 3)),
 .op 2 (.faddr 5 4 (.tmp 4)),
 .op 3 (.load 6 false 1 (.tmp 5)),
 .op 4 (.mov 2 (.tmp 6))] [])
 .ret)),
 [.tmp 2]⟩
theorem ok27 : funcOk Tryz.prog (drawOk Tryz.prog) Tryz.f27 A27 = true := by kernel_rfl
noncomputable def F27 (call : TCall) (args : List AVal) (h : TH) : KR := ans (U1 (fun a0 =>
 V (kNil a0) fun v1 =>
 V (kFaddr 4 v1) fun v2 =>
 V (kLd1 h v2) fun v3 =>
 .out 0 [v3] h) args)
theorem st27 (call : TCall) (args : List AVal) (h : TH) : kFunc call A27 args h = F27 call args h := by kernel_rfl
noncomputable def A28 : AFunc := ⟨1, (.seq (.region [.op 0 (.mov 2 (.const (.nilPtr)))] [])
 (.seq (.region [.op 0 (.mov 3 (.tmp 0)),
 .op 1 (.nilchk 4 (.tmp 3)),
 .op 2 (.faddr 5 4 (.tmp 4)),
 .op 3 (.load 6 false 1 (.tmp 5)),
 .op 4 (.mov 2 (.tmp 6))] [])
 .ret)),
 [.tmp 2]⟩
theorem ok28 : funcOk Tryz.prog (drawOk Tryz.prog) Tryz.f28 A28 = true := by kernel_rfl
noncomputable def F28 (call : TCall) (args : List AVal) (h : TH) : KR := ans (U1 (fun a0 =>
 V (kNil a0) fun v1 =>
 V (kFaddr 4 v1) fun v2 =>
 V (kLd1 h v2) fun v3 =>
 .out 0 [v3] h) args)
theorem st28 (call : TCall) (args : List AVal) (h : TH) : kFunc call A28 args h = F28 call args h := by kernel_rfl
noncomputable def A30 : AFunc := ⟨3, (.seq (.region [.op 0 (.box 5 true (.tmp 2)),
 .op 1 (.mov 6 (.const (.nilSlice)))] [])
 (.seq (.seq (.region [.op 0 (.load 9 true 13 (.tmp 5)),
 .op 1 (.call 10 50 [.tmp 9]),
 .op 2 (.bin 11 .neq (.iface true []) (.tmp 10) (.const (.nilIface)))] [])
 (.cond (.tmp 11)
 (.seq (.region [.op 0 (.mov 6 (.const (.nilSlice)))] [])
 .ret)
 .skip))
 (.seq (.seq (.region [.op 0 (.faddr 12 0 (.tmp 5)),
 .op 1 (.load 13 false 1 (.tmp 12))] [])
 (.block 0 (.seq (.region [.op 0 (.bin 15 .eql .plain (.tmp 13) (.const (.int .i64 1))),
 .op 1 (.mov 14 (.tmp 15))] [])
 (.cond (.tmp 14)
 (.seq (.regionF 1 [.op 0 (.mov 17 (.tmp 0)),
 .op 1 (.nilchk 18 (.tmp 17)),
 .op 2 (.faddr 19 4 (.tmp 18)),
 .op 3 (.load 20 false 1 (.tmp 19)),
 .op 4 (.load 21 true 13 (.tmp 5)),
 .op 5 (.mov 22 (.tmp 0)),
 .op 6 (.nilchk 23 (.tmp 22)),
 .op 7 (.faddr 24 0 (.tmp 23)),
 .op 8 (.load 25 false 1 (.tmp 24)),
 .op 9 (.call 26 51 [.tmp 20, .tmp 21, .tmp 25]),
 .op 10 (.mov 16 (.tmp 26)),
 .op 11 (.extract 27 (.tmp 16) 0),
 .op 12 (.extract 28 (.tmp 16) 1),
 .op 13 (.fl 7 0 none [.int .i64 0, .int .i64 0, .int .i64 0, .int .i64 0, .int .i64 0, .int .i64 0, .int .i64 0, .str [], .str [], .bool false, .int .u32 0, .nilSlice, .nilSlice] []),
 .op 14 (.store true 13 (.tmp 7) (.tmp 27)),
 .op 15 (.mov 8 (.tmp 28))] [])
 (.seq (.region [.op 0 (.mov 29 (.tmp 0)),
 .op 1 (.nilchk 30 (.tmp 29)),
 .op 2 (.faddr 31 5 (.tmp 30)),
 .op 3 (.load 32 false 1 (.tmp 31)),
 .op 4 (.mov 33 (.tmp 8)),
 .op 5 (.call 34 52 [.tmp 32, .tmp 33])] [])
 (.seq (.region [.op 0 (.mov 35 (.tmp 1)),
 .op 1 (.load 36 true 13 (.tmp 7)),
 .op 2 (.build 37 [.int .i64 0, .int .i64 0, .int .i64 0, .int .i64 0, .int .i64 0, .int .i64 0, .int .i64 0, .int .i64 0, .str [], .str [], .bool false, .int .u32 0, .nilSlice, .nilSlice] [(0, 1, .tmp 35), (1, 13, .tmp 36)]),
 .op 3 (.buildSl 38 [.int .i64 0, .int .i64 0, .int .i64 0, .int .i64 0, .int .i64 0, .int .i64 0, .int .i64 0, .int .i64 0, .str [], .str [], .bool false, .int .u32 0, .nilSlice, .nilSlice] 14 1 [(0, .tmp 37)]),
 .op 4 (.mov 6 (.tmp 38))] [])
 .ret)))
 (.seq (.region [.op 0 (.bin 40 .eql .plain (.tmp 13) (.const (.int .i64 3))),
 .op 1 (.mov 39 (.tmp 40))] [])
 (.join [(.normal, ⟨[], []⟩), (.ret, ⟨[6], []⟩)] (.cond (.tmp 39)
 (.region [.op 0 (.mov 41 (.tmp 0)),
 .op 1 (.nilchk 42 (.tmp 41)),
 .op 2 (.faddr 43 4 (.tmp 42)),
 .op 3 (.load 44 false 1 (.tmp 43)),
 .op 4 (.faddr 45 11 (.tmp 5)),
 .op 5 (.load 46 false 1 (.tmp 45)),
 .op 6 (.mov 47 (.tmp 0)),
 .op 7 (.nilchk 48 (.tmp 47)),
 .op 8 (.faddr 49 0 (.tmp 48)),
 .op 9 (.load 50 false 1 (.tmp 49)),
 .op 10 (.call 51 53 [.tmp 44, .tmp 46, .tmp 50])] [])
 (.seq (.region [.op 0 (.bin 53 .eql .plain (.tmp 13) (.const (.int .i64 4))),
 .op 1 (.mov 52 (.tmp 53))] [])
 (.cond (.tmp 52)
 (.seq (.region [.op 0 (.mov 54 (.tmp 0)),
 .op 1 (.mov 55 (.tmp 1)),
 .op 2 (.faddr 56 11 (.tmp 5)),
 .op 3 (.load 57 false 1 (.tmp 56)),
 .op 4 (.call 58 54 [.tmp 54, .tmp 55, .tmp 57]),
 .op 5 (.mov 6 (.tmp 58))] [])
 .ret)
 (.seq (.region [.op 0 (.bin 60 .eql .plain (.tmp 13) (.const (.int .i64 5))),
 .op 1 (.mov 59 (.tmp 60))] [])
 (.cond (.tmp 59)
 (.seq (.region [.op 0 (.mov 61 (.tmp 1)),
 .op 1 (.mov 62 (.tmp 0)),
 .op 2 (.nilchk 63 (.tmp 62)),
 .op 3 (.faddr 64 4 (.tmp 63)),
 .op 4 (.load 65 false 1 (.tmp 64)),
 .op 5 (.call 66 28 [.tmp 65]),
 .op 6 (.call 67 32 [.tmp 66]),
 .op 7 (.faddr 68 12 (.tmp 5)),
 .op 8 (.load 69 false 1 (.tmp 68)),
 .op 9 (.call 70 56 [.tmp 67, .tmp 69]),
 .op 10 (.call 71 55 [.tmp 61, .tmp 70]),
 .op 11 (.mov 6 (.tmp 71))] [(8, 5), (8, 6)])
 .ret)
 .skip)))))))))))
 (.seq (.region [.op 0 (.mov 6 (.const (.nilSlice)))] [])
 .ret)))),
 [.tmp 6]⟩
theorem ok30 : funcOk Tryz.prog (drawOk Tryz.prog) Tryz.f30 A30 = true := by kernel_rfl
noncomputable def F30 (call : TCall) (args : List AVal) (h : TH) : KR := ans (U3 (fun a0 a1 a2 =>
 V (kCellsQ a2) fun c1 =>
 V (kLdL c1 true 0 13) fun v2 =>
 R (call 50 [v2] h) fun v3 h4 =>
 V (kNe (.iface true []) v3 (.nilIface)) fun v5 =>
 C v5
 (.out 0 [(.nilSlice)] h4)
 (V (kLdL c1 false 0 1) fun v6 =>
 V (kEql v6 (.int .i64 1)) fun v7 =>
 C v7
 (V (kNil a0) fun v8 =>
 V (kFaddr 4 v8) fun v9 =>
 V (kLd1 (h4.res 1) v9) fun v10 =>
 V (kLdL c1 true 0 13) fun v11 =>
 V (kNil a0) fun v12 =>
 V (kFaddr 0 v12) fun v13 =>
 V (kLd1 (h4.res 1) v13) fun v14 =>
 R (call 51 [v10, v11, v14] (h4.res 1)) fun v15 h16 =>
 V (kExtract 0 v15) fun v17 =>
 V (kExtract 1 v15) fun v18 =>
 V (kSt (h16.setBlk (h4.next + 0) (some ⟨[.int .i64 0, .int .i64 0, .int .i64 0, .int .i64 0, .int .i64 0, .int .i64 0, .int .i64 0, .str [], .str [], .bool false, .int .u32 0, .nilSlice, .nilSlice], true⟩)) 13 (.ptr (h4.next + 0) 0) v17) fun h19 =>
 V (kNil a0) fun v20 =>
 V (kFaddr 5 v20) fun v21 =>
 V (kLd1 h19 v21) fun v22 =>
 R (call 52 [v22, v18] h19) fun v23 h24 =>
 V (kLdA h24 13 (.ptr (h4.next + 0) 0)) fun v25 =>
 V (aFill [.int .i64 0, .int .i64 0, .int .i64 0, .int .i64 0, .int .i64 0, .int .i64 0, .int .i64 0, .int .i64 0, .str [], .str [], .bool false, .int .u32 0, .nilSlice, .nilSlice] [(0, 1, a1), (1, 13, v25)]) fun c26 =>
 V (aFill (reps [.int .i64 0, .int .i64 0, .int .i64 0, .int .i64 0, .int .i64 0, .int .i64 0, .int .i64 0, .int .i64 0, .str [], .str [], .bool false, .int .u32 0, .nilSlice, .nilSlice] 1) [(0, 14, (.agg c26))]) fun c27 =>
 .out 0 [(.slice h24.next 0 1 1 14 true)] (h24.alloc c27))
 (V (kEql v6 (.int .i64 3)) fun v28 =>
 Jn (C v28
 (V (kNil a0) fun v29 =>
 V (kFaddr 4 v29) fun v30 =>
 V (kLd1 h4 v30) fun v31 =>
 V (kLdL c1 false 11 1) fun v32 =>
 V (kNil a0) fun v33 =>
 V (kFaddr 0 v33) fun v34 =>
 V (kLd1 h4 v34) fun v35 =>
 R (call 53 [v31, v32, v35] h4) fun v36 h37 =>
 .out 0 [] h37)
 (V (kEql v6 (.int .i64 4)) fun v38 =>
 C v38
 (V (kLdL c1 false 11 1) fun v39 =>
 R (call 54 [a0, a1, v39] h4) fun v40 h41 =>
 .out 1 [v40] h41)
 (V (kEql v6 (.int .i64 5)) fun v42 =>
 C v42
 (V (kNil a0) fun v43 =>
 V (kFaddr 4 v43) fun v44 =>
 V (kLd1 h4 v44) fun v45 =>
 R (call 28 [v45] h4) fun v46 h47 =>
 R (call 32 [v46] h47) fun v48 h49 =>
 V (kLdL c1 false 12 1) fun v50 =>
 R (call 56 [v48, v50] h49) fun v51 h52 =>
 R (call 55 [a1, v51] h52) fun v53 h54 =>
 ifB (kCheck [(8, some (.lrd 5 12 1)), (6, some (.ef [(5, c1)] h47 [(5, c1)] h49)), (5, some (.ef [(5, c1)] h4 [(5, c1)] h47))] [(8, 5), (8, 6)]) (.out 1 [v53] h54) .no)
 (.out 0 [] h4)))) fun i57 x56 h55 =>
 ifB (Nat.beq i57 0) (U0 (.out 0 [(.nilSlice)] h55) x56) (
 ifB (Nat.beq i57 1) (U1 (fun g58 =>
 .out 0 [g58] h55) x56) (
 .no))))) args)
theorem st30 (call : TCall) (args : List AVal) (h : TH) : kFunc call A30 args h = F30 call args h := by kernel_rfl
noncomputable def A31 : AFunc := ⟨2, (.seq (.region [.op 0 (.mov 4 (.const (.bool false)))] [])
 (.seq (.seq (.region [.op 0 (.mov 6 (.tmp 0)),
 .op 1 (.len 7 false (.tmp 6)),
 .op 2 (.mov 8 (.tmp 1)),
 .op 3 (.len 9 false (.tmp 8)),
 .op 4 (.bin 10 .neq .plain (.tmp 7) (.tmp 9))] [])
 (.cond (.tmp 10)
 (.seq (.region [.op 0 (.mov 4 (.const (.bool false)))] [])
 .ret)
 .skip))
 (.seq (.seq (.region [.op 0 (.mov 11 (.tmp 0)),
 .op 1 (.len 12 false (.tmp 11)),
 .op 2 (.mov 13 (.const (.int .i64 0)))] [])
 (.block 0 (.loop ⟨[0, 1, 12, 13], []⟩ [((.exit 0), ⟨[], []⟩), (.ret, ⟨[4], []⟩)]
 (.seq (.region [.op 0 (.bin 14 .lss .plain (.tmp 13) (.tmp 12))] [])
 (.seq (.cond (.tmp 14)
 .skip
 (.exit 0))
 (.seq (.block 1 (.seq (.region [.op 0 (.mov 15 (.tmp 13)),
 .op 1 (.mov 5 (.tmp 15))] [])
 (.seq (.region [.op 0 (.mov 16 (.tmp 0)),
 .op 1 (.mov 17 (.tmp 5)),
 .op 2 (.iaddr 18 none 9 (.tmp 16) (.tmp 17)),
 .op 3 (.load 19 true 9 (.tmp 18)),
 .op 4 (.mov 20 (.tmp 1)),
 .op 5 (.mov 21 (.tmp 5)),
 .op 6 (.iaddr 22 none 9 (.tmp 20) (.tmp 21)),
 .op 7 (.load 23 true 9 (.tmp 22)),
 .op 8 (.bin 24 .neq (.cells [2, 2, 1, 1, 1, 1, 1, 1, 0]) (.tmp 19) (.tmp 23))] [])
 (.cond (.tmp 24)
 (.seq (.region [.op 0 (.mov 4 (.const (.bool false)))] [])
 .ret)
 .skip))))
 (.region [.op 0 (.bin 25 .add .plain (.tmp 13) (.const (.int .i64 1))),
 .op 1 (.mov 13 (.tmp 25))] [])))))))
 (.seq (.region [.op 0 (.mov 4 (.const (.bool true)))] [])
 .ret)))),
 [.tmp 4]⟩
theorem ok31 : funcOk Tryz.prog (drawOk Tryz.prog) Tryz.f31 A31 = true := by kernel_rfl
noncomputable def L31_0 (call : TCall) (xs : List AVal) (h : TH) : KJ :=
 U4 (fun g5 g6 g7 g8 =>
 V (kLss g8 g7) fun v9 =>
 C v9
 (V (kIaddr 9 g5 g8) fun v10 =>
 V (kLdA h 9 v10) fun v11 =>
 V (kIaddr 9 g6 g8) fun v12 =>
 V (kLdA h 9 v12) fun v13 =>
 V (kNe (.cells [2, 2, 1, 1, 1, 1, 1, 1, 0]) v11 v13) fun v14 =>
 C v14
 (.out 2 [(.bool false)] h)
 (V (kAdd g8 (.int .i64 1)) fun v15 =>
 .out 0 [g5, g6, g7, v15] h))
 (.out 1 [] h)) xs
noncomputable def F31 (call : TCall) (args : List AVal) (h : TH) : KR := ans (U2 (fun a0 a1 =>
 V (kLen false a0) fun v1 =>
 V (kLen false a1) fun v2 =>
 V (kNeq v1 v2) fun v3 =>
 C v3
 (.out 0 [(.bool false)] h)
 (V (kLen false a0) fun v4 =>
 Jn (Lp (L31_0 call) [a0, a1, v4, (.int .i64 0)] h) fun i18 x17 h16 =>
 ifB (Nat.beq i18 1) (U0 (.out 0 [(.bool true)] h16) x17) (
 ifB (Nat.beq i18 2) (U1 (fun g19 =>
 .out 0 [g19] h16) x17) (
 .no)))) args)
theorem st31 (call : TCall) (args : List AVal) (h : TH) : kFunc call A31 args h = F31 call args h := by kernel_rfl
noncomputable def A32 : AFunc := ⟨1, (.seq (.region [.op 0 (.mov 2 (.const (.nilSlice)))] [])
 (.seq (.region [.op 0 (.mov 3 (.const (.nilSlice)))] [])
 (.seq (.seq (.region [.op 0 (.mov 6 (.tmp 0)),
 .op 1 (.nilchk 7 (.tmp 6)),
 .op 2 (.faddr 8 1 (.tmp 7)),
 .op 3 (.load 9 false 1 (.tmp 8)),
 .op 4 (.len 10 false (.tmp 9)),
 .op 5 (.mov 11 (.const (.int .i64 0)))] [])
 (.block 0 (.loop ⟨[3, 9, 10, 11], []⟩ [((.exit 0), ⟨[3], []⟩)]
 (.seq (.region [.op 0 (.bin 12 .lss .plain (.tmp 11) (.tmp 10))] [])
 (.seq (.cond (.tmp 12)
 .skip
 (.exit 0))
 (.seq (.block 1 (.seq (.region [.op 0 (.iaddr 13 none 10 (.tmp 9) (.tmp 11)),
 .op 1 (.load 14 true 10 (.tmp 13)),
 .op 2 (.alloc 5 true [.str [], .str [], .int .i64 0, .int .i64 0, .int .i64 0, .int .i64 0, .int .i64 0, .int .i64 0, .bool false, .int .i64 0]),
 .op 3 (.store true 10 (.tmp 5) (.tmp 14))] [])
 (.region [.op 0 (.mov 15 (.tmp 3)),
 .op 1 (.faddr 16 0 (.tmp 5)),
 .op 2 (.load 17 true 9 (.tmp 16)),
 .op 3 (.buildSl 18 [.str [], .str [], .int .i64 0, .int .i64 0, .int .i64 0, .int .i64 0, .int .i64 0, .int .i64 0, .bool false] 9 1 [(0, .tmp 17)]),
 .op 4 (.append 19 9 88 [.str [], .str [], .int .i64 0, .int .i64 0, .int .i64 0, .int .i64 0, .int .i64 0, .int .i64 0, .bool false] false (.tmp 15) (.tmp 18)),
 .op 5 (.mov 3 (.tmp 19))] [])))
 (.region [.op 0 (.bin 20 .add .plain (.tmp 11) (.const (.int .i64 1))),
 .op 1 (.mov 11 (.tmp 20))] [])))))))
 (.seq (.region [.op 0 (.mov 21 (.tmp 3)),
 .op 1 (.mov 2 (.tmp 21))] [])
 .ret)))),
 [.tmp 2]⟩
theorem ok32 : funcOk Tryz.prog (drawOk Tryz.prog) Tryz.f32 A32 = true := by kernel_rfl
noncomputable def L32_0 (call : TCall) (xs : List AVal) (h : TH) : KJ :=
 U4 (fun g5 g6 g7 g8 =>
 V (kLss g8 g7) fun v9 =>
 C v9
 (V (kIaddr 10 g6 g8) fun v10 =>
 V (kLdA h 10 v10) fun v11 =>
 V (kStL [.str [], .str [], .int .i64 0, .int .i64 0, .int .i64 0, .int .i64 0, .int .i64 0, .int .i64 0, .bool false, .int .i64 0] 0 10 v11) fun c12 =>
 V (kLdL c12 true 0 9) fun v13 =>
 V (aFill (reps [.str [], .str [], .int .i64 0, .int .i64 0, .int .i64 0, .int .i64 0, .int .i64 0, .int .i64 0, .bool false] 1) [(0, 9, v13)]) fun c14 =>
 R (kAppend 9 88 [.str [], .str [], .int .i64 0, .int .i64 0, .int .i64 0, .int .i64 0, .int .i64 0, .int .i64 0, .bool false] false g5 (.slice h.next 0 1 1 9 true) (h.alloc c14)) fun v15 h16 =>
 V (kAdd g8 (.int .i64 1)) fun v17 =>
 .out 0 [v15, g6, g7, v17] h16)
 (.out 1 [g5] h)) xs
noncomputable def F32 (call : TCall) (args : List AVal) (h : TH) : KR := ans (U1 (fun a0 =>
 V (kNil a0) fun v1 =>
 V (kFaddr 1 v1) fun v2 =>
 V (kLd1 h v2) fun v3 =>
 V (kLen false v3) fun v4 =>
 Jn (Lp (L32_0 call) [(.nilSlice), v3, v4, (.int .i64 0)] h) fun i20 x19 h18 =>
 ifB (Nat.beq i20 1) (U1 (fun g21 =>
 .out 0 [g21] h18) x19) (
 .no)) args)
theorem st32 (call : TCall) (args : List AVal) (h : TH) : kFunc call A32 args h = F32 call args h := by kernel_rfl
noncomputable def A33 : AFunc := ⟨2, (.seq (.region [.op 0 (.mov 4 (.const (.nilSlice)))] [])
 (.seq (.region [.op 0 (.mov 6 (.tmp 0)),
 .op 1 (.mov 7 (.tmp 1)),
 .op 2 (.call 8 37 [.tmp 6, .tmp 7]),
 .op 3 (.mov 5 (.tmp 8))] [])
 (.seq (.seq (.region [.op 0 (.mov 9 (.tmp 5)),
 .op 1 (.bin 10 .eql .ptr (.tmp 9) (.const (.nilPtr))),
 .op 2 (.mov 11 (.tmp 10)),
 .guard 11 false [.op 3 (.mov 12 (.tmp 5)),
 .op 4 (.call 13 27 [.tmp 12]),
 .op 5 (.bin 14 .eql .ptr (.tmp 13) (.const (.nilPtr)))] [] [14],
 .op 6 (.pick 15 (.tmp 11) (.const (.bool true)) (.tmp 14)),
 .op 7 (.mov 16 (.tmp 15)),
 .guard 16 false [.op 8 (.mov 17 (.tmp 5)),
 .op 9 (.call 18 27 [.tmp 17]),
 .op 10 (.call 19 28 [.tmp 18]),
 .op 11 (.bin 20 .eql .ptr (.tmp 19) (.const (.nilPtr)))] [] [20],
 .op 12 (.pick 21 (.tmp 16) (.const (.bool true)) (.tmp 20))] [])
 (.cond (.tmp 21)
 (.seq (.region [.op 0 (.mov 4 (.const (.nilSlice)))] [])
 .ret)
 .skip))
 (.seq (.region [.op 0 (.mov 22 (.tmp 5)),
 .op 1 (.call 23 27 [.tmp 22]),
 .op 2 (.call 24 28 [.tmp 23]),
 .op 3 (.call 25 32 [.tmp 24]),
 .op 4 (.mov 4 (.tmp 25))] [])
 .ret)))),
 [.tmp 4]⟩
theorem ok33 : funcOk Tryz.prog (drawOk Tryz.prog) Tryz.f33 A33 = true := by kernel_rfl
noncomputable def F33 (call : TCall) (args : List AVal) (h : TH) : KR := ans (U2 (fun a0 a1 =>
 R (call 37 [a0, a1] h) fun v1 h2 =>
 V (kEq .ptr v1 (.nilPtr)) fun v3 =>
 Jn (G v3 false
 (R (call 27 [v1] h2) fun v4 h5 =>
 V (kEq .ptr v4 (.nilPtr)) fun v6 =>
 .out 0 [v6] h5)
 (.out 0 [skipV] h2)) fun _ x8 h7 =>
 U1 (fun g9 =>
 V (kPick v3 (.bool true) g9) fun v10 =>
 Jn (G v10 false
 (R (call 27 [v1] h7) fun v11 h12 =>
 R (call 28 [v11] h12) fun v13 h14 =>
 V (kEq .ptr v13 (.nilPtr)) fun v15 =>
 .out 0 [v15] h14)
 (.out 0 [skipV] h7)) fun _ x17 h16 =>
 U1 (fun g18 =>
 V (kPick v10 (.bool true) g18) fun v19 =>
 C v19
 (.out 0 [(.nilSlice)] h16)
 (R (call 27 [v1] h16) fun v20 h21 =>
 R (call 28 [v20] h21) fun v22 h23 =>
 R (call 32 [v22] h23) fun v24 h25 =>
 .out 0 [v24] h25)) x17) x8) args)
theorem st33 (call : TCall) (args : List AVal) (h : TH) : kFunc call A33 args h = F33 call args h := by kernel_rfl
noncomputable def A34 : AFunc := ⟨2, (.seq (.region [.op 0 (.mov 4 (.const (.nilPtr)))] [])
 (.seq (.region [.op 0 (.mov 5 (.tmp 0)),
 .op 1 (.nilchk 6 (.tmp 5)),
 .op 2 (.faddr 7 0 (.tmp 6)),
 .op 3 (.load 8 false 1 (.tmp 7)),
 .op 4 (.mov 9 (.tmp 1)),
 .op 5 (.call 10 57 [.tmp 8, .tmp 9]),
 .op 6 (.mov 4 (.tmp 10))] [])
 .ret)),
 [.tmp 4]⟩
theorem ok34 : funcOk Tryz.prog (drawOk Tryz.prog) Tryz.f34 A34 = true := by kernel_rfl
noncomputable def F34 (call : TCall) (args : List AVal) (h : TH) : KR := ans (U2 (fun a0 a1 =>
 V (kNil a0) fun v1 =>
 V (kFaddr 0 v1) fun v2 =>
 V (kLd1 h v2) fun v3 =>
 R (call 57 [v3, a1] h) fun v4 h5 =>
 .out 0 [v4] h5) args)
theorem st34 (call : TCall) (args : List AVal) (h : TH) : kFunc call A34 args h = F34 call args h := by kernel_rfl
noncomputable def A35 : AFunc := ⟨1, (.seq (.region [.op 0 (.mov 2 (.const (.bool false)))] [])
 (.seq (.region [.op 0 (.mov 3 (.tmp 0)),
 .op 1 (.nilchk 4 (.tmp 3)),
 .op 2 (.faddr 5 11 (.tmp 4)),
 .op 3 (.load 6 false 1 (.tmp 5)),
 .op 4 (.mov 2 (.tmp 6))] [])
 .ret)),
 [.tmp 2]⟩
theorem ok35 : funcOk Tryz.prog (drawOk Tryz.prog) Tryz.f35 A35 = true := by kernel_rfl
noncomputable def F35 (call : TCall) (args : List AVal) (h : TH) : KR := ans (U1 (fun a0 =>
 V (kNil a0) fun v1 =>
 V (kFaddr 11 v1) fun v2 =>
 V (kLd1 h v2) fun v3 =>
 .out 0 [v3] h) args)
theorem st35 (call : TCall) (args : List AVal) (h : TH) : kFunc call A35 args h = F35 call args h := by kernel_rfl
noncomputable def A36 : AFunc := ⟨1, (.seq (.region [.op 0 (.mov 2 (.const (.int .i64 0)))] [])
 (.seq (.region [.op 0 (.mov 3 (.tmp 0)),
 .op 1 (.nilchk 4 (.tmp 3)),
 .op 2 (.faddr 5 2 (.tmp 4)),
 .op 3 (.load 6 false 1 (.tmp 5)),
 .op 4 (.mov 7 (.tmp 0)),
 .op 5 (.nilchk 8 (.tmp 7)),
 .op 6 (.faddr 9 3 (.tmp 8)),
 .op 7 (.load 10 false 1 (.tmp 9)),
 .op 8 (.iaddr 11 none 1 (.tmp 6) (.tmp 10)),
 .op 9 (.load 12 false 1 (.tmp 11)),
 .op 10 (.mov 2 (.tmp 12))] [])
 .ret)),
 [.tmp 2]⟩
theorem ok36 : funcOk Tryz.prog (drawOk Tryz.prog) Tryz.f36 A36 = true := by kernel_rfl
noncomputable def F36 (call : TCall) (args : List AVal) (h : TH) : KR := ans (U1 (fun a0 =>
 V (kNil a0) fun v1 =>
 V (kFaddr 2 v1) fun v2 =>
 V (kLd1 h v2) fun v3 =>
 V (kNil a0) fun v4 =>
 V (kFaddr 3 v4) fun v5 =>
 V (kLd1 h v5) fun v6 =>
 V (kIaddr 1 v3 v6) fun v7 =>
 V (kLd1 h v7) fun v8 =>
 .out 0 [v8] h) args)
theorem st36 (call : TCall) (args : List AVal) (h : TH) : kFunc call A36 args h = F36 call args h := by kernel_rfl
noncomputable def A37 : AFunc := ⟨2, (.seq (.region [.op 0 (.mov 4 (.const (.nilPtr)))] [])
 (.seq (.region [.op 0 (.mov 5 (.tmp 0)),
 .op 1 (.nilchk 6 (.tmp 5)),
 .op 2 (.faddr 7 0 (.tmp 6)),
 .op 3 (.load 8 false 1 (.tmp 7)),
 .op 4 (.mov 9 (.tmp 1)),
 .op 5 (.call 10 58 [.tmp 8, .tmp 9]),
 .op 6 (.mov 4 (.tmp 10))] [])
 .ret)),
 [.tmp 4]⟩
theorem ok37 : funcOk Tryz.prog (drawOk Tryz.prog) Tryz.f37 A37 = true := by kernel_rfl
noncomputable def F37 (call : TCall) (args : List AVal) (h : TH) : KR := ans (U2 (fun a0 a1 =>
 V (kNil a0) fun v1 =>
 V (kFaddr 0 v1) fun v2 =>
 V (kLd1 h v2) fun v3 =>
 R (call 58 [v3, a1] h) fun v4 h5 =>
 .out 0 [v4] h5) args)
theorem st37 (call : TCall) (args : List AVal) (h : TH) : kFunc call A37 args h = F37 call args h := by kernel_rfl
noncomputable def A38 : AFunc := ⟨1, (.seq (.region [.op 0 (.mov 2 (.const (.str [])))] [])
 (.seq (.seq (.region [.op 0 (.mov 3 (.tmp 0)),
 .op 1 (.bin 4 .geq .plain (.tmp 3) (.const (.int .i64 10)))] [])
 (.cond (.tmp 4)
 (.seq (.region [.op 0 (.mov 5 (.tmp 0)),
 .op 1 (.bin 6 .quo .plain (.tmp 5) (.const (.int .i64 10))),
 .op 2 (.call 7 38 [.tmp 6]),
 .op 3 (.mov 8 (.tmp 0)),
 .op 4 (.bin 9 .rem .plain (.tmp 8) (.const (.int .i64 10))),
 .op 5 (.bin 10 .add .plain (.const (.int .i64 48)) (.tmp 9)),
 .op 6 (.conv 11 (.toInt .i32) (.tmp 10)),
 .op 7 (.conv 12 .intStr (.tmp 11)),
 .op 8 (.bin 13 .add .plain (.tmp 7) (.tmp 12)),
 .op 9 (.mov 2 (.tmp 13))] [])
 .ret)
 .skip))
 (.seq (.region [.op 0 (.mov 14 (.tmp 0)),
 .op 1 (.bin 15 .add .plain (.const (.int .i64 48)) (.tmp 14)),
 .op 2 (.conv 16 (.toInt .i32) (.tmp 15)),
 .op 3 (.conv 17 .intStr (.tmp 16)),
 .op 4 (.mov 2 (.tmp 17))] [])
 .ret))),
 [.tmp 2]⟩
theorem ok38 : funcOk Tryz.prog (drawOk Tryz.prog) Tryz.f38 A38 = true := by kernel_rfl
noncomputable def F38 (call : TCall) (args : List AVal) (h : TH) : KR := ans (U1 (fun a0 =>
 V (kGeq a0 (.int .i64 10)) fun v1 =>
 C v1
 (V (kSlow .quo a0 (.int .i64 10)) fun v2 =>
 R (call 38 [v2] h) fun v3 h4 =>
 V (kRem a0 (.int .i64 10)) fun v5 =>
 V (kAdd (.int .i64 48) v5) fun v6 =>
 V (kToInt .i32 v6) fun v7 =>
 V (kIntStr v7) fun v8 =>
 V (kAdd v3 v8) fun v9 =>
 .out 0 [v9] h4)
 (V (kAdd (.int .i64 48) a0) fun v10 =>
 V (kToInt .i32 v10) fun v11 =>
 V (kIntStr v11) fun v12 =>
 .out 0 [v12] h)) args)
theorem st38 (call : TCall) (args : List AVal) (h : TH) : kFunc call A38 args h = F38 call args h := by kernel_rfl
noncomputable def A39 : AFunc := ⟨3, (.seq (.region [.op 0 (.mov 6 (.const (.bool false)))] [])
 (.seq (.region [.op 0 (.mov 7 (.tmp 0)),
 .op 1 (.mov 8 (.tmp 1)),
 .op 2 (.mov 9 (.tmp 2)),
 .op 3 (.build 10 [.int .i64 0, .int .i64 0, .int .i64 0, .int .i64 0, .int .i64 0, .int .i64 0, .str []] [(0, 1, .const (.int .i64 8)), (1, 1, .tmp 8), (3, 1, .const (.int .i64 1)), (5, 1, .tmp 9), (4, 1, .const (.int .i64 1))]),
 .op 4 (.buildSl 11 [.int .i64 0, .int .i64 0, .int .i64 0, .int .i64 0, .int .i64 0, .int .i64 0, .str []] 7 1 [(0, .tmp 10)]),
 .op 5 (.call 12 18 [.tmp 7, .tmp 11]),
 .op 6 (.mov 13 (.tmp 12)),
 .guard 13 true [.op 7 (.mov 14 (.tmp 0)),
 .op 8 (.mov 15 (.tmp 1)),
 .op 9 (.call 16 19 [.tmp 14, .tmp 15, .const (.int .i64 2)])] [] [16],
 .op 10 (.pick 17 (.tmp 13) (.tmp 16) (.const (.bool false))),
 .op 11 (.mov 6 (.tmp 17))] [])
 .ret)),
 [.tmp 6]⟩
theorem ok39 : funcOk Tryz.prog (drawOk Tryz.prog) Tryz.f39 A39 = true := by kernel_rfl
noncomputable def F39 (call : TCall) (args : List AVal) (h : TH) : KR := ans (U3 (fun a0 a1 a2 =>
 V (aFill [.int .i64 0, .int .i64 0, .int .i64 0, .int .i64 0, .int .i64 0, .int .i64 0, .str []] [(0, 1, (.int .i64 8)), (1, 1, a1), (3, 1, (.int .i64 1)), (5, 1, a2), (4, 1, (.int .i64 1))]) fun c1 =>
 V (aFill (reps [.int .i64 0, .int .i64 0, .int .i64 0, .int .i64 0, .int .i64 0, .int .i64 0, .str []] 1) [(0, 7, (.agg c1))]) fun c2 =>
 R (call 18 [a0, (.slice h.next 0 1 1 7 true)] (h.alloc c2)) fun v3 h4 =>
 Jn (G v3 true
 (R (call 19 [a0, a1, (.int .i64 2)] h4) fun v5 h6 =>
 .out 0 [v5] h6)
 (.out 0 [skipV] h4)) fun _ x8 h7 =>
 U1 (fun g9 =>
 V (kPick v3 g9 (.bool false)) fun v10 =>
 .out 0 [v10] h7) x8) args)
theorem st39 (call : TCall) (args : List AVal) (h : TH) : kFunc call A39 args h = F39 call args h := by kernel_rfl
noncomputable def A40 : AFunc := ⟨2, (.seq (.region [.op 0 (.mov 4 (.const (.int .i64 0))),
 .op 1 (.mov 5 (.const (.bool false)))] [])
 (.seq (.seq (.region [.op 0 (.mov 6 (.tmp 0)),
 .op 1 (.bin 7 .eql .ptr (.tmp 6) (.const (.nilPtr)))] [])
 (.cond (.tmp 7)
 (.seq (.region [.op 0 (.mov 4 (.const (.int .i64 0))),
 .op 1 (.mov 5 (.const (.bool false)))] [])
 .ret)
 .skip))
 (.seq (.region [.op 0 (.mov 8 (.tmp 0)),
 .op 1 (.build 9 [.nilPtr, .nilSlice] [(0, 1, .tmp 8)]),
 .op 2 (.box 10 false (.tmp 9)),
 .op 3 (.mov 11 (.tmp 1)),
 .op 4 (.call 12 59 [.tmp 10, .tmp 11]),
 .op 5 (.extract 13 (.tmp 12) 0),
 .op 6 (.extract 14 (.tmp 12) 1),
 .op 7 (.mov 4 (.tmp 13)),
 .op 8 (.mov 5 (.tmp 14))] [])
 .ret))),
 [.tmp 4, .tmp 5]⟩
theorem ok40 : funcOk Tryz.prog (drawOk Tryz.prog) Tryz.f40 A40 = true := by kernel_rfl
noncomputable def F40 (call : TCall) (args : List AVal) (h : TH) : KR := ans (U2 (fun a0 a1 =>
 V (kEq .ptr a0 (.nilPtr)) fun v1 =>
 C v1
 (.out 0 [.tuple [(.int .i64 0), (.bool false)]] h)
 (V (aFill [.nilPtr, .nilSlice] [(0, 1, a0)]) fun c2 =>
 V (kCellsQ (.agg c2)) fun c3 =>
 R (call 59 [(.ptr h.next 0), a1] (h.alloc c3)) fun v4 h5 =>
 V (kExtract 0 v4) fun v6 =>
 V (kExtract 1 v4) fun v7 =>
 .out 0 [.tuple [v6, v7]] h5)) args)
theorem st40 (call : TCall) (args : List AVal) (h : TH) : kFunc call A40 args h = F40 call args h := by kernel_rfl
noncomputable def A41 : AFunc := ⟨2, (.seq (.region [.op 0 (.mov 4 (.const (.nilPtr)))] [])
 (.seq (.seq (.region [.op 0 (.mov 13 (.tmp 0)),
 .op 1 (.bin 14 .lss .plain (.tmp 13) (.const (.int .i64 1))),
 .op 2 (.mov 15 (.tmp 14)),
 .guard 15 false [.op 3 (.mov 16 (.tmp 1)),
 .op 4 (.bin 17 .lss .plain (.tmp 16) (.const (.int .i64 0)))] [] [17],
 .op 5 (.pick 18 (.tmp 15) (.const (.bool true)) (.tmp 17)),
 .op 6 (.mov 19 (.tmp 18)),
 .guard 19 false [.op 7 (.mov 20 (.tmp 0)),
 .op 8 (.bin 21 .gtr .plain (.tmp 20) (.const (.int .i64 6)))] [] [21],
 .op 9 (.pick 22 (.tmp 19) (.const (.bool true)) (.tmp 21)),
 .op 10 (.mov 23 (.tmp 22)),
 .guard 23 false [.op 11 (.mov 24 (.tmp 1)),
 .op 12 (.mov 25 (.tmp 0)),
 .op 13 (.bin 26 .sub .plain (.const (.int .i64 6)) (.tmp 25)),
 .op 14 (.bin 27 .gtr .plain (.tmp 24) (.tmp 26))] [] [27],
 .op 15 (.pick 28 (.tmp 23) (.const (.bool true)) (.tmp 27))] [])
 (.cond (.tmp 28)
 (.seq (.region [.op 0 (.mov 4 (.const (.nilPtr)))] [])
 .ret)
 .skip))
 (.seq (.region [.op 0 (.mov 29 (.tmp 0)),
 .op 1 (.mov 30 (.tmp 1)),
 .op 2 (.bin 31 .add .plain (.tmp 29) (.tmp 30)),
 .op 3 (.call 32 60 [.tmp 31]),
 .op 4 (.build 33 [.nilSlice, .nilSlice, .nilPtr] [(2, 1, .tmp 32)]),
 .op 5 (.box 34 false (.tmp 33)),
 .op 6 (.mov 5 (.tmp 34))] [])
 (.seq (.region [.op 0 (.mov 6 (.const (.nilSlice)))] [])
 (.seq (.seq (.region [.op 0 (.mov 35 (.tmp 0)),
 .op 1 (.mov 36 (.const (.int .i64 0)))] [])
 (.block 0 (.loop ⟨[0, 1, 5, 6, 35, 36], []⟩ [((.exit 0), ⟨[0, 1, 5, 6], []⟩)]
 (.seq (.region [.op 0 (.bin 37 .lss .plain (.tmp 36) (.tmp 35))] [])
 (.seq (.cond (.tmp 37)
 .skip
 (.exit 0))
 (.seq (.block 1 (.seq (.region [.op 0 (.mov 38 (.tmp 36)),
 .op 1 (.mov 7 (.tmp 38))] [])
 (.region [.op 0 (.mov 39 (.tmp 6)),
 .op 1 (.mov 40 (.tmp 7)),
 .op 2 (.buildSl 41 [.int .i64 0] 1 1 [(0, .tmp 40)]),
 .op 3 (.append 42 1 8 [.int .i64 0] false (.tmp 39) (.tmp 41)),
 .op 4 (.mov 6 (.tmp 42))] [])))
 (.region [.op 0 (.bin 43 .add .plain (.tmp 36) (.const (.int .i64 1))),
 .op 1 (.mov 36 (.tmp 43))] [])))))))
 (.seq (.seq (.region [.op 0 (.mov 44 (.tmp 0)),
 .op 1 (.mov 45 (.const (.int .i64 0)))] [])
 (.block 2 (.loop ⟨[0, 1, 5, 6, 44, 45], []⟩ [((.exit 2), ⟨[0, 1, 5, 6], []⟩)]
 (.seq (.region [.op 0 (.bin 46 .lss .plain (.tmp 45) (.tmp 44))] [])
 (.seq (.cond (.tmp 46)
 .skip
 (.exit 2))
 (.seq (.block 3 (.seq (.region [.op 0 (.mov 47 (.tmp 45)),
 .op 1 (.mov 8 (.tmp 47))] [])
 (.seq (.region [.op 0 (.buildSl 48 [.int .i64 0] 1 0 []),
 .op 1 (.mov 49 (.tmp 6)),
 .op 2 (.mov 50 (.tmp 8)),
 .op 3 (.slice 51 (.sl 1) (.tmp 49) none (some (.tmp 50)) none),
 .op 4 (.append 52 1 8 [.int .i64 0] false (.tmp 48) (.tmp 51)),
 .op 5 (.mov 53 (.tmp 6)),
 .op 6 (.mov 54 (.tmp 8)),
 .op 7 (.bin 55 .add .plain (.tmp 54) (.const (.int .i64 1))),
 .op 8 (.slice 56 (.sl 1) (.tmp 53) (some (.tmp 55)) none none),
 .op 9 (.append 57 1 8 [.int .i64 0] false (.tmp 52) (.tmp 56)),
 .op 10 (.mov 9 (.tmp 57))] [])
 (.region [.op 0 (.mov 58 (.tmp 5)),
 .op 1 (.mov 59 (.tmp 5)),
 .op 2 (.nilchk 60 (.tmp 59)),
 .op 3 (.faddr 61 0 (.tmp 60)),
 .op 4 (.load 62 false 1 (.tmp 61)),
 .op 5 (.mov 63 (.tmp 8)),
 .op 6 (.mov 64 (.tmp 9)),
 .op 7 (.call 65 26 [.tmp 63, .tmp 64]),
 .op 8 (.buildSl 66 [.nilPtr] 1 1 [(0, .tmp 65)]),
 .op 9 (.append 67 1 8 [.nilPtr] false (.tmp 62) (.tmp 66)),
 .op 10 (.nilchk 68 (.tmp 58)),
 .op 11 (.faddr 69 0 (.tmp 68)),
 .op 12 (.store false 1 (.tmp 69) (.tmp 67))] [(4, 7), (4, 8)]))))
 (.region [.op 0 (.bin 70 .add .plain (.tmp 45) (.const (.int .i64 1))),
 .op 1 (.mov 45 (.tmp 70))] [])))))))
 (.seq (.seq (.region [.op 0 (.mov 71 (.tmp 1)),
 .op 1 (.mov 72 (.const (.int .i64 0)))] [])
 (.block 4 (.loop ⟨[0, 5, 6, 71, 72], []⟩ [((.exit 4), ⟨[5], []⟩)]
 (.seq (.region [.op 0 (.bin 73 .lss .plain (.tmp 72) (.tmp 71))] [])
 (.seq (.cond (.tmp 73)
 .skip
 (.exit 4))
 (.seq (.block 5 (.seq (.region [.op 0 (.mov 74 (.tmp 72)),
 .op 1 (.mov 10 (.tmp 74))] [])
 (.seq (.region [.op 0 (.mov 75 (.tmp 10)),
 .op 1 (.bin 76 .quo .plain (.tmp 75) (.const (.int .i64 2))),
 .op 2 (.call 77 61 [.tmp 76]),
 .op 3 (.bin 78 .add .plain (.const (.str [97, 112, 112])) (.tmp 77)),
 .op 4 (.mov 79 (.tmp 10)),
 .op 5 (.call 80 61 [.tmp 79]),
 .op 6 (.bin 81 .add .plain (.const (.str [105, 100])) (.tmp 80)),
 .op 7 (.build 82 [.str [], .str []] [(0, 1, .tmp 78), (1, 1, .tmp 81)]),
 .op 8 (.alloc 11 true [.str [], .str []]),
 .op 9 (.store true 2 (.tmp 11) (.tmp 82))] [])
 (.seq (.region [.op 0 (.mov 83 (.tmp 10)),
 .op 1 (.mov 84 (.tmp 0)),
 .op 2 (.bin 85 .rem .plain (.tmp 83) (.tmp 84)),
 .op 3 (.mov 12 (.tmp 85))] [])
 (.region [.op 0 (.mov 86 (.tmp 5)),
 .op 1 (.mov 87 (.tmp 5)),
 .op 2 (.nilchk 88 (.tmp 87)),
 .op 3 (.faddr 89 1 (.tmp 88)),
 .op 4 (.load 90 false 1 (.tmp 89)),
 .op 5 (.load 91 true 2 (.tmp 11)),
 .op 6 (.buildSl 92 [.int .i64 0] 1 0 []),
 .op 7 (.mov 93 (.tmp 6)),
 .op 8 (.mov 94 (.tmp 12)),
 .op 9 (.slice 95 (.sl 1) (.tmp 93) (some (.tmp 94)) none none),
 .op 10 (.append 96 1 8 [.int .i64 0] false (.tmp 92) (.tmp 95)),
 .op 11 (.mov 97 (.tmp 6)),
 .op 12 (.mov 98 (.tmp 12)),
 .op 13 (.slice 99 (.sl 1) (.tmp 97) none (some (.tmp 98)) none),
 .op 14 (.append 100 1 8 [.int .i64 0] false (.tmp 96) (.tmp 99)),
 .op 15 (.call 101 62 [.tmp 91, .tmp 100]),
 .op 16 (.buildSl 102 [.nilPtr] 1 1 [(0, .tmp 101)]),
 .op 17 (.append 103 1 8 [.nilPtr] false (.tmp 90) (.tmp 102)),
 .op 18 (.nilchk 104 (.tmp 86)),
 .op 19 (.faddr 105 1 (.tmp 104)),
 .op 20 (.store false 1 (.tmp 105) (.tmp 103))] [(4, 6), (4, 10), (4, 14), (4, 15), (4, 16), (5, 6), (5, 10), (5, 14)])))))
 (.region [.op 0 (.bin 106 .add .plain (.tmp 72) (.const (.int .i64 1))),
 .op 1 (.mov 72 (.tmp 106))] [])))))))
 (.seq (.region [.op 0 (.mov 107 (.tmp 5)),
 .op 1 (.mov 4 (.tmp 107))] [])
 .ret)))))))),
 [.tmp 4]⟩
theorem ok41 : funcOk Tryz.prog (drawOk Tryz.prog) Tryz.f41 A41 = true := by kernel_rfl
noncomputable def L41_0 (call : TCall) (xs : List AVal) (h : TH) : KJ :=
 U6 (fun g23 g24 g25 g26 g27 g28 =>
 V (kLss g28 g27) fun v29 =>
 C v29
 (V (aFill (reps [.int .i64 0] 1) [(0, 1, g28)]) fun c30 =>
 R (kAppend 1 8 [.int .i64 0] false g26 (.slice h.next 0 1 1 1 true) (h.alloc c30)) fun v31 h32 =>
 V (kAdd g28 (.int .i64 1)) fun v33 =>
 .out 0 [g23, g24, g25, v31, g27, v33] h32)
 (.out 1 [g23, g24, g25, g26] h)) xs
noncomputable def L41_1 (call : TCall) (xs : List AVal) (h : TH) : KJ :=
 U6 (fun g41 g42 g43 g44 g45 g46 =>
 V (kLss g46 g45) fun v47 =>
 C v47
 (V (aFill (reps [.int .i64 0] 0) []) fun c48 =>
 V (kSlSl 1 g44 none (some g46) none) fun v49 =>
 R (kAppend 1 8 [.int .i64 0] false (.slice h.next 0 0 0 1 true) v49 (h.alloc c48)) fun v50 h51 =>
 V (kAdd g46 (.int .i64 1)) fun v52 =>
 V (kSlSl 1 g44 (some v52) none none) fun v53 =>
 R (kAppend 1 8 [.int .i64 0] false v50 v53 h51) fun v54 h55 =>
 V (kNil g43) fun v56 =>
 V (kFaddr 0 v56) fun v57 =>
 V (kLd1 h55 v57) fun v58 =>
 R (call 26 [g46, v54] h55) fun v59 h60 =>
 V (aFill (reps [.nilPtr] 1) [(0, 1, v59)]) fun c61 =>
 R (kAppend 1 8 [.nilPtr] false v58 (.slice h60.next 0 1 1 1 true) (h60.alloc c61)) fun v62 h63 =>
 V (kNil g43) fun v64 =>
 V (kFaddr 0 v64) fun v65 =>
 V (kSt h63 1 v65 v62) fun h66 =>
 ifB (kCheck [(8, some (.al h60.next)), (7, some (.ef [] h55 [] h60)), (4, kLogRd v57 1)] [(4, 7), (4, 8)]) (V (kAdd g46 (.int .i64 1)) fun v67 =>
 .out 0 [g41, g42, g43, g44, g45, v67] h66) .no)
 (.out 1 [g41, g42, g43, g44] h)) xs
noncomputable def L41_2 (call : TCall) (xs : List AVal) (h : TH) : KJ :=
 U5 (fun g75 g76 g77 g78 g79 =>
 V (kLss g79 g78) fun v80 =>
 C v80
 (V (kSlow .quo g79 (.int .i64 2)) fun v81 =>
 R (call 61 [v81] h) fun v82 h83 =>
 V (kAdd (.str [97, 112, 112]) v82) fun v84 =>
 R (call 61 [g79] h83) fun v85 h86 =>
 V (kAdd (.str [105, 100]) v85) fun v87 =>
 V (aFill [.str [], .str []] [(0, 1, v84), (1, 1, v87)]) fun c88 =>
 V (kStL [.str [], .str []] 0 2 (.agg c88)) fun c89 =>
 V (kRem g79 g75) fun v90 =>
 V (kNil g76) fun v91 =>
 V (kFaddr 1 v91) fun v92 =>
 V (kLd1 h86 v92) fun v93 =>
 V (kLdL c89 true 0 2) fun v94 =>
 V (aFill (reps [.int .i64 0] 0) []) fun c95 =>
 V (kSlSl 1 g77 (some v90) none none) fun v96 =>
 R (kAppend 1 8 [.int .i64 0] false (.slice h86.next 0 0 0 1 true) v96 (h86.alloc c95)) fun v97 h98 =>
 V (kSlSl 1 g77 none (some v90) none) fun v99 =>
 R (kAppend 1 8 [.int .i64 0] false v97 v99 h98) fun v100 h101 =>
 R (call 62 [v94, v100] h101) fun v102 h103 =>
 V (aFill (reps [.nilPtr] 1) [(0, 1, v102)]) fun c104 =>
 R (kAppend 1 8 [.nilPtr] false v93 (.slice h103.next 0 1 1 1 true) (h103.alloc c104)) fun v105 h106 =>
 V (kNil g76) fun v107 =>
 V (kFaddr 1 v107) fun v108 =>
 V (kSt h106 1 v108 v105) fun h109 =>
 ifB (kCheck [(16, some (.al h103.next)), (15, some (.ef [(11, c89)] h101 [(11, c89)] h103)), (14, some (.ef [(11, c89)] h98 [(11, c89)] h101)), (10, some (.ef [(11, c89)] (h86.alloc c95) [(11, c89)] h98)), (6, some (.al h86.next)), (5, some (.lrd 11 0 2)), (4, kLogRd v92 1)] [(4, 6), (4, 10), (4, 14), (4, 15), (4, 16), (5, 6), (5, 10), (5, 14)]) (V (kAdd g79 (.int .i64 1)) fun v110 =>
 .out 0 [g75, g76, g77, g78, v110] h109) .no)
 (.out 1 [g76] h)) xs
noncomputable def F41 (call : TCall) (args : List AVal) (h : TH) : KR := ans (U2 (fun a0 a1 =>
 V (kLss a0 (.int .i64 1)) fun v1 =>
 Jn (G v1 false
 (V (kLss a1 (.int .i64 0)) fun v2 =>
 .out 0 [v2] h)
 (.out 0 [skipV] h)) fun _ x4 h3 =>
 U1 (fun g5 =>
 V (kPick v1 (.bool true) g5) fun v6 =>
 Jn (G v6 false
 (V (kGtr a0 (.int .i64 6)) fun v7 =>
 .out 0 [v7] h3)
 (.out 0 [skipV] h3)) fun _ x9 h8 =>
 U1 (fun g10 =>
 V (kPick v6 (.bool true) g10) fun v11 =>
 Jn (G v11 false
 (V (kSub (.int .i64 6) a0) fun v12 =>
 V (kGtr a1 v12) fun v13 =>
 .out 0 [v13] h8)
 (.out 0 [skipV] h8)) fun _ x15 h14 =>
 U1 (fun g16 =>
 V (kPick v11 (.bool true) g16) fun v17 =>
 C v17
 (.out 0 [(.nilPtr)] h14)
 (V (kAdd a0 a1) fun v18 =>
 R (call 60 [v18] h14) fun v19 h20 =>
 V (aFill [.nilSlice, .nilSlice, .nilPtr] [(2, 1, v19)]) fun c21 =>
 V (kCellsQ (.agg c21)) fun c22 =>
 Jn (Lp (L41_0 call) [a0, a1, (.ptr h20.next 0), (.nilSlice), a0, (.int .i64 0)] (h20.alloc c22)) fun i36 x35 h34 =>
 ifB (Nat.beq i36 1) (U4 (fun g37 g38 g39 g40 =>
 Jn (Lp (L41_1 call) [g37, g38, g39, g40, g37, (.int .i64 0)] h34) fun i70 x69 h68 =>
 ifB (Nat.beq i70 1) (U4 (fun g71 g72 g73 g74 =>
 Jn (Lp (L41_2 call) [g71, g73, g74, g72, (.int .i64 0)] h68) fun i113 x112 h111 =>
 ifB (Nat.beq i113 1) (U1 (fun g114 =>
 .out 0 [g114] h111) x112) (
 .no)) x69) (
 .no)) x35) (
 .no))) x15) x9) x4) args)
theorem st41 (call : TCall) (args : List AVal) (h : TH) : kFunc call A41 args h = F41 call args h := by kernel_rfl
noncomputable def A42 : AFunc := ⟨1, (.seq (.region [.op 0 (.mov 2 (.const (.nilPtr)))] [])
 (.seq (.seq (.region [.op 0 (.mov 3 (.tmp 0)),
 .op 1 (.bin 4 .lss .plain (.tmp 3) (.const (.int .i64 1))),
 .op 2 (.mov 5 (.tmp 4)),
 .guard 5 false [.op 3 (.mov 6 (.tmp 0)),
 .op 4 (.bin 7 .gtr .plain (.tmp 6) (.const (.int .i64 6)))] [] [7],
 .op 5 (.pick 8 (.tmp 5) (.const (.bool true)) (.tmp 7))] [])
 (.cond (.tmp 8)
 (.seq (.region [.op 0 (.mov 2 (.const (.nilPtr)))] [])
 .ret)
 .skip))
 (.seq (.region [.op 0 (.mov 9 (.tmp 0)),
 .op 1 (.build 10 [.int .i64 0, .nilSlice, .bool false, .bool false, .bool false, .bool false, .bool false, .bool false, .bool false, .bool false, .bool false, .bool false, .bool false, .bool false, .bool false, .bool false, .bool false, .bool false, .bool false, .bool false, .bool false, .bool false, .bool false, .bool false, .bool false, .bool false, .bool false, .bool false, .bool false, .bool false, .bool false, .bool false, .bool false, .bool false, .bool false, .bool false, .bool false, .bool false] [(0, 1, .tmp 9)]),
 .op 2 (.box 11 false (.tmp 10)),
 .op 3 (.mov 2 (.tmp 11))] [])
 .ret))),
 [.tmp 2]⟩
theorem ok42 : funcOk Tryz.prog (drawOk Tryz.prog) Tryz.f42 A42 = true := by kernel_rfl
noncomputable def F42 (call : TCall) (args : List AVal) (h : TH) : KR := ans (U1 (fun a0 =>
 V (kLss a0 (.int .i64 1)) fun v1 =>
 Jn (G v1 false
 (V (kGtr a0 (.int .i64 6)) fun v2 =>
 .out 0 [v2] h)
 (.out 0 [skipV] h)) fun _ x4 h3 =>
 U1 (fun g5 =>
 V (kPick v1 (.bool true) g5) fun v6 =>
 C v6
 (.out 0 [(.nilPtr)] h3)
 (V (aFill [.int .i64 0, .nilSlice, .bool false, .bool false, .bool false, .bool false, .bool false, .bool false, .bool false, .bool false, .bool false, .bool false, .bool false, .bool false, .bool false, .bool false, .bool false, .bool false, .bool false, .bool false, .bool false, .bool false, .bool false, .bool false, .bool false, .bool false, .bool false, .bool false, .bool false, .bool false, .bool false, .bool false, .bool false, .bool false, .bool false, .bool false, .bool false, .bool false] [(0, 1, a0)]) fun c7 =>
 V (kCellsQ (.agg c7)) fun c8 =>
 .out 0 [(.ptr h3.next 0)] (h3.alloc c8))) x4) args)
theorem st42 (call : TCall) (args : List AVal) (h : TH) : kFunc call A42 args h = F42 call args h := by kernel_rfl
noncomputable def A43 : AFunc := ⟨1, (.seq (.region [.op 0 (.mov 2 (.const (.int .i64 0)))] [])
 (.seq (.region [.op 0 (.mov 3 (.tmp 0)),
 .op 1 (.nilchk 4 (.tmp 3)),
 .op 2 (.faddr 5 0 (.tmp 4)),
 .op 3 (.load 6 false 1 (.tmp 5)),
 .op 4 (.len 7 false (.tmp 6)),
 .op 5 (.mov 8 (.tmp 0)),
 .op 6 (.nilchk 9 (.tmp 8)),
 .op 7 (.faddr 10 1 (.tmp 9)),
 .op 8 (.load 11 false 1 (.tmp 10)),
 .op 9 (.len 12 false (.tmp 11)),
 .op 10 (.bin 13 .add .plain (.tmp 7) (.tmp 12)),
 .op 11 (.mov 2 (.tmp 13))] [])
 .ret)),
 [.tmp 2]⟩
theorem ok43 : funcOk Tryz.prog (drawOk Tryz.prog) Tryz.f43 A43 = true := by kernel_rfl
noncomputable def F43 (call : TCall) (args : List AVal) (h : TH) : KR := ans (U1 (fun a0 =>
 V (kNil a0) fun v1 =>
 V (kFaddr 0 v1) fun v2 =>
 V (kLd1 h v2) fun v3 =>
 V (kLen false v3) fun v4 =>
 V (kNil a0) fun v5 =>
 V (kFaddr 1 v5) fun v6 =>
 V (kLd1 h v6) fun v7 =>
 V (kLen false v7) fun v8 =>
 V (kAdd v4 v8) fun v9 =>
 .out 0 [v9] h) args)
theorem st43 (call : TCall) (args : List AVal) (h : TH) : kFunc call A43 args h = F43 call args h := by kernel_rfl
noncomputable def A44 : AFunc := ⟨3, (.seq (.region [.op 0 (.box 5 true (.tmp 2)),
 .op 1 (.alloc 6 true [.int .i64 0, .int .i64 0, .int .i64 0, .nilSlice, .int .i64 0])] [])
 (.seq (.region [.op 0 (.mov 8 (.tmp 0)),
 .op 1 (.mov 9 (.tmp 1)),
 .op 2 (.load 10 true 7 (.tmp 5)),
 .op 3 (.call 11 63 [.tmp 8, .tmp 9, .tmp 10]),
 .op 4 (.alloc 7 true [.int .i64 0, .int .i64 0, .int .i64 0, .nilSlice, .int .i64 0]),
 .op 5 (.store true 5 (.tmp 7) (.tmp 11))] [])
 (.seq (.region [.op 0 (.mov 12 (.tmp 1)),
 .op 1 (.invoke 13 [(85, 94, none), (90, 94, some (0, 1, false)), (91, 94, some (0, 1, false))] (.tmp 12) []),
 .op 2 (.faddr 14 4 (.tmp 7)),
 .op 3 (.store false 1 (.tmp 14) (.tmp 13))] [])
 (.seq (.region [.op 0 (.load 15 true 5 (.tmp 7)),
 .op 1 (.store true 5 (.tmp 6) (.tmp 15))] [])
 .ret)))),
 [.cell 6 true 5]⟩
theorem ok44 : funcOk Tryz.prog (drawOk Tryz.prog) Tryz.f44 A44 = true := by kernel_rfl
noncomputable def F44 (call : TCall) (args : List AVal) (h : TH) : KR := ans (U3 (fun a0 a1 a2 =>
 V (kCellsQ a2) fun c1 =>
 V (kLdL c1 true 0 7) fun v2 =>
 R (call 63 [a0, a1, v2] h) fun v3 h4 =>
 V (kStL [.int .i64 0, .int .i64 0, .int .i64 0, .nilSlice, .int .i64 0] 0 5 v3) fun c5 =>
 V (kMeth [(85, 94, none), (90, 94, some (0, 1, false)), (91, 94, some (0, 1, false))] a1) fun q6 =>
 R (call q6.1 (q6.2 :: []) h4) fun v7 h8 =>
 V (kStL c5 4 1 v7) fun c9 =>
 V (kLdL c9 true 0 5) fun v10 =>
 V (kStL [.int .i64 0, .int .i64 0, .int .i64 0, .nilSlice, .int .i64 0] 0 5 v10) fun c11 =>
 V (kLdL c11 true 0 5) fun v12 =>
 .out 0 [v12] h8) args)
theorem st44 (call : TCall) (args : List AVal) (h : TH) : kFunc call A44 args h = F44 call args h := by kernel_rfl
noncomputable def A45 : AFunc := ⟨2, (.seq (.region [.op 0 (.mov 4 (.const (.nilPtr)))] [])
 (.seq (.seq (.region [.op 0 (.mov 5 (.tmp 0)),
 .op 1 (.bin 6 .lss .plain (.tmp 5) (.const (.int .i64 0))),
 .op 2 (.mov 7 (.tmp 6)),
 .guard 7 false [.op 3 (.mov 8 (.tmp 0)),
 .op 4 (.bin 9 .geq .plain (.tmp 8) (.const (.int .i64 6)))] [] [9],
 .op 5 (.pick 10 (.tmp 7) (.const (.bool true)) (.tmp 9)),
 .op 6 (.mov 11 (.tmp 10)),
 .guard 11 false [.op 7 (.mov 12 (.tmp 1)),
 .op 8 (.mov 13 (.tmp 1)),
 .op 9 (.call 14 64 [.tmp 13]),
 .op 10 (.bin 15 .neq .plain (.tmp 12) (.tmp 14))] [] [15],
 .op 11 (.pick 16 (.tmp 11) (.const (.bool true)) (.tmp 15))] [])
 (.cond (.tmp 16)
 (.seq (.region [.op 0 (.mov 4 (.const (.nilPtr)))] [])
 .ret)
 .skip))
 (.seq (.region [.op 0 (.mov 17 (.tmp 0)),
 .op 1 (.mov 18 (.tmp 0)),
 .op 2 (.build 19 [.int .i64 0, .int .i64 0, .int .i64 0] [(1, 1, .tmp 18)]),
 .op 3 (.call 20 65 [.const (.int .i64 32)]),
 .op 4 (.mov 21 (.tmp 1)),
 .op 5 (.call 22 66 [.tmp 21]),
 .op 6 (.call 23 67 []),
 .op 7 (.build 24 [.int .i64 0, .int .i64 0, .int .i64 0, .int .i64 0, .nilPtr, .nilPtr, .nilPtr] [(0, 1, .tmp 17), (1, 3, .tmp 19), (4, 1, .tmp 20), (5, 1, .tmp 22), (6, 1, .tmp 23)]),
 .op 8 (.box 25 false (.tmp 24)),
 .op 9 (.mov 4 (.tmp 25))] [])
 .ret))),
 [.tmp 4]⟩
theorem ok45 : funcOk Tryz.prog (drawOk Tryz.prog) Tryz.f45 A45 = true := by kernel_rfl
noncomputable def F45 (call : TCall) (args : List AVal) (h : TH) : KR := ans (U2 (fun a0 a1 =>
 V (kLss a0 (.int .i64 0)) fun v1 =>
 Jn (G v1 false
 (V (kGeq a0 (.int .i64 6)) fun v2 =>
 .out 0 [v2] h)
 (.out 0 [skipV] h)) fun _ x4 h3 =>
 U1 (fun g5 =>
 V (kPick v1 (.bool true) g5) fun v6 =>
 Jn (G v6 false
 (R (call 64 [a1] h3) fun v7 h8 =>
 V (kNeq a1 v7) fun v9 =>
 .out 0 [v9] h8)
 (.out 0 [skipV] h3)) fun _ x11 h10 =>
 U1 (fun g12 =>
 V (kPick v6 (.bool true) g12) fun v13 =>
 C v13
 (.out 0 [(.nilPtr)] h10)
 (V (aFill [.int .i64 0, .int .i64 0, .int .i64 0] [(1, 1, a0)]) fun c14 =>
 R (call 65 [(.int .i64 32)] h10) fun v15 h16 =>
 R (call 66 [a1] h16) fun v17 h18 =>
 R (call 67 [] h18) fun v19 h20 =>
 V (aFill [.int .i64 0, .int .i64 0, .int .i64 0, .int .i64 0, .nilPtr, .nilPtr, .nilPtr] [(0, 1, a0), (1, 3, (.agg c14)), (4, 1, v15), (5, 1, v17), (6, 1, v19)]) fun c21 =>
 V (kCellsQ (.agg c21)) fun c22 =>
 .out 0 [(.ptr h20.next 0)] (h20.alloc c22))) x11) x4) args)
theorem st45 (call : TCall) (args : List AVal) (h : TH) : kFunc call A45 args h = F45 call args h := by kernel_rfl
noncomputable def A46 : AFunc := ⟨1, (.seq (.region [.op 0 (.mov 2 (.const (.nilPtr)))] [])
 (.seq (.region [.op 0 (.build 6 [.nilSlice, .nilSlice, .int .i64 0] []),
 .op 1 (.box 7 false (.tmp 6)),
 .op 2 (.mov 3 (.tmp 7))] [])
 (.seq (.seq (.region [.op 0 (.mov 8 (.tmp 0)),
 .op 1 (.len 9 false (.tmp 8)),
 .op 2 (.mov 10 (.const (.int .i64 0)))] [])
 (.block 0 (.loop ⟨[3, 8, 9, 10], []⟩ [((.exit 0), ⟨[3], []⟩)]
 (.seq (.region [.op 0 (.bin 11 .lss .plain (.tmp 10) (.tmp 9))] [])
 (.seq (.cond (.tmp 11)
 .skip
 (.exit 0))
 (.seq (.block 1 (.seq (.region [.op 0 (.iaddr 12 none 1 (.tmp 8) (.tmp 10)),
 .op 1 (.load 13 false 1 (.tmp 12)),
 .op 2 (.mov 5 (.tmp 13))] [])
 (.seq (.region [.op 0 (.mov 14 (.tmp 3)),
 .op 1 (.nilchk 15 (.tmp 14)),
 .op 2 (.faddr 16 0 (.tmp 15)),
 .op 3 (.load 17 false 1 (.tmp 16)),
 .op 4 (.len 18 false (.tmp 17)),
 .op 5 (.bin 19 .lss .plain (.tmp 18) (.const (.int .i64 6))),
 .op 6 (.mov 20 (.tmp 19)),
 .guard 20 true [.op 7 (.mov 21 (.tmp 3)),
 .op 8 (.nilchk 22 (.tmp 21)),
 .op 9 (.faddr 23 0 (.tmp 22)),
 .op 10 (.load 24 false 1 (.tmp 23)),
 .op 11 (.mov 25 (.tmp 5)),
 .op 12 (.call 26 68 [.tmp 24, .tmp 25]),
 .op 13 (.un 27 .not (.tmp 26))] [] [27],
 .op 14 (.pick 28 (.tmp 20) (.tmp 27) (.const (.bool false)))] [])
 (.join [(.normal, ⟨[3, 8, 9, 10], []⟩)] (.cond (.tmp 28)
 (.region [.op 0 (.mov 29 (.tmp 3)),
 .op 1 (.mov 30 (.tmp 3)),
 .op 2 (.nilchk 31 (.tmp 30)),
 .op 3 (.faddr 32 0 (.tmp 31)),
 .op 4 (.load 33 false 1 (.tmp 32)),
 .op 5 (.mov 34 (.tmp 5)),
 .op 6 (.buildSl 35 [.int .i64 0] 1 1 [(0, .tmp 34)]),
 .op 7 (.append 36 1 8 [.int .i64 0] false (.tmp 33) (.tmp 35)),
 .op 8 (.nilchk 37 (.tmp 29)),
 .op 9 (.faddr 38 0 (.tmp 37)),
 .op 10 (.store false 1 (.tmp 38) (.tmp 36))] [])
 .skip)))))
 (.region [.op 0 (.bin 39 .add .plain (.tmp 10) (.const (.int .i64 1))),
 .op 1 (.mov 10 (.tmp 39))] [])))))))
 (.seq (.region [.op 0 (.mov 40 (.tmp 3)),
 .op 1 (.mov 41 (.tmp 3)),
 .op 2 (.nilchk 42 (.tmp 41)),
 .op 3 (.faddr 43 0 (.tmp 42)),
 .op 4 (.load 44 false 1 (.tmp 43)),
 .op 5 (.len 45 false (.tmp 44)),
 .op 6 (.mkSlice 46 1 24 [.nilSlice] (.tmp 45) (.tmp 45)),
 .op 7 (.nilchk 47 (.tmp 40)),
 .op 8 (.faddr 48 1 (.tmp 47)),
 .op 9 (.store false 1 (.tmp 48) (.tmp 46))] [])
 (.seq (.region [.op 0 (.mov 49 (.tmp 3)),
 .op 1 (.mov 2 (.tmp 49))] [])
 .ret))))),
 [.tmp 2]⟩
theorem ok46 : funcOk Tryz.prog (drawOk Tryz.prog) Tryz.f46 A46 = true := by kernel_rfl
noncomputable def L46_0 (call : TCall) (xs : List AVal) (h : TH) : KJ :=
 U4 (fun g4 g5 g6 g7 =>
 V (kLss g7 g6) fun v8 =>
 C v8
 (V (kIaddr 1 g5 g7) fun v9 =>
 V (kLd1 h v9) fun v10 =>
 V (kNil g4) fun v11 =>
 V (kFaddr 0 v11) fun v12 =>
 V (kLd1 h v12) fun v13 =>
 V (kLen false v13) fun v14 =>
 V (kLss v14 (.int .i64 6)) fun v15 =>
 Jn (G v15 true
 (V (kNil g4) fun v16 =>
 V (kFaddr 0 v16) fun v17 =>
 V (kLd1 h v17) fun v18 =>
 R (call 68 [v18, v10] h) fun v19 h20 =>
 V (kNot v19) fun v21 =>
 .out 0 [v21] h20)
 (.out 0 [skipV] h)) fun _ x23 h22 =>
 U1 (fun g24 =>
 V (kPick v15 g24 (.bool false)) fun v25 =>
 Jn (C v25
 (V (kNil g4) fun v26 =>
 V (kFaddr 0 v26) fun v27 =>
 V (kLd1 h22 v27) fun v28 =>
 V (aFill (reps [.int .i64 0] 1) [(0, 1, v10)]) fun c29 =>
 R (kAppend 1 8 [.int .i64 0] false v28 (.slice h22.next 0 1 1 1 true) (h22.alloc c29)) fun v30 h31 =>
 V (kNil g4) fun v32 =>
 V (kFaddr 0 v32) fun v33 =>
 V (kSt h31 1 v33 v30) fun h34 =>
 .out 0 [g4, g5, g6, g7] h34)
 (.out 0 [g4, g5, g6, g7] h22)) fun i37 x36 h35 =>
 ifB (Nat.beq i37 0) (U4 (fun g38 g39 g40 g41 =>
 V (kAdd g41 (.int .i64 1)) fun v42 =>
 .out 0 [g38, g39, g40, v42] h35) x36) (
 .no)) x23)
 (.out 1 [g4] h)) xs
noncomputable def F46 (call : TCall) (args : List AVal) (h : TH) : KR := ans (U1 (fun a0 =>
 V (aFill [.nilSlice, .nilSlice, .int .i64 0] []) fun c1 =>
 V (kCellsQ (.agg c1)) fun c2 =>
 V (kLen false a0) fun v3 =>
 Jn (Lp (L46_0 call) [(.ptr h.next 0), a0, v3, (.int .i64 0)] (h.alloc c2)) fun i45 x44 h43 =>
 ifB (Nat.beq i45 1) (U1 (fun g46 =>
 V (kNil g46) fun v47 =>
 V (kFaddr 0 v47) fun v48 =>
 V (kLd1 h43 v48) fun v49 =>
 V (kLen false v49) fun v50 =>
 R (kMkSlice 1 24 [.nilSlice] v50 v50 h43) fun v51 h52 =>
 V (kNil g46) fun v53 =>
 V (kFaddr 1 v53) fun v54 =>
 V (kSt h52 1 v54 v51) fun h55 =>
 .out 0 [g46] h55) x44) (
 .no)) args)
theorem st46 (call : TCall) (args : List AVal) (h : TH) : kFunc call A46 args h = F46 call args h := by kernel_rfl
noncomputable def A47 : AFunc := ⟨1, (.seq (.region [.op 0 (.mov 2 (.const (.nilSlice)))] [])
 (.seq (.region [.op 0 (.mov 3 (.tmp 0)),
 .op 1 (.nilchk 4 (.tmp 3)),
 .op 2 (.faddr 5 0 (.tmp 4)),
 .op 3 (.load 6 false 1 (.tmp 5)),
 .op 4 (.call 7 69 [.tmp 6]),
 .op 5 (.mov 2 (.tmp 7))] [])
 .ret)),
 [.tmp 2]⟩
theorem ok47 : funcOk Tryz.prog (drawOk Tryz.prog) Tryz.f47 A47 = true := by kernel_rfl
noncomputable def F47 (call : TCall) (args : List AVal) (h : TH) : KR := ans (U1 (fun a0 =>
 V (kNil a0) fun v1 =>
 V (kFaddr 0 v1) fun v2 =>
 V (kLd1 h v2) fun v3 =>
 R (call 69 [v3] h) fun v4 h5 =>
 .out 0 [v4] h5) args)
theorem st47 (call : TCall) (args : List AVal) (h : TH) : kFunc call A47 args h = F47 call args h := by kernel_rfl
noncomputable def A50 : AFunc := ⟨1, (.seq (.region [.op 0 (.box 1 true (.tmp 0)),
 .op 1 (.mov 2 (.const (.nilIface)))] [])
 (.seq (.block 0 (.seq (.region [.op 0 (.faddr 5 0 (.tmp 1)),
 .op 1 (.load 6 false 1 (.tmp 5)),
 .op 2 (.bin 7 .lss .plain (.tmp 6) (.const (.int .i64 1))),
 .op 3 (.mov 8 (.tmp 7)),
 .guard 8 false [.op 4 (.faddr 9 0 (.tmp 1)),
 .op 5 (.load 10 false 1 (.tmp 9)),
 .op 6 (.bin 11 .gtr .plain (.tmp 10) (.const (.int .i64 5)))] [] [11],
 .op 7 (.pick 12 (.tmp 8) (.const (.bool true)) (.tmp 11)),
 .op 8 (.mov 4 (.tmp 12))] [])
 (.cond (.tmp 4)
 (.seq (.region [.op 0 (.call 13 72 [.const (.str [107, 105, 110, 100]), .const (.int .i64 12)]),
 .op 1 (.mov 2 (.tmp 13))] [])
 .ret)
 (.seq (.region [.op 0 (.load 15 true 13 (.tmp 1)),
 .op 1 (.call 16 73 [.tmp 15]),
 .op 2 (.un 17 .not (.tmp 16)),
 .op 3 (.mov 14 (.tmp 17))] [])
 (.cond (.tmp 14)
 (.seq (.region [.op 0 (.call 18 72 [.const (.str [122, 101, 114, 111]), .const (.int .i64 12)]),
 .op 1 (.mov 2 (.tmp 18))] [])
 .ret)
 (.seq (.region [.op 0 (.load 20 true 13 (.tmp 1)),
 .op 1 (.call 21 74 [.tmp 20]),
 .op 2 (.un 22 .not (.tmp 21)),
 .op 3 (.mov 19 (.tmp 22))] [])
 (.cond (.tmp 19)
 (.seq (.region [.op 0 (.call 23 72 [.const (.str [111, 112]), .const (.int .i64 12)]),
 .op 1 (.mov 2 (.tmp 23))] [])
 .ret)
 (.seq (.region [.op 0 (.faddr 25 3 (.tmp 1)),
 .op 1 (.load 26 false 1 (.tmp 25)),
 .op 2 (.call 27 75 [.tmp 26]),
 .op 3 (.un 28 .not (.tmp 27)),
 .op 4 (.mov 29 (.tmp 28)),
 .guard 29 false [.op 5 (.faddr 30 2 (.tmp 1)),
 .op 6 (.load 31 false 1 (.tmp 30)),
 .op 7 (.call 32 75 [.tmp 31]),
 .op 8 (.un 33 .not (.tmp 32))] [] [33],
 .op 9 (.pick 34 (.tmp 29) (.const (.bool true)) (.tmp 33)),
 .op 10 (.mov 35 (.tmp 34)),
 .guard 35 false [.op 11 (.faddr 36 6 (.tmp 1)),
 .op 12 (.load 37 false 1 (.tmp 36)),
 .op 13 (.bin 38 .lss .plain (.tmp 37) (.const (.int .i64 (-1))))] [] [38],
 .op 14 (.pick 39 (.tmp 35) (.const (.bool true)) (.tmp 38)),
 .op 15 (.mov 24 (.tmp 39))] [])
 (.cond (.tmp 24)
 (.seq (.region [.op 0 (.call 40 72 [.const (.str [110, 117, 109, 98, 101, 114]), .const (.int .i64 1)]),
 .op 1 (.mov 2 (.tmp 40))] [])
 .ret)
 (.seq (.region [.op 0 (.faddr 42 11 (.tmp 1)),
 .op 1 (.load 43 false 1 (.tmp 42)),
 .op 2 (.len 44 false (.tmp 43)),
 .op 3 (.bin 45 .gtr .plain (.tmp 44) (.const (.int .i64 64))),
 .op 4 (.mov 46 (.tmp 45)),
 .guard 46 false [.op 5 (.faddr 47 12 (.tmp 1)),
 .op 6 (.load 48 false 1 (.tmp 47)),
 .op 7 (.len 49 false (.tmp 48)),
 .op 8 (.bin 50 .gtr .plain (.tmp 49) (.const (.int .i64 64)))] [] [50],
 .op 9 (.pick 51 (.tmp 46) (.const (.bool true)) (.tmp 50)),
 .op 10 (.mov 41 (.tmp 51))] [])
 (.cond (.tmp 41)
 (.seq (.region [.op 0 (.call 52 72 [.const (.str [99, 97, 114, 100, 115]), .const (.int .i64 3)]),
 .op 1 (.mov 2 (.tmp 52))] [])
 .ret)
 .skip)))))))))))
 (.seq (.region [.op 0 (.faddr 53 11 (.tmp 1)),
 .op 1 (.load 54 false 1 (.tmp 53)),
 .op 2 (.call 55 76 [.tmp 54, .const (.func 77 [])]),
 .op 3 (.mov 3 (.tmp 55))] [])
 (.seq (.seq (.region [.op 0 (.mov 56 (.tmp 3)),
 .op 1 (.mov 57 (.tmp 56)),
 .guard 57 false [.op 2 (.faddr 58 12 (.tmp 1)),
 .op 3 (.load 59 false 1 (.tmp 58)),
 .op 4 (.call 60 79 [.tmp 59, .const (.func 80 [])])] [] [60],
 .op 5 (.pick 61 (.tmp 57) (.const (.bool true)) (.tmp 60))] [])
 (.cond (.tmp 61)
 (.seq (.region [.op 0 (.call 62 72 [.const (.str [99, 97, 114, 100]), .const (.int .i64 1)]),
 .op 1 (.mov 2 (.tmp 62))] [])
 .ret)
 .skip))
 (.seq (.region [.op 0 (.mov 2 (.const (.nilIface)))] [])
 .ret))))),
 [.tmp 2]⟩
theorem ok50 : funcOk Tryz.prog (drawOk Tryz.prog) Tryz.f50 A50 = true := by kernel_rfl
noncomputable def F50 (call : TCall) (args : List AVal) (h : TH) : KR := ans (U1 (fun a0 =>
 V (kCellsQ a0) fun c1 =>
 V (kLdL c1 false 0 1) fun v2 =>
 V (kLss v2 (.int .i64 1)) fun v3 =>
 Jn (G v3 false
 (V (kLdL c1 false 0 1) fun v4 =>
 V (kGtr v4 (.int .i64 5)) fun v5 =>
 .out 0 [v5] h)
 (.out 0 [skipV] h)) fun _ x7 h6 =>
 U1 (fun g8 =>
 V (kPick v3 (.bool true) g8) fun v9 =>
 C v9
 (R (call 72 [(.str [107, 105, 110, 100]), (.int .i64 12)] h6) fun v10 h11 =>
 .out 0 [v10] h11)
 (V (kLdL c1 true 0 13) fun v12 =>
 R (call 73 [v12] h6) fun v13 h14 =>
 V (kNot v13) fun v15 =>
 C v15
 (R (call 72 [(.str [122, 101, 114, 111]), (.int .i64 12)] h14) fun v16 h17 =>
 .out 0 [v16] h17)
 (V (kLdL c1 true 0 13) fun v18 =>
 R (call 74 [v18] h14) fun v19 h20 =>
 V (kNot v19) fun v21 =>
 C v21
 (R (call 72 [(.str [111, 112]), (.int .i64 12)] h20) fun v22 h23 =>
 .out 0 [v22] h23)
 (V (kLdL c1 false 3 1) fun v24 =>
 R (call 75 [v24] h20) fun v25 h26 =>
 V (kNot v25) fun v27 =>
 Jn (G v27 false
 (V (kLdL c1 false 2 1) fun v28 =>
 R (call 75 [v28] h26) fun v29 h30 =>
 V (kNot v29) fun v31 =>
 .out 0 [v31] h30)
 (.out 0 [skipV] h26)) fun _ x33 h32 =>
 U1 (fun g34 =>
 V (kPick v27 (.bool true) g34) fun v35 =>
 Jn (G v35 false
 (V (kLdL c1 false 6 1) fun v36 =>
 V (kLss v36 (.int .i64 (-1))) fun v37 =>
 .out 0 [v37] h32)
 (.out 0 [skipV] h32)) fun _ x39 h38 =>
 U1 (fun g40 =>
 V (kPick v35 (.bool true) g40) fun v41 =>
 C v41
 (R (call 72 [(.str [110, 117, 109, 98, 101, 114]), (.int .i64 1)] h38) fun v42 h43 =>
 .out 0 [v42] h43)
 (V (kLdL c1 false 11 1) fun v44 =>
 V (kLen false v44) fun v45 =>
 V (kGtr v45 (.int .i64 64)) fun v46 =>
 Jn (G v46 false
 (V (kLdL c1 false 12 1) fun v47 =>
 V (kLen false v47) fun v48 =>
 V (kGtr v48 (.int .i64 64)) fun v49 =>
 .out 0 [v49] h38)
 (.out 0 [skipV] h38)) fun _ x51 h50 =>
 U1 (fun g52 =>
 V (kPick v46 (.bool true) g52) fun v53 =>
 C v53
 (R (call 72 [(.str [99, 97, 114, 100, 115]), (.int .i64 3)] h50) fun v54 h55 =>
 .out 0 [v54] h55)
 (V (kLdL c1 false 11 1) fun v56 =>
 R (call 76 [v56, (.func 77 [])] h50) fun v57 h58 =>
 Jn (G v57 false
 (V (kLdL c1 false 12 1) fun v59 =>
 R (call 79 [v59, (.func 80 [])] h58) fun v60 h61 =>
 .out 0 [v60] h61)
 (.out 0 [skipV] h58)) fun _ x63 h62 =>
 U1 (fun g64 =>
 V (kPick v57 (.bool true) g64) fun v65 =>
 C v65
 (R (call 72 [(.str [99, 97, 114, 100]), (.int .i64 1)] h62) fun v66 h67 =>
 .out 0 [v66] h67)
 (.out 0 [(.nilIface)] h62)) x63)) x51)) x39) x33)))) x7) args)
theorem st50 (call : TCall) (args : List AVal) (h : TH) : kFunc call A50 args h = F50 call args h := by kernel_rfl
noncomputable def A51 : AFunc := ⟨3, (.seq (.region [.op 0 (.box 4 true (.tmp 1)),
 .op 1 (.alloc 6 true [.int .i64 0, .int .i64 0, .int .i64 0, .int .i64 0, .int .i64 0, .int .i64 0, .int .i64 0, .str [], .str [], .bool false, .int .u32 0, .nilSlice, .nilSlice]),
 .op 2 (.mov 7 (.const (.nilSlice)))] [])
 (.seq (.region [.op 0 (.mov 11 (.tmp 2)),
 .op 1 (.call 12 64 [.tmp 11]),
 .op 2 (.mov 2 (.tmp 12))] [])
 (.seq (.region [.op 0 (.faddr 13 1 (.tmp 4)),
 .op 1 (.load 14 false 1 (.tmp 13)),
 .op 2 (.faddr 15 4 (.tmp 4)),
 .op 3 (.load 16 false 1 (.tmp 15)),
 .op 4 (.faddr 17 7 (.tmp 4)),
 .op 5 (.load 18 true 2 (.tmp 17)),
 .op 6 (.build 19 [.int .i64 0, .int .i64 0, .int .i64 0, .int .i64 0, .int .i64 0, .int .i64 0, .int .i64 0, .str [], .str [], .bool false, .int .u32 0, .nilSlice, .nilSlice] [(0, 1, .const (.int .i64 2)), (1, 1, .tmp 14), (4, 1, .tmp 16), (7, 2, .tmp 18)]),
 .op 7 (.alloc 8 true [.int .i64 0, .int .i64 0, .int .i64 0, .int .i64 0, .int .i64 0, .int .i64 0, .int .i64 0, .str [], .str [], .bool false, .int .u32 0, .nilSlice, .nilSlice]),
 .op 8 (.store true 13 (.tmp 8) (.tmp 19))] [])
 (.seq (.seq (.region [.op 0 (.faddr 20 0 (.tmp 4)),
 .op 1 (.load 21 false 1 (.tmp 20)),
 .op 2 (.bin 22 .neq .plain (.tmp 21) (.const (.int .i64 1))),
 .op 3 (.mov 23 (.tmp 22)),
 .guard 23 false [.op 4 (.load 24 true 13 (.tmp 4)),
 .op 5 (.call 25 50 [.tmp 24]),
 .op 6 (.bin 26 .neq (.iface true []) (.tmp 25) (.const (.nilIface)))] [] [26],
 .op 7 (.pick 27 (.tmp 23) (.const (.bool true)) (.tmp 26))] [])
 (.cond (.tmp 27)
 (.seq (.region [.op 0 (.faddr 28 3 (.tmp 8)),
 .op 1 (.store false 1 (.tmp 28) (.const (.int .i64 1)))] [])
 (.seq (.region [.op 0 (.load 29 true 13 (.tmp 8)),
 .op 1 (.store true 13 (.tmp 6) (.tmp 29)),
 .op 2 (.mov 7 (.const (.nilSlice)))] [])
 .ret))
 .skip))
 (.seq (.seq (.region [.op 0 (.faddr 30 1 (.tmp 4)),
 .op 1 (.load 31 false 1 (.tmp 30)),
 .op 2 (.bin 32 .eql .plain (.tmp 31) (.const (.int .i64 5)))] [])
 (.cond (.tmp 32)
 (.seq (.region [.op 0 (.mov 33 (.tmp 0)),
 .op 1 (.load 34 true 13 (.tmp 4)),
 .op 2 (.call 35 82 [.tmp 33, .tmp 34]),
 .op 3 (.store true 13 (.tmp 6) (.tmp 35)),
 .op 4 (.mov 7 (.const (.nilSlice)))] [])
 .ret)
 .skip))
 (.seq (.region [.op 0 (.mov 37 (.tmp 0)),
 .op 1 (.load 38 true 13 (.tmp 4)),
 .op 2 (.mov 39 (.tmp 2)),
 .op 3 (.call 40 83 [.tmp 37, .tmp 38, .tmp 39]),
 .op 4 (.mov 36 (.tmp 40)),
 .op 5 (.extract 41 (.tmp 36) 0),
 .op 6 (.extract 42 (.tmp 36) 1),
 .op 7 (.mov 9 (.tmp 41)),
 .op 8 (.mov 10 (.tmp 42))] [])
 (.seq (.region [.op 0 (.mov 43 (.tmp 10)),
 .op 1 (.faddr 44 3 (.tmp 8)),
 .op 2 (.store false 1 (.tmp 44) (.tmp 43))] [])
 (.seq (.region [.op 0 (.load 45 true 13 (.tmp 8)),
 .op 1 (.mov 46 (.tmp 9)),
 .op 2 (.store true 13 (.tmp 6) (.tmp 45)),
 .op 3 (.mov 7 (.tmp 46))] [])
 .ret)))))))),
 [.cell 6 true 13, .tmp 7]⟩
theorem ok51 : funcOk Tryz.prog (drawOk Tryz.prog) Tryz.f51 A51 = true := by kernel_rfl
noncomputable def F51 (call : TCall) (args : List AVal) (h : TH) : KR := ans (U3 (fun a0 a1 a2 =>
 V (kCellsQ a1) fun c1 =>
 R (call 64 [a2] h) fun v2 h3 =>
 V (kLdL c1 false 1 1) fun v4 =>
 V (kLdL c1 false 4 1) fun v5 =>
 V (kLdL c1 true 7 2) fun v6 =>
 V (aFill [.int .i64 0, .int .i64 0, .int .i64 0, .int .i64 0, .int .i64 0, .int .i64 0, .int .i64 0, .str [], .str [], .bool false, .int .u32 0, .nilSlice, .nilSlice] [(0, 1, (.int .i64 2)), (1, 1, v4), (4, 1, v5), (7, 2, v6)]) fun c7 =>
 V (kStL [.int .i64 0, .int .i64 0, .int .i64 0, .int .i64 0, .int .i64 0, .int .i64 0, .int .i64 0, .str [], .str [], .bool false, .int .u32 0, .nilSlice, .nilSlice] 0 13 (.agg c7)) fun c8 =>
 V (kLdL c1 false 0 1) fun v9 =>
 V (kNeq v9 (.int .i64 1)) fun v10 =>
 Jn (G v10 false
 (V (kLdL c1 true 0 13) fun v11 =>
 R (call 50 [v11] h3) fun v12 h13 =>
 V (kNe (.iface true []) v12 (.nilIface)) fun v14 =>
 .out 0 [v14] h13)
 (.out 0 [skipV] h3)) fun _ x16 h15 =>
 U1 (fun g17 =>
 V (kPick v10 (.bool true) g17) fun v18 =>
 C v18
 (V (kStL c8 3 1 (.int .i64 1)) fun c19 =>
 V (kLdL c19 true 0 13) fun v20 =>
 V (kStL [.int .i64 0, .int .i64 0, .int .i64 0, .int .i64 0, .int .i64 0, .int .i64 0, .int .i64 0, .str [], .str [], .bool false, .int .u32 0, .nilSlice, .nilSlice] 0 13 v20) fun c21 =>
 V (kLdL c21 true 0 13) fun v22 =>
 .out 0 [.tuple [v22, (.nilSlice)]] h15)
 (V (kLdL c1 false 1 1) fun v23 =>
 V (kEql v23 (.int .i64 5)) fun v24 =>
 C v24
 (V (kLdL c1 true 0 13) fun v25 =>
 R (call 82 [a0, v25] h15) fun v26 h27 =>
 V (kStL [.int .i64 0, .int .i64 0, .int .i64 0, .int .i64 0, .int .i64 0, .int .i64 0, .int .i64 0, .str [], .str [], .bool false, .int .u32 0, .nilSlice, .nilSlice] 0 13 v26) fun c28 =>
 V (kLdL c28 true 0 13) fun v29 =>
 .out 0 [.tuple [v29, (.nilSlice)]] h27)
 (V (kLdL c1 true 0 13) fun v30 =>
 R (call 83 [a0, v30, v2] h15) fun v31 h32 =>
 V (kExtract 0 v31) fun v33 =>
 V (kExtract 1 v31) fun v34 =>
 V (kStL c8 3 1 v34) fun c35 =>
 V (kLdL c35 true 0 13) fun v36 =>
 V (kStL [.int .i64 0, .int .i64 0, .int .i64 0, .int .i64 0, .int .i64 0, .int .i64 0, .int .i64 0, .str [], .str [], .bool false, .int .u32 0, .nilSlice, .nilSlice] 0 13 v36) fun c37 =>
 V (kLdL c37 true 0 13) fun v38 =>
 .out 0 [.tuple [v38, v33]] h32))) x16) args)
theorem st51 (call : TCall) (args : List AVal) (h : TH) : kFunc call A51 args h = F51 call args h := by kernel_rfl
noncomputable def A52 : AFunc := ⟨2, (.seq (.region [.op 0 (.mov 7 (.tmp 1)),
 .op 1 (.len 8 false (.tmp 7)),
 .op 2 (.mov 9 (.const (.int .i64 0)))] [])
 (.block 0 (.loop ⟨[0, 7, 8, 9], []⟩ [((.exit 0), ⟨[], []⟩)]
 (.seq (.region [.op 0 (.bin 10 .lss .plain (.tmp 9) (.tmp 8))] [])
 (.seq (.cond (.tmp 10)
 .skip
 (.exit 0))
 (.seq (.block 1 (.seq (.region [.op 0 (.iaddr 11 none 9 (.tmp 7) (.tmp 9)),
 .op 1 (.load 12 true 9 (.tmp 11)),
 .op 2 (.alloc 5 true [.str [], .str [], .int .i64 0, .int .i64 0, .int .i64 0, .int .i64 0, .int .i64 0, .int .i64 0, .bool false]),
 .op 3 (.store true 9 (.tmp 5) (.tmp 12))] [])
 (.seq (.region [.op 0 (.mov 13 (.tmp 0)),
 .op 1 (.nilchk 14 (.tmp 13)),
 .op 2 (.faddr 15 1 (.tmp 14)),
 .op 3 (.load 16 false 1 (.tmp 15)),
 .op 4 (.len 17 false (.tmp 16)),
 .op 5 (.mov 18 (.const (.int .i64 0)))] [])
 (.block 2 (.loop ⟨[0, 7, 8, 9, 17, 18], [5]⟩ [((.exit 2), ⟨[0, 7, 8, 9], []⟩)]
 (.seq (.region [.op 0 (.bin 19 .lss .plain (.tmp 18) (.tmp 17))] [])
 (.seq (.cond (.tmp 19)
 .skip
 (.exit 2))
 (.seq (.block 3 (.seq (.region [.op 0 (.mov 20 (.tmp 18)),
 .op 1 (.mov 6 (.tmp 20))] [])
 (.region [.op 0 (.mov 21 (.tmp 0)),
 .op 1 (.mov 22 (.tmp 6)),
 .op 2 (.load 23 true 9 (.tmp 5)),
 .op 3 (.call 24 84 [.tmp 21, .tmp 22, .tmp 23])] [])))
 (.region [.op 0 (.bin 25 .add .plain (.tmp 18) (.const (.int .i64 1))),
 .op 1 (.mov 18 (.tmp 25))] [])))))))))
 (.region [.op 0 (.bin 26 .add .plain (.tmp 9) (.const (.int .i64 1))),
 .op 1 (.mov 9 (.tmp 26))] []))))))),
 []⟩
theorem ok52 : funcOk Tryz.prog (drawOk Tryz.prog) Tryz.f52 A52 = true := by kernel_rfl
noncomputable def L52_1 (call : TCall) (xs : List AVal) (h : TH) : KJ :=
 U7 (fun g14 g15 g16 g17 g18 g19 g20 =>
 V (kLss g19 g18) fun v21 =>
 C v21
 (V (kLdL (kAggCells g20) true 0 9) fun v22 =>
 R (call 84 [g14, g19, v22] h) fun v23 h24 =>
 V (kAdd g19 (.int .i64 1)) fun v25 =>
 .out 0 [g14, g15, g16, g17, g18, v25, (.agg (kAggCells g20))] h24)
 (.out 1 [g14, g15, g16, g17] h)) xs
noncomputable def L52_0 (call : TCall) (xs : List AVal) (h : TH) : KJ :=
 U4 (fun g2 g3 g4 g5 =>
 V (kLss g5 g4) fun v6 =>
 C v6
 (V (kIaddr 9 g3 g5) fun v7 =>
 V (kLdA h 9 v7) fun v8 =>
 V (kStL [.str [], .str [], .int .i64 0, .int .i64 0, .int .i64 0, .int .i64 0, .int .i64 0, .int .i64 0, .bool false] 0 9 v8) fun c9 =>
 V (kNil g2) fun v10 =>
 V (kFaddr 1 v10) fun v11 =>
 V (kLd1 h v11) fun v12 =>
 V (kLen false v12) fun v13 =>
 Jn (Lp (L52_1 call) [g2, g3, g4, g5, v13, (.int .i64 0), (.agg c9)] h) fun i28 x27 h26 =>
 ifB (Nat.beq i28 1) (U4 (fun g29 g30 g31 g32 =>
 V (kAdd g32 (.int .i64 1)) fun v33 =>
 .out 0 [g29, g30, g31, v33] h26) x27) (
 .no))
 (.out 1 [] h)) xs
noncomputable def F52 (call : TCall) (args : List AVal) (h : TH) : KR := ans (U2 (fun a0 a1 =>
 V (kLen false a1) fun v1 =>
 Jn (Lp (L52_0 call) [a0, a1, v1, (.int .i64 0)] h) fun i36 x35 h34 =>
 ifB (Nat.beq i36 1) (U0 (.out 0 [.tuple []] h34) x35) (
 .no)) args)
theorem st52 (call : TCall) (args : List AVal) (h : TH) : kFunc call A52 args h = F52 call args h := by kernel_rfl
noncomputable def A53 : AFunc := ⟨3, (.seq (.region [.op 0 (.mov 6 (.const (.nilSlice))),
 .op 1 (.mov 7 (.const (.int .i64 0)))] [])
 (.seq (.seq (.region [.op 0 (.mov 14 (.tmp 0)),
 .op 1 (.bin 15 .eql .ptr (.tmp 14) (.const (.nilPtr)))] [])
 (.cond (.tmp 15)
 (.seq (.region [.op 0 (.mov 6 (.const (.nilSlice))),
 .op 1 (.mov 7 (.const (.int .i64 0)))] [])
 .ret)
 .skip))
 (.seq (.region [.op 0 (.mov 16 (.tmp 2)),
 .op 1 (.minmax 17 false [.tmp 16, .const (.int .i64 1099511627776)]),
 .op 2 (.minmax 18 true [.const (.int .i64 0), .tmp 17]),
 .op 3 (.mov 2 (.tmp 18))] [])
 (.seq (.region [.op 0 (.mov 8 (.const (.nilSlice)))] [])
 (.seq (.region [.op 0 (.mov 9 (.const (.int .i64 0)))] [])
 (.seq (.seq (.region [.op 0 (.mov 19 (.tmp 1)),
 .op 1 (.len 20 false (.tmp 19)),
 .op 2 (.mov 21 (.const (.int .i64 0)))] [])
 (.block 0 (.loop ⟨[0, 2, 8, 9, 19, 20, 21], []⟩ [((.exit 0), ⟨[8, 9], []⟩)]
 (.seq (.region [.op 0 (.bin 22 .lss .plain (.tmp 21) (.tmp 20))] [])
 (.seq (.cond (.tmp 22)
 .skip
 (.exit 0))
 (.seq (.join [(.normal, ⟨[0, 2, 8, 9, 19, 20, 21], []⟩)] (.block 1 (.seq (.region [.op 0 (.iaddr 23 none 9 (.tmp 19) (.tmp 21)),
 .op 1 (.load 24 true 9 (.tmp 23)),
 .op 2 (.alloc 11 true [.str [], .str [], .int .i64 0, .int .i64 0, .int .i64 0, .int .i64 0, .int .i64 0, .int .i64 0, .bool false]),
 .op 3 (.store true 9 (.tmp 11) (.tmp 24))] [])
 (.seq (.seq (.region [.op 0 (.load 25 true 9 (.tmp 11)),
 .op 1 (.call 26 78 [.tmp 25]),
 .op 2 (.un 27 .not (.tmp 26))] [])
 (.cond (.tmp 27)
 (.exit 1)
 .skip))
 (.seq (.regionF 1 [.op 0 (.mov 29 (.tmp 0)),
 .op 1 (.call 30 28 [.tmp 29]),
 .op 2 (.faddr 31 0 (.tmp 11)),
 .op 3 (.load 32 true 2 (.tmp 31)),
 .op 4 (.call 33 85 [.tmp 30, .tmp 32]),
 .op 5 (.mov 28 (.tmp 33)),
 .op 6 (.extract 34 (.tmp 28) 0),
 .op 7 (.extract 35 (.tmp 28) 1),
 .op 8 (.fl 12 0 none [.str [], .str [], .int .i64 0, .int .i64 0, .int .i64 0, .int .i64 0, .int .i64 0, .int .i64 0, .bool false, .int .i64 0] []),
 .op 9 (.store true 10 (.tmp 12) (.tmp 34)),
 .op 10 (.mov 13 (.tmp 35))] [(3, 1)])
 (.block 2 (.seq (.region [.op 0 (.mov 37 (.tmp 13)),
 .op 1 (.un 38 .not (.tmp 37)),
 .op 2 (.mov 39 (.tmp 38)),
 .guard 39 false [.op 3 (.faddr 40 0 (.tmp 12)),
 .op 4 (.faddr 41 5 (.tmp 40)),
 .op 5 (.load 42 true 3 (.tmp 41)),
 .op 6 (.faddr 43 5 (.tmp 11)),
 .op 7 (.load 44 true 3 (.tmp 43)),
 .op 8 (.call 45 86 [.tmp 42, .tmp 44])] [] [45],
 .op 9 (.pick 46 (.tmp 39) (.const (.bool true)) (.tmp 45)),
 .op 10 (.mov 36 (.tmp 46))] [])
 (.join [((.exit 1), ⟨[0, 2, 8, 9, 19, 20, 21], []⟩), (.normal, ⟨[0, 2, 8, 9, 19, 20, 21], []⟩)] (.cond (.tmp 36)
 (.seq (.seq (.region [.op 0 (.mov 47 (.tmp 0)),
 .op 1 (.load 48 true 9 (.tmp 11)),
 .op 2 (.mov 49 (.tmp 2)),
 .op 3 (.build 50 [.str [], .str [], .int .i64 0, .int .i64 0, .int .i64 0, .int .i64 0, .int .i64 0, .int .i64 0, .bool false, .int .i64 0] [(0, 9, .tmp 48), (9, 1, .tmp 49)]),
 .op 4 (.call 51 87 [.tmp 47, .tmp 50]),
 .op 5 (.bin 52 .neq .plain (.tmp 51) (.const (.int .i64 0)))] [])
 (.cond (.tmp 52)
 (.seq (.region [.op 0 (.mov 53 (.tmp 9)),
 .op 1 (.bin 54 .add .plain (.tmp 53) (.const (.int .i64 1))),
 .op 2 (.mov 9 (.tmp 54))] [])
 (.exit 1))
 .skip))
 (.region [.op 0 (.mov 55 (.tmp 8)),
 .op 1 (.load 56 true 9 (.tmp 11)),
 .op 2 (.buildSl 57 [.str [], .str [], .int .i64 0, .int .i64 0, .int .i64 0, .int .i64 0, .int .i64 0, .int .i64 0, .bool false] 9 1 [(0, .tmp 56)]),
 .op 3 (.append 58 9 88 [.str [], .str [], .int .i64 0, .int .i64 0, .int .i64 0, .int .i64 0, .int .i64 0, .int .i64 0, .bool false] false (.tmp 55) (.tmp 57)),
 .op 4 (.mov 8 (.tmp 58))] []))
 (.seq (.region [.op 0 (.faddr 60 0 (.tmp 12)),
 .op 1 (.faddr 61 5 (.tmp 60)),
 .op 2 (.load 62 true 3 (.tmp 61)),
 .op 3 (.faddr 63 5 (.tmp 11)),
 .op 4 (.load 64 true 3 (.tmp 63)),
 .op 5 (.bin 65 .eql (.cells [1, 1, 1]) (.tmp 62) (.tmp 64)),
 .op 6 (.mov 66 (.tmp 65)),
 .guard 66 true [.op 7 (.faddr 67 0 (.tmp 12)),
 .op 8 (.faddr 68 8 (.tmp 67)),
 .op 9 (.load 69 false 1 (.tmp 68)),
 .op 10 (.un 70 .not (.tmp 69))] [] [70],
 .op 11 (.pick 71 (.tmp 66) (.tmp 70) (.const (.bool false))),
 .op 12 (.mov 59 (.tmp 71))] [])
 (.join [(.normal, ⟨[0, 2, 8, 9, 19, 20, 21], []⟩)] (.cond (.tmp 59)
 (.region [.op 0 (.mov 72 (.tmp 0)),
 .op 1 (.call 73 28 [.tmp 72]),
 .op 2 (.faddr 74 0 (.tmp 12)),
 .op 3 (.load 75 true 9 (.tmp 74)),
 .op 4 (.mov 76 (.tmp 2)),
 .op 5 (.build 77 [.str [], .str [], .int .i64 0, .int .i64 0, .int .i64 0, .int .i64 0, .int .i64 0, .int .i64 0, .bool false, .int .i64 0] [(0, 9, .tmp 75), (9, 1, .tmp 76)]),
 .op 6 (.call 78 88 [.tmp 73, .tmp 77])] [(3, 1)])
 .skip))))))))))))
 (.region [.op 0 (.bin 79 .add .plain (.tmp 21) (.const (.int .i64 1))),
 .op 1 (.mov 21 (.tmp 79))] [])))))))
 (.seq (.region [.op 0 (.mov 80 (.tmp 8)),
 .op 1 (.mov 81 (.tmp 9)),
 .op 2 (.mov 6 (.tmp 80)),
 .op 3 (.mov 7 (.tmp 81))] [])
 .ret))))))),
 [.tmp 6, .tmp 7]⟩
theorem ok53 : funcOk Tryz.prog (drawOk Tryz.prog) Tryz.f53 A53 = true := by kernel_rfl
noncomputable def L53_0 (call : TCall) (xs : List AVal) (h : TH) : KJ :=
 U7 (fun g5 g6 g7 g8 g9 g10 g11 =>
 V (kLss g11 g10) fun v12 =>
 C v12
 (Jn (V (kIaddr 9 g9 g11) fun v13 =>
 V (kLdA h 9 v13) fun v14 =>
 V (kStL [.str [], .str [], .int .i64 0, .int .i64 0, .int .i64 0, .int .i64 0, .int .i64 0, .int .i64 0, .bool false] 0 9 v14) fun c15 =>
 V (kLdL c15 true 0 9) fun v16 =>
 R (call 78 [v16] h) fun v17 h18 =>
 V (kNot v17) fun v19 =>
 C v19
 (.out 0 [g5, g6, g7, g8, g9, g10, g11] h18)
 (R (call 28 [g5] (h18.res 1)) fun v20 h21 =>
 V (kLdL c15 true 0 2) fun v22 =>
 R (call 85 [v20, v22] h21) fun v23 h24 =>
 V (kExtract 0 v23) fun v25 =>
 V (kExtract 1 v23) fun v26 =>
 V (kSt (h24.setBlk (h18.next + 0) (some ⟨[.str [], .str [], .int .i64 0, .int .i64 0, .int .i64 0, .int .i64 0, .int .i64 0, .int .i64 0, .bool false, .int .i64 0], true⟩)) 10 (.ptr (h18.next + 0) 0) v25) fun h27 =>
 ifB (kCheck [(3, some (.lrd 11 0 2)), (1, some (.ef [(11, c15)] (h18.res 1) [(11, c15)] h21))] [(3, 1)]) (V (kNot v26) fun v28 =>
 Jn (G v28 false
 (V (kFaddr 0 (.ptr (h18.next + 0) 0)) fun v29 =>
 V (kFaddr 5 v29) fun v30 =>
 V (kLdA h27 3 v30) fun v31 =>
 V (kLdL c15 true 5 3) fun v32 =>
 R (call 86 [v31, v32] h27) fun v33 h34 =>
 .out 0 [v33] h34)
 (.out 0 [skipV] h27)) fun _ x36 h35 =>
 U1 (fun g37 =>
 V (kPick v28 (.bool true) g37) fun v38 =>
 Jn (C v38
 (V (kLdL c15 true 0 9) fun v39 =>
 V (aFill [.str [], .str [], .int .i64 0, .int .i64 0, .int .i64 0, .int .i64 0, .int .i64 0, .int .i64 0, .bool false, .int .i64 0] [(0, 9, v39), (9, 1, g6)]) fun c40 =>
 R (call 87 [g5, (.agg c40)] h35) fun v41 h42 =>
 V (kNeq v41 (.int .i64 0)) fun v43 =>
 C v43
 (V (kAdd g8 (.int .i64 1)) fun v44 =>
 .out 0 [g5, g6, g7, v44, g9, g10, g11] h42)
 (V (kLdL c15 true 0 9) fun v45 =>
 V (aFill (reps [.str [], .str [], .int .i64 0, .int .i64 0, .int .i64 0, .int .i64 0, .int .i64 0, .int .i64 0, .bool false] 1) [(0, 9, v45)]) fun c46 =>
 R (kAppend 9 88 [.str [], .str [], .int .i64 0, .int .i64 0, .int .i64 0, .int .i64 0, .int .i64 0, .int .i64 0, .bool false] false g7 (.slice h42.next 0 1 1 9 true) (h42.alloc c46)) fun v47 h48 =>
 .out 1 [g5, g6, v47, g8, g9, g10, g11] h48))
 (V (kFaddr 0 (.ptr (h18.next + 0) 0)) fun v49 =>
 V (kFaddr 5 v49) fun v50 =>
 V (kLdA h35 3 v50) fun v51 =>
 V (kLdL c15 true 5 3) fun v52 =>
 V (kEq (.cells [1, 1, 1]) v51 v52) fun v53 =>
 Jn (G v53 true
 (V (kFaddr 0 (.ptr (h18.next + 0) 0)) fun v54 =>
 V (kFaddr 8 v54) fun v55 =>
 V (kLd1 h35 v55) fun v56 =>
 V (kNot v56) fun v57 =>
 .out 0 [v57] h35)
 (.out 0 [skipV] h35)) fun _ x59 h58 =>
 U1 (fun g60 =>
 V (kPick v53 g60 (.bool false)) fun v61 =>
 Jn (C v61
 (R (call 28 [g5] h58) fun v62 h63 =>
 V (kFaddr 0 (.ptr (h18.next + 0) 0)) fun v64 =>
 V (kLdA h63 9 v64) fun v65 =>
 V (aFill [.str [], .str [], .int .i64 0, .int .i64 0, .int .i64 0, .int .i64 0, .int .i64 0, .int .i64 0, .bool false, .int .i64 0] [(0, 9, v65), (9, 1, g6)]) fun c66 =>
 R (call 88 [v62, (.agg c66)] h63) fun v67 h68 =>
 ifB (kCheck [(3, kLogRd v64 9), (1, some (.ef [(11, c15)] h58 [(11, c15)] h63))] [(3, 1)]) (.out 0 [g5, g6, g7, g8, g9, g10, g11] h68) .no)
 (.out 0 [g5, g6, g7, g8, g9, g10, g11] h58)) fun i71 x70 h69 =>
 ifB (Nat.beq i71 0) (U7 (fun g72 g73 g74 g75 g76 g77 g78 =>
 .out 1 [g72, g73, g74, g75, g76, g77, g78] h69) x70) (
 .no)) x59)) fun i81 x80 h79 =>
 ifB (Nat.beq i81 0) (U7 (fun g82 g83 g84 g85 g86 g87 g88 =>
 .out 0 [g82, g83, g84, g85, g86, g87, g88] h79) x80) (
 ifB (Nat.beq i81 1) (U7 (fun g89 g90 g91 g92 g93 g94 g95 =>
 .out 0 [g89, g90, g91, g92, g93, g94, g95] h79) x80) (
 .no))) x36) .no)) fun i98 x97 h96 =>
 ifB (Nat.beq i98 0) (U7 (fun g99 g100 g101 g102 g103 g104 g105 =>
 V (kAdd g105 (.int .i64 1)) fun v106 =>
 .out 0 [g99, g100, g101, g102, g103, g104, v106] h96) x97) (
 .no))
 (.out 1 [g7, g8] h)) xs
noncomputable def F53 (call : TCall) (args : List AVal) (h : TH) : KR := ans (U3 (fun a0 a1 a2 =>
 V (kEq .ptr a0 (.nilPtr)) fun v1 =>
 C v1
 (.out 0 [.tuple [(.nilSlice), (.int .i64 0)]] h)
 (V (aMinMaxL false [a2, (.int .i64 1099511627776)]) fun v2 =>
 V (aMinMaxL true [(.int .i64 0), v2]) fun v3 =>
 V (kLen false a1) fun v4 =>
 Jn (Lp (L53_0 call) [a0, v3, (.nilSlice), (.int .i64 0), a1, v4, (.int .i64 0)] h) fun i109 x108 h107 =>
 ifB (Nat.beq i109 1) (U2 (fun g110 g111 =>
 .out 0 [.tuple [g110, g111]] h107) x108) (
 .no))) args)
theorem st53 (call : TCall) (args : List AVal) (h : TH) : kFunc call A53 args h = F53 call args h := by kernel_rfl
noncomputable def A55 : AFunc := ⟨2, (.seq (.region [.op 0 (.mov 4 (.const (.nilSlice)))] [])
 (.seq (.seq (.region [.op 0 (.mov 5 (.tmp 1)),
 .op 1 (.len 6 false (.tmp 5)),
 .op 2 (.bin 7 .eql .plain (.tmp 6) (.const (.int .i64 0)))] [])
 (.cond (.tmp 7)
 (.seq (.region [.op 0 (.mov 4 (.const (.nilSlice)))] [])
 .ret)
 .skip))
 (.seq (.region [.op 0 (.mov 8 (.tmp 0)),
 .op 1 (.mov 9 (.tmp 1)),
 .op 2 (.build 10 [.int .i64 0, .int .i64 0, .int .i64 0, .int .i64 0, .int .i64 0, .int .i64 0, .int .i64 0, .str [], .str [], .bool false, .int .u32 0, .nilSlice, .nilSlice] [(0, 1, .const (.int .i64 3)), (11, 1, .tmp 9)]),
 .op 3 (.build 11 [.int .i64 0, .int .i64 0, .int .i64 0, .int .i64 0, .int .i64 0, .int .i64 0, .int .i64 0, .int .i64 0, .str [], .str [], .bool false, .int .u32 0, .nilSlice, .nilSlice] [(0, 1, .tmp 8), (1, 13, .tmp 10)]),
 .op 4 (.buildSl 12 [.int .i64 0, .int .i64 0, .int .i64 0, .int .i64 0, .int .i64 0, .int .i64 0, .int .i64 0, .int .i64 0, .str [], .str [], .bool false, .int .u32 0, .nilSlice, .nilSlice] 14 1 [(0, .tmp 11)]),
 .op 5 (.mov 4 (.tmp 12))] [])
 .ret))),
 [.tmp 4]⟩
theorem ok55 : funcOk Tryz.prog (drawOk Tryz.prog) Tryz.f55 A55 = true := by kernel_rfl
noncomputable def F55 (call : TCall) (args : List AVal) (h : TH) : KR := ans (U2 (fun a0 a1 =>
 V (kLen false a1) fun v1 =>
 V (kEql v1 (.int .i64 0)) fun v2 =>
 C v2
 (.out 0 [(.nilSlice)] h)
 (V (aFill [.int .i64 0, .int .i64 0, .int .i64 0, .int .i64 0, .int .i64 0, .int .i64 0, .int .i64 0, .str [], .str [], .bool false, .int .u32 0, .nilSlice, .nilSlice] [(0, 1, (.int .i64 3)), (11, 1, a1)]) fun c3 =>
 V (aFill [.int .i64 0, .int .i64 0, .int .i64 0, .int .i64 0, .int .i64 0, .int .i64 0, .int .i64 0, .int .i64 0, .str [], .str [], .bool false, .int .u32 0, .nilSlice, .nilSlice] [(0, 1, a0), (1, 13, (.agg c3))]) fun c4 =>
 V (aFill (reps [.int .i64 0, .int .i64 0, .int .i64 0, .int .i64 0, .int .i64 0, .int .i64 0, .int .i64 0, .int .i64 0, .str [], .str [], .bool false, .int .u32 0, .nilSlice, .nilSlice] 1) [(0, 14, (.agg c4))]) fun c5 =>
 .out 0 [(.slice h.next 0 1 1 14 true)] (h.alloc c5))) args)
theorem st55 (call : TCall) (args : List AVal) (h : TH) : kFunc call A55 args h = F55 call args h := by kernel_rfl
noncomputable def A57 : AFunc := ⟨2, (.seq (.region [.op 0 (.mov 4 (.const (.nilPtr)))] [])
 (.seq (.seq (.region [.op 0 (.mov 5 (.tmp 1)),
 .op 1 (.bin 6 .lss .plain (.tmp 5) (.const (.int .i64 0))),
 .op 2 (.mov 7 (.tmp 6)),
 .guard 7 false [.op 3 (.mov 8 (.tmp 1)),
 .op 4 (.mov 9 (.tmp 0)),
 .op 5 (.nilchk 10 (.tmp 9)),
 .op 6 (.faddr 11 1 (.tmp 10)),
 .op 7 (.load 12 false 1 (.tmp 11)),
 .op 8 (.len 13 false (.tmp 12)),
 .op 9 (.bin 14 .geq .plain (.tmp 8) (.tmp 13))] [] [14],
 .op 10 (.pick 15 (.tmp 7) (.const (.bool true)) (.tmp 14))] [])
 (.cond (.tmp 15)
 (.seq (.region [.op 0 (.mov 4 (.const (.nilPtr)))] [])
 .ret)
 .skip))
 (.seq (.region [.op 0 (.mov 16 (.tmp 0)),
 .op 1 (.nilchk 17 (.tmp 16)),
 .op 2 (.faddr 18 1 (.tmp 17)),
 .op 3 (.load 19 false 1 (.tmp 18)),
 .op 4 (.mov 20 (.tmp 1)),
 .op 5 (.iaddr 21 none 1 (.tmp 19) (.tmp 20)),
 .op 6 (.load 22 false 1 (.tmp 21)),
 .op 7 (.mov 4 (.tmp 22))] [])
 .ret))),
 [.tmp 4]⟩
theorem ok57 : funcOk Tryz.prog (drawOk Tryz.prog) Tryz.f57 A57 = true := by kernel_rfl
noncomputable def F57 (call : TCall) (args : List AVal) (h : TH) : KR := ans (U2 (fun a0 a1 =>
 V (kLss a1 (.int .i64 0)) fun v1 =>
 Jn (G v1 false
 (V (kNil a0) fun v2 =>
 V (kFaddr 1 v2) fun v3 =>
 V (kLd1 h v3) fun v4 =>
 V (kLen false v4) fun v5 =>
 V (kGeq a1 v5) fun v6 =>
 .out 0 [v6] h)
 (.out 0 [skipV] h)) fun _ x8 h7 =>
 U1 (fun g9 =>
 V (kPick v1 (.bool true) g9) fun v10 =>
 C v10
 (.out 0 [(.nilPtr)] h7)
 (V (kNil a0) fun v11 =>
 V (kFaddr 1 v11) fun v12 =>
 V (kLd1 h7 v12) fun v13 =>
 V (kIaddr 1 v13 a1) fun v14 =>
 V (kLd1 h7 v14) fun v15 =>
 .out 0 [v15] h7)) x8) args)
theorem st57 (call : TCall) (args : List AVal) (h : TH) : kFunc call A57 args h = F57 call args h := by kernel_rfl
noncomputable def A58 : AFunc := ⟨2, (.seq (.region [.op 0 (.mov 4 (.const (.nilPtr)))] [])
 (.seq (.seq (.region [.op 0 (.mov 5 (.tmp 1)),
 .op 1 (.bin 6 .lss .plain (.tmp 5) (.const (.int .i64 0))),
 .op 2 (.mov 7 (.tmp 6)),
 .guard 7 false [.op 3 (.mov 8 (.tmp 1)),
 .op 4 (.mov 9 (.tmp 0)),
 .op 5 (.nilchk 10 (.tmp 9)),
 .op 6 (.faddr 11 0 (.tmp 10)),
 .op 7 (.load 12 false 1 (.tmp 11)),
 .op 8 (.len 13 false (.tmp 12)),
 .op 9 (.bin 14 .geq .plain (.tmp 8) (.tmp 13))] [] [14],
 .op 10 (.pick 15 (.tmp 7) (.const (.bool true)) (.tmp 14))] [])
 (.cond (.tmp 15)
 (.seq (.region [.op 0 (.mov 4 (.const (.nilPtr)))] [])
 .ret)
 .skip))
 (.seq (.region [.op 0 (.mov 16 (.tmp 0)),
 .op 1 (.nilchk 17 (.tmp 16)),
 .op 2 (.faddr 18 0 (.tmp 17)),
 .op 3 (.load 19 false 1 (.tmp 18)),
 .op 4 (.mov 20 (.tmp 1)),
 .op 5 (.iaddr 21 none 1 (.tmp 19) (.tmp 20)),
 .op 6 (.load 22 false 1 (.tmp 21)),
 .op 7 (.mov 4 (.tmp 22))] [])
 .ret))),
 [.tmp 4]⟩
theorem ok58 : funcOk Tryz.prog (drawOk Tryz.prog) Tryz.f58 A58 = true := by kernel_rfl
noncomputable def F58 (call : TCall) (args : List AVal) (h : TH) : KR := ans (U2 (fun a0 a1 =>
 V (kLss a1 (.int .i64 0)) fun v1 =>
 Jn (G v1 false
 (V (kNil a0) fun v2 =>
 V (kFaddr 0 v2) fun v3 =>
 V (kLd1 h v3) fun v4 =>
 V (kLen false v4) fun v5 =>
 V (kGeq a1 v5) fun v6 =>
 .out 0 [v6] h)
 (.out 0 [skipV] h)) fun _ x8 h7 =>
 U1 (fun g9 =>
 V (kPick v1 (.bool true) g9) fun v10 =>
 C v10
 (.out 0 [(.nilPtr)] h7)
 (V (kNil a0) fun v11 =>
 V (kFaddr 0 v11) fun v12 =>
 V (kLd1 h7 v12) fun v13 =>
 V (kIaddr 1 v13 a1) fun v14 =>
 V (kLd1 h7 v14) fun v15 =>
 .out 0 [v15] h7)) x8) args)
theorem st58 (call : TCall) (args : List AVal) (h : TH) : kFunc call A58 args h = F58 call args h := by kernel_rfl
noncomputable def A59 : AFunc := ⟨2, (.seq (.region [.op 0 (.mov 4 (.const (.int .i64 0))),
 .op 1 (.mov 5 (.const (.bool false)))] [])
 (.seq (.region [.op 0 (.mov 6 (.const (.int .i64 0)))] [])
 (.seq (.block 0 (.loop ⟨[0, 1, 6], []⟩ [((.exit 0), ⟨[0, 6], []⟩), (.ret, ⟨[4, 5], []⟩)]
 (.seq (.seq (.region [.op 0 (.mov 8 (.tmp 6)),
 .op 1 (.mov 9 (.tmp 1)),
 .op 2 (.bin 10 .lss .plain (.tmp 8) (.tmp 9)),
 .op 3 (.mov 11 (.tmp 10)),
 .guard 11 true [.op 4 (.mov 12 (.tmp 0)),
 .op 5 (.nilchk 13 (.tmp 12)),
 .op 6 (.faddr 14 0 (.tmp 13)),
 .op 7 (.load 15 false 1 (.tmp 14)),
 .op 8 (.call 16 93 [.tmp 15]),
 .op 9 (.call 17 94 [.tmp 16]),
 .op 10 (.bin 18 .gtr .plain (.tmp 17) (.const (.int .i64 0)))] [] [18],
 .op 11 (.pick 19 (.tmp 11) (.tmp 18) (.const (.bool false)))] [])
 (.cond (.tmp 19)
 .skip
 (.exit 0)))
 (.block 1 (.seq (.region [.op 0 (.mov 20 (.tmp 0)),
 .op 1 (.nilchk 21 (.tmp 20)),
 .op 2 (.faddr 22 0 (.tmp 21)),
 .op 3 (.load 23 false 1 (.tmp 22)),
 .op 4 (.call 24 93 [.tmp 23]),
 .op 5 (.call 25 95 [.tmp 24]),
 .op 6 (.iaddr 26 none 3 (.tmp 25) (.const (.int .i64 0))),
 .op 7 (.load 27 true 3 (.tmp 26)),
 .op 8 (.alloc 7 true [.int .i64 0, .int .i64 0, .nilSlice]),
 .op 9 (.store true 3 (.tmp 7) (.tmp 27))] [])
 (.seq (.seq (.region [.op 0 (.mov 28 (.tmp 0)),
 .op 1 (.nilchk 29 (.tmp 28)),
 .op 2 (.faddr 30 0 (.tmp 29)),
 .op 3 (.load 31 false 1 (.tmp 30)),
 .op 4 (.call 32 93 [.tmp 31]),
 .op 5 (.faddr 33 0 (.tmp 7)),
 .op 6 (.load 34 false 1 (.tmp 33)),
 .op 7 (.faddr 35 1 (.tmp 7)),
 .op 8 (.load 36 false 1 (.tmp 35)),
 .op 9 (.call 37 96 [.tmp 32, .tmp 34, .tmp 36])] [(6, 4), (8, 4)])
 (.cond (.tmp 37)
 (.seq (.region [.op 0 (.mov 38 (.tmp 6)),
 .op 1 (.mov 4 (.tmp 38)),
 .op 2 (.mov 5 (.const (.bool false)))] [])
 .ret)
 .skip))
 (.seq (.region [.op 0 (.mov 39 (.tmp 0)),
 .op 1 (.build 40 [.int .i64 0, .int .i64 0, .int .i64 0, .int .i64 0, .int .i64 0, .int .i64 0, .str []] [(0, 1, .const (.int .i64 2))]),
 .op 2 (.call 41 97 [.tmp 39, .tmp 40])] [])
 (.region [.op 0 (.mov 42 (.tmp 6)),
 .op 1 (.bin 43 .add .plain (.tmp 42) (.const (.int .i64 1))),
 .op 2 (.mov 6 (.tmp 43))] []))))))))
 (.seq (.region [.op 0 (.mov 44 (.tmp 6)),
 .op 1 (.mov 45 (.tmp 0)),
 .op 2 (.nilchk 46 (.tmp 45)),
 .op 3 (.faddr 47 0 (.tmp 46)),
 .op 4 (.load 48 false 1 (.tmp 47)),
 .op 5 (.call 49 93 [.tmp 48]),
 .op 6 (.call 50 94 [.tmp 49]),
 .op 7 (.bin 51 .eql .plain (.tmp 50) (.const (.int .i64 0))),
 .op 8 (.mov 4 (.tmp 44)),
 .op 9 (.mov 5 (.tmp 51))] [])
 .ret)))),
 [.tmp 4, .tmp 5]⟩
theorem ok59 : funcOk Tryz.prog (drawOk Tryz.prog) Tryz.f59 A59 = true := by kernel_rfl
noncomputable def L59_0 (call : TCall) (xs : List AVal) (h : TH) : KJ :=
 U3 (fun g1 g2 g3 =>
 V (kLss g3 g2) fun v4 =>
 Jn (G v4 true
 (V (kNil g1) fun v5 =>
 V (kFaddr 0 v5) fun v6 =>
 V (kLd1 h v6) fun v7 =>
 R (call 93 [v7] h) fun v8 h9 =>
 R (call 94 [v8] h9) fun v10 h11 =>
 V (kGtr v10 (.int .i64 0)) fun v12 =>
 .out 0 [v12] h11)
 (.out 0 [skipV] h)) fun _ x14 h13 =>
 U1 (fun g15 =>
 V (kPick v4 g15 (.bool false)) fun v16 =>
 C v16
 (V (kNil g1) fun v17 =>
 V (kFaddr 0 v17) fun v18 =>
 V (kLd1 h13 v18) fun v19 =>
 R (call 93 [v19] h13) fun v20 h21 =>
 R (call 95 [v20] h21) fun v22 h23 =>
 V (kIaddr 3 v22 (.int .i64 0)) fun v24 =>
 V (kLdA h23 3 v24) fun v25 =>
 V (kStL [.int .i64 0, .int .i64 0, .nilSlice] 0 3 v25) fun c26 =>
 V (kNil g1) fun v27 =>
 V (kFaddr 0 v27) fun v28 =>
 V (kLd1 h23 v28) fun v29 =>
 R (call 93 [v29] h23) fun v30 h31 =>
 V (kLdL c26 false 0 1) fun v32 =>
 V (kLdL c26 false 1 1) fun v33 =>
 R (call 96 [v30, v32, v33] h31) fun v34 h35 =>
 ifB (kCheck [(8, some (.lrd 7 1 1)), (6, some (.lrd 7 0 1)), (4, some (.ef [(7, c26)] h23 [(7, c26)] h31))] [(6, 4), (8, 4)]) (C v34
 (.out 2 [g3, (.bool false)] h35)
 (V (aFill [.int .i64 0, .int .i64 0, .int .i64 0, .int .i64 0, .int .i64 0, .int .i64 0, .str []] [(0, 1, (.int .i64 2))]) fun c36 =>
 R (call 97 [g1, (.agg c36)] h35) fun v37 h38 =>
 V (kAdd g3 (.int .i64 1)) fun v39 =>
 .out 0 [g1, g2, v39] h38)) .no)
 (.out 1 [g1, g3] h13)) x14) xs
noncomputable def F59 (call : TCall) (args : List AVal) (h : TH) : KR := ans (U2 (fun a0 a1 =>
 Jn (Lp (L59_0 call) [a0, a1, (.int .i64 0)] h) fun i42 x41 h40 =>
 ifB (Nat.beq i42 1) (U2 (fun g43 g44 =>
 V (kNil g43) fun v45 =>
 V (kFaddr 0 v45) fun v46 =>
 V (kLd1 h40 v46) fun v47 =>
 R (call 93 [v47] h40) fun v48 h49 =>
 R (call 94 [v48] h49) fun v50 h51 =>
 V (kEql v50 (.int .i64 0)) fun v52 =>
 .out 0 [.tuple [g44, v52]] h51) x41) (
 ifB (Nat.beq i42 2) (U2 (fun g53 g54 =>
 .out 0 [.tuple [g53, g54]] h40) x41) (
 .no))) args)
theorem st59 (call : TCall) (args : List AVal) (h : TH) : kFunc call A59 args h = F59 call args h := by kernel_rfl
noncomputable def A60 : AFunc := ⟨1, (.seq (.region [.op 0 (.mov 2 (.const (.nilPtr)))] [])
 (.seq (.seq (.region [.op 0 (.mov 3 (.tmp 0)),
 .op 1 (.bin 4 .lss .plain (.tmp 3) (.const (.int .i64 1))),
 .op 2 (.mov 5 (.tmp 4)),
 .guard 5 false [.op 3 (.mov 6 (.tmp 0)),
 .op 4 (.bin 7 .gtr .plain (.tmp 6) (.const (.int .i64 6)))] [] [7],
 .op 5 (.pick 8 (.tmp 5) (.const (.bool true)) (.tmp 7))] [])
 (.cond (.tmp 8)
 (.seq (.region [.op 0 (.mov 2 (.const (.nilPtr)))] [])
 .ret)
 .skip))
 (.seq (.region [.op 0 (.mov 9 (.tmp 0)),
 .op 1 (.mkSlice 10 1 8 [.int .i64 0] (.tmp 9) (.tmp 9)),
 .op 2 (.build 11 [.nilSlice] [(0, 1, .tmp 10)]),
 .op 3 (.box 12 false (.tmp 11)),
 .op 4 (.mov 2 (.tmp 12))] [])
 .ret))),
 [.tmp 2]⟩
theorem ok60 : funcOk Tryz.prog (drawOk Tryz.prog) Tryz.f60 A60 = true := by kernel_rfl
noncomputable def F60 (call : TCall) (args : List AVal) (h : TH) : KR := ans (U1 (fun a0 =>
 V (kLss a0 (.int .i64 1)) fun v1 =>
 Jn (G v1 false
 (V (kGtr a0 (.int .i64 6)) fun v2 =>
 .out 0 [v2] h)
 (.out 0 [skipV] h)) fun _ x4 h3 =>
 U1 (fun g5 =>
 V (kPick v1 (.bool true) g5) fun v6 =>
 C v6
 (.out 0 [(.nilPtr)] h3)
 (R (kMkSlice 1 8 [.int .i64 0] a0 a0 h3) fun v7 h8 =>
 V (aFill [.nilSlice] [(0, 1, v7)]) fun c9 =>
 V (kCellsQ (.agg c9)) fun c10 =>
 .out 0 [(.ptr h8.next 0)] (h8.alloc c10))) x4) args)
theorem st60 (call : TCall) (args : List AVal) (h : TH) : kFunc call A60 args h = F60 call args h := by kernel_rfl
noncomputable def A61 : AFunc := ⟨1, (.seq (.region [.op 0 (.mov 2 (.const (.str [])))] [])
 (.seq (.region [.op 0 (.mov 3 (.tmp 0)),
 .op 1 (.call 4 98 [.tmp 3]),
 .op 2 (.mov 2 (.tmp 4))] [])
 .ret)),
 [.tmp 2]⟩
theorem ok61 : funcOk Tryz.prog (drawOk Tryz.prog) Tryz.f61 A61 = true := by kernel_rfl
noncomputable def F61 (call : TCall) (args : List AVal) (h : TH) : KR := ans (U1 (fun a0 =>
 R (call 98 [a0] h) fun v1 h2 =>
 .out 0 [v1] h2) args)
theorem st61 (call : TCall) (args : List AVal) (h : TH) : kFunc call A61 args h = F61 call args h := by kernel_rfl
noncomputable def A62 : AFunc := ⟨2, (.seq (.region [.op 0 (.box 2 true (.tmp 0)),
 .op 1 (.mov 4 (.const (.nilPtr)))] [])
 (.seq (.seq (.region [.op 0 (.faddr 5 0 (.tmp 2)),
 .op 1 (.load 6 false 1 (.tmp 5)),
 .op 2 (.call 7 99 [.tmp 6]),
 .op 3 (.un 8 .not (.tmp 7)),
 .op 4 (.mov 9 (.tmp 8)),
 .guard 9 false [.op 5 (.faddr 10 1 (.tmp 2)),
 .op 6 (.load 11 false 1 (.tmp 10)),
 .op 7 (.call 12 99 [.tmp 11]),
 .op 8 (.un 13 .not (.tmp 12))] [] [13],
 .op 9 (.pick 14 (.tmp 9) (.const (.bool true)) (.tmp 13)),
 .op 10 (.mov 15 (.tmp 14)),
 .guard 15 false [.op 11 (.mov 16 (.tmp 1)),
 .op 12 (.len 17 false (.tmp 16)),
 .op 13 (.bin 18 .lss .plain (.tmp 17) (.const (.int .i64 1)))] [] [18],
 .op 14 (.pick 19 (.tmp 15) (.const (.bool true)) (.tmp 18)),
 .op 15 (.mov 20 (.tmp 19)),
 .guard 20 false [.op 16 (.mov 21 (.tmp 1)),
 .op 17 (.len 22 false (.tmp 21)),
 .op 18 (.bin 23 .gtr .plain (.tmp 22) (.const (.int .i64 6)))] [] [23],
 .op 19 (.pick 24 (.tmp 20) (.const (.bool true)) (.tmp 23))] [])
 (.cond (.tmp 24)
 (.seq (.region [.op 0 (.mov 4 (.const (.nilPtr)))] [])
 .ret)
 .skip))
 (.seq (.region [.op 0 (.load 25 true 2 (.tmp 2)),
 .op 1 (.mov 26 (.tmp 1)),
 .op 2 (.call 27 69 [.tmp 26]),
 .op 3 (.call 28 100 []),
 .op 4 (.build 29 [.str [], .str [], .nilSlice, .int .i64 0, .int .i64 0, .nilPtr, .nilSlice, .bool false, .int .i64 0, .int .i64 0, .int .i64 0, .bool false, .bool false, .int .i64 0, .int .i64 0, .int .i64 0, .int .i64 0, .int .i64 0, .int .i64 0, .int .i64 0, .str [], .str [], .bool false, .int .u32 0, .nilSlice, .nilSlice, .int .i64 0, .bool false, .int .i64 0, .bool false, .int .i64 0] [(0, 2, .tmp 25), (2, 1, .tmp 27), (5, 1, .tmp 28)]),
 .op 5 (.box 30 false (.tmp 29)),
 .op 6 (.mov 4 (.tmp 30))] [(0, 2), (0, 3)])
 .ret))),
 [.tmp 4]⟩
theorem ok62 : funcOk Tryz.prog (drawOk Tryz.prog) Tryz.f62 A62 = true := by kernel_rfl
noncomputable def F62 (call : TCall) (args : List AVal) (h : TH) : KR := ans (U2 (fun a0 a1 =>
 V (kCellsQ a0) fun c1 =>
 V (kLdL c1 false 0 1) fun v2 =>
 R (call 99 [v2] h) fun v3 h4 =>
 V (kNot v3) fun v5 =>
 Jn (G v5 false
 (V (kLdL c1 false 1 1) fun v6 =>
 R (call 99 [v6] h4) fun v7 h8 =>
 V (kNot v7) fun v9 =>
 .out 0 [v9] h8)
 (.out 0 [skipV] h4)) fun _ x11 h10 =>
 U1 (fun g12 =>
 V (kPick v5 (.bool true) g12) fun v13 =>
 Jn (G v13 false
 (V (kLen false a1) fun v14 =>
 V (kLss v14 (.int .i64 1)) fun v15 =>
 .out 0 [v15] h10)
 (.out 0 [skipV] h10)) fun _ x17 h16 =>
 U1 (fun g18 =>
 V (kPick v13 (.bool true) g18) fun v19 =>
 Jn (G v19 false
 (V (kLen false a1) fun v20 =>
 V (kGtr v20 (.int .i64 6)) fun v21 =>
 .out 0 [v21] h16)
 (.out 0 [skipV] h16)) fun _ x23 h22 =>
 U1 (fun g24 =>
 V (kPick v19 (.bool true) g24) fun v25 =>
 C v25
 (.out 0 [(.nilPtr)] h22)
 (V (kLdL c1 true 0 2) fun v26 =>
 R (call 69 [a1] h22) fun v27 h28 =>
 R (call 100 [] h28) fun v29 h30 =>
 V (aFill [.str [], .str [], .nilSlice, .int .i64 0, .int .i64 0, .nilPtr, .nilSlice, .bool false, .int .i64 0, .int .i64 0, .int .i64 0, .bool false, .bool false, .int .i64 0, .int .i64 0, .int .i64 0, .int .i64 0, .int .i64 0, .int .i64 0, .int .i64 0, .str [], .str [], .bool false, .int .u32 0, .nilSlice, .nilSlice, .int .i64 0, .bool false, .int .i64 0, .bool false, .int .i64 0] [(0, 2, v26), (2, 1, v27), (5, 1, v29)]) fun c31 =>
 V (kCellsQ (.agg c31)) fun c32 =>
 ifB (kCheck [(3, some (.ef [(2, c1)] h28 [(2, c1)] h30)), (2, some (.ef [(2, c1)] h22 [(2, c1)] h28)), (0, some (.lrd 2 0 2))] [(0, 2), (0, 3)]) (.out 0 [(.ptr h30.next 0)] (h30.alloc c32)) .no)) x23) x17) x11) args)
theorem st62 (call : TCall) (args : List AVal) (h : TH) : kFunc call A62 args h = F62 call args h := by kernel_rfl
noncomputable def A63 : AFunc := ⟨3, (.seq (.region [.op 0 (.box 5 true (.tmp 2)),
 .op 1 (.alloc 6 true [.int .i64 0, .int .i64 0, .int .i64 0, .nilSlice, .int .i64 0])] [])
 (.seq (.seq (.region [.op 0 (.faddr 8 0 (.tmp 5)),
 .op 1 (.load 9 false 1 (.tmp 8))] [])
 (.block 0 (.seq (.region [.op 0 (.bin 11 .eql .plain (.tmp 9) (.const (.int .i64 1))),
 .op 1 (.mov 10 (.tmp 11))] [])
 (.cond (.tmp 10)
 (.seq (.region [.op 0 (.mov 12 (.tmp 0)),
 .op 1 (.mov 13 (.tmp 1)),
 .op 2 (.load 14 true 7 (.tmp 5)),
 .op 3 (.call 15 101 [.tmp 12, .tmp 13, .tmp 14]),
 .op 4 (.store true 5 (.tmp 6) (.tmp 15))] [])
 .ret)
 (.seq (.region [.op 0 (.bin 17 .eql .plain (.tmp 9) (.const (.int .i64 2))),
 .op 1 (.mov 16 (.tmp 17))] [])
 (.cond (.tmp 16)
 (.seq (.region [.op 0 (.mov 18 (.tmp 0)),
 .op 1 (.mov 19 (.tmp 1)),
 .op 2 (.faddr 20 5 (.tmp 5)),
 .op 3 (.load 21 false 1 (.tmp 20)),
 .op 4 (.call 22 102 [.tmp 18, .tmp 19, .tmp 21]),
 .op 5 (.store true 5 (.tmp 6) (.tmp 22))] [])
 .ret)
 (.seq (.region [.op 0 (.bin 24 .eql .plain (.tmp 9) (.const (.int .i64 3))),
 .op 1 (.mov 23 (.tmp 24))] [])
 (.cond (.tmp 23)
 (.seq (.region [.op 0 (.mov 25 (.tmp 1)),
 .op 1 (.faddr 26 5 (.tmp 5)),
 .op 2 (.load 27 false 1 (.tmp 26)),
 .op 3 (.invoke 28 [(58, 214, none), (85, 258, none), (90, 258, some (0, 1, false)), (91, 258, some (0, 1, false))] (.tmp 25) [.tmp 27]),
 .op 4 (.build 29 [.int .i64 0, .int .i64 0, .int .i64 0, .nilSlice, .int .i64 0] [(0, 1, .tmp 28)]),
 .op 5 (.store true 5 (.tmp 6) (.tmp 29))] [])
 .ret)
 (.seq (.region [.op 0 (.bin 31 .eql .plain (.tmp 9) (.const (.int .i64 4))),
 .op 1 (.mov 30 (.tmp 31))] [])
 (.cond (.tmp 30)
 (.seq (.region [.op 0 (.mov 32 (.tmp 1)),
 .op 1 (.faddr 33 5 (.tmp 5)),
 .op 2 (.load 34 false 1 (.tmp 33)),
 .op 3 (.invoke 35 [(85, 261, none), (90, 261, some (0, 1, false)), (91, 261, some (0, 1, false))] (.tmp 32) [.tmp 34]),
 .op 4 (.build 36 [.int .i64 0, .int .i64 0, .int .i64 0, .nilSlice, .int .i64 0] [(0, 1, .tmp 35)]),
 .op 5 (.store true 5 (.tmp 6) (.tmp 36))] [])
 .ret)
 (.seq (.region [.op 0 (.bin 38 .eql .plain (.tmp 9) (.const (.int .i64 5))),
 .op 1 (.mov 37 (.tmp 38))] [])
 (.cond (.tmp 37)
 (.seq (.region [.op 0 (.mov 39 (.tmp 1)),
 .op 1 (.faddr 40 1 (.tmp 5)),
 .op 2 (.load 41 false 1 (.tmp 40)),
 .op 3 (.faddr 42 2 (.tmp 5)),
 .op 4 (.load 43 false 1 (.tmp 42)),
 .op 5 (.invoke 44 [(85, 256, none), (90, 256, some (0, 1, false)), (91, 256, some (0, 1, false))] (.tmp 39) [.tmp 41, .tmp 43]),
 .op 6 (.build 45 [.int .i64 0, .int .i64 0, .int .i64 0, .nilSlice, .int .i64 0] [(0, 1, .tmp 44)]),
 .op 7 (.store true 5 (.tmp 6) (.tmp 45))] [])
 .ret)
 (.seq (.region [.op 0 (.bin 47 .eql .plain (.tmp 9) (.const (.int .i64 6))),
 .op 1 (.mov 46 (.tmp 47))] [])
 (.cond (.tmp 46)
 (.seq (.region [.op 0 (.mov 48 (.tmp 1)),
 .op 1 (.faddr 49 1 (.tmp 5)),
 .op 2 (.load 50 false 1 (.tmp 49)),
 .op 3 (.faddr 51 2 (.tmp 5)),
 .op 4 (.load 52 false 1 (.tmp 51)),
 .op 5 (.invoke 53 [(85, 259, none), (90, 259, some (0, 1, false)), (91, 259, some (0, 1, false))] (.tmp 48) [.tmp 50, .tmp 52]),
 .op 6 (.build 54 [.int .i64 0, .int .i64 0, .int .i64 0, .nilSlice, .int .i64 0] [(0, 1, .tmp 53)]),
 .op 7 (.store true 5 (.tmp 6) (.tmp 54))] [])
 .ret)
 (.seq (.region [.op 0 (.bin 56 .eql .plain (.tmp 9) (.const (.int .i64 7))),
 .op 1 (.mov 55 (.tmp 56))] [])
 (.cond (.tmp 55)
 (.seq (.region [.op 0 (.mov 57 (.tmp 0)),
 .op 1 (.faddr 58 1 (.tmp 5)),
 .op 2 (.load 59 false 1 (.tmp 58)),
 .op 3 (.call 60 58 [.tmp 57, .tmp 59]),
 .op 4 (.mov 7 (.tmp 60))] [])
 (.seq (.seq (.region [.op 0 (.mov 61 (.tmp 7)),
 .op 1 (.bin 62 .eql .ptr (.tmp 61) (.const (.nilPtr)))] [])
 (.cond (.tmp 62)
 (.seq (.region [.op 0 (.build 63 [.int .i64 0, .int .i64 0, .int .i64 0, .nilSlice, .int .i64 0] [(0, 1, .const (.int .i64 23))]),
 .op 1 (.store true 5 (.tmp 6) (.tmp 63))] [])
 .ret)
 .skip))
 (.seq (.region [.op 0 (.mov 64 (.tmp 7)),
 .op 1 (.call 65 103 [.tmp 64])] [])
 (.seq (.region [.op 0 (.faddr 66 1 (.tmp 5)),
 .op 1 (.load 67 false 1 (.tmp 66)),
 .op 2 (.build 68 [.int .i64 0, .int .i64 0, .int .i64 0, .nilSlice, .int .i64 0] [(1, 1, .tmp 67)]),
 .op 3 (.store true 5 (.tmp 6) (.tmp 68))] [])
 .ret))))
 (.seq (.seq (.region [.op 0 (.bin 70 .eql .plain (.tmp 9) (.const (.int .i64 8))),
 .op 1 (.mov 69 (.tmp 70))] [])
 (.join [(.normal, ⟨[0, 69], [5, 6]⟩)] (.cond (.tmp 69)
 .skip
 (.region [.op 0 (.bin 71 .eql .plain (.tmp 9) (.const (.int .i64 9))),
 .op 1 (.mov 69 (.tmp 71))] []))))
 (.cond (.tmp 69)
 (.seq (.region [.op 0 (.mov 72 (.tmp 0)),
 .op 1 (.load 73 true 7 (.tmp 5)),
 .op 2 (.call 74 104 [.tmp 72, .tmp 73]),
 .op 3 (.store true 5 (.tmp 6) (.tmp 74))] [])
 .ret)
 .skip))))))))))))))))))
 (.seq (.region [.op 0 (.build 75 [.int .i64 0, .int .i64 0, .int .i64 0, .nilSlice, .int .i64 0] [(0, 1, .const (.int .i64 1))]),
 .op 1 (.store true 5 (.tmp 6) (.tmp 75))] [])
 .ret))),
 [.cell 6 true 5]⟩
theorem ok63 : funcOk Tryz.prog (drawOk Tryz.prog) Tryz.f63 A63 = true := by kernel_rfl
noncomputable def F63 (call : TCall) (args : List AVal) (h : TH) : KR := ans (U3 (fun a0 a1 a2 =>
 V (kCellsQ a2) fun c1 =>
 V (kLdL c1 false 0 1) fun v2 =>
 V (kEql v2 (.int .i64 1)) fun v3 =>
 C v3
 (V (kLdL c1 true 0 7) fun v4 =>
 R (call 101 [a0, a1, v4] h) fun v5 h6 =>
 V (kStL [.int .i64 0, .int .i64 0, .int .i64 0, .nilSlice, .int .i64 0] 0 5 v5) fun c7 =>
 V (kLdL c7 true 0 5) fun v8 =>
 .out 0 [v8] h6)
 (V (kEql v2 (.int .i64 2)) fun v9 =>
 C v9
 (V (kLdL c1 false 5 1) fun v10 =>
 R (call 102 [a0, a1, v10] h) fun v11 h12 =>
 V (kStL [.int .i64 0, .int .i64 0, .int .i64 0, .nilSlice, .int .i64 0] 0 5 v11) fun c13 =>
 V (kLdL c13 true 0 5) fun v14 =>
 .out 0 [v14] h12)
 (V (kEql v2 (.int .i64 3)) fun v15 =>
 C v15
 (V (kLdL c1 false 5 1) fun v16 =>
 V (kMeth [(58, 214, none), (85, 258, none), (90, 258, some (0, 1, false)), (91, 258, some (0, 1, false))] a1) fun q17 =>
 R (call q17.1 (q17.2 :: [v16]) h) fun v18 h19 =>
 V (aFill [.int .i64 0, .int .i64 0, .int .i64 0, .nilSlice, .int .i64 0] [(0, 1, v18)]) fun c20 =>
 V (kStL [.int .i64 0, .int .i64 0, .int .i64 0, .nilSlice, .int .i64 0] 0 5 (.agg c20)) fun c21 =>
 V (kLdL c21 true 0 5) fun v22 =>
 .out 0 [v22] h19)
 (V (kEql v2 (.int .i64 4)) fun v23 =>
 C v23
 (V (kLdL c1 false 5 1) fun v24 =>
 V (kMeth [(85, 261, none), (90, 261, some (0, 1, false)), (91, 261, some (0, 1, false))] a1) fun q25 =>
 R (call q25.1 (q25.2 :: [v24]) h) fun v26 h27 =>
 V (aFill [.int .i64 0, .int .i64 0, .int .i64 0, .nilSlice, .int .i64 0] [(0, 1, v26)]) fun c28 =>
 V (kStL [.int .i64 0, .int .i64 0, .int .i64 0, .nilSlice, .int .i64 0] 0 5 (.agg c28)) fun c29 =>
 V (kLdL c29 true 0 5) fun v30 =>
 .out 0 [v30] h27)
 (V (kEql v2 (.int .i64 5)) fun v31 =>
 C v31
 (V (kLdL c1 false 1 1) fun v32 =>
 V (kLdL c1 false 2 1) fun v33 =>
 V (kMeth [(85, 256, none), (90, 256, some (0, 1, false)), (91, 256, some (0, 1, false))] a1) fun q34 =>
 R (call q34.1 (q34.2 :: [v32, v33]) h) fun v35 h36 =>
 V (aFill [.int .i64 0, .int .i64 0, .int .i64 0, .nilSlice, .int .i64 0] [(0, 1, v35)]) fun c37 =>
 V (kStL [.int .i64 0, .int .i64 0, .int .i64 0, .nilSlice, .int .i64 0] 0 5 (.agg c37)) fun c38 =>
 V (kLdL c38 true 0 5) fun v39 =>
 .out 0 [v39] h36)
 (V (kEql v2 (.int .i64 6)) fun v40 =>
 C v40
 (V (kLdL c1 false 1 1) fun v41 =>
 V (kLdL c1 false 2 1) fun v42 =>
 V (kMeth [(85, 259, none), (90, 259, some (0, 1, false)), (91, 259, some (0, 1, false))] a1) fun q43 =>
 R (call q43.1 (q43.2 :: [v41, v42]) h) fun v44 h45 =>
 V (aFill [.int .i64 0, .int .i64 0, .int .i64 0, .nilSlice, .int .i64 0] [(0, 1, v44)]) fun c46 =>
 V (kStL [.int .i64 0, .int .i64 0, .int .i64 0, .nilSlice, .int .i64 0] 0 5 (.agg c46)) fun c47 =>
 V (kLdL c47 true 0 5) fun v48 =>
 .out 0 [v48] h45)
 (V (kEql v2 (.int .i64 7)) fun v49 =>
 C v49
 (V (kLdL c1 false 1 1) fun v50 =>
 R (call 58 [a0, v50] h) fun v51 h52 =>
 V (kEq .ptr v51 (.nilPtr)) fun v53 =>
 C v53
 (V (aFill [.int .i64 0, .int .i64 0, .int .i64 0, .nilSlice, .int .i64 0] [(0, 1, (.int .i64 23))]) fun c54 =>
 V (kStL [.int .i64 0, .int .i64 0, .int .i64 0, .nilSlice, .int .i64 0] 0 5 (.agg c54)) fun c55 =>
 V (kLdL c55 true 0 5) fun v56 =>
 .out 0 [v56] h52)
 (R (call 103 [v51] h52) fun v57 h58 =>
 V (kLdL c1 false 1 1) fun v59 =>
 V (aFill [.int .i64 0, .int .i64 0, .int .i64 0, .nilSlice, .int .i64 0] [(1, 1, v59)]) fun c60 =>
 V (kStL [.int .i64 0, .int .i64 0, .int .i64 0, .nilSlice, .int .i64 0] 0 5 (.agg c60)) fun c61 =>
 V (kLdL c61 true 0 5) fun v62 =>
 .out 0 [v62] h58))
 (V (kEql v2 (.int .i64 8)) fun v63 =>
 Jn (C v63
 (.out 0 [a0, v63, (.agg c1), (.agg [.int .i64 0, .int .i64 0, .int .i64 0, .nilSlice, .int .i64 0])] h)
 (V (kEql v2 (.int .i64 9)) fun v64 =>
 .out 0 [a0, v64, (.agg c1), (.agg [.int .i64 0, .int .i64 0, .int .i64 0, .nilSlice, .int .i64 0])] h)) fun i67 x66 h65 =>
 ifB (Nat.beq i67 0) (U4 (fun g68 g69 g70 g71 =>
 C g69
 (V (kLdL (kAggCells g70) true 0 7) fun v72 =>
 R (call 104 [g68, v72] h65) fun v73 h74 =>
 V (kStL (kAggCells g71) 0 5 v73) fun c75 =>
 V (kLdL c75 true 0 5) fun v76 =>
 .out 0 [v76] h74)
 (V (aFill [.int .i64 0, .int .i64 0, .int .i64 0, .nilSlice, .int .i64 0] [(0, 1, (.int .i64 1))]) fun c77 =>
 V (kStL (kAggCells g71) 0 5 (.agg c77)) fun c78 =>
 V (kLdL c78 true 0 5) fun v79 =>
 .out 0 [v79] h65)) x66) (
 .no))))))))) args)
theorem st63 (call : TCall) (args : List AVal) (h : TH) : kFunc call A63 args h = F63 call args h := by kernel_rfl
noncomputable def A64 : AFunc := ⟨1, (.seq (.region [.op 0 (.mov 2 (.const (.int .i64 0)))] [])
 (.seq (.region [.op 0 (.mov 3 (.tmp 0)),
 .op 1 (.minmax 4 false [.tmp 3, .const (.int .i64 1099511627776)]),
 .op 2 (.minmax 5 true [.const (.int .i64 0), .tmp 4]),
 .op 3 (.mov 2 (.tmp 5))] [])
 .ret)),
 [.tmp 2]⟩
theorem ok64 : funcOk Tryz.prog (drawOk Tryz.prog) Tryz.f64 A64 = true := by kernel_rfl
noncomputable def F64 (call : TCall) (args : List AVal) (h : TH) : KR := ans (U1 (fun a0 =>
 V (aMinMaxL false [a0, (.int .i64 1099511627776)]) fun v1 =>
 V (aMinMaxL true [(.int .i64 0), v1]) fun v2 =>
 .out 0 [v2] h) args)
theorem st64 (call : TCall) (args : List AVal) (h : TH) : kFunc call A64 args h = F64 call args h := by kernel_rfl
noncomputable def A65 : AFunc := ⟨1, (.seq (.region [.op 0 (.mov 2 (.const (.nilPtr)))] [])
 (.seq (.region [.op 0 (.mov 3 (.tmp 0)),
 .op 1 (.minmax 4 false [.tmp 3, .const (.int .i64 32)]),
 .op 2 (.minmax 5 true [.const (.int .i64 0), .tmp 4]),
 .op 3 (.build 6 [.int .i64 0, .nilSlice] [(0, 1, .tmp 5)]),
 .op 4 (.box 7 false (.tmp 6)),
 .op 5 (.mov 2 (.tmp 7))] [])
 .ret)),
 [.tmp 2]⟩
theorem ok65 : funcOk Tryz.prog (drawOk Tryz.prog) Tryz.f65 A65 = true := by kernel_rfl
noncomputable def F65 (call : TCall) (args : List AVal) (h : TH) : KR := ans (U1 (fun a0 =>
 V (aMinMaxL false [a0, (.int .i64 32)]) fun v1 =>
 V (aMinMaxL true [(.int .i64 0), v1]) fun v2 =>
 V (aFill [.int .i64 0, .nilSlice] [(0, 1, v2)]) fun c3 =>
 V (kCellsQ (.agg c3)) fun c4 =>
 .out 0 [(.ptr h.next 0)] (h.alloc c4)) args)
theorem st65 (call : TCall) (args : List AVal) (h : TH) : kFunc call A65 args h = F65 call args h := by kernel_rfl
noncomputable def A66 : AFunc := ⟨1, (.seq (.region [.op 0 (.mov 2 (.const (.nilPtr)))] [])
 (.seq (.region [.op 0 (.mov 3 (.tmp 0)),
 .op 1 (.build 4 [.int .i64 0, .int .i64 0, .int .i64 0] [(0, 1, .tmp 3)]),
 .op 2 (.box 5 false (.tmp 4)),
 .op 3 (.mov 2 (.tmp 5))] [])
 .ret)),
 [.tmp 2]⟩
theorem ok66 : funcOk Tryz.prog (drawOk Tryz.prog) Tryz.f66 A66 = true := by kernel_rfl
noncomputable def F66 (call : TCall) (args : List AVal) (h : TH) : KR := ans (U1 (fun a0 =>
 V (aFill [.int .i64 0, .int .i64 0, .int .i64 0] [(0, 1, a0)]) fun c1 =>
 V (kCellsQ (.agg c1)) fun c2 =>
 .out 0 [(.ptr h.next 0)] (h.alloc c2)) args)
theorem st66 (call : TCall) (args : List AVal) (h : TH) : kFunc call A66 args h = F66 call args h := by kernel_rfl
noncomputable def A67 : AFunc := ⟨0, (.seq (.region [.op 0 (.mov 0 (.const (.nilPtr)))] [])
 (.seq (.region [.op 0 (.build 1 [.int .i64 0, .nilSlice] []),
 .op 1 (.box 2 false (.tmp 1)),
 .op 2 (.mov 0 (.tmp 2))] [])
 .ret)),
 [.tmp 0]⟩
theorem ok67 : funcOk Tryz.prog (drawOk Tryz.prog) Tryz.f67 A67 = true := by kernel_rfl
noncomputable def F67 (call : TCall) (args : List AVal) (h : TH) : KR := ans (U0 (V (aFill [.int .i64 0, .nilSlice] []) fun c1 =>
 V (kCellsQ (.agg c1)) fun c2 =>
 .out 0 [(.ptr h.next 0)] (h.alloc c2)) args)
theorem st67 (call : TCall) (args : List AVal) (h : TH) : kFunc call A67 args h = F67 call args h := by kernel_rfl
noncomputable def A68 : AFunc := ⟨2, (.seq (.region [.op 0 (.mov 4 (.const (.bool false)))] [])
 (.seq (.region [.op 0 (.mov 5 (.tmp 0)),
 .op 1 (.mov 6 (.tmp 1)),
 .op 2 (.call 7 105 [.tmp 5, .tmp 6]),
 .op 3 (.bin 8 .geq .plain (.tmp 7) (.const (.int .i64 0))),
 .op 4 (.mov 4 (.tmp 8))] [])
 .ret)),
 [.tmp 4]⟩
theorem ok68 : funcOk Tryz.prog (drawOk Tryz.prog) Tryz.f68 A68 = true := by kernel_rfl
noncomputable def F68 (call : TCall) (args : List AVal) (h : TH) : KR := ans (U2 (fun a0 a1 =>
 R (call 105 [a0, a1] h) fun v1 h2 =>
 V (kGeq v1 (.int .i64 0)) fun v3 =>
 .out 0 [v3] h2) args)
theorem st68 (call : TCall) (args : List AVal) (h : TH) : kFunc call A68 args h = F68 call args h := by kernel_rfl
noncomputable def A69 : AFunc := ⟨1, (.seq (.region [.op 0 (.mov 2 (.const (.nilSlice)))] [])
 (.seq (.seq (.region [.op 0 (.mov 3 (.tmp 0)),
 .op 1 (.bin 4 .eql .slice (.tmp 3) (.const (.nilSlice)))] [])
 (.cond (.tmp 4)
 (.seq (.region [.op 0 (.mov 2 (.const (.nilSlice)))] [])
 .ret)
 .skip))
 (.seq (.region [.op 0 (.buildSl 5 [.int .i64 0] 1 0 []),
 .op 1 (.mov 6 (.tmp 0)),
 .op 2 (.append 7 1 8 [.int .i64 0] false (.tmp 5) (.tmp 6)),
 .op 3 (.mov 2 (.tmp 7))] [])
 .ret))),
 [.tmp 2]⟩
theorem ok69 : funcOk Tryz.prog (drawOk Tryz.prog) Tryz.f69 A69 = true := by kernel_rfl
noncomputable def F69 (call : TCall) (args : List AVal) (h : TH) : KR := ans (U1 (fun a0 =>
 V (kEq .slice a0 (.nilSlice)) fun v1 =>
 C v1
 (.out 0 [(.nilSlice)] h)
 (V (aFill (reps [.int .i64 0] 0) []) fun c2 =>
 R (kAppend 1 8 [.int .i64 0] false (.slice h.next 0 0 0 1 true) a0 (h.alloc c2)) fun v3 h4 =>
 .out 0 [v3] h4)) args)
theorem st69 (call : TCall) (args : List AVal) (h : TH) : kFunc call A69 args h = F69 call args h := by kernel_rfl
noncomputable def A73 : AFunc := ⟨1, (.seq (.region [.op 0 (.box 1 true (.tmp 0)),
 .op 1 (.mov 2 (.const (.bool false)))] [])
 (.seq (.seq (.region [.op 0 (.faddr 3 0 (.tmp 1)),
 .op 1 (.load 4 false 1 (.tmp 3))] [])
 (.block 0 (.seq (.region [.op 0 (.bin 6 .eql .plain (.tmp 4) (.const (.int .i64 1))),
 .op 1 (.mov 5 (.tmp 6))] [])
 (.join [(.normal, ⟨[], [1]⟩)] (.cond (.tmp 5)
 (.region [.op 0 (.build 7 [.str [], .str []] []),
 .op 1 (.faddr 8 4 (.tmp 1)),
 .op 2 (.store false 1 (.tmp 8) (.const (.int .i64 0))),
 .op 3 (.faddr 9 1 (.tmp 1)),
 .op 4 (.store false 1 (.tmp 9) (.const (.int .i64 0))),
 .op 5 (.faddr 10 7 (.tmp 1)),
 .op 6 (.store true 2 (.tmp 10) (.tmp 7)),
 .op 7 (.faddr 11 5 (.tmp 1)),
 .op 8 (.store false 1 (.tmp 11) (.const (.int .i64 0))),
 .op 9 (.faddr 12 2 (.tmp 1)),
 .op 10 (.store false 1 (.tmp 12) (.const (.int .i64 0))),
 .op 11 (.faddr 13 6 (.tmp 1)),
 .op 12 (.store false 1 (.tmp 13) (.const (.int .i64 0)))] [])
 (.seq (.region [.op 0 (.bin 15 .eql .plain (.tmp 4) (.const (.int .i64 2))),
 .op 1 (.mov 14 (.tmp 15))] [])
 (.join [(.normal, ⟨[], [1]⟩)] (.cond (.tmp 14)
 (.region [.op 0 (.build 16 [.str [], .str []] []),
 .op 1 (.faddr 17 4 (.tmp 1)),
 .op 2 (.store false 1 (.tmp 17) (.const (.int .i64 0))),
 .op 3 (.faddr 18 1 (.tmp 1)),
 .op 4 (.store false 1 (.tmp 18) (.const (.int .i64 0))),
 .op 5 (.faddr 19 7 (.tmp 1)),
 .op 6 (.store true 2 (.tmp 19) (.tmp 16)),
 .op 7 (.faddr 20 3 (.tmp 1)),
 .op 8 (.store false 1 (.tmp 20) (.const (.int .i64 0))),
 .op 9 (.faddr 21 9 (.tmp 1)),
 .op 10 (.store false 1 (.tmp 21) (.const (.bool false))),
 .op 11 (.faddr 22 6 (.tmp 1)),
 .op 12 (.store false 1 (.tmp 22) (.const (.int .i64 0))),
 .op 13 (.faddr 23 10 (.tmp 1)),
 .op 14 (.store false 1 (.tmp 23) (.const (.int .u32 0))),
 .op 15 (.faddr 24 11 (.tmp 1)),
 .op 16 (.store false 1 (.tmp 24) (.const (.nilSlice)))] [])
 (.seq (.seq (.region [.op 0 (.bin 26 .eql .plain (.tmp 4) (.const (.int .i64 3))),
 .op 1 (.mov 25 (.tmp 26))] [])
 (.join [(.normal, ⟨[4, 25], [1]⟩)] (.cond (.tmp 25)
 .skip
 (.region [.op 0 (.bin 27 .eql .plain (.tmp 4) (.const (.int .i64 4))),
 .op 1 (.mov 25 (.tmp 27))] []))))
 (.join [(.normal, ⟨[], [1]⟩)] (.cond (.tmp 25)
 (.region [.op 0 (.faddr 28 11 (.tmp 1)),
 .op 1 (.store false 1 (.tmp 28) (.const (.nilSlice)))] [])
 (.seq (.region [.op 0 (.bin 30 .eql .plain (.tmp 4) (.const (.int .i64 5))),
 .op 1 (.mov 29 (.tmp 30))] [])
 (.join [(.normal, ⟨[], [1]⟩)] (.cond (.tmp 29)
 (.region [.op 0 (.faddr 31 12 (.tmp 1)),
 .op 1 (.store false 1 (.tmp 31) (.const (.nilSlice)))] [])
 .skip))))))))))))))
 (.seq (.region [.op 0 (.faddr 32 0 (.tmp 1)),
 .op 1 (.store false 1 (.tmp 32) (.const (.int .i64 0)))] [])
 (.seq (.region [.op 0 (.load 33 true 13 (.tmp 1)),
 .op 1 (.build 34 [.int .i64 0, .int .i64 0, .int .i64 0, .int .i64 0, .int .i64 0, .int .i64 0, .int .i64 0, .str [], .str [], .bool false, .int .u32 0, .nilSlice, .nilSlice] []),
 .op 2 (.call 35 106 [.tmp 33, .tmp 34]),
 .op 3 (.mov 2 (.tmp 35))] [])
 .ret)))),
 [.tmp 2]⟩
theorem ok73 : funcOk Tryz.prog (drawOk Tryz.prog) Tryz.f73 A73 = true := by kernel_rfl
noncomputable def F73 (call : TCall) (args : List AVal) (h : TH) : KR := ans (U1 (fun a0 =>
 V (kCellsQ a0) fun c1 =>
 V (kLdL c1 false 0 1) fun v2 =>
 V (kEql v2 (.int .i64 1)) fun v3 =>
 Jn (C v3
 (V (aFill [.str [], .str []] []) fun c4 =>
 V (kStL c1 4 1 (.int .i64 0)) fun c5 =>
 V (kStL c5 1 1 (.int .i64 0)) fun c6 =>
 V (kStL c6 7 2 (.agg c4)) fun c7 =>
 V (kStL c7 5 1 (.int .i64 0)) fun c8 =>
 V (kStL c8 2 1 (.int .i64 0)) fun c9 =>
 V (kStL c9 6 1 (.int .i64 0)) fun c10 =>
 .out 0 [(.agg c10)] h)
 (V (kEql v2 (.int .i64 2)) fun v11 =>
 Jn (C v11
 (V (aFill [.str [], .str []] []) fun c12 =>
 V (kStL c1 4 1 (.int .i64 0)) fun c13 =>
 V (kStL c13 1 1 (.int .i64 0)) fun c14 =>
 V (kStL c14 7 2 (.agg c12)) fun c15 =>
 V (kStL c15 3 1 (.int .i64 0)) fun c16 =>
 V (kStL c16 9 1 (.bool false)) fun c17 =>
 V (kStL c17 6 1 (.int .i64 0)) fun c18 =>
 V (kStL c18 10 1 (.int .u32 0)) fun c19 =>
 V (kStL c19 11 1 (.nilSlice)) fun c20 =>
 .out 0 [(.agg c20)] h)
 (V (kEql v2 (.int .i64 3)) fun v21 =>
 Jn (C v21
 (.out 0 [v2, v21, (.agg c1)] h)
 (V (kEql v2 (.int .i64 4)) fun v22 =>
 .out 0 [v2, v22, (.agg c1)] h)) fun i25 x24 h23 =>
 ifB (Nat.beq i25 0) (U3 (fun g26 g27 g28 =>
 Jn (C g27
 (V (kStL (kAggCells g28) 11 1 (.nilSlice)) fun c29 =>
 .out 0 [(.agg c29)] h23)
 (V (kEql g26 (.int .i64 5)) fun v30 =>
 Jn (C v30
 (V (kStL (kAggCells g28) 12 1 (.nilSlice)) fun c31 =>
 .out 0 [(.agg c31)] h23)
 (.out 0 [(.agg (kAggCells g28))] h23)) fun i34 x33 h32 =>
 ifB (Nat.beq i34 0) (U1 (fun g35 =>
 .out 0 [(.agg (kAggCells g35))] h32) x33) (
 .no))) fun i38 x37 h36 =>
 ifB (Nat.beq i38 0) (U1 (fun g39 =>
 .out 0 [(.agg (kAggCells g39))] h36) x37) (
 .no)) x24) (
 .no))) fun i42 x41 h40 =>
 ifB (Nat.beq i42 0) (U1 (fun g43 =>
 .out 0 [(.agg (kAggCells g43))] h40) x41) (
 .no))) fun i46 x45 h44 =>
 ifB (Nat.beq i46 0) (U1 (fun g47 =>
 V (kStL (kAggCells g47) 0 1 (.int .i64 0)) fun c48 =>
 V (kLdL c48 true 0 13) fun v49 =>
 V (aFill [.int .i64 0, .int .i64 0, .int .i64 0, .int .i64 0, .int .i64 0, .int .i64 0, .int .i64 0, .str [], .str [], .bool false, .int .u32 0, .nilSlice, .nilSlice] []) fun c50 =>
 R (call 106 [v49, (.agg c50)] h44) fun v51 h52 =>
 .out 0 [v51] h52) x45) (
 .no)) args)
theorem st73 (call : TCall) (args : List AVal) (h : TH) : kFunc call A73 args h = F73 call args h := by kernel_rfl
noncomputable def A74 : AFunc := ⟨1, (.seq (.region [.op 0 (.box 1 true (.tmp 0)),
 .op 1 (.mov 2 (.const (.bool false)))] [])
 (.seq (.block 0 (.seq (.region [.op 0 (.load 4 true 13 (.tmp 1)),
 .op 1 (.call 5 107 [.tmp 4]),
 .op 2 (.un 6 .not (.tmp 5)),
 .op 3 (.mov 3 (.tmp 6))] [])
 (.cond (.tmp 3)
 (.seq (.region [.op 0 (.mov 2 (.const (.bool true)))] [])
 .ret)
 (.seq (.region [.op 0 (.faddr 8 1 (.tmp 1)),
 .op 1 (.load 9 false 1 (.tmp 8)),
 .op 2 (.bin 10 .eql .plain (.tmp 9) (.const (.int .i64 5))),
 .op 3 (.mov 7 (.tmp 10))] [])
 (.cond (.tmp 7)
 (.seq (.region [.op 0 (.faddr 11 7 (.tmp 1)),
 .op 1 (.load 12 true 2 (.tmp 11)),
 .op 2 (.build 13 [.str [], .str []] []),
 .op 3 (.bin 14 .eql (.cells [2, 2]) (.tmp 12) (.tmp 13)),
 .op 4 (.mov 2 (.tmp 14))] [])
 .ret)
 .skip)))))
 (.seq (.region [.op 0 (.faddr 15 1 (.tmp 1)),
 .op 1 (.load 16 false 1 (.tmp 15)),
 .op 2 (.bin 17 .geq .plain (.tmp 16) (.const (.int .i64 1))),
 .op 3 (.mov 18 (.tmp 17)),
 .guard 18 true [.op 4 (.faddr 19 1 (.tmp 1)),
 .op 5 (.load 20 false 1 (.tmp 19)),
 .op 6 (.bin 21 .lss .plain (.tmp 20) (.const (.int .i64 5)))] [] [21],
 .op 7 (.pick 22 (.tmp 18) (.tmp 21) (.const (.bool false))),
 .op 8 (.mov 23 (.tmp 22)),
 .guard 23 true [.op 9 (.faddr 24 7 (.tmp 1)),
 .op 10 (.load 25 true 2 (.tmp 24)),
 .op 11 (.call 26 81 [.tmp 25])] [] [26],
 .op 12 (.pick 27 (.tmp 23) (.tmp 26) (.const (.bool false))),
 .op 13 (.mov 2 (.tmp 27))] [])
 .ret))),
 [.tmp 2]⟩
theorem ok74 : funcOk Tryz.prog (drawOk Tryz.prog) Tryz.f74 A74 = true := by kernel_rfl
noncomputable def F74 (call : TCall) (args : List AVal) (h : TH) : KR := ans (U1 (fun a0 =>
 V (kCellsQ a0) fun c1 =>
 V (kLdL c1 true 0 13) fun v2 =>
 R (call 107 [v2] h) fun v3 h4 =>
 V (kNot v3) fun v5 =>
 C v5
 (.out 0 [(.bool true)] h4)
 (V (kLdL c1 false 1 1) fun v6 =>
 V (kEql v6 (.int .i64 5)) fun v7 =>
 C v7
 (V (kLdL c1 true 7 2) fun v8 =>
 V (aFill [.str [], .str []] []) fun c9 =>
 V (kEq (.cells [2, 2]) v8 (.agg c9)) fun v10 =>
 .out 0 [v10] h4)
 (V (kLdL c1 false 1 1) fun v11 =>
 V (kGeq v11 (.int .i64 1)) fun v12 =>
 Jn (G v12 true
 (V (kLdL c1 false 1 1) fun v13 =>
 V (kLss v13 (.int .i64 5)) fun v14 =>
 .out 0 [v14] h4)
 (.out 0 [skipV] h4)) fun _ x16 h15 =>
 U1 (fun g17 =>
 V (kPick v12 g17 (.bool false)) fun v18 =>
 Jn (G v18 true
 (V (kLdL c1 true 7 2) fun v19 =>
 R (call 81 [v19] h15) fun v20 h21 =>
 .out 0 [v20] h21)
 (.out 0 [skipV] h15)) fun _ x23 h22 =>
 U1 (fun g24 =>
 V (kPick v18 g24 (.bool false)) fun v25 =>
 .out 0 [v25] h22) x23) x16))) args)
theorem st74 (call : TCall) (args : List AVal) (h : TH) : kFunc call A74 args h = F74 call args h := by kernel_rfl
noncomputable def A75 : AFunc := ⟨1, (.seq (.region [.op 0 (.mov 2 (.const (.bool false)))] [])
 (.seq (.region [.op 0 (.mov 3 (.tmp 0)),
 .op 1 (.bin 4 .geq .plain (.tmp 3) (.const (.int .i64 0))),
 .op 2 (.mov 5 (.tmp 4)),
 .guard 5 true [.op 3 (.mov 6 (.tmp 0)),
 .op 4 (.bin 7 .leq .plain (.tmp 6) (.const (.int .i64 255)))] [] [7],
 .op 5 (.pick 8 (.tmp 5) (.tmp 7) (.const (.bool false))),
 .op 6 (.mov 2 (.tmp 8))] [])
 .ret)),
 [.tmp 2]⟩
theorem ok75 : funcOk Tryz.prog (drawOk Tryz.prog) Tryz.f75 A75 = true := by kernel_rfl
noncomputable def F75 (call : TCall) (args : List AVal) (h : TH) : KR := ans (U1 (fun a0 =>
 V (kGeq a0 (.int .i64 0)) fun v1 =>
 Jn (G v1 true
 (V (kLeq a0 (.int .i64 255)) fun v2 =>
 .out 0 [v2] h)
 (.out 0 [skipV] h)) fun _ x4 h3 =>
 U1 (fun g5 =>
 V (kPick v1 g5 (.bool false)) fun v6 =>
 .out 0 [v6] h3) x4) args)
theorem st75 (call : TCall) (args : List AVal) (h : TH) : kFunc call A75 args h = F75 call args h := by kernel_rfl
noncomputable def A76 : AFunc := ⟨2, (.seq (.region [.op 0 (.mov 4 (.const (.bool false)))] [])
 (.seq (.region [.op 0 (.mov 5 (.tmp 0)),
 .op 1 (.mov 6 (.tmp 1)),
 .op 2 (.call 7 108 [.tmp 5, .tmp 6]),
 .op 3 (.bin 8 .geq .plain (.tmp 7) (.const (.int .i64 0))),
 .op 4 (.mov 4 (.tmp 8))] [])
 .ret)),
 [.tmp 4]⟩
theorem ok76 : funcOk Tryz.prog (drawOk Tryz.prog) Tryz.f76 A76 = true := by kernel_rfl
noncomputable def F76 (call : TCall) (args : List AVal) (h : TH) : KR := ans (U2 (fun a0 a1 =>
 R (call 108 [a0, a1] h) fun v1 h2 =>
 V (kGeq v1 (.int .i64 0)) fun v3 =>
 .out 0 [v3] h2) args)
theorem st76 (call : TCall) (args : List AVal) (h : TH) : kFunc call A76 args h = F76 call args h := by kernel_rfl
noncomputable def A77 : AFunc := ⟨1, (.seq (.region [.op 0 (.box 1 true (.tmp 0)),
 .op 1 (.mov 2 (.const (.bool false)))] [])
 (.seq (.region [.op 0 (.load 3 true 9 (.tmp 1)),
 .op 1 (.call 4 78 [.tmp 3]),
 .op 2 (.un 5 .not (.tmp 4)),
 .op 3 (.mov 2 (.tmp 5))] [])
 .ret)),
 [.tmp 2]⟩
theorem ok77 : funcOk Tryz.prog (drawOk Tryz.prog) Tryz.f77 A77 = true := by kernel_rfl
noncomputable def F77 (call : TCall) (args : List AVal) (h : TH) : KR := ans (U1 (fun a0 =>
 V (kCellsQ a0) fun c1 =>
 V (kLdL c1 true 0 9) fun v2 =>
 R (call 78 [v2] h) fun v3 h4 =>
 V (kNot v3) fun v5 =>
 .out 0 [v5] h4) args)
theorem st77 (call : TCall) (args : List AVal) (h : TH) : kFunc call A77 args h = F77 call args h := by kernel_rfl
noncomputable def A78 : AFunc := ⟨1, (.seq (.region [.op 0 (.box 1 true (.tmp 0)),
 .op 1 (.mov 2 (.const (.bool false)))] [])
 (.seq (.block 0 (.seq (.region [.op 0 (.faddr 4 0 (.tmp 1)),
 .op 1 (.faddr 5 0 (.tmp 4)),
 .op 2 (.load 6 false 1 (.tmp 5)),
 .op 3 (.call 7 99 [.tmp 6]),
 .op 4 (.un 8 .not (.tmp 7)),
 .op 5 (.mov 9 (.tmp 8)),
 .guard 9 false [.op 6 (.faddr 10 0 (.tmp 1)),
 .op 7 (.faddr 11 1 (.tmp 10)),
 .op 8 (.load 12 false 1 (.tmp 11)),
 .op 9 (.call 13 99 [.tmp 12]),
 .op 10 (.un 14 .not (.tmp 13))] [] [14],
 .op 11 (.pick 15 (.tmp 9) (.const (.bool true)) (.tmp 14)),
 .op 12 (.mov 3 (.tmp 15))] [])
 (.cond (.tmp 3)
 (.seq (.region [.op 0 (.mov 2 (.const (.bool false)))] [])
 .ret)
 (.seq (.region [.op 0 (.faddr 17 2 (.tmp 1)),
 .op 1 (.load 18 false 1 (.tmp 17)),
 .op 2 (.bin 19 .neq .plain (.tmp 18) (.const (.int .i64 1))),
 .op 3 (.mov 20 (.tmp 19)),
 .guard 20 true [.op 4 (.faddr 21 2 (.tmp 1)),
 .op 5 (.load 22 false 1 (.tmp 21)),
 .op 6 (.bin 23 .neq .plain (.tmp 22) (.const (.int .i64 2)))] [] [23],
 .op 7 (.pick 24 (.tmp 20) (.tmp 23) (.const (.bool false))),
 .op 8 (.mov 16 (.tmp 24))] [])
 (.cond (.tmp 16)
 (.seq (.region [.op 0 (.mov 2 (.const (.bool false)))] [])
 .ret)
 (.seq (.region [.op 0 (.faddr 26 3 (.tmp 1)),
 .op 1 (.load 27 false 1 (.tmp 26)),
 .op 2 (.bin 28 .lss .plain (.tmp 27) (.const (.int .i64 0))),
 .op 3 (.mov 29 (.tmp 28)),
 .guard 29 false [.op 4 (.faddr 30 3 (.tmp 1)),
 .op 5 (.load 31 false 1 (.tmp 30)),
 .op 6 (.bin 32 .gtr .plain (.tmp 31) (.const (.int .i64 3)))] [] [32],
 .op 7 (.pick 33 (.tmp 29) (.const (.bool true)) (.tmp 32)),
 .op 8 (.mov 25 (.tmp 33))] [])
 (.cond (.tmp 25)
 (.seq (.region [.op 0 (.mov 2 (.const (.bool false)))] [])
 .ret)
 .skip)))))))
 (.seq (.region [.op 0 (.faddr 34 4 (.tmp 1)),
 .op 1 (.load 35 false 1 (.tmp 34)),
 .op 2 (.bin 36 .geq .plain (.tmp 35) (.const (.int .i64 1))),
 .op 3 (.mov 37 (.tmp 36)),
 .guard 37 true [.op 4 (.faddr 38 4 (.tmp 1)),
 .op 5 (.load 39 false 1 (.tmp 38)),
 .op 6 (.bin 40 .leq .plain (.tmp 39) (.const (.int .i64 1048576)))] [] [40],
 .op 7 (.pick 41 (.tmp 37) (.tmp 40) (.const (.bool false))),
 .op 8 (.mov 42 (.tmp 41)),
 .guard 42 true [.op 9 (.faddr 43 5 (.tmp 1)),
 .op 10 (.load 44 true 3 (.tmp 43)),
 .op 11 (.call 45 109 [.tmp 44])] [] [45],
 .op 12 (.pick 46 (.tmp 42) (.tmp 45) (.const (.bool false))),
 .op 13 (.mov 2 (.tmp 46))] [])
 .ret))),
 [.tmp 2]⟩
theorem ok78 : funcOk Tryz.prog (drawOk Tryz.prog) Tryz.f78 A78 = true := by kernel_rfl
noncomputable def F78 (call : TCall) (args : List AVal) (h : TH) : KR := ans (U1 (fun a0 =>
 V (kCellsQ a0) fun c1 =>
 V (kLdL c1 false 0 1) fun v2 =>
 R (call 99 [v2] h) fun v3 h4 =>
 V (kNot v3) fun v5 =>
 Jn (G v5 false
 (V (kLdL c1 false 1 1) fun v6 =>
 R (call 99 [v6] h4) fun v7 h8 =>
 V (kNot v7) fun v9 =>
 .out 0 [v9] h8)
 (.out 0 [skipV] h4)) fun _ x11 h10 =>
 U1 (fun g12 =>
 V (kPick v5 (.bool true) g12) fun v13 =>
 C v13
 (.out 0 [(.bool false)] h10)
 (V (kLdL c1 false 2 1) fun v14 =>
 V (kNeq v14 (.int .i64 1)) fun v15 =>
 Jn (G v15 true
 (V (kLdL c1 false 2 1) fun v16 =>
 V (kNeq v16 (.int .i64 2)) fun v17 =>
 .out 0 [v17] h10)
 (.out 0 [skipV] h10)) fun _ x19 h18 =>
 U1 (fun g20 =>
 V (kPick v15 g20 (.bool false)) fun v21 =>
 C v21
 (.out 0 [(.bool false)] h18)
 (V (kLdL c1 false 3 1) fun v22 =>
 V (kLss v22 (.int .i64 0)) fun v23 =>
 Jn (G v23 false
 (V (kLdL c1 false 3 1) fun v24 =>
 V (kGtr v24 (.int .i64 3)) fun v25 =>
 .out 0 [v25] h18)
 (.out 0 [skipV] h18)) fun _ x27 h26 =>
 U1 (fun g28 =>
 V (kPick v23 (.bool true) g28) fun v29 =>
 C v29
 (.out 0 [(.bool false)] h26)
 (V (kLdL c1 false 4 1) fun v30 =>
 V (kGeq v30 (.int .i64 1)) fun v31 =>
 Jn (G v31 true
 (V (kLdL c1 false 4 1) fun v32 =>
 V (kLeq v32 (.int .i64 1048576)) fun v33 =>
 .out 0 [v33] h26)
 (.out 0 [skipV] h26)) fun _ x35 h34 =>
 U1 (fun g36 =>
 V (kPick v31 g36 (.bool false)) fun v37 =>
 Jn (G v37 true
 (V (kLdL c1 true 5 3) fun v38 =>
 R (call 109 [v38] h34) fun v39 h40 =>
 .out 0 [v39] h40)
 (.out 0 [skipV] h34)) fun _ x42 h41 =>
 U1 (fun g43 =>
 V (kPick v37 g43 (.bool false)) fun v44 =>
 .out 0 [v44] h41) x42) x35)) x27)) x19)) x11) args)
theorem st78 (call : TCall) (args : List AVal) (h : TH) : kFunc call A78 args h = F78 call args h := by kernel_rfl
noncomputable def A79 : AFunc := ⟨2, (.seq (.region [.op 0 (.mov 4 (.const (.bool false)))] [])
 (.seq (.region [.op 0 (.mov 5 (.tmp 0)),
 .op 1 (.mov 6 (.tmp 1)),
 .op 2 (.call 7 110 [.tmp 5, .tmp 6]),
 .op 3 (.bin 8 .geq .plain (.tmp 7) (.const (.int .i64 0))),
 .op 4 (.mov 4 (.tmp 8))] [])
 .ret)),
 [.tmp 4]⟩
theorem ok79 : funcOk Tryz.prog (drawOk Tryz.prog) Tryz.f79 A79 = true := by kernel_rfl
noncomputable def F79 (call : TCall) (args : List AVal) (h : TH) : KR := ans (U2 (fun a0 a1 =>
 R (call 110 [a0, a1] h) fun v1 h2 =>
 V (kGeq v1 (.int .i64 0)) fun v3 =>
 .out 0 [v3] h2) args)
theorem st79 (call : TCall) (args : List AVal) (h : TH) : kFunc call A79 args h = F79 call args h := by kernel_rfl
noncomputable def A81 : AFunc := ⟨1, (.seq (.region [.op 0 (.box 1 true (.tmp 0)),
 .op 1 (.mov 2 (.const (.bool false)))] [])
 (.seq (.region [.op 0 (.faddr 3 0 (.tmp 1)),
 .op 1 (.load 4 false 1 (.tmp 3)),
 .op 2 (.call 5 99 [.tmp 4]),
 .op 3 (.mov 6 (.tmp 5)),
 .guard 6 true [.op 4 (.faddr 7 1 (.tmp 1)),
 .op 5 (.load 8 false 1 (.tmp 7)),
 .op 6 (.call 9 99 [.tmp 8])] [] [9],
 .op 7 (.pick 10 (.tmp 6) (.tmp 9) (.const (.bool false))),
 .op 8 (.mov 2 (.tmp 10))] [])
 .ret)),
 [.tmp 2]⟩
theorem ok81 : funcOk Tryz.prog (drawOk Tryz.prog) Tryz.f81 A81 = true := by kernel_rfl
noncomputable def F81 (call : TCall) (args : List AVal) (h : TH) : KR := ans (U1 (fun a0 =>
 V (kCellsQ a0) fun c1 =>
 V (kLdL c1 false 0 1) fun v2 =>
 R (call 99 [v2] h) fun v3 h4 =>
 Jn (G v3 true
 (V (kLdL c1 false 1 1) fun v5 =>
 R (call 99 [v5] h4) fun v6 h7 =>
 .out 0 [v6] h7)
 (.out 0 [skipV] h4)) fun _ x9 h8 =>
 U1 (fun g10 =>
 V (kPick v3 g10 (.bool false)) fun v11 =>
 .out 0 [v11] h8) x9) args)
theorem st81 (call : TCall) (args : List AVal) (h : TH) : kFunc call A81 args h = F81 call args h := by kernel_rfl
noncomputable def A82 : AFunc := ⟨2, (.seq (.region [.op 0 (.box 3 true (.tmp 1)),
 .op 1 (.alloc 4 true [.int .i64 0, .int .i64 0, .int .i64 0, .int .i64 0, .int .i64 0, .int .i64 0, .int .i64 0, .str [], .str [], .bool false, .int .u32 0, .nilSlice, .nilSlice])] [])
 (.seq (.regionF 1 [.op 0 (.mov 6 (.tmp 0)),
 .op 1 (.nilchk 7 (.tmp 6)),
 .op 2 (.faddr 8 4 (.tmp 7)),
 .op 3 (.load 9 false 1 (.tmp 8)),
 .op 4 (.mov 10 (.tmp 0)),
 .op 5 (.nilchk 11 (.tmp 10)),
 .op 6 (.faddr 12 6 (.tmp 11)),
 .op 7 (.load 13 false 1 (.tmp 12)),
 .op 8 (.call 14 111 [.tmp 9, .tmp 13]),
 .op 9 (.fl 5 0 none [.int .i64 0, .int .i64 0, .int .i64 0, .int .i64 0, .int .i64 0, .int .i64 0, .int .i64 0, .str [], .str [], .bool false, .int .u32 0, .nilSlice, .nilSlice] []),
 .op 10 (.store true 13 (.tmp 5) (.tmp 14))] [])
 (.seq (.seq (.region [.op 0 (.faddr 15 6 (.tmp 3)),
 .op 1 (.load 16 false 1 (.tmp 15)),
 .op 2 (.bin 17 .neq .plain (.tmp 16) (.const (.int .i64 (-1))))] [])
 (.join [(.normal, ⟨[5], [3, 4]⟩)] (.cond (.tmp 17)
 (.region [.op 0 (.mov 18 (.tmp 0)),
 .op 1 (.nilchk 19 (.tmp 18)),
 .op 2 (.faddr 20 4 (.tmp 19)),
 .op 3 (.load 21 false 1 (.tmp 20)),
 .op 4 (.mov 22 (.tmp 0)),
 .op 5 (.nilchk 23 (.tmp 22)),
 .op 6 (.faddr 24 6 (.tmp 23)),
 .op 7 (.load 25 false 1 (.tmp 24)),
 .op 8 (.faddr 26 6 (.tmp 3)),
 .op 9 (.load 27 false 1 (.tmp 26)),
 .op 10 (.call 28 112 [.tmp 21, .tmp 25, .tmp 27]),
 .op 11 (.store true 13 (.tmp 5) (.tmp 28))] [])
 .skip)))
 (.seq (.region [.op 0 (.faddr 29 4 (.tmp 3)),
 .op 1 (.load 30 false 1 (.tmp 29)),
 .op 2 (.faddr 31 4 (.tmp 5)),
 .op 3 (.store false 1 (.tmp 31) (.tmp 30))] [])
 (.seq (.region [.op 0 (.load 32 true 13 (.tmp 5)),
 .op 1 (.store true 13 (.tmp 4) (.tmp 32))] [])
 .ret))))),
 [.cell 4 true 13]⟩
theorem ok82 : funcOk Tryz.prog (drawOk Tryz.prog) Tryz.f82 A82 = true := by kernel_rfl
noncomputable def F82 (call : TCall) (args : List AVal) (h : TH) : KR := ans (U2 (fun a0 a1 =>
 V (kCellsQ a1) fun c1 =>
 V (kNil a0) fun v2 =>
 V (kFaddr 4 v2) fun v3 =>
 V (kLd1 (h.res 1) v3) fun v4 =>
 V (kNil a0) fun v5 =>
 V (kFaddr 6 v5) fun v6 =>
 V (kLd1 (h.res 1) v6) fun v7 =>
 R (call 111 [v4, v7] (h.res 1)) fun v8 h9 =>
 V (kSt (h9.setBlk (h.next + 0) (some ⟨[.int .i64 0, .int .i64 0, .int .i64 0, .int .i64 0, .int .i64 0, .int .i64 0, .int .i64 0, .str [], .str [], .bool false, .int .u32 0, .nilSlice, .nilSlice], true⟩)) 13 (.ptr (h.next + 0) 0) v8) fun h10 =>
 V (kLdL c1 false 6 1) fun v11 =>
 V (kNeq v11 (.int .i64 (-1))) fun v12 =>
 Jn (C v12
 (V (kNil a0) fun v13 =>
 V (kFaddr 4 v13) fun v14 =>
 V (kLd1 h10 v14) fun v15 =>
 V (kNil a0) fun v16 =>
 V (kFaddr 6 v16) fun v17 =>
 V (kLd1 h10 v17) fun v18 =>
 V (kLdL c1 false 6 1) fun v19 =>
 R (call 112 [v15, v18, v19] h10) fun v20 h21 =>
 V (kSt h21 13 (.ptr (h.next + 0) 0) v20) fun h22 =>
 .out 0 [(.ptr (h.next + 0) 0), (.agg c1), (.agg [.int .i64 0, .int .i64 0, .int .i64 0, .int .i64 0, .int .i64 0, .int .i64 0, .int .i64 0, .str [], .str [], .bool false, .int .u32 0, .nilSlice, .nilSlice])] h22)
 (.out 0 [(.ptr (h.next + 0) 0), (.agg c1), (.agg [.int .i64 0, .int .i64 0, .int .i64 0, .int .i64 0, .int .i64 0, .int .i64 0, .int .i64 0, .str [], .str [], .bool false, .int .u32 0, .nilSlice, .nilSlice])] h10)) fun i25 x24 h23 =>
 ifB (Nat.beq i25 0) (U3 (fun g26 g27 g28 =>
 V (kLdL (kAggCells g27) false 4 1) fun v29 =>
 V (kFaddr 4 g26) fun v30 =>
 V (kSt h23 1 v30 v29) fun h31 =>
 V (kLdA h31 13 g26) fun v32 =>
 V (kStL (kAggCells g28) 0 13 v32) fun c33 =>
 V (kLdL c33 true 0 13) fun v34 =>
 .out 0 [v34] h31) x24) (
 .no)) args)
theorem st82 (call : TCall) (args : List AVal) (h : TH) : kFunc call A82 args h = F82 call args h := by kernel_rfl
noncomputable def A83 : AFunc := ⟨3, (.seq (.region [.op 0 (.box 4 true (.tmp 1)),
 .op 1 (.mov 6 (.const (.nilSlice))),
 .op 2 (.mov 7 (.const (.int .i64 0)))] [])
 (.seq (.regionF 1 [.op 0 (.mov 16 (.tmp 0)),
 .op 1 (.nilchk 17 (.tmp 16)),
 .op 2 (.faddr 18 4 (.tmp 17)),
 .op 3 (.load 19 false 1 (.tmp 18)),
 .op 4 (.faddr 20 7 (.tmp 4)),
 .op 5 (.load 21 true 2 (.tmp 20)),
 .op 6 (.call 22 85 [.tmp 19, .tmp 21]),
 .op 7 (.mov 15 (.tmp 22)),
 .op 8 (.extract 23 (.tmp 15) 0),
 .op 9 (.extract 24 (.tmp 15) 1),
 .op 10 (.fl 8 0 none [.str [], .str [], .int .i64 0, .int .i64 0, .int .i64 0, .int .i64 0, .int .i64 0, .int .i64 0, .bool false, .int .i64 0] []),
 .op 11 (.store true 10 (.tmp 8) (.tmp 23)),
 .op 12 (.mov 9 (.tmp 24))] [])
 (.seq (.region [.op 0 (.mov 25 (.tmp 9)),
 .op 1 (.mov 26 (.tmp 25)),
 .guard 26 true [.op 2 (.faddr 27 0 (.tmp 8)),
 .op 3 (.faddr 28 8 (.tmp 27)),
 .op 4 (.load 29 false 1 (.tmp 28)),
 .op 5 (.un 30 .not (.tmp 29))] [] [30],
 .op 6 (.pick 31 (.tmp 26) (.tmp 30) (.const (.bool false))),
 .op 7 (.mov 10 (.tmp 31))] [])
 (.seq (.block 0 (.seq (.region [.op 0 (.faddr 33 1 (.tmp 4)),
 .op 1 (.load 34 false 1 (.tmp 33)),
 .op 2 (.bin 35 .eql .plain (.tmp 34) (.const (.int .i64 1))),
 .op 3 (.mov 32 (.tmp 35))] [])
 (.cond (.tmp 32)
 (.seq (.region [.op 0 (.mov 36 (.tmp 0)),
 .op 1 (.load 37 true 13 (.tmp 4)),
 .op 2 (.load 38 true 10 (.tmp 8)),
 .op 3 (.mov 39 (.tmp 9)),
 .op 4 (.mov 40 (.tmp 2)),
 .op 5 (.call 41 113 [.tmp 36, .tmp 37, .tmp 38, .tmp 39, .tmp 40]),
 .op 6 (.extract 42 (.tmp 41) 0),
 .op 7 (.extract 43 (.tmp 41) 1),
 .op 8 (.mov 6 (.tmp 42)),
 .op 9 (.mov 7 (.tmp 43))] [])
 .ret)
 (.seq (.region [.op 0 (.faddr 45 1 (.tmp 4)),
 .op 1 (.load 46 false 1 (.tmp 45)),
 .op 2 (.bin 47 .eql .plain (.tmp 46) (.const (.int .i64 4))),
 .op 3 (.mov 48 (.tmp 47)),
 .guard 48 true [.op 4 (.faddr 49 2 (.tmp 4)),
 .op 5 (.load 50 false 1 (.tmp 49)),
 .op 6 (.bin 51 .gtr .plain (.tmp 50) (.const (.int .i64 3)))] [] [51],
 .op 7 (.pick 52 (.tmp 48) (.tmp 51) (.const (.bool false))),
 .op 8 (.mov 44 (.tmp 52))] [])
 (.cond (.tmp 44)
 (.seq (.region [.op 0 (.mov 6 (.const (.nilSlice))),
 .op 1 (.mov 7 (.const (.int .i64 1)))] [])
 .ret)
 (.seq (.region [.op 0 (.mov 54 (.tmp 10)),
 .op 1 (.un 55 .not (.tmp 54)),
 .op 2 (.mov 53 (.tmp 55))] [])
 (.cond (.tmp 53)
 (.seq (.region [.op 0 (.mov 6 (.const (.nilSlice))),
 .op 1 (.mov 7 (.const (.int .i64 22)))] [])
 .ret)
 (.seq (.region [.op 0 (.faddr 57 1 (.tmp 4)),
 .op 1 (.load 58 false 1 (.tmp 57)),
 .op 2 (.bin 59 .eql .plain (.tmp 58) (.const (.int .i64 2))),
 .op 3 (.mov 56 (.tmp 59))] [])
 (.cond (.tmp 56)
 (.seq (.region [.op 0 (.load 61 true 10 (.tmp 8)),
 .op 1 (.mov 62 (.tmp 2)),
 .op 2 (.call 63 114 [.tmp 61, .tmp 62]),
 .op 3 (.mov 60 (.tmp 63)),
 .op 4 (.extract 64 (.tmp 60) 0),
 .op 5 (.extract 65 (.tmp 60) 1),
 .op 6 (.alloc 11 true [.str [], .str [], .int .i64 0, .int .i64 0, .int .i64 0, .int .i64 0, .int .i64 0, .int .i64 0, .bool false, .int .i64 0]),
 .op 7 (.store true 10 (.tmp 11) (.tmp 64)),
 .op 8 (.mov 12 (.tmp 65))] [])
 (.seq (.region [.op 0 (.mov 66 (.tmp 0)),
 .op 1 (.nilchk 67 (.tmp 66)),
 .op 2 (.faddr 68 5 (.tmp 67)),
 .op 3 (.load 69 false 1 (.tmp 68)),
 .op 4 (.call 70 115 [.tmp 69])] [])
 (.seq (.region [.op 0 (.mov 71 (.tmp 0)),
 .op 1 (.nilchk 72 (.tmp 71)),
 .op 2 (.faddr 73 4 (.tmp 72)),
 .op 3 (.load 74 false 1 (.tmp 73)),
 .op 4 (.load 75 true 10 (.tmp 11)),
 .op 5 (.call 76 88 [.tmp 74, .tmp 75]),
 .op 6 (.mov 6 (.const (.nilSlice))),
 .op 7 (.mov 7 (.tmp 76))] [])
 .ret)))
 .skip)))))))))
 (.seq (.regionF 1 [.op 0 (.load 78 true 10 (.tmp 8)),
 .op 1 (.mov 79 (.tmp 0)),
 .op 2 (.faddr 80 0 (.tmp 8)),
 .op 3 (.load 81 true 9 (.tmp 80)),
 .op 4 (.mov 82 (.tmp 2)),
 .op 5 (.call 83 117 [.tmp 79, .tmp 81, .tmp 82]),
 .op 6 (.mov 84 (.tmp 2)),
 .op 7 (.call 85 116 [.tmp 78, .tmp 83, .tmp 84]),
 .op 8 (.mov 77 (.tmp 85)),
 .op 9 (.extract 86 (.tmp 77) 0),
 .op 10 (.extract 87 (.tmp 77) 1),
 .op 11 (.fl 13 0 none [.str [], .str [], .int .i64 0, .int .i64 0, .int .i64 0, .int .i64 0, .int .i64 0, .int .i64 0, .bool false, .int .i64 0] []),
 .op 12 (.store true 10 (.tmp 13) (.tmp 86)),
 .op 13 (.mov 14 (.tmp 87))] [(0, 5)])
 (.seq (.seq (.region [.op 0 (.faddr 88 1 (.tmp 4)),
 .op 1 (.load 89 false 1 (.tmp 88)),
 .op 2 (.bin 90 .eql .plain (.tmp 89) (.const (.int .i64 4)))] [])
 (.join [(.normal, ⟨[0, 13], []⟩)] (.cond (.tmp 90)
 (.region [.op 0 (.load 92 true 10 (.tmp 8)),
 .op 1 (.faddr 93 2 (.tmp 4)),
 .op 2 (.load 94 false 1 (.tmp 93)),
 .op 3 (.mov 95 (.tmp 0)),
 .op 4 (.faddr 96 0 (.tmp 8)),
 .op 5 (.load 97 true 9 (.tmp 96)),
 .op 6 (.mov 98 (.tmp 2)),
 .op 7 (.call 99 117 [.tmp 95, .tmp 97, .tmp 98]),
 .op 8 (.call 100 118 [.tmp 92, .tmp 94, .tmp 99]),
 .op 9 (.mov 91 (.tmp 100)),
 .op 10 (.extract 101 (.tmp 91) 0),
 .op 11 (.extract 102 (.tmp 91) 1),
 .op 12 (.store true 10 (.tmp 13) (.tmp 101))] [(0, 7), (2, 7)])
 .skip)))
 (.seq (.region [.op 0 (.mov 103 (.tmp 0)),
 .op 1 (.load 104 true 10 (.tmp 13)),
 .op 2 (.call 105 119 [.tmp 103, .tmp 104]),
 .op 3 (.extract 106 (.tmp 105) 0),
 .op 4 (.extract 107 (.tmp 105) 1),
 .op 5 (.mov 6 (.tmp 106)),
 .op 6 (.mov 7 (.tmp 107))] [])
 .ret))))))),
 [.tmp 6, .tmp 7]⟩
theorem ok83 : funcOk Tryz.prog (drawOk Tryz.prog) Tryz.f83 A83 = true := by kernel_rfl
noncomputable def F83 (call : TCall) (args : List AVal) (h : TH) : KR := ans (U3 (fun a0 a1 a2 =>
 V (kCellsQ a1) fun c1 =>
 V (kNil a0) fun v2 =>
 V (kFaddr 4 v2) fun v3 =>
 V (kLd1 (h.res 1) v3) fun v4 =>
 V (kLdL c1 true 7 2) fun v5 =>
 R (call 85 [v4, v5] (h.res 1)) fun v6 h7 =>
 V (kExtract 0 v6) fun v8 =>
 V (kExtract 1 v6) fun v9 =>
 V (kSt (h7.setBlk (h.next + 0) (some ⟨[.str [], .str [], .int .i64 0, .int .i64 0, .int .i64 0, .int .i64 0, .int .i64 0, .int .i64 0, .bool false, .int .i64 0], true⟩)) 10 (.ptr (h.next + 0) 0) v8) fun h10 =>
 Jn (G v9 true
 (V (kFaddr 0 (.ptr (h.next + 0) 0)) fun v11 =>
 V (kFaddr 8 v11) fun v12 =>
 V (kLd1 h10 v12) fun v13 =>
 V (kNot v13) fun v14 =>
 .out 0 [v14] h10)
 (.out 0 [skipV] h10)) fun _ x16 h15 =>
 U1 (fun g17 =>
 V (kPick v9 g17 (.bool false)) fun v18 =>
 V (kLdL c1 false 1 1) fun v19 =>
 V (kEql v19 (.int .i64 1)) fun v20 =>
 C v20
 (V (kLdL c1 true 0 13) fun v21 =>
 V (kLdA h15 10 (.ptr (h.next + 0) 0)) fun v22 =>
 R (call 113 [a0, v21, v22, v9, a2] h15) fun v23 h24 =>
 V (kExtract 0 v23) fun v25 =>
 V (kExtract 1 v23) fun v26 =>
 .out 0 [.tuple [v25, v26]] h24)
 (V (kLdL c1 false 1 1) fun v27 =>
 V (kEql v27 (.int .i64 4)) fun v28 =>
 Jn (G v28 true
 (V (kLdL c1 false 2 1) fun v29 =>
 V (kGtr v29 (.int .i64 3)) fun v30 =>
 .out 0 [v30] h15)
 (.out 0 [skipV] h15)) fun _ x32 h31 =>
 U1 (fun g33 =>
 V (kPick v28 g33 (.bool false)) fun v34 =>
 C v34
 (.out 0 [.tuple [(.nilSlice), (.int .i64 1)]] h31)
 (V (kNot v18) fun v35 =>
 C v35
 (.out 0 [.tuple [(.nilSlice), (.int .i64 22)]] h31)
 (V (kLdL c1 false 1 1) fun v36 =>
 V (kEql v36 (.int .i64 2)) fun v37 =>
 C v37
 (V (kLdA h31 10 (.ptr (h.next + 0) 0)) fun v38 =>
 R (call 114 [v38, a2] h31) fun v39 h40 =>
 V (kExtract 0 v39) fun v41 =>
 V (kExtract 1 v39) fun v42 =>
 V (kStL [.str [], .str [], .int .i64 0, .int .i64 0, .int .i64 0, .int .i64 0, .int .i64 0, .int .i64 0, .bool false, .int .i64 0] 0 10 v41) fun c43 =>
 V (kNil a0) fun v44 =>
 V (kFaddr 5 v44) fun v45 =>
 V (kLd1 h40 v45) fun v46 =>
 R (call 115 [v46] h40) fun v47 h48 =>
 V (kNil a0) fun v49 =>
 V (kFaddr 4 v49) fun v50 =>
 V (kLd1 h48 v50) fun v51 =>
 V (kLdL c43 true 0 10) fun v52 =>
 R (call 88 [v51, v52] h48) fun v53 h54 =>
 .out 0 [.tuple [(.nilSlice), v53]] h54)
 (V (kLdA (h31.res 1) 10 (.ptr (h.next + 0) 0)) fun v55 =>
 V (kFaddr 0 (.ptr (h.next + 0) 0)) fun v56 =>
 V (kLdA (h31.res 1) 9 v56) fun v57 =>
 R (call 117 [a0, v57, a2] (h31.res 1)) fun v58 h59 =>
 R (call 116 [v55, v58, a2] h59) fun v60 h61 =>
 V (kExtract 0 v60) fun v62 =>
 V (kExtract 1 v60) fun v63 =>
 V (kSt (h61.setBlk (h31.next + 0) (some ⟨[.str [], .str [], .int .i64 0, .int .i64 0, .int .i64 0, .int .i64 0, .int .i64 0, .int .i64 0, .bool false, .int .i64 0], true⟩)) 10 (.ptr (h31.next + 0) 0) v62) fun h64 =>
 ifB (kCheck [(5, some (.ef [(4, c1)] (h31.res 1) [(4, c1)] h59)), (0, kLogRd (.ptr (h.next + 0) 0) 10)] [(0, 5)]) (V (kLdL c1 false 1 1) fun v65 =>
 V (kEql v65 (.int .i64 4)) fun v66 =>
 Jn (C v66
 (V (kLdA h64 10 (.ptr (h.next + 0) 0)) fun v67 =>
 V (kLdL c1 false 2 1) fun v68 =>
 V (kFaddr 0 (.ptr (h.next + 0) 0)) fun v69 =>
 V (kLdA h64 9 v69) fun v70 =>
 R (call 117 [a0, v70, a2] h64) fun v71 h72 =>
 R (call 118 [v67, v68, v71] h72) fun v73 h74 =>
 V (kExtract 0 v73) fun v75 =>
 V (kExtract 1 v73) fun v76 =>
 V (kSt h74 10 (.ptr (h31.next + 0) 0) v75) fun h77 =>
 ifB (kCheck [(7, some (.ef [(4, c1)] h64 [(4, c1)] h72)), (2, some (.lrd 4 2 1)), (0, kLogRd (.ptr (h.next + 0) 0) 10)] [(0, 7), (2, 7)]) (.out 0 [a0, (.ptr (h31.next + 0) 0)] h77) .no)
 (.out 0 [a0, (.ptr (h31.next + 0) 0)] h64)) fun i80 x79 h78 =>
 ifB (Nat.beq i80 0) (U2 (fun g81 g82 =>
 V (kLdA h78 10 g82) fun v83 =>
 R (call 119 [g81, v83] h78) fun v84 h85 =>
 V (kExtract 0 v84) fun v86 =>
 V (kExtract 1 v84) fun v87 =>
 .out 0 [.tuple [v86, v87]] h85) x79) (
 .no)) .no)))) x32)) x16) args)
theorem st83 (call : TCall) (args : List AVal) (h : TH) : kFunc call A83 args h = F83 call args h := by kernel_rfl
noncomputable def A84 : AFunc := ⟨3, (.seq (.region [.op 0 (.box 5 false (.tmp 2))] [])
 (.seq (.region [.op 0 (.mov 7 (.tmp 0)),
 .op 1 (.nilchk 8 (.tmp 7)),
 .op 2 (.faddr 9 1 (.tmp 8)),
 .op 3 (.load 10 false 1 (.tmp 9)),
 .op 4 (.mov 11 (.tmp 1)),
 .op 5 (.iaddr 12 none 1 (.tmp 10) (.tmp 11)),
 .op 6 (.load 13 false 1 (.tmp 12)),
 .op 7 (.mkFunc 14 121 [.tmp 5]),
 .op 8 (.call 15 120 [.tmp 13, .tmp 14]),
 .op 9 (.mov 6 (.tmp 15))] [])
 (.seq (.region [.op 0 (.mov 16 (.tmp 6)),
 .op 1 (.load 17 true 9 (.tmp 5)),
 .op 2 (.buildSl 18 [.str [], .str [], .int .i64 0, .int .i64 0, .int .i64 0, .int .i64 0, .int .i64 0, .int .i64 0, .bool false] 9 1 [(0, .tmp 17)]),
 .op 3 (.append 19 9 88 [.str [], .str [], .int .i64 0, .int .i64 0, .int .i64 0, .int .i64 0, .int .i64 0, .int .i64 0, .bool false] false (.tmp 16) (.tmp 18)),
 .op 4 (.mov 6 (.tmp 19))] [])
 (.seq (.seq (.region [.op 0 (.mov 20 (.tmp 6)),
 .op 1 (.len 21 false (.tmp 20)),
 .op 2 (.bin 22 .gtr .plain (.tmp 21) (.const (.int .i64 16)))] [])
 (.join [(.normal, ⟨[0, 1, 6], []⟩)] (.cond (.tmp 22)
 (.seq (.region [.op 0 (.mov 23 (.tmp 6)),
 .op 1 (.call 24 122 [.tmp 23, .const (.int .i64 0), .const (.int .i64 1)]),
 .op 2 (.mov 6 (.tmp 24))] [])
 (.region [.op 0 (.mov 25 (.tmp 0)),
 .op 1 (.nilchk 26 (.tmp 25)),
 .op 2 (.faddr 27 2 (.tmp 26)),
 .op 3 (.load 28 false 1 (.tmp 27)),
 .op 4 (.bin 29 .add .plain (.tmp 28) (.const (.int .i64 1))),
 .op 5 (.nilchk 30 (.tmp 25)),
 .op 6 (.faddr 31 2 (.tmp 30)),
 .op 7 (.store false 1 (.tmp 31) (.tmp 29))] []))
 .skip)))
 (.region [.op 0 (.mov 32 (.tmp 0)),
 .op 1 (.nilchk 33 (.tmp 32)),
 .op 2 (.faddr 34 1 (.tmp 33)),
 .op 3 (.load 35 false 1 (.tmp 34)),
 .op 4 (.mov 36 (.tmp 1)),
 .op 5 (.mov 37 (.tmp 6)),
 .op 6 (.iaddr 38 none 1 (.tmp 35) (.tmp 36)),
 .op 7 (.store false 1 (.tmp 38) (.tmp 37))] []))))),
 []⟩
theorem ok84 : funcOk Tryz.prog (drawOk Tryz.prog) Tryz.f84 A84 = true := by kernel_rfl
noncomputable def F84 (call : TCall) (args : List AVal) (h : TH) : KR := ans (U3 (fun a0 a1 a2 =>
 V (kCellsQ a2) fun c1 =>
 V (kNil a0) fun v2 =>
 V (kFaddr 1 v2) fun v3 =>
 V (kLd1 (h.alloc c1) v3) fun v4 =>
 V (kIaddr 1 v4 a1) fun v5 =>
 V (kLd1 (h.alloc c1) v5) fun v6 =>
 R (call 120 [v6, (.func 121 [(.ptr h.next 0)])] (h.alloc c1)) fun v7 h8 =>
 V (kLdA h8 9 (.ptr h.next 0)) fun v9 =>
 V (aFill (reps [.str [], .str [], .int .i64 0, .int .i64 0, .int .i64 0, .int .i64 0, .int .i64 0, .int .i64 0, .bool false] 1) [(0, 9, v9)]) fun c10 =>
 R (kAppend 9 88 [.str [], .str [], .int .i64 0, .int .i64 0, .int .i64 0, .int .i64 0, .int .i64 0, .int .i64 0, .bool false] false v7 (.slice h8.next 0 1 1 9 true) (h8.alloc c10)) fun v11 h12 =>
 V (kLen false v11) fun v13 =>
 V (kGtr v13 (.int .i64 16)) fun v14 =>
 Jn (C v14
 (R (call 122 [v11, (.int .i64 0), (.int .i64 1)] h12) fun v15 h16 =>
 V (kNil a0) fun v17 =>
 V (kFaddr 2 v17) fun v18 =>
 V (kLd1 h16 v18) fun v19 =>
 V (kAdd v19 (.int .i64 1)) fun v20 =>
 V (kNil a0) fun v21 =>
 V (kFaddr 2 v21) fun v22 =>
 V (kSt h16 1 v22 v20) fun h23 =>
 .out 0 [a0, a1, v15] h23)
 (.out 0 [a0, a1, v11] h12)) fun i26 x25 h24 =>
 ifB (Nat.beq i26 0) (U3 (fun g27 g28 g29 =>
 V (kNil g27) fun v30 =>
 V (kFaddr 1 v30) fun v31 =>
 V (kLd1 h24 v31) fun v32 =>
 V (kIaddr 1 v32 g28) fun v33 =>
 V (kSt h24 1 v33 g29) fun h34 =>
 .out 0 [.tuple []] h34) x25) (
 .no)) args)
theorem st84 (call : TCall) (args : List AVal) (h : TH) : kFunc call A84 args h = F84 call args h := by kernel_rfl
noncomputable def A85 : AFunc := ⟨2, (.seq (.region [.op 0 (.box 3 true (.tmp 1)),
 .op 1 (.alloc 4 true [.str [], .str [], .int .i64 0, .int .i64 0, .int .i64 0, .int .i64 0, .int .i64 0, .int .i64 0, .bool false, .int .i64 0]),
 .op 2 (.mov 5 (.const (.bool false)))] [])
 (.seq (.region [.op 0 (.mov 9 (.tmp 0)),
 .op 1 (.load 10 true 2 (.tmp 3)),
 .op 2 (.call 11 123 [.tmp 9, .tmp 10]),
 .op 3 (.mov 8 (.tmp 11)),
 .op 4 (.extract 12 (.tmp 8) 0),
 .op 5 (.extract 13 (.tmp 8) 1),
 .op 6 (.mov 6 (.tmp 12)),
 .op 7 (.mov 7 (.tmp 13))] [])
 (.seq (.seq (.region [.op 0 (.mov 14 (.tmp 7)),
 .op 1 (.un 15 .not (.tmp 14))] [])
 (.cond (.tmp 15)
 (.seq (.region [.op 0 (.build 16 [.str [], .str [], .int .i64 0, .int .i64 0, .int .i64 0, .int .i64 0, .int .i64 0, .int .i64 0, .bool false, .int .i64 0] []),
 .op 1 (.store true 10 (.tmp 4) (.tmp 16)),
 .op 2 (.mov 5 (.const (.bool false)))] [])
 .ret)
 .skip))
 (.seq (.region [.op 0 (.mov 17 (.tmp 0)),
 .op 1 (.nilchk 18 (.tmp 17)),
 .op 2 (.faddr 19 1 (.tmp 18)),
 .op 3 (.load 20 false 1 (.tmp 19)),
 .op 4 (.mov 21 (.tmp 6)),
 .op 5 (.iaddr 22 none 10 (.tmp 20) (.tmp 21)),
 .op 6 (.load 23 true 10 (.tmp 22)),
 .op 7 (.store true 10 (.tmp 4) (.tmp 23)),
 .op 8 (.mov 5 (.const (.bool true)))] [])
 .ret)))),
 [.cell 4 true 10, .tmp 5]⟩
theorem ok85 : funcOk Tryz.prog (drawOk Tryz.prog) Tryz.f85 A85 = true := by kernel_rfl
noncomputable def F85 (call : TCall) (args : List AVal) (h : TH) : KR := ans (U2 (fun a0 a1 =>
 V (kCellsQ a1) fun c1 =>
 V (kLdL c1 true 0 2) fun v2 =>
 R (call 123 [a0, v2] h) fun v3 h4 =>
 V (kExtract 0 v3) fun v5 =>
 V (kExtract 1 v3) fun v6 =>
 V (kNot v6) fun v7 =>
 C v7
 (V (aFill [.str [], .str [], .int .i64 0, .int .i64 0, .int .i64 0, .int .i64 0, .int .i64 0, .int .i64 0, .bool false, .int .i64 0] []) fun c8 =>
 V (kStL [.str [], .str [], .int .i64 0, .int .i64 0, .int .i64 0, .int .i64 0, .int .i64 0, .int .i64 0, .bool false, .int .i64 0] 0 10 (.agg c8)) fun c9 =>
 V (kLdL c9 true 0 10) fun v10 =>
 .out 0 [.tuple [v10, (.bool false)]] h4)
 (V (kNil a0) fun v11 =>
 V (kFaddr 1 v11) fun v12 =>
 V (kLd1 h4 v12) fun v13 =>
 V (kIaddr 10 v13 v5) fun v14 =>
 V (kLdA h4 10 v14) fun v15 =>
 V (kStL [.str [], .str [], .int .i64 0, .int .i64 0, .int .i64 0, .int .i64 0, .int .i64 0, .int .i64 0, .bool false, .int .i64 0] 0 10 v15) fun c16 =>
 V (kLdL c16 true 0 10) fun v17 =>
 .out 0 [.tuple [v17, (.bool true)]] h4)) args)
theorem st85 (call : TCall) (args : List AVal) (h : TH) : kFunc call A85 args h = F85 call args h := by kernel_rfl
noncomputable def A86 : AFunc := ⟨2, (.seq (.region [.op 0 (.box 2 true (.tmp 0)),
 .op 1 (.box 3 true (.tmp 1)),
 .op 2 (.mov 4 (.const (.bool false)))] [])
 (.seq (.region [.op 0 (.faddr 5 0 (.tmp 2)),
 .op 1 (.load 6 false 1 (.tmp 5)),
 .op 2 (.faddr 7 0 (.tmp 3)),
 .op 3 (.load 8 false 1 (.tmp 7)),
 .op 4 (.call 9 125 [.tmp 6, .tmp 8]),
 .op 5 (.faddr 10 2 (.tmp 2)),
 .op 6 (.load 11 false 1 (.tmp 10)),
 .op 7 (.faddr 12 2 (.tmp 3)),
 .op 8 (.load 13 false 1 (.tmp 12)),
 .op 9 (.call 14 125 [.tmp 11, .tmp 13]),
 .op 10 (.faddr 15 1 (.tmp 2)),
 .op 11 (.load 16 false 1 (.tmp 15)),
 .op 12 (.faddr 17 1 (.tmp 3)),
 .op 13 (.load 18 false 1 (.tmp 17)),
 .op 14 (.call 19 126 [.tmp 16, .tmp 18]),
 .op 15 (.buildSl 20 [.int .i64 0] 1 3 [(0, .tmp 9), (1, .tmp 14), (2, .tmp 19)]),
 .op 16 (.call 21 124 [.tmp 20]),
 .op 17 (.bin 22 .lss .plain (.tmp 21) (.const (.int .i64 0))),
 .op 18 (.mov 4 (.tmp 22))] [(6, 4), (8, 4), (11, 4), (11, 9), (13, 4), (13, 9)])
 .ret)),
 [.tmp 4]⟩
theorem ok86 : funcOk Tryz.prog (drawOk Tryz.prog) Tryz.f86 A86 = true := by kernel_rfl
noncomputable def F86 (call : TCall) (args : List AVal) (h : TH) : KR := ans (U2 (fun a0 a1 =>
 V (kCellsQ a0) fun c1 =>
 V (kCellsQ a1) fun c2 =>
 V (kLdL c1 false 0 1) fun v3 =>
 V (kLdL c2 false 0 1) fun v4 =>
 R (call 125 [v3, v4] h) fun v5 h6 =>
 V (kLdL c1 false 2 1) fun v7 =>
 V (kLdL c2 false 2 1) fun v8 =>
 R (call 125 [v7, v8] h6) fun v9 h10 =>
 V (kLdL c1 false 1 1) fun v11 =>
 V (kLdL c2 false 1 1) fun v12 =>
 R (call 126 [v11, v12] h10) fun v13 h14 =>
 V (aFill (reps [.int .i64 0] 3) [(0, 1, v5), (1, 1, v9), (2, 1, v13)]) fun c15 =>
 R (call 124 [(.slice h14.next 0 3 3 1 true)] (h14.alloc c15)) fun v16 h17 =>
 V (kLss v16 (.int .i64 0)) fun v18 =>
 ifB (kCheck [(13, some (.lrd 3 1 1)), (11, some (.lrd 2 1 1)), (9, some (.ef [(3, c2), (2, c1)] h6 [(3, c2), (2, c1)] h10)), (8, some (.lrd 3 2 1)), (6, some (.lrd 2 2 1)), (4, some (.ef [(3, c2), (2, c1)] h [(3, c2), (2, c1)] h6))] [(6, 4), (8, 4), (11, 4), (11, 9), (13, 4), (13, 9)]) (.out 0 [v18] h17) .no) args)
theorem st86 (call : TCall) (args : List AVal) (h : TH) : kFunc call A86 args h = F86 call args h := by kernel_rfl
noncomputable def A87 : AFunc := ⟨2, (.seq (.region [.op 0 (.box 3 true (.tmp 1)),
 .op 1 (.mov 4 (.const (.int .i64 0)))] [])
 (.seq (.region [.op 0 (.mov 6 (.tmp 0)),
 .op 1 (.nilchk 7 (.tmp 6)),
 .op 2 (.faddr 8 4 (.tmp 7)),
 .op 3 (.load 9 false 1 (.tmp 8)),
 .op 4 (.load 10 true 10 (.tmp 3)),
 .op 5 (.call 11 88 [.tmp 9, .tmp 10]),
 .op 6 (.mov 5 (.tmp 11))] [])
 (.seq (.seq (.region [.op 0 (.mov 12 (.tmp 5)),
 .op 1 (.bin 13 .eql .plain (.tmp 12) (.const (.int .i64 0)))] [])
 (.join [(.normal, ⟨[5], []⟩)] (.cond (.tmp 13)
 (.region [.op 0 (.mov 14 (.tmp 0)),
 .op 1 (.nilchk 15 (.tmp 14)),
 .op 2 (.faddr 16 6 (.tmp 15)),
 .op 3 (.load 17 false 1 (.tmp 16)),
 .op 4 (.faddr 18 0 (.tmp 3)),
 .op 5 (.faddr 19 0 (.tmp 18)),
 .op 6 (.load 20 true 2 (.tmp 19)),
 .op 7 (.call 21 127 [.tmp 17, .tmp 20])] [])
 .skip)))
 (.seq (.region [.op 0 (.mov 22 (.tmp 5)),
 .op 1 (.mov 4 (.tmp 22))] [])
 .ret)))),
 [.tmp 4]⟩
theorem ok87 : funcOk Tryz.prog (drawOk Tryz.prog) Tryz.f87 A87 = true := by kernel_rfl
noncomputable def F87 (call : TCall) (args : List AVal) (h : TH) : KR := ans (U2 (fun a0 a1 =>
 V (kCellsQ a1) fun c1 =>
 V (kNil a0) fun v2 =>
 V (kFaddr 4 v2) fun v3 =>
 V (kLd1 h v3) fun v4 =>
 V (kLdL c1 true 0 10) fun v5 =>
 R (call 88 [v4, v5] h) fun v6 h7 =>
 V (kEql v6 (.int .i64 0)) fun v8 =>
 Jn (C v8
 (V (kNil a0) fun v9 =>
 V (kFaddr 6 v9) fun v10 =>
 V (kLd1 h7 v10) fun v11 =>
 V (kLdL c1 true 0 2) fun v12 =>
 R (call 127 [v11, v12] h7) fun v13 h14 =>
 .out 0 [v6] h14)
 (.out 0 [v6] h7)) fun i17 x16 h15 =>
 ifB (Nat.beq i17 0) (U1 (fun g18 =>
 .out 0 [g18] h15) x16) (
 .no)) args)
theorem st87 (call : TCall) (args : List AVal) (h : TH) : kFunc call A87 args h = F87 call args h := by kernel_rfl
noncomputable def A88 : AFunc := ⟨2, (.seq (.region [.op 0 (.box 3 true (.tmp 1)),
 .op 1 (.mov 4 (.const (.int .i64 0)))] [])
 (.seq (.region [.op 0 (.mov 8 (.tmp 0)),
 .op 1 (.faddr 9 0 (.tmp 3)),
 .op 2 (.faddr 10 0 (.tmp 9)),
 .op 3 (.load 11 true 2 (.tmp 10)),
 .op 4 (.call 12 123 [.tmp 8, .tmp 11]),
 .op 5 (.mov 7 (.tmp 12)),
 .op 6 (.extract 13 (.tmp 7) 0),
 .op 7 (.extract 14 (.tmp 7) 1),
 .op 8 (.mov 5 (.tmp 13)),
 .op 9 (.mov 6 (.tmp 14))] [])
 (.seq (.block 0 (.seq (.region [.op 0 (.mov 27 (.tmp 6)),
 .op 1 (.mov 26 (.tmp 27))] [])
 (.join [(.normal, ⟨[], []⟩), (.ret, ⟨[4], []⟩)] (.cond (.tmp 26)
 (.region [.op 0 (.mov 28 (.tmp 0)),
 .op 1 (.nilchk 29 (.tmp 28)),
 .op 2 (.faddr 30 1 (.tmp 29)),
 .op 3 (.load 31 false 1 (.tmp 30)),
 .op 4 (.mov 32 (.tmp 5)),
 .op 5 (.load 33 true 10 (.tmp 3)),
 .op 6 (.iaddr 34 none 10 (.tmp 31) (.tmp 32)),
 .op 7 (.store true 10 (.tmp 34) (.tmp 33))] [])
 (.seq (.region [.op 0 (.mov 36 (.tmp 0)),
 .op 1 (.nilchk 37 (.tmp 36)),
 .op 2 (.faddr 38 1 (.tmp 37)),
 .op 3 (.load 39 false 1 (.tmp 38)),
 .op 4 (.len 40 false (.tmp 39)),
 .op 5 (.mov 41 (.tmp 0)),
 .op 6 (.nilchk 42 (.tmp 41)),
 .op 7 (.faddr 43 0 (.tmp 42)),
 .op 8 (.load 44 false 1 (.tmp 43)),
 .op 9 (.bin 45 .geq .plain (.tmp 40) (.tmp 44)),
 .op 10 (.mov 35 (.tmp 45))] [])
 (.cond (.tmp 35)
 (.seq (.region [.op 0 (.mov 4 (.const (.int .i64 24)))] [])
 .ret)
 (.region [.op 0 (.mov 15 (.tmp 0)),
 .op 1 (.mov 16 (.tmp 0)),
 .op 2 (.nilchk 17 (.tmp 16)),
 .op 3 (.faddr 18 1 (.tmp 17)),
 .op 4 (.load 19 false 1 (.tmp 18)),
 .op 5 (.mov 20 (.tmp 5)),
 .op 6 (.load 21 true 10 (.tmp 3)),
 .op 7 (.buildSl 22 [.str [], .str [], .int .i64 0, .int .i64 0, .int .i64 0, .int .i64 0, .int .i64 0, .int .i64 0, .bool false, .int .i64 0] 10 1 [(0, .tmp 21)]),
 .op 8 (.call 23 128 [.tmp 19, .tmp 20, .tmp 22]),
 .op 9 (.nilchk 24 (.tmp 15)),
 .op 10 (.faddr 25 1 (.tmp 24)),
 .op 11 (.store false 1 (.tmp 25) (.tmp 23))] [(4, 7)])))))))
 (.seq (.region [.op 0 (.mov 4 (.const (.int .i64 0)))] [])
 .ret)))),
 [.tmp 4]⟩
theorem ok88 : funcOk Tryz.prog (drawOk Tryz.prog) Tryz.f88 A88 = true := by kernel_rfl
noncomputable def F88 (call : TCall) (args : List AVal) (h : TH) : KR := ans (U2 (fun a0 a1 =>
 V (kCellsQ a1) fun c1 =>
 V (kLdL c1 true 0 2) fun v2 =>
 R (call 123 [a0, v2] h) fun v3 h4 =>
 V (kExtract 0 v3) fun v5 =>
 V (kExtract 1 v3) fun v6 =>
 Jn (C v6
 (V (kNil a0) fun v7 =>
 V (kFaddr 1 v7) fun v8 =>
 V (kLd1 h4 v8) fun v9 =>
 V (kLdL c1 true 0 10) fun v10 =>
 V (kIaddr 10 v9 v5) fun v11 =>
 V (kSt h4 10 v11 v10) fun h12 =>
 .out 0 [] h12)
 (V (kNil a0) fun v13 =>
 V (kFaddr 1 v13) fun v14 =>
 V (kLd1 h4 v14) fun v15 =>
 V (kLen false v15) fun v16 =>
 V (kNil a0) fun v17 =>
 V (kFaddr 0 v17) fun v18 =>
 V (kLd1 h4 v18) fun v19 =>
 V (kGeq v16 v19) fun v20 =>
 C v20
 (.out 1 [(.int .i64 24)] h4)
 (V (kNil a0) fun v21 =>
 V (kFaddr 1 v21) fun v22 =>
 V (kLd1 h4 v22) fun v23 =>
 V (kLdL c1 true 0 10) fun v24 =>
 V (aFill (reps [.str [], .str [], .int .i64 0, .int .i64 0, .int .i64 0, .int .i64 0, .int .i64 0, .int .i64 0, .bool false, .int .i64 0] 1) [(0, 10, v24)]) fun c25 =>
 R (call 128 [v23, v5, (.slice h4.next 0 1 1 10 true)] (h4.alloc c25)) fun v26 h27 =>
 V (kNil a0) fun v28 =>
 V (kFaddr 1 v28) fun v29 =>
 V (kSt h27 1 v29 v26) fun h30 =>
 ifB (kCheck [(7, some (.al h4.next)), (4, kLogRd v22 1)] [(4, 7)]) (.out 0 [] h30) .no))) fun i33 x32 h31 =>
 ifB (Nat.beq i33 0) (U0 (.out 0 [(.int .i64 0)] h31) x32) (
 ifB (Nat.beq i33 1) (U1 (fun g34 =>
 .out 0 [g34] h31) x32) (
 .no))) args)
theorem st88 (call : TCall) (args : List AVal) (h : TH) : kFunc call A88 args h = F88 call args h := by kernel_rfl
noncomputable def A93 : AFunc := ⟨1, (.seq (.region [.op 0 (.mov 2 (.const (.nilPtr)))] [])
 (.seq (.region [.op 0 (.mov 3 (.tmp 0)),
 .op 1 (.nilchk 4 (.tmp 3)),
 .op 2 (.faddr 5 1 (.tmp 4)),
 .op 3 (.load 6 false 1 (.tmp 5)),
 .op 4 (.mov 2 (.tmp 6))] [])
 .ret)),
 [.tmp 2]⟩
theorem ok93 : funcOk Tryz.prog (drawOk Tryz.prog) Tryz.f93 A93 = true := by kernel_rfl
noncomputable def F93 (call : TCall) (args : List AVal) (h : TH) : KR := ans (U1 (fun a0 =>
 V (kNil a0) fun v1 =>
 V (kFaddr 1 v1) fun v2 =>
 V (kLd1 h v2) fun v3 =>
 .out 0 [v3] h) args)
theorem st93 (call : TCall) (args : List AVal) (h : TH) : kFunc call A93 args h = F93 call args h := by kernel_rfl
noncomputable def A94 : AFunc := ⟨1, (.seq (.region [.op 0 (.mov 2 (.const (.int .i64 0)))] [])
 (.seq (.region [.op 0 (.mov 3 (.tmp 0)),
 .op 1 (.nilchk 4 (.tmp 3)),
 .op 2 (.faddr 5 1 (.tmp 4)),
 .op 3 (.load 6 false 1 (.tmp 5)),
 .op 4 (.len 7 false (.tmp 6)),
 .op 5 (.mov 2 (.tmp 7))] [])
 .ret)),
 [.tmp 2]⟩
theorem ok94 : funcOk Tryz.prog (drawOk Tryz.prog) Tryz.f94 A94 = true := by kernel_rfl
noncomputable def F94 (call : TCall) (args : List AVal) (h : TH) : KR := ans (U1 (fun a0 =>
 V (kNil a0) fun v1 =>
 V (kFaddr 1 v1) fun v2 =>
 V (kLd1 h v2) fun v3 =>
 V (kLen false v3) fun v4 =>
 .out 0 [v4] h) args)
theorem st94 (call : TCall) (args : List AVal) (h : TH) : kFunc call A94 args h = F94 call args h := by kernel_rfl
end Go.Proofs.YtinkiihdnepfjaaGreatDoor.Code
