import Derived.Test.YtmmfcgbcocmkgaaProg
import Derived.Test.YtmmfcgbcocmkgaaFwZb
import Derived.KernelRfl
namespace Go.Proofs.Ytmmfcgbcocmkgaa.Code
set_option linter.unusedSimpArgs false
set_option linter.unusedVariables false
open Go.Fw
/-- frankpledge/frankpledgelaw3.FrameNumbers -/
noncomputable def A3 : AFunc := ⟨0, (.seq (.region [.op 0 (.mov 0 (.const (.bool false)))] [])
 (.seq (.region [.op 0 (.buildSl 10 [.int .u8 0] 1 5 [(0, .const (.int .u8 102)), (1, .const (.int .u8 105)), (2, .const (.int .u8 114)), (3, .const (.int .u8 115)), (4, .const (.int .u8 116))]),
 .op 1 (.conv 11 .slBytes (.tmp 10)),
 .op 2 (.buildSl 12 [.int .u8 0] 1 9 [(0, .const (.int .u8 116)), (1, .const (.int .u8 104)), (2, .const (.int .u8 101)), (3, .const (.int .u8 32)), (4, .const (.int .u8 116)), (5, .const (.int .u8 104)), (6, .const (.int .u8 105)), (7, .const (.int .u8 114)), (8, .const (.int .u8 100))]),
 .op 3 (.conv 13 .slBytes (.tmp 12)),
 .op 4 (.buildSl 14 [.nilSlice] 1 3 [(0, .tmp 11), (1, .const (.nilSlice)), (2, .tmp 13)]),
 .op 5 (.call 15 8 [.tmp 14]),
 .op 6 (.mov 1 (.tmp 15))] [])
 (.seq (.seq (.region [.op 0 (.mov 2 (.const (.int .i64 0)))] [])
 (.block 0 (.loop ⟨[1, 2], []⟩ [((.exit 0), ⟨[], []⟩), (.ret, ⟨[0], []⟩)]
 (.seq (.seq (.region [.op 0 (.mov 16 (.tmp 2)),
 .op 1 (.mov 17 (.tmp 1)),
 .op 2 (.len 18 false (.tmp 17)),
 .op 3 (.bin 19 .leq .plain (.tmp 16) (.tmp 18))] [])
 (.cond (.tmp 19)
 .skip
 (.exit 0)))
 (.seq (.block 1 (.seq (.seq (.region [.op 0 (.mov 22 (.tmp 1)),
 .op 1 (.mov 23 (.tmp 2)),
 .op 2 (.buildSl 24 [.int .i64 0] 1 1 [(0, .tmp 23)]),
 .op 3 (.call 25 9 [.tmp 22, .tmp 24]),
 .op 4 (.un 26 .not (.tmp 25)),
 .op 5 (.mov 27 (.tmp 26)),
 .guard 27 false [.op 6 (.mov 28 (.tmp 1)),
 .op 7 (.mov 29 (.tmp 2)),
 .op 8 (.buildSl 30 [.int .i64 0] 1 3 [(0, .tmp 29), (1, .const (.int .i64 1)), (2, .const (.int .i64 1))]),
 .op 9 (.call 31 9 [.tmp 28, .tmp 30]),
 .op 10 (.un 32 .not (.tmp 31))] [] [32],
 .op 11 (.pick 33 (.tmp 27) (.const (.bool true)) (.tmp 32)),
 .op 12 (.mov 34 (.tmp 33)),
 .guard 34 false [.op 13 (.mov 35 (.tmp 1)),
 .op 14 (.mov 36 (.tmp 2)),
 .op 15 (.slice 37 (.sl 1) (.tmp 35) none (some (.tmp 36)) none),
 .op 16 (.call 38 10 [.tmp 37]),
 .op 17 (.un 39 .not (.tmp 38))] [] [39],
 .op 18 (.pick 40 (.tmp 34) (.const (.bool true)) (.tmp 39)),
 .op 19 (.mov 41 (.tmp 40)),
 .guard 41 false [.op 20 (.mov 42 (.tmp 1)),
 .op 21 (.mov 43 (.tmp 2)),
 .op 22 (.slice 44 (.sl 1) (.tmp 42) (some (.tmp 43)) none none),
 .op 23 (.call 45 10 [.tmp 44]),
 .op 24 (.un 46 .not (.tmp 45))] [] [46],
 .op 25 (.pick 47 (.tmp 41) (.const (.bool true)) (.tmp 46))] [])
 (.cond (.tmp 47)
 (.seq (.region [.op 0 (.mov 0 (.const (.bool false)))] [])
 .ret)
 .skip))
 (.seq (.region [.op 0 (.mov 48 (.tmp 2)),
 .op 1 (.mov 49 (.tmp 1)),
 .op 2 (.len 50 false (.tmp 49)),
 .op 3 (.bin 51 .lss .plain (.tmp 48) (.tmp 50))] [])
 (.join [(.ret, ⟨[0], []⟩), (.normal, ⟨[1, 2], []⟩)] (.cond (.tmp 51)
 (.seq (.region [.op 0 (.buildSl 52 [.int .u8 0] 1 0 []),
 .op 1 (.mov 53 (.tmp 1)),
 .op 2 (.append 54 1 1 [.int .u8 0] false (.tmp 52) (.tmp 53)),
 .op 3 (.mov 3 (.tmp 54))] [])
 (.seq (.region [.op 0 (.mov 55 (.tmp 3)),
 .op 1 (.mov 56 (.tmp 2)),
 .op 2 (.iaddr 57 none 1 (.tmp 55) (.tmp 56)),
 .op 3 (.load 58 false 1 (.tmp 57)),
 .op 4 (.bin 59 .xor .plain (.tmp 58) (.const (.int .u8 1))),
 .op 5 (.iaddr 60 none 1 (.tmp 55) (.tmp 56)),
 .op 6 (.store false 1 (.tmp 60) (.tmp 59))] [])
 (.seq (.region [.op 0 (.buildSl 61 [.int .u8 0] 1 0 []),
 .op 1 (.buildSl 62 [.int .u8 0] 1 5 [(0, .const (.int .u8 97)), (1, .const (.int .u8 108)), (2, .const (.int .u8 111)), (3, .const (.int .u8 110)), (4, .const (.int .u8 101))]),
 .op 2 (.conv 63 .slBytes (.tmp 62)),
 .op 3 (.call 64 11 [.tmp 63]),
 .op 4 (.append 65 1 1 [.int .u8 0] false (.tmp 61) (.tmp 64)),
 .op 5 (.mov 4 (.tmp 65))] [])
 (.seq (.region [.op 0 (.mov 66 (.tmp 4)),
 .op 1 (.mov 67 (.tmp 2)),
 .op 2 (.mov 68 (.tmp 4)),
 .op 3 (.len 69 false (.tmp 68)),
 .op 4 (.bin 70 .rem .plain (.tmp 67) (.tmp 69)),
 .op 5 (.iaddr 71 none 1 (.tmp 66) (.tmp 70)),
 .op 6 (.load 72 false 1 (.tmp 71)),
 .op 7 (.bin 73 .xor .plain (.tmp 72) (.const (.int .u8 129))),
 .op 8 (.iaddr 74 none 1 (.tmp 66) (.tmp 70)),
 .op 9 (.store false 1 (.tmp 74) (.tmp 73))] [])
 (.seq (.region [.op 0 (.mov 75 (.tmp 3)),
 .op 1 (.buildSl 76 [.int .i64 0] 1 2 [(0, .const (.int .i64 7)), (1, .const (.int .i64 9))]),
 .op 2 (.call 77 9 [.tmp 75, .tmp 76]),
 .op 3 (.un 78 .not (.tmp 77)),
 .op 4 (.mov 79 (.tmp 78)),
 .guard 79 false [.op 5 (.mov 80 (.tmp 4)),
 .op 6 (.call 81 10 [.tmp 80]),
 .op 7 (.un 82 .not (.tmp 81))] [] [82],
 .op 8 (.pick 83 (.tmp 79) (.const (.bool true)) (.tmp 82))] [])
 (.cond (.tmp 83)
 (.seq (.region [.op 0 (.mov 0 (.const (.bool false)))] [])
 .ret)
 .skip))))))
 .skip)))))
 (.region [.op 0 (.mov 20 (.tmp 2)),
 .op 1 (.bin 21 .add .plain (.tmp 20) (.const (.int .i64 1))),
 .op 2 (.mov 2 (.tmp 21))] []))))))
 (.seq (.seq (.region [.op 0 (.buildSl 84 [.int .i64 0] 1 4 [(0, .const (.int .i64 0)), (1, .const (.int .i64 1)), (2, .const (.int .i64 8192)), (3, .const (.int .i64 8193))]),
 .op 1 (.len 85 false (.tmp 84)),
 .op 2 (.mov 86 (.const (.int .i64 0)))] [])
 (.block 2 (.loop ⟨[84, 85, 86], []⟩ [((.exit 2), ⟨[], []⟩), (.ret, ⟨[0], []⟩)]
 (.seq (.region [.op 0 (.bin 87 .lss .plain (.tmp 86) (.tmp 85))] [])
 (.seq (.cond (.tmp 87)
 .skip
 (.exit 2))
 (.seq (.block 3 (.seq (.region [.op 0 (.iaddr 88 none 1 (.tmp 84) (.tmp 86)),
 .op 1 (.load 89 false 1 (.tmp 88)),
 .op 2 (.mov 6 (.tmp 89))] [])
 (.seq (.region [.op 0 (.mov 90 (.tmp 6)),
 .op 1 (.mkSlice 91 1 1 [.int .u8 0] (.tmp 90) (.tmp 90)),
 .op 2 (.mov 7 (.tmp 91))] [])
 (.seq (.region [.op 0 (.mov 93 (.tmp 7)),
 .op 1 (.call 94 12 [.tmp 93]),
 .op 2 (.mov 92 (.tmp 94)),
 .op 3 (.extract 95 (.tmp 92) 0),
 .op 4 (.extract 96 (.tmp 92) 1),
 .op 5 (.mov 8 (.tmp 95)),
 .op 6 (.mov 9 (.tmp 96))] [])
 (.seq (.regionF 1 [.op 0 (.mov 97 (.tmp 9)),
 .op 1 (.bin 98 .eql .plain (.tmp 97) (.const (.int .i64 0))),
 .op 2 (.mov 99 (.tmp 6)),
 .op 3 (.bin 100 .leq .plain (.tmp 99) (.const (.int .i64 8192))),
 .op 4 (.bin 101 .neq .bool (.tmp 98) (.tmp 100)),
 .op 5 (.mov 102 (.tmp 101)),
 .guard 102 false [.op 6 (.mov 103 (.tmp 9)),
 .op 7 (.bin 104 .eql .plain (.tmp 103) (.const (.int .i64 0))),
 .op 8 (.mov 105 (.tmp 104)),
 .guard 105 true [.op 9 (.mov 106 (.tmp 8)),
 .op 10 (.conv 107 .bytesStr (.tmp 106)),
 .op 11 (.mov 108 (.tmp 7)),
 .op 12 (.call 109 11 [.tmp 108]),
 .op 13 (.conv 110 .bytesStr (.tmp 109)),
 .op 14 (.bin 111 .neq .plain (.tmp 107) (.tmp 110))] [(10, 12)] [111],
 .op 15 (.pick 112 (.tmp 105) (.tmp 111) (.const (.bool false)))] [] [112],
 .op 16 (.pick 113 (.tmp 102) (.const (.bool true)) (.tmp 112)),
 .op 17 (.mov 114 (.tmp 113)),
 .guard 114 false [.op 18 (.mov 115 (.tmp 7)),
 .op 19 (.call 116 13 [.tmp 115]),
 .op 20 (.mov 117 (.tmp 7)),
 .op 21 (.call 118 14 [.tmp 117]),
 .op 22 (.bin 119 .neq .plain (.tmp 116) (.tmp 118))] [] [119],
 .op 23 (.pick 120 (.tmp 114) (.const (.bool true)) (.tmp 119)),
 .op 24 (.mov 121 (.tmp 120)),
 .guard 121 false [.op 25 (.mov 122 (.tmp 7)),
 .op 26 (.call 123 11 [.tmp 122]),
 .op 27 (.call 124 10 [.tmp 123]),
 .op 28 (.un 125 .not (.tmp 124))] [] [125],
 .op 29 (.pick 126 (.tmp 121) (.const (.bool true)) (.tmp 125)),
 .op 30 (.mov 127 (.tmp 126)),
 .guard 127 false [.op 31 (.mov 128 (.tmp 7)),
 .op 32 (.call 129 11 [.tmp 128]),
 .op 33 (.fl 130 0 (some (1, 2)) [.int .i64 0] [(0, .const (.int .i64 4)), (1, .const (.int .i64 1))]),
 .op 34 (.call 131 9 [.tmp 129, .tmp 130]),
 .op 35 (.un 132 .not (.tmp 131))] [] [132],
 .op 36 (.pick 133 (.tmp 127) (.const (.bool true)) (.tmp 132))] [])
 (.cond (.tmp 133)
 (.seq (.region [.op 0 (.mov 0 (.const (.bool false)))] [])
 .ret)
 .skip))))))
 (.region [.op 0 (.bin 134 .add .plain (.tmp 86) (.const (.int .i64 1))),
 .op 1 (.mov 86 (.tmp 134))] [])))))))
 (.seq (.region [.op 0 (.call 135 15 []),
 .op 1 (.mov 0 (.tmp 135))] [])
 .ret))))),
 [.tmp 0]⟩
theorem ok3 : funcOk Try.prog (drawOk Try.prog) Try.f3 A3 = true := by kernel_rfl
/-- xs: t1, t2 -/
noncomputable def L3_0 (call : Go.Fw.Call) (xs : List AVal) (h : Heap) : Option J :=
 (aLen false (xs.getD 0 .undef)).bind fun v7 =>
 (aBin .leq .plain (xs.getD 1 .undef) v7).bind fun v8 =>
 condV v8
 ((aFill (reps [.int .i64 0] 1) [(0, 1, (xs.getD 1 .undef))]).bind fun c9 =>
 (call 9 [(xs.getD 0 .undef), (.slice h.next 0 1 1 1 true)] (h.alloc c9)).bind fun r10 =>
 (aUn .not r10.1).bind fun v11 =>
 (guardV v11 false
 ((aFill (reps [.int .i64 0] 3) [(0, 1, (xs.getD 1 .undef)), (1, 1, (.int .i64 1)), (2, 1, (.int .i64 1))]).bind fun c12 =>
 (call 9 [(xs.getD 0 .undef), (.slice r10.2.next 0 3 3 1 true)] (r10.2.alloc c12)).bind fun r13 =>
 (aUn .not r13.1).bind fun v14 =>
 some (0, [v14], r13.2))
 (some (0, [skipV], r10.2))).bind fun g15 =>
 (aPick v11 (.bool true) (g15.2.1.getD 0 .undef)).bind fun v16 =>
 (guardV v16 false
 ((aSliceSl 1 (xs.getD 0 .undef) none (some (xs.getD 1 .undef)) none).bind fun v17 =>
 (call 10 [v17] g15.2.2).bind fun r18 =>
 (aUn .not r18.1).bind fun v19 =>
 some (0, [v19], r18.2))
 (some (0, [skipV], g15.2.2))).bind fun g20 =>
 (aPick v16 (.bool true) (g20.2.1.getD 0 .undef)).bind fun v21 =>
 (guardV v21 false
 ((aSliceSl 1 (xs.getD 0 .undef) (some (xs.getD 1 .undef)) none none).bind fun v22 =>
 (call 10 [v22] g20.2.2).bind fun r23 =>
 (aUn .not r23.1).bind fun v24 =>
 some (0, [v24], r23.2))
 (some (0, [skipV], g20.2.2))).bind fun g25 =>
 (aPick v21 (.bool true) (g25.2.1.getD 0 .undef)).bind fun v26 =>
 condV v26
 (some (2, [(.bool false)], g25.2.2))
 ((aLen false (xs.getD 0 .undef)).bind fun v27 =>
 (aBin .lss .plain (xs.getD 1 .undef) v27).bind fun v28 =>
 (condV v28
 ((aFill (reps [.int .u8 0] 0) []).bind fun c29 =>
 (aAppend 1 1 [.int .u8 0] false (.slice g25.2.2.next 0 0 0 1 true) (xs.getD 0 .undef) (g25.2.2.alloc c29)).bind fun r30 =>
 (aIaddr 1 r30.1 (xs.getD 1 .undef)).bind fun v31 =>
 (aLoad r30.2 1 v31).bind fun c32 =>
 (fromCells false c32).bind fun v33 =>
 (aBin .xor .plain v33 (.int .u8 1)).bind fun v34 =>
 (aIaddr 1 r30.1 (xs.getD 1 .undef)).bind fun v35 =>
 (aCells 1 v34).bind fun c36 =>
 (aStore r30.2 v35 c36).bind fun h37 =>
 (aFill (reps [.int .u8 0] 0) []).bind fun c38 =>
 (aFill (reps [.int .u8 0] 5) [(0, 1, (.int .u8 97)), (1, 1, (.int .u8 108)), (2, 1, (.int .u8 111)), (3, 1, (.int .u8 110)), (4, 1, (.int .u8 101))]).bind fun c39 =>
 (aConv .slBytes (.slice (h37.alloc c38).next 0 5 5 1 true) ((h37.alloc c38).alloc c39)).bind fun r40 =>
 (call 11 [r40.1] r40.2).bind fun r41 =>
 (aAppend 1 1 [.int .u8 0] false (.slice h37.next 0 0 0 1 true) r41.1 r41.2).bind fun r42 =>
 (aLen false r42.1).bind fun v43 =>
 (aBin .rem .plain (xs.getD 1 .undef) v43).bind fun v44 =>
 (aIaddr 1 r42.1 v44).bind fun v45 =>
 (aLoad r42.2 1 v45).bind fun c46 =>
 (fromCells false c46).bind fun v47 =>
 (aBin .xor .plain v47 (.int .u8 129)).bind fun v48 =>
 (aIaddr 1 r42.1 v44).bind fun v49 =>
 (aCells 1 v48).bind fun c50 =>
 (aStore r42.2 v49 c50).bind fun h51 =>
 (aFill (reps [.int .i64 0] 2) [(0, 1, (.int .i64 7)), (1, 1, (.int .i64 9))]).bind fun c52 =>
 (call 9 [r30.1, (.slice h51.next 0 2 2 1 true)] (h51.alloc c52)).bind fun r53 =>
 (aUn .not r53.1).bind fun v54 =>
 (guardV v54 false
 ((call 10 [r42.1] r53.2).bind fun r55 =>
 (aUn .not r55.1).bind fun v56 =>
 some (0, [v56], r55.2))
 (some (0, [skipV], r53.2))).bind fun g57 =>
 (aPick v54 (.bool true) (g57.2.1.getD 0 .undef)).bind fun v58 =>
 condV v58
 (some (0, [(.bool false)], g57.2.2))
 (some (1, [(xs.getD 0 .undef), (xs.getD 1 .undef)], g57.2.2)))
 (some (1, [(xs.getD 0 .undef), (xs.getD 1 .undef)], g25.2.2))).bind fun x59 =>
 bif Nat.beq x59.1 0 then some (2, [(x59.2.1.getD 0 .undef)], x59.2.2) else
 bif Nat.beq x59.1 1 then (aBin .add .plain (x59.2.1.getD 1 .undef) (.int .i64 1)).bind fun v60 =>
 some (0, [(x59.2.1.getD 0 .undef), v60], x59.2.2) else
 none))
 (some (1, [], h))
/-- xs: t84, t85, t86 -/
noncomputable def L3_1 (call : Go.Fw.Call) (xs : List AVal) (h : Heap) : Option J :=
 (aBin .lss .plain (xs.getD 2 .undef) (xs.getD 1 .undef)).bind fun v64 =>
 condV v64
 ((aIaddr 1 (xs.getD 0 .undef) (xs.getD 2 .undef)).bind fun v65 =>
 (aLoad h 1 v65).bind fun c66 =>
 (fromCells false c66).bind fun v67 =>
 (aMkSlice 1 1 [.int .u8 0] v67 v67 h).bind fun r68 =>
 (call 12 [r68.1] r68.2).bind fun r69 =>
 (aExtract 0 r69.1).bind fun v70 =>
 (aExtract 1 r69.1).bind fun v71 =>
 (aBin .eql .plain v71 (.int .i64 0)).bind fun v72 =>
 (aBin .leq .plain v67 (.int .i64 8192)).bind fun v73 =>
 (aBin .neq .bool v72 v73).bind fun v74 =>
 (guardV v74 false
 ((aBin .eql .plain v71 (.int .i64 0)).bind fun v75 =>
 (guardV v75 true
 ((aConv .bytesStr v70 (r69.2.res 1)).bind fun r76 =>
 (call 11 [r68.1] r76.2).bind fun r77 =>
 (aConv .bytesStr r77.1 r77.2).bind fun r78 =>
 (aBin .neq .plain r76.1 r78.1).bind fun v79 =>
 bif checkPairs [(12, some (.ef [] r76.2 [] r77.2)), (10, logBs v70)] [(10, 12)] then some (0, [v79], r78.2) else none)
 (some (0, [skipV], (r69.2.res 1)))).bind fun g80 =>
 (aPick v75 (g80.2.1.getD 0 .undef) (.bool false)).bind fun v81 =>
 some (0, [v81], g80.2.2))
 (some (0, [skipV], (r69.2.res 1)))).bind fun g82 =>
 (aPick v74 (.bool true) (g82.2.1.getD 0 .undef)).bind fun v83 =>
 (guardV v83 false
 ((call 13 [r68.1] g82.2.2).bind fun r84 =>
 (call 14 [r68.1] r84.2).bind fun r85 =>
 (aBin .neq .plain r84.1 r85.1).bind fun v86 =>
 some (0, [v86], r85.2))
 (some (0, [skipV], g82.2.2))).bind fun g87 =>
 (aPick v83 (.bool true) (g87.2.1.getD 0 .undef)).bind fun v88 =>
 (guardV v88 false
 ((call 11 [r68.1] g87.2.2).bind fun r89 =>
 (call 10 [r89.1] r89.2).bind fun r90 =>
 (aUn .not r90.1).bind fun v91 =>
 some (0, [v91], r90.2))
 (some (0, [skipV], g87.2.2))).bind fun g92 =>
 (aPick v88 (.bool true) (g92.2.1.getD 0 .undef)).bind fun v93 =>
 (guardV v93 false
 ((call 11 [r68.1] g92.2.2).bind fun r94 =>
 (aFill (reps [.int .i64 0] 2) [(0, 1, (.int .i64 4)), (1, 1, (.int .i64 1))]).bind fun c95 =>
 (call 9 [r94.1, (.slice (r69.2.next + 0) 0 2 2 1 true)] (r94.2.setBlk (r69.2.next + 0) (some ⟨c95, true⟩))).bind fun r96 =>
 (aUn .not r96.1).bind fun v97 =>
 some (0, [v97], r96.2))
 (some (0, [skipV], g92.2.2))).bind fun g98 =>
 (aPick v93 (.bool true) (g98.2.1.getD 0 .undef)).bind fun v99 =>
 condV v99
 (some (2, [(.bool false)], g98.2.2))
 ((aBin .add .plain (xs.getD 2 .undef) (.int .i64 1)).bind fun v100 =>
 some (0, [(xs.getD 0 .undef), (xs.getD 1 .undef), v100], g98.2.2)))
 (some (1, [], h))
noncomputable def S3 (call : Go.Fw.Call) (h : Heap) : Option J :=
 (aFill (reps [.int .u8 0] 5) [(0, 1, (.int .u8 102)), (1, 1, (.int .u8 105)), (2, 1, (.int .u8 114)), (3, 1, (.int .u8 115)), (4, 1, (.int .u8 116))]).bind fun c1 =>
 (aConv .slBytes (.slice h.next 0 5 5 1 true) (h.alloc c1)).bind fun r2 =>
 (aFill (reps [.int .u8 0] 9) [(0, 1, (.int .u8 116)), (1, 1, (.int .u8 104)), (2, 1, (.int .u8 101)), (3, 1, (.int .u8 32)), (4, 1, (.int .u8 116)), (5, 1, (.int .u8 104)), (6, 1, (.int .u8 105)), (7, 1, (.int .u8 114)), (8, 1, (.int .u8 100))]).bind fun c3 =>
 (aConv .slBytes (.slice r2.2.next 0 9 9 1 true) (r2.2.alloc c3)).bind fun r4 =>
 (aFill (reps [.nilSlice] 3) [(0, 1, r2.1), (1, 1, (.nilSlice)), (2, 1, r4.1)]).bind fun c5 =>
 (call 8 [(.slice r4.2.next 0 3 3 1 true)] (r4.2.alloc c5)).bind fun r6 =>
 (loop (L3_0 call) [r6.1, (.int .i64 0)] r6.2).bind fun x61 =>
 bif Nat.beq x61.1 1 then (aFill (reps [.int .i64 0] 4) [(0, 1, (.int .i64 0)), (1, 1, (.int .i64 1)), (2, 1, (.int .i64 8192)), (3, 1, (.int .i64 8193))]).bind fun c62 =>
 (aLen false (.slice x61.2.2.next 0 4 4 1 true)).bind fun v63 =>
 (loop (L3_1 call) [(.slice x61.2.2.next 0 4 4 1 true), v63, (.int .i64 0)] (x61.2.2.alloc c62)).bind fun x101 =>
 bif Nat.beq x101.1 1 then (call 15 [] x101.2.2).bind fun r102 =>
 some (0, [r102.1], r102.2) else
 bif Nat.beq x101.1 2 then some (0, [(x101.2.1.getD 0 .undef)], x101.2.2) else
 none else
 bif Nat.beq x61.1 2 then some (0, [(x61.2.1.getD 0 .undef)], x61.2.2) else
 none
theorem run3 (call : Go.Fw.Call) (h : Heap) : runFn call (.code A3) [] h = (S3 call  h).bind ansOf := by kernel_rfl

/-- frankpledge/frankpledgelaw3.FrameTells -/
noncomputable def A4 : AFunc := ⟨5, (.seq (.region [.op 0 (.mov 10 (.const (.bool false)))] [])
 (.seq (.region [.op 0 (.mov 13 (.tmp 0)),
 .op 1 (.call 14 8 [.tmp 13]),
 .op 2 (.mov 11 (.tmp 14))] [])
 (.seq (.region [.op 0 (.buildSl 15 [.int .u8 0] 1 0 []),
 .op 1 (.mov 16 (.tmp 11)),
 .op 2 (.append 17 1 1 [.int .u8 0] false (.tmp 15) (.tmp 16)),
 .op 3 (.mov 12 (.tmp 17))] [])
 (.seq (.seq (.region [.op 0 (.mov 18 (.tmp 12)),
 .op 1 (.len 19 false (.tmp 18)),
 .op 2 (.bin 20 .gtr .plain (.tmp 19) (.const (.int .i64 0)))] [])
 (.join [(.normal, ⟨[1, 2, 11, 12], []⟩)] (.cond (.tmp 20)
 (.region [.op 0 (.mov 21 (.tmp 12)),
 .op 1 (.mov 22 (.tmp 3)),
 .op 2 (.mov 23 (.tmp 12)),
 .op 3 (.len 24 false (.tmp 23)),
 .op 4 (.bin 25 .sub .plain (.tmp 24) (.const (.int .i64 1))),
 .op 5 (.call 26 16 [.tmp 22, .const (.int .i64 0), .tmp 25]),
 .op 6 (.iaddr 27 none 1 (.tmp 21) (.tmp 26)),
 .op 7 (.load 28 false 1 (.tmp 27)),
 .op 8 (.mov 29 (.tmp 4)),
 .op 9 (.bin 30 .xor .plain (.tmp 28) (.tmp 29)),
 .op 10 (.iaddr 31 none 1 (.tmp 21) (.tmp 26)),
 .op 11 (.store false 1 (.tmp 31) (.tmp 30))] [])
 .skip)))
 (.seq (.region [.op 0 (.mov 32 (.tmp 11)),
 .op 1 (.mov 33 (.tmp 2)),
 .op 2 (.call 34 9 [.tmp 32, .tmp 33]),
 .op 3 (.mov 35 (.tmp 34)),
 .guard 35 true [.op 4 (.mov 36 (.tmp 12)),
 .op 5 (.mov 37 (.tmp 2)),
 .op 6 (.call 38 9 [.tmp 36, .tmp 37])] [] [38],
 .op 7 (.pick 39 (.tmp 35) (.tmp 38) (.const (.bool false))),
 .op 8 (.mov 40 (.tmp 39)),
 .guard 40 true [.op 9 (.mov 41 (.tmp 1)),
 .op 10 (.mov 42 (.tmp 2)),
 .op 11 (.call 43 9 [.tmp 41, .tmp 42])] [] [43],
 .op 12 (.pick 44 (.tmp 40) (.tmp 43) (.const (.bool false))),
 .op 13 (.mov 45 (.tmp 44)),
 .guard 45 true [.op 14 (.mov 46 (.tmp 11)),
 .op 15 (.mov 47 (.tmp 1)),
 .op 16 (.append 48 1 1 [.int .u8 0] false (.tmp 46) (.tmp 47)),
 .op 17 (.mov 49 (.tmp 2)),
 .op 18 (.call 50 9 [.tmp 48, .tmp 49])] [] [50],
 .op 19 (.pick 51 (.tmp 45) (.tmp 50) (.const (.bool false))),
 .op 20 (.mov 52 (.tmp 51)),
 .guard 52 true [.op 21 (.mov 53 (.tmp 1)),
 .op 22 (.call 54 10 [.tmp 53])] [] [54],
 .op 23 (.pick 55 (.tmp 52) (.tmp 54) (.const (.bool false))),
 .op 24 (.mov 56 (.tmp 55)),
 .guard 56 true [.op 25 (.mov 57 (.tmp 12)),
 .op 26 (.call 58 10 [.tmp 57])] [] [58],
 .op 27 (.pick 59 (.tmp 56) (.tmp 58) (.const (.bool false))),
 .op 28 (.mov 60 (.tmp 59)),
 .guard 60 true [.op 29 (.mov 61 (.tmp 1)),
 .op 30 (.call 62 13 [.tmp 61]),
 .op 31 (.mov 63 (.tmp 1)),
 .op 32 (.call 64 14 [.tmp 63]),
 .op 33 (.bin 65 .eql .plain (.tmp 62) (.tmp 64))] [] [65],
 .op 34 (.pick 66 (.tmp 60) (.tmp 65) (.const (.bool false))),
 .op 35 (.mov 67 (.tmp 66)),
 .guard 67 true [.op 36 (.call 68 15 [])] [] [68],
 .op 37 (.pick 69 (.tmp 67) (.tmp 68) (.const (.bool false))),
 .op 38 (.mov 10 (.tmp 69))] [])
 .ret))))),
 [.tmp 10]⟩
theorem ok4 : funcOk Try.prog (drawOk Try.prog) Try.f4 A4 = true := by kernel_rfl
noncomputable def S4 (call : Go.Fw.Call) (a0 a1 a2 a3 a4 : AVal) (h : Heap) : Option J :=
 (call 8 [a0] h).bind fun r1 =>
 (aFill (reps [.int .u8 0] 0) []).bind fun c2 =>
 (aAppend 1 1 [.int .u8 0] false (.slice r1.2.next 0 0 0 1 true) r1.1 (r1.2.alloc c2)).bind fun r3 =>
 (aLen false r3.1).bind fun v4 =>
 (aBin .gtr .plain v4 (.int .i64 0)).bind fun v5 =>
 (condV v5
 ((aLen false r3.1).bind fun v6 =>
 (aBin .sub .plain v6 (.int .i64 1)).bind fun v7 =>
 (call 16 [a3, (.int .i64 0), v7] r3.2).bind fun r8 =>
 (aIaddr 1 r3.1 r8.1).bind fun v9 =>
 (aLoad r8.2 1 v9).bind fun c10 =>
 (fromCells false c10).bind fun v11 =>
 (aBin .xor .plain v11 a4).bind fun v12 =>
 (aIaddr 1 r3.1 r8.1).bind fun v13 =>
 (aCells 1 v12).bind fun c14 =>
 (aStore r8.2 v13 c14).bind fun h15 =>
 some (0, [a1, a2, r1.1, r3.1], h15))
 (some (0, [a1, a2, r1.1, r3.1], r3.2))).bind fun x16 =>
 bif Nat.beq x16.1 0 then (call 9 [(x16.2.1.getD 2 .undef), (x16.2.1.getD 1 .undef)] x16.2.2).bind fun r17 =>
 (guardV r17.1 true
 ((call 9 [(x16.2.1.getD 3 .undef), (x16.2.1.getD 1 .undef)] r17.2).bind fun r18 =>
 some (0, [r18.1], r18.2))
 (some (0, [skipV], r17.2))).bind fun g19 =>
 (aPick r17.1 (g19.2.1.getD 0 .undef) (.bool false)).bind fun v20 =>
 (guardV v20 true
 ((call 9 [(x16.2.1.getD 0 .undef), (x16.2.1.getD 1 .undef)] g19.2.2).bind fun r21 =>
 some (0, [r21.1], r21.2))
 (some (0, [skipV], g19.2.2))).bind fun g22 =>
 (aPick v20 (g22.2.1.getD 0 .undef) (.bool false)).bind fun v23 =>
 (guardV v23 true
 ((aAppend 1 1 [.int .u8 0] false (x16.2.1.getD 2 .undef) (x16.2.1.getD 0 .undef) g22.2.2).bind fun r24 =>
 (call 9 [r24.1, (x16.2.1.getD 1 .undef)] r24.2).bind fun r25 =>
 some (0, [r25.1], r25.2))
 (some (0, [skipV], g22.2.2))).bind fun g26 =>
 (aPick v23 (g26.2.1.getD 0 .undef) (.bool false)).bind fun v27 =>
 (guardV v27 true
 ((call 10 [(x16.2.1.getD 0 .undef)] g26.2.2).bind fun r28 =>
 some (0, [r28.1], r28.2))
 (some (0, [skipV], g26.2.2))).bind fun g29 =>
 (aPick v27 (g29.2.1.getD 0 .undef) (.bool false)).bind fun v30 =>
 (guardV v30 true
 ((call 10 [(x16.2.1.getD 3 .undef)] g29.2.2).bind fun r31 =>
 some (0, [r31.1], r31.2))
 (some (0, [skipV], g29.2.2))).bind fun g32 =>
 (aPick v30 (g32.2.1.getD 0 .undef) (.bool false)).bind fun v33 =>
 (guardV v33 true
 ((call 13 [(x16.2.1.getD 0 .undef)] g32.2.2).bind fun r34 =>
 (call 14 [(x16.2.1.getD 0 .undef)] r34.2).bind fun r35 =>
 (aBin .eql .plain r34.1 r35.1).bind fun v36 =>
 some (0, [v36], r35.2))
 (some (0, [skipV], g32.2.2))).bind fun g37 =>
 (aPick v33 (g37.2.1.getD 0 .undef) (.bool false)).bind fun v38 =>
 (guardV v38 true
 ((call 15 [] g37.2.2).bind fun r39 =>
 some (0, [r39.1], r39.2))
 (some (0, [skipV], g37.2.2))).bind fun g40 =>
 (aPick v38 (g40.2.1.getD 0 .undef) (.bool false)).bind fun v41 =>
 some (0, [v41], g40.2.2) else
 none
theorem run4 (call : Go.Fw.Call) (a0 a1 a2 a3 a4 : AVal) (h : Heap) : runFn call (.code A4) [a0, a1, a2, a3, a4] h = (S4 call a0 a1 a2 a3 a4 h).bind ansOf := by kernel_rfl

/-- frankpledge/frankpledgelaw3.FrameBack -/
noncomputable def A5 : AFunc := ⟨3, (.seq (.region [.op 0 (.mov 6 (.const (.bool false)))] [])
 (.seq (.region [.op 0 (.call 19 17 []),
 .op 1 (.mov 7 (.tmp 19))] [])
 (.seq (.seq (.region [.op 0 (.mov 20 (.tmp 7)),
 .op 1 (.bin 21 .eql .ptr (.tmp 20) (.const (.nilPtr)))] [])
 (.cond (.tmp 21)
 (.seq (.region [.op 0 (.mov 6 (.const (.bool false)))] [])
 .ret)
 .skip))
 (.seq (.region [.op 0 (.mov 8 (.const (.int .i64 0)))] [])
 (.seq (.seq (.region [.op 0 (.mov 9 (.const (.int .i64 0)))] [])
 (.block 0 (.loop ⟨[0, 1, 2, 7, 8, 9], []⟩ [((.exit 0), ⟨[0, 7, 8], []⟩), (.ret, ⟨[6], []⟩)]
 (.seq (.seq (.region [.op 0 (.mov 22 (.tmp 9)),
 .op 1 (.mov 23 (.tmp 0)),
 .op 2 (.len 24 false (.tmp 23)),
 .op 3 (.bin 25 .lss .plain (.tmp 22) (.tmp 24)),
 .op 4 (.mov 26 (.tmp 25)),
 .guard 26 true [.op 5 (.mov 27 (.tmp 9)),
 .op 6 (.bin 28 .lss .plain (.tmp 27) (.const (.int .i64 5)))] [] [28],
 .op 7 (.pick 29 (.tmp 26) (.tmp 28) (.const (.bool false)))] [])
 (.cond (.tmp 29)
 .skip
 (.exit 0)))
 (.seq (.block 1 (.seq (.region [.op 0 (.mov 32 (.tmp 0)),
 .op 1 (.mov 33 (.tmp 9)),
 .op 2 (.iaddr 34 none 1 (.tmp 32) (.tmp 33)),
 .op 3 (.load 35 false 1 (.tmp 34)),
 .op 4 (.mov 10 (.tmp 35))] [])
 (.seq (.seq (.region [.op 0 (.mov 36 (.tmp 10)),
 .op 1 (.len 37 false (.tmp 36)),
 .op 2 (.bin 38 .gtr .plain (.tmp 37) (.const (.int .i64 50)))] [])
 (.join [(.normal, ⟨[0, 1, 2, 7, 8, 9, 10], []⟩)] (.cond (.tmp 38)
 (.region [.op 0 (.mov 39 (.tmp 10)),
 .op 1 (.slice 40 (.sl 1) (.tmp 39) none (some (.const (.int .i64 50))) none),
 .op 2 (.mov 10 (.tmp 40))] [])
 .skip)))
 (.seq (.region [.op 0 (.mov 42 (.tmp 10)),
 .op 1 (.call 43 12 [.tmp 42]),
 .op 2 (.mov 41 (.tmp 43)),
 .op 3 (.extract 44 (.tmp 41) 0),
 .op 4 (.extract 45 (.tmp 41) 1),
 .op 5 (.mov 11 (.tmp 44)),
 .op 6 (.mov 12 (.tmp 45))] [])
 (.seq (.seq (.region [.op 0 (.mov 46 (.tmp 12)),
 .op 1 (.bin 47 .neq .plain (.tmp 46) (.const (.int .i64 0))),
 .op 2 (.mov 48 (.tmp 47)),
 .guard 48 false [.op 3 (.mov 49 (.tmp 11)),
 .op 4 (.len 50 false (.tmp 49)),
 .op 5 (.mov 51 (.tmp 10)),
 .op 6 (.len 52 false (.tmp 51)),
 .op 7 (.bin 53 .add .plain (.tmp 52) (.const (.int .i64 8))),
 .op 8 (.bin 54 .neq .plain (.tmp 50) (.tmp 53))] [] [54],
 .op 9 (.pick 55 (.tmp 48) (.const (.bool true)) (.tmp 54))] [])
 (.cond (.tmp 55)
 (.seq (.region [.op 0 (.mov 6 (.const (.bool false)))] [])
 .ret)
 .skip))
 (.seq (.seq (.region [.op 0 (.mov 56 (.tmp 11)),
 .op 1 (.len 57 false (.tmp 56)),
 .op 2 (.mov 58 (.const (.int .i64 0)))] [])
 (.block 2 (.loop ⟨[0, 1, 2, 7, 8, 9, 10, 11, 57, 58], []⟩ [((.exit 2), ⟨[0, 1, 2, 7, 8, 9, 11], []⟩), (.ret, ⟨[6], []⟩)]
 (.seq (.region [.op 0 (.bin 59 .lss .plain (.tmp 58) (.tmp 57))] [])
 (.seq (.cond (.tmp 59)
 .skip
 (.exit 2))
 (.seq (.block 3 (.seq (.region [.op 0 (.mov 60 (.tmp 58)),
 .op 1 (.mov 13 (.tmp 60))] [])
 (.seq (.region [.op 0 (.mov 62 (.tmp 7)),
 .op 1 (.mov 63 (.tmp 11)),
 .op 2 (.mov 64 (.tmp 13)),
 .op 3 (.mov 65 (.tmp 13)),
 .op 4 (.bin 66 .add .plain (.tmp 65) (.const (.int .i64 1))),
 .op 5 (.slice 67 (.sl 1) (.tmp 63) (some (.tmp 64)) (some (.tmp 66)) none),
 .op 6 (.call 68 18 [.tmp 62, .tmp 67]),
 .op 7 (.mov 61 (.tmp 68)),
 .op 8 (.extract 69 (.tmp 61) 0),
 .op 9 (.extract 70 (.tmp 61) 1),
 .op 10 (.mov 14 (.tmp 69)),
 .op 11 (.mov 15 (.tmp 70))] [])
 (.seq (.seq (.region [.op 0 (.mov 71 (.tmp 15)),
 .op 1 (.bin 72 .neq .plain (.tmp 71) (.const (.int .i64 0))),
 .op 2 (.mov 73 (.tmp 72)),
 .guard 73 false [.op 3 (.mov 74 (.tmp 14)),
 .op 4 (.len 75 false (.tmp 74)),
 .op 5 (.bin 76 .eql .plain (.tmp 75) (.const (.int .i64 1))),
 .op 6 (.mov 77 (.tmp 13)),
 .op 7 (.mov 78 (.tmp 11)),
 .op 8 (.len 79 false (.tmp 78)),
 .op 9 (.bin 80 .sub .plain (.tmp 79) (.const (.int .i64 1))),
 .op 10 (.bin 81 .eql .plain (.tmp 77) (.tmp 80)),
 .op 11 (.bin 82 .neq .bool (.tmp 76) (.tmp 81))] [] [82],
 .op 12 (.pick 83 (.tmp 73) (.const (.bool true)) (.tmp 82)),
 .op 13 (.mov 84 (.tmp 83)),
 .guard 84 false [.op 14 (.mov 85 (.tmp 14)),
 .op 15 (.len 86 false (.tmp 85)),
 .op 16 (.bin 87 .eql .plain (.tmp 86) (.const (.int .i64 1))),
 .op 17 (.mov 88 (.tmp 87)),
 .guard 88 true [.op 18 (.mov 89 (.tmp 14)),
 .op 19 (.iaddr 90 none 1 (.tmp 89) (.const (.int .i64 0))),
 .op 20 (.load 91 false 1 (.tmp 90)),
 .op 21 (.conv 92 .bytesStr (.tmp 91)),
 .op 22 (.mov 93 (.tmp 10)),
 .op 23 (.conv 94 .bytesStr (.tmp 93)),
 .op 24 (.bin 95 .neq .plain (.tmp 92) (.tmp 94))] [] [95],
 .op 25 (.pick 96 (.tmp 88) (.tmp 95) (.const (.bool false)))] [] [96],
 .op 26 (.pick 97 (.tmp 84) (.const (.bool true)) (.tmp 96))] [])
 (.cond (.tmp 97)
 (.seq (.region [.op 0 (.mov 6 (.const (.bool false)))] [])
 .ret)
 .skip))
 (.region [.op 0 (.mov 98 (.tmp 8)),
 .op 1 (.mov 99 (.tmp 14)),
 .op 2 (.len 100 false (.tmp 99)),
 .op 3 (.bin 101 .add .plain (.tmp 98) (.tmp 100)),
 .op 4 (.mov 8 (.tmp 101))] [])))))
 (.region [.op 0 (.bin 102 .add .plain (.tmp 58) (.const (.int .i64 1))),
 .op 1 (.mov 58 (.tmp 102))] [])))))))
 (.seq (.region [.op 0 (.mov 103 (.tmp 1)),
 .op 1 (.mov 104 (.tmp 11)),
 .op 2 (.len 105 false (.tmp 104)),
 .op 3 (.bin 106 .sub .plain (.tmp 105) (.const (.int .i64 5))),
 .op 4 (.call 107 16 [.tmp 103, .const (.int .i64 0), .tmp 106]),
 .op 5 (.bin 108 .add .plain (.const (.int .i64 4)) (.tmp 107)),
 .op 6 (.mov 16 (.tmp 108))] [])
 (.seq (.region [.op 0 (.mov 109 (.tmp 11)),
 .op 1 (.mov 110 (.tmp 16)),
 .op 2 (.iaddr 111 none 1 (.tmp 109) (.tmp 110)),
 .op 3 (.load 112 false 1 (.tmp 111)),
 .op 4 (.mov 113 (.tmp 2)),
 .op 5 (.bin 114 .or .plain (.tmp 113) (.const (.int .u8 1))),
 .op 6 (.bin 115 .xor .plain (.tmp 112) (.tmp 114)),
 .op 7 (.iaddr 116 none 1 (.tmp 109) (.tmp 110)),
 .op 8 (.store false 1 (.tmp 116) (.tmp 115))] [])
 (.seq (.region [.op 0 (.mov 118 (.tmp 11)),
 .op 1 (.call 119 19 [.tmp 118]),
 .op 2 (.mov 117 (.tmp 119)),
 .op 3 (.extract 120 (.tmp 117) 0),
 .op 4 (.extract 121 (.tmp 117) 1),
 .op 5 (.mov 17 (.tmp 120)),
 .op 6 (.mov 18 (.tmp 121))] [])
 (.seq (.region [.op 0 (.mov 122 (.tmp 18)),
 .op 1 (.bin 123 .neq .plain (.tmp 122) (.const (.int .i64 13)))] [])
 (.cond (.tmp 123)
 (.seq (.region [.op 0 (.mov 6 (.const (.bool false)))] [])
 .ret)
 .skip)))))))))))
 (.region [.op 0 (.mov 30 (.tmp 9)),
 .op 1 (.bin 31 .add .plain (.tmp 30) (.const (.int .i64 1))),
 .op 2 (.mov 9 (.tmp 31))] []))))))
 (.seq (.region [.op 0 (.mov 124 (.tmp 8)),
 .op 1 (.mov 125 (.tmp 0)),
 .op 2 (.len 126 false (.tmp 125)),
 .op 3 (.minmax 127 false [.tmp 126, .const (.int .i64 5)]),
 .op 4 (.bin 128 .eql .plain (.tmp 124) (.tmp 127)),
 .op 5 (.mov 129 (.tmp 128)),
 .guard 129 true [.op 6 (.mov 130 (.tmp 7)),
 .op 7 (.call 131 20 [.tmp 130]),
 .op 8 (.bin 132 .eql .plain (.tmp 131) (.const (.int .i64 0)))] [] [132],
 .op 9 (.pick 133 (.tmp 129) (.tmp 132) (.const (.bool false))),
 .op 10 (.mov 134 (.tmp 133)),
 .guard 134 true [.op 11 (.call 135 15 [])] [] [135],
 .op 12 (.pick 136 (.tmp 134) (.tmp 135) (.const (.bool false))),
 .op 13 (.mov 6 (.tmp 136))] [])
 .ret)))))),
 [.tmp 6]⟩
theorem ok5 : funcOk Try.prog (drawOk Try.prog) Try.f5 A5 = true := by kernel_rfl
/-- xs: t0, t1, t2, t7, t8, t9, t10, t11, t57, t58 -/
noncomputable def L5_1 (call : Go.Fw.Call) (xs : List AVal) (h : Heap) : Option J :=
 (aBin .lss .plain (xs.getD 9 .undef) (xs.getD 8 .undef)).bind fun v26 =>
 condV v26
 ((aBin .add .plain (xs.getD 9 .undef) (.int .i64 1)).bind fun v27 =>
 (aSliceSl 1 (xs.getD 7 .undef) (some (xs.getD 9 .undef)) (some v27) none).bind fun v28 =>
 (call 18 [(xs.getD 3 .undef), v28] h).bind fun r29 =>
 (aExtract 0 r29.1).bind fun v30 =>
 (aExtract 1 r29.1).bind fun v31 =>
 (aBin .neq .plain v31 (.int .i64 0)).bind fun v32 =>
 (guardV v32 false
 ((aLen false v30).bind fun v33 =>
 (aBin .eql .plain v33 (.int .i64 1)).bind fun v34 =>
 (aLen false (xs.getD 7 .undef)).bind fun v35 =>
 (aBin .sub .plain v35 (.int .i64 1)).bind fun v36 =>
 (aBin .eql .plain (xs.getD 9 .undef) v36).bind fun v37 =>
 (aBin .neq .bool v34 v37).bind fun v38 =>
 some (0, [v38], r29.2))
 (some (0, [skipV], r29.2))).bind fun g39 =>
 (aPick v32 (.bool true) (g39.2.1.getD 0 .undef)).bind fun v40 =>
 (guardV v40 false
 ((aLen false v30).bind fun v41 =>
 (aBin .eql .plain v41 (.int .i64 1)).bind fun v42 =>
 (guardV v42 true
 ((aIaddr 1 v30 (.int .i64 0)).bind fun v43 =>
 (aLoad g39.2.2 1 v43).bind fun c44 =>
 (fromCells false c44).bind fun v45 =>
 (aConv .bytesStr v45 g39.2.2).bind fun r46 =>
 (aConv .bytesStr (xs.getD 6 .undef) r46.2).bind fun r47 =>
 (aBin .neq .plain r46.1 r47.1).bind fun v48 =>
 some (0, [v48], r47.2))
 (some (0, [skipV], g39.2.2))).bind fun g49 =>
 (aPick v42 (g49.2.1.getD 0 .undef) (.bool false)).bind fun v50 =>
 some (0, [v50], g49.2.2))
 (some (0, [skipV], g39.2.2))).bind fun g51 =>
 (aPick v40 (.bool true) (g51.2.1.getD 0 .undef)).bind fun v52 =>
 condV v52
 (some (2, [(.bool false)], g51.2.2))
 ((aLen false v30).bind fun v53 =>
 (aBin .add .plain (xs.getD 4 .undef) v53).bind fun v54 =>
 (aBin .add .plain (xs.getD 9 .undef) (.int .i64 1)).bind fun v55 =>
 some (0, [(xs.getD 0 .undef), (xs.getD 1 .undef), (xs.getD 2 .undef), (xs.getD 3 .undef), v54, (xs.getD 5 .undef), (xs.getD 6 .undef), (xs.getD 7 .undef), (xs.getD 8 .undef), v55], g51.2.2)))
 (some (1, [(xs.getD 0 .undef), (xs.getD 1 .undef), (xs.getD 2 .undef), (xs.getD 3 .undef), (xs.getD 4 .undef), (xs.getD 5 .undef), (xs.getD 7 .undef)], h))
/-- xs: t0, t1, t2, t7, t8, t9 -/
noncomputable def L5_0 (call : Go.Fw.Call) (xs : List AVal) (h : Heap) : Option J :=
 (aLen false (xs.getD 0 .undef)).bind fun v3 =>
 (aBin .lss .plain (xs.getD 5 .undef) v3).bind fun v4 =>
 (guardV v4 true
 ((aBin .lss .plain (xs.getD 5 .undef) (.int .i64 5)).bind fun v5 =>
 some (0, [v5], h))
 (some (0, [skipV], h))).bind fun g6 =>
 (aPick v4 (g6.2.1.getD 0 .undef) (.bool false)).bind fun v7 =>
 condV v7
 ((aIaddr 1 (xs.getD 0 .undef) (xs.getD 5 .undef)).bind fun v8 =>
 (aLoad g6.2.2 1 v8).bind fun c9 =>
 (fromCells false c9).bind fun v10 =>
 (aLen false v10).bind fun v11 =>
 (aBin .gtr .plain v11 (.int .i64 50)).bind fun v12 =>
 (condV v12
 ((aSliceSl 1 v10 none (some (.int .i64 50)) none).bind fun v13 =>
 some (0, [(xs.getD 0 .undef), (xs.getD 1 .undef), (xs.getD 2 .undef), (xs.getD 3 .undef), (xs.getD 4 .undef), (xs.getD 5 .undef), v13], g6.2.2))
 (some (0, [(xs.getD 0 .undef), (xs.getD 1 .undef), (xs.getD 2 .undef), (xs.getD 3 .undef), (xs.getD 4 .undef), (xs.getD 5 .undef), v10], g6.2.2))).bind fun x14 =>
 bif Nat.beq x14.1 0 then (call 12 [(x14.2.1.getD 6 .undef)] x14.2.2).bind fun r15 =>
 (aExtract 0 r15.1).bind fun v16 =>
 (aExtract 1 r15.1).bind fun v17 =>
 (aBin .neq .plain v17 (.int .i64 0)).bind fun v18 =>
 (guardV v18 false
 ((aLen false v16).bind fun v19 =>
 (aLen false (x14.2.1.getD 6 .undef)).bind fun v20 =>
 (aBin .add .plain v20 (.int .i64 8)).bind fun v21 =>
 (aBin .neq .plain v19 v21).bind fun v22 =>
 some (0, [v22], r15.2))
 (some (0, [skipV], r15.2))).bind fun g23 =>
 (aPick v18 (.bool true) (g23.2.1.getD 0 .undef)).bind fun v24 =>
 condV v24
 (some (2, [(.bool false)], g23.2.2))
 ((aLen false v16).bind fun v25 =>
 (loop (L5_1 call) [(x14.2.1.getD 0 .undef), (x14.2.1.getD 1 .undef), (x14.2.1.getD 2 .undef), (x14.2.1.getD 3 .undef), (x14.2.1.getD 4 .undef), (x14.2.1.getD 5 .undef), (x14.2.1.getD 6 .undef), v16, v25, (.int .i64 0)] g23.2.2).bind fun x56 =>
 bif Nat.beq x56.1 1 then (aLen false (x56.2.1.getD 6 .undef)).bind fun v57 =>
 (aBin .sub .plain v57 (.int .i64 5)).bind fun v58 =>
 (call 16 [(x56.2.1.getD 1 .undef), (.int .i64 0), v58] x56.2.2).bind fun r59 =>
 (aBin .add .plain (.int .i64 4) r59.1).bind fun v60 =>
 (aIaddr 1 (x56.2.1.getD 6 .undef) v60).bind fun v61 =>
 (aLoad r59.2 1 v61).bind fun c62 =>
 (fromCells false c62).bind fun v63 =>
 (aBin .or .plain (x56.2.1.getD 2 .undef) (.int .u8 1)).bind fun v64 =>
 (aBin .xor .plain v63 v64).bind fun v65 =>
 (aIaddr 1 (x56.2.1.getD 6 .undef) v60).bind fun v66 =>
 (aCells 1 v65).bind fun c67 =>
 (aStore r59.2 v66 c67).bind fun h68 =>
 (call 19 [(x56.2.1.getD 6 .undef)] h68).bind fun r69 =>
 (aExtract 0 r69.1).bind fun v70 =>
 (aExtract 1 r69.1).bind fun v71 =>
 (aBin .neq .plain v71 (.int .i64 13)).bind fun v72 =>
 condV v72
 (some (2, [(.bool false)], r69.2))
 ((aBin .add .plain (x56.2.1.getD 5 .undef) (.int .i64 1)).bind fun v73 =>
 some (0, [(x56.2.1.getD 0 .undef), (x56.2.1.getD 1 .undef), (x56.2.1.getD 2 .undef), (x56.2.1.getD 3 .undef), (x56.2.1.getD 4 .undef), v73], r69.2)) else
 bif Nat.beq x56.1 2 then some (2, [(x56.2.1.getD 0 .undef)], x56.2.2) else
 none) else
 none)
 (some (1, [(xs.getD 0 .undef), (xs.getD 3 .undef), (xs.getD 4 .undef)], g6.2.2))
noncomputable def S5 (call : Go.Fw.Call) (a0 a1 a2 : AVal) (h : Heap) : Option J :=
 (call 17 [] h).bind fun r1 =>
 (aBin .eql .ptr r1.1 (.nilPtr)).bind fun v2 =>
 condV v2
 (some (0, [(.bool false)], r1.2))
 ((loop (L5_0 call) [a0, a1, a2, r1.1, (.int .i64 0), (.int .i64 0)] r1.2).bind fun x74 =>
 bif Nat.beq x74.1 1 then (aLen false (x74.2.1.getD 0 .undef)).bind fun v75 =>
 (aMinMaxL false [v75, (.int .i64 5)]).bind fun v76 =>
 (aBin .eql .plain (x74.2.1.getD 2 .undef) v76).bind fun v77 =>
 (guardV v77 true
 ((call 20 [(x74.2.1.getD 1 .undef)] x74.2.2).bind fun r78 =>
 (aBin .eql .plain r78.1 (.int .i64 0)).bind fun v79 =>
 some (0, [v79], r78.2))
 (some (0, [skipV], x74.2.2))).bind fun g80 =>
 (aPick v77 (g80.2.1.getD 0 .undef) (.bool false)).bind fun v81 =>
 (guardV v81 true
 ((call 15 [] g80.2.2).bind fun r82 =>
 some (0, [r82.1], r82.2))
 (some (0, [skipV], g80.2.2))).bind fun g83 =>
 (aPick v81 (g83.2.1.getD 0 .undef) (.bool false)).bind fun v84 =>
 some (0, [v84], g83.2.2) else
 bif Nat.beq x74.1 2 then some (0, [(x74.2.1.getD 0 .undef)], x74.2.2) else
 none)
theorem run5 (call : Go.Fw.Call) (a0 a1 a2 : AVal) (h : Heap) : runFn call (.code A5) [a0, a1, a2] h = (S5 call a0 a1 a2 h).bind ansOf := by kernel_rfl

/-- frankpledge/frankpledgelaw3.FrameStops -/
noncomputable def A6 : AFunc := ⟨3, (.seq (.region [.op 0 (.mov 6 (.const (.bool false)))] [])
 (.seq (.region [.op 0 (.call 18 17 []),
 .op 1 (.mov 7 (.tmp 18))] [])
 (.seq (.seq (.region [.op 0 (.mov 19 (.tmp 7)),
 .op 1 (.bin 20 .eql .ptr (.tmp 19) (.const (.nilPtr)))] [])
 (.cond (.tmp 20)
 (.seq (.region [.op 0 (.mov 6 (.const (.bool false)))] [])
 .ret)
 .skip))
 (.seq (.region [.op 0 (.mov 21 (.tmp 0)),
 .op 1 (.len 22 false (.tmp 21)),
 .op 2 (.minmax 23 false [.tmp 22, .const (.int .i64 6)]),
 .op 3 (.mov 8 (.tmp 23))] [])
 (.seq (.region [.op 0 (.mov 24 (.tmp 1)),
 .op 1 (.mov 25 (.tmp 8)),
 .op 2 (.call 26 16 [.tmp 24, .const (.int .i64 0), .tmp 25]),
 .op 3 (.mov 9 (.tmp 26))] [])
 (.seq (.seq (.region [.op 0 (.mov 10 (.const (.int .i64 0)))] [])
 (.block 0 (.loop ⟨[0, 2, 7, 8, 9, 10], []⟩ [((.exit 0), ⟨[2, 7, 8, 9], []⟩), (.ret, ⟨[6], []⟩)]
 (.seq (.seq (.region [.op 0 (.mov 27 (.tmp 10)),
 .op 1 (.mov 28 (.tmp 8)),
 .op 2 (.bin 29 .lss .plain (.tmp 27) (.tmp 28))] [])
 (.cond (.tmp 29)
 .skip
 (.exit 0)))
 (.seq (.block 1 (.seq (.region [.op 0 (.mov 32 (.tmp 0)),
 .op 1 (.mov 33 (.tmp 10)),
 .op 2 (.iaddr 34 none 1 (.tmp 32) (.tmp 33)),
 .op 3 (.load 35 false 1 (.tmp 34)),
 .op 4 (.mov 11 (.tmp 35))] [])
 (.seq (.seq (.region [.op 0 (.mov 36 (.tmp 11)),
 .op 1 (.len 37 false (.tmp 36)),
 .op 2 (.bin 38 .gtr .plain (.tmp 37) (.const (.int .i64 30)))] [])
 (.join [(.normal, ⟨[0, 2, 7, 8, 9, 10, 11], []⟩)] (.cond (.tmp 38)
 (.region [.op 0 (.mov 39 (.tmp 11)),
 .op 1 (.slice 40 (.sl 1) (.tmp 39) none (some (.const (.int .i64 30))) none),
 .op 2 (.mov 11 (.tmp 40))] [])
 .skip)))
 (.seq (.region [.op 0 (.mov 42 (.tmp 11)),
 .op 1 (.call 43 12 [.tmp 42]),
 .op 2 (.mov 41 (.tmp 43)),
 .op 3 (.extract 44 (.tmp 41) 0),
 .op 4 (.extract 45 (.tmp 41) 1),
 .op 5 (.mov 12 (.tmp 44)),
 .op 6 (.mov 13 (.tmp 45))] [])
 (.seq (.seq (.region [.op 0 (.mov 46 (.tmp 13)),
 .op 1 (.bin 47 .neq .plain (.tmp 46) (.const (.int .i64 0))),
 .op 2 (.mov 48 (.tmp 47)),
 .guard 48 false [.op 3 (.mov 49 (.tmp 12)),
 .op 4 (.len 50 false (.tmp 49)),
 .op 5 (.bin 51 .lss .plain (.tmp 50) (.const (.int .i64 8)))] [] [51],
 .op 6 (.pick 52 (.tmp 48) (.const (.bool true)) (.tmp 51))] [])
 (.cond (.tmp 52)
 (.seq (.region [.op 0 (.mov 6 (.const (.bool false)))] [])
 .ret)
 .skip))
 (.seq (.seq (.region [.op 0 (.mov 53 (.tmp 10)),
 .op 1 (.mov 54 (.tmp 9)),
 .op 2 (.bin 55 .eql .plain (.tmp 53) (.tmp 54))] [])
 (.join [(.normal, ⟨[0, 2, 7, 8, 9, 10, 11, 12], []⟩)] (.cond (.tmp 55)
 (.region [.op 0 (.mov 56 (.tmp 12)),
 .op 1 (.mov 57 (.tmp 12)),
 .op 2 (.len 58 false (.tmp 57)),
 .op 3 (.bin 59 .sub .plain (.tmp 58) (.const (.int .i64 1))),
 .op 4 (.iaddr 60 none 1 (.tmp 56) (.tmp 59)),
 .op 5 (.load 61 false 1 (.tmp 60)),
 .op 6 (.bin 62 .xor .plain (.tmp 61) (.const (.int .u8 4))),
 .op 7 (.iaddr 63 none 1 (.tmp 56) (.tmp 59)),
 .op 8 (.store false 1 (.tmp 63) (.tmp 62))] [])
 .skip)))
 (.seq (.region [.op 0 (.mov 65 (.tmp 7)),
 .op 1 (.mov 66 (.tmp 12)),
 .op 2 (.call 67 18 [.tmp 65, .tmp 66]),
 .op 3 (.mov 64 (.tmp 67)),
 .op 4 (.extract 68 (.tmp 64) 0),
 .op 5 (.extract 69 (.tmp 64) 1),
 .op 6 (.mov 14 (.tmp 68)),
 .op 7 (.mov 15 (.tmp 69))] [])
 (.seq (.region [.op 0 (.mov 70 (.tmp 10)),
 .op 1 (.mov 71 (.tmp 9)),
 .op 2 (.bin 72 .lss .plain (.tmp 70) (.tmp 71)),
 .op 3 (.mov 73 (.tmp 72)),
 .guard 73 true [.op 4 (.mov 74 (.tmp 15)),
 .op 5 (.bin 75 .neq .plain (.tmp 74) (.const (.int .i64 0))),
 .op 6 (.mov 76 (.tmp 75)),
 .guard 76 false [.op 7 (.mov 77 (.tmp 14)),
 .op 8 (.len 78 false (.tmp 77)),
 .op 9 (.bin 79 .neq .plain (.tmp 78) (.const (.int .i64 1)))] [] [79],
 .op 10 (.pick 80 (.tmp 76) (.const (.bool true)) (.tmp 79)),
 .op 11 (.mov 81 (.tmp 80)),
 .guard 81 false [.op 12 (.mov 82 (.tmp 14)),
 .op 13 (.iaddr 83 none 1 (.tmp 82) (.const (.int .i64 0))),
 .op 14 (.load 84 false 1 (.tmp 83)),
 .op 15 (.conv 85 .bytesStr (.tmp 84)),
 .op 16 (.mov 86 (.tmp 11)),
 .op 17 (.conv 87 .bytesStr (.tmp 86)),
 .op 18 (.bin 88 .neq .plain (.tmp 85) (.tmp 87))] [] [88],
 .op 19 (.pick 89 (.tmp 81) (.const (.bool true)) (.tmp 88))] [] [89],
 .op 20 (.pick 90 (.tmp 73) (.tmp 89) (.const (.bool false))),
 .op 21 (.mov 91 (.tmp 90)),
 .guard 91 false [.op 22 (.mov 92 (.tmp 10)),
 .op 23 (.mov 93 (.tmp 9)),
 .op 24 (.bin 94 .geq .plain (.tmp 92) (.tmp 93)),
 .op 25 (.mov 95 (.tmp 94)),
 .guard 95 true [.op 26 (.mov 96 (.tmp 15)),
 .op 27 (.bin 97 .neq .plain (.tmp 96) (.const (.int .i64 13))),
 .op 28 (.mov 98 (.tmp 97)),
 .guard 98 false [.op 29 (.mov 99 (.tmp 14)),
 .op 30 (.len 100 false (.tmp 99)),
 .op 31 (.bin 101 .neq .plain (.tmp 100) (.const (.int .i64 0)))] [] [101],
 .op 32 (.pick 102 (.tmp 98) (.const (.bool true)) (.tmp 101))] [] [102],
 .op 33 (.pick 103 (.tmp 95) (.tmp 102) (.const (.bool false)))] [] [103],
 .op 34 (.pick 104 (.tmp 91) (.const (.bool true)) (.tmp 103))] [])
 (.cond (.tmp 104)
 (.seq (.region [.op 0 (.mov 6 (.const (.bool false)))] [])
 .ret)
 .skip)))))))))
 (.region [.op 0 (.mov 30 (.tmp 10)),
 .op 1 (.bin 31 .add .plain (.tmp 30) (.const (.int .i64 1))),
 .op 2 (.mov 10 (.tmp 31))] []))))))
 (.seq (.region [.op 0 (.mov 106 (.tmp 7)),
 .op 1 (.mov 107 (.tmp 2)),
 .op 2 (.call 108 18 [.tmp 106, .tmp 107]),
 .op 3 (.mov 105 (.tmp 108)),
 .op 4 (.extract 109 (.tmp 105) 0),
 .op 5 (.extract 110 (.tmp 105) 1),
 .op 6 (.mov 16 (.tmp 109)),
 .op 7 (.mov 17 (.tmp 110))] [])
 (.seq (.region [.op 0 (.mov 111 (.tmp 9)),
 .op 1 (.mov 112 (.tmp 8)),
 .op 2 (.bin 113 .eql .plain (.tmp 111) (.tmp 112)),
 .op 3 (.mov 114 (.tmp 113)),
 .guard 114 false [.op 4 (.mov 115 (.tmp 17)),
 .op 5 (.bin 116 .eql .plain (.tmp 115) (.const (.int .i64 13))),
 .op 6 (.mov 117 (.tmp 116)),
 .guard 117 true [.op 7 (.mov 118 (.tmp 16)),
 .op 8 (.len 119 false (.tmp 118)),
 .op 9 (.bin 120 .eql .plain (.tmp 119) (.const (.int .i64 0)))] [] [120],
 .op 10 (.pick 121 (.tmp 117) (.tmp 120) (.const (.bool false))),
 .op 11 (.mov 122 (.tmp 121)),
 .guard 122 true [.op 12 (.mov 123 (.tmp 7)),
 .op 13 (.call 124 20 [.tmp 123]),
 .op 14 (.bin 125 .eql .plain (.tmp 124) (.const (.int .i64 0)))] [] [125],
 .op 15 (.pick 126 (.tmp 122) (.tmp 125) (.const (.bool false)))] [] [126],
 .op 16 (.pick 127 (.tmp 114) (.const (.bool true)) (.tmp 126)),
 .op 17 (.mov 128 (.tmp 127)),
 .guard 128 true [.op 18 (.call 129 15 [])] [] [129],
 .op 19 (.pick 130 (.tmp 128) (.tmp 129) (.const (.bool false))),
 .op 20 (.mov 6 (.tmp 130))] [])
 .ret)))))))),
 [.tmp 6]⟩
theorem ok6 : funcOk Try.prog (drawOk Try.prog) Try.f6 A6 = true := by kernel_rfl
/-- xs: t0, t2, t7, t8, t9, t10 -/
noncomputable def L6_0 (call : Go.Fw.Call) (xs : List AVal) (h : Heap) : Option J :=
 (aBin .lss .plain (xs.getD 5 .undef) (xs.getD 3 .undef)).bind fun v6 =>
 condV v6
 ((aIaddr 1 (xs.getD 0 .undef) (xs.getD 5 .undef)).bind fun v7 =>
 (aLoad h 1 v7).bind fun c8 =>
 (fromCells false c8).bind fun v9 =>
 (aLen false v9).bind fun v10 =>
 (aBin .gtr .plain v10 (.int .i64 30)).bind fun v11 =>
 (condV v11
 ((aSliceSl 1 v9 none (some (.int .i64 30)) none).bind fun v12 =>
 some (0, [(xs.getD 0 .undef), (xs.getD 1 .undef), (xs.getD 2 .undef), (xs.getD 3 .undef), (xs.getD 4 .undef), (xs.getD 5 .undef), v12], h))
 (some (0, [(xs.getD 0 .undef), (xs.getD 1 .undef), (xs.getD 2 .undef), (xs.getD 3 .undef), (xs.getD 4 .undef), (xs.getD 5 .undef), v9], h))).bind fun x13 =>
 bif Nat.beq x13.1 0 then (call 12 [(x13.2.1.getD 6 .undef)] x13.2.2).bind fun r14 =>
 (aExtract 0 r14.1).bind fun v15 =>
 (aExtract 1 r14.1).bind fun v16 =>
 (aBin .neq .plain v16 (.int .i64 0)).bind fun v17 =>
 (guardV v17 false
 ((aLen false v15).bind fun v18 =>
 (aBin .lss .plain v18 (.int .i64 8)).bind fun v19 =>
 some (0, [v19], r14.2))
 (some (0, [skipV], r14.2))).bind fun g20 =>
 (aPick v17 (.bool true) (g20.2.1.getD 0 .undef)).bind fun v21 =>
 condV v21
 (some (2, [(.bool false)], g20.2.2))
 ((aBin .eql .plain (x13.2.1.getD 5 .undef) (x13.2.1.getD 4 .undef)).bind fun v22 =>
 (condV v22
 ((aLen false v15).bind fun v23 =>
 (aBin .sub .plain v23 (.int .i64 1)).bind fun v24 =>
 (aIaddr 1 v15 v24).bind fun v25 =>
 (aLoad g20.2.2 1 v25).bind fun c26 =>
 (fromCells false c26).bind fun v27 =>
 (aBin .xor .plain v27 (.int .u8 4)).bind fun v28 =>
 (aIaddr 1 v15 v24).bind fun v29 =>
 (aCells 1 v28).bind fun c30 =>
 (aStore g20.2.2 v29 c30).bind fun h31 =>
 some (0, [(x13.2.1.getD 0 .undef), (x13.2.1.getD 1 .undef), (x13.2.1.getD 2 .undef), (x13.2.1.getD 3 .undef), (x13.2.1.getD 4 .undef), (x13.2.1.getD 5 .undef), (x13.2.1.getD 6 .undef), v15], h31))
 (some (0, [(x13.2.1.getD 0 .undef), (x13.2.1.getD 1 .undef), (x13.2.1.getD 2 .undef), (x13.2.1.getD 3 .undef), (x13.2.1.getD 4 .undef), (x13.2.1.getD 5 .undef), (x13.2.1.getD 6 .undef), v15], g20.2.2))).bind fun x32 =>
 bif Nat.beq x32.1 0 then (call 18 [(x32.2.1.getD 2 .undef), (x32.2.1.getD 7 .undef)] x32.2.2).bind fun r33 =>
 (aExtract 0 r33.1).bind fun v34 =>
 (aExtract 1 r33.1).bind fun v35 =>
 (aBin .lss .plain (x32.2.1.getD 5 .undef) (x32.2.1.getD 4 .undef)).bind fun v36 =>
 (guardV v36 true
 ((aBin .neq .plain v35 (.int .i64 0)).bind fun v37 =>
 (guardV v37 false
 ((aLen false v34).bind fun v38 =>
 (aBin .neq .plain v38 (.int .i64 1)).bind fun v39 =>
 some (0, [v39], r33.2))
 (some (0, [skipV], r33.2))).bind fun g40 =>
 (aPick v37 (.bool true) (g40.2.1.getD 0 .undef)).bind fun v41 =>
 (guardV v41 false
 ((aIaddr 1 v34 (.int .i64 0)).bind fun v42 =>
 (aLoad g40.2.2 1 v42).bind fun c43 =>
 (fromCells false c43).bind fun v44 =>
 (aConv .bytesStr v44 g40.2.2).bind fun r45 =>
 (aConv .bytesStr (x32.2.1.getD 6 .undef) r45.2).bind fun r46 =>
 (aBin .neq .plain r45.1 r46.1).bind fun v47 =>
 some (0, [v47], r46.2))
 (some (0, [skipV], g40.2.2))).bind fun g48 =>
 (aPick v41 (.bool true) (g48.2.1.getD 0 .undef)).bind fun v49 =>
 some (0, [v49], g48.2.2))
 (some (0, [skipV], r33.2))).bind fun g50 =>
 (aPick v36 (g50.2.1.getD 0 .undef) (.bool false)).bind fun v51 =>
 (guardV v51 false
 ((aBin .geq .plain (x32.2.1.getD 5 .undef) (x32.2.1.getD 4 .undef)).bind fun v52 =>
 (guardV v52 true
 ((aBin .neq .plain v35 (.int .i64 13)).bind fun v53 =>
 (guardV v53 false
 ((aLen false v34).bind fun v54 =>
 (aBin .neq .plain v54 (.int .i64 0)).bind fun v55 =>
 some (0, [v55], g50.2.2))
 (some (0, [skipV], g50.2.2))).bind fun g56 =>
 (aPick v53 (.bool true) (g56.2.1.getD 0 .undef)).bind fun v57 =>
 some (0, [v57], g56.2.2))
 (some (0, [skipV], g50.2.2))).bind fun g58 =>
 (aPick v52 (g58.2.1.getD 0 .undef) (.bool false)).bind fun v59 =>
 some (0, [v59], g58.2.2))
 (some (0, [skipV], g50.2.2))).bind fun g60 =>
 (aPick v51 (.bool true) (g60.2.1.getD 0 .undef)).bind fun v61 =>
 condV v61
 (some (2, [(.bool false)], g60.2.2))
 ((aBin .add .plain (x32.2.1.getD 5 .undef) (.int .i64 1)).bind fun v62 =>
 some (0, [(x32.2.1.getD 0 .undef), (x32.2.1.getD 1 .undef), (x32.2.1.getD 2 .undef), (x32.2.1.getD 3 .undef), (x32.2.1.getD 4 .undef), v62], g60.2.2)) else
 none) else
 none)
 (some (1, [(xs.getD 1 .undef), (xs.getD 2 .undef), (xs.getD 3 .undef), (xs.getD 4 .undef)], h))
noncomputable def S6 (call : Go.Fw.Call) (a0 a1 a2 : AVal) (h : Heap) : Option J :=
 (call 17 [] h).bind fun r1 =>
 (aBin .eql .ptr r1.1 (.nilPtr)).bind fun v2 =>
 condV v2
 (some (0, [(.bool false)], r1.2))
 ((aLen false a0).bind fun v3 =>
 (aMinMaxL false [v3, (.int .i64 6)]).bind fun v4 =>
 (call 16 [a1, (.int .i64 0), v4] r1.2).bind fun r5 =>
 (loop (L6_0 call) [a0, a2, r1.1, v4, r5.1, (.int .i64 0)] r5.2).bind fun x63 =>
 bif Nat.beq x63.1 1 then (call 18 [(x63.2.1.getD 1 .undef), (x63.2.1.getD 0 .undef)] x63.2.2).bind fun r64 =>
 (aExtract 0 r64.1).bind fun v65 =>
 (aExtract 1 r64.1).bind fun v66 =>
 (aBin .eql .plain (x63.2.1.getD 3 .undef) (x63.2.1.getD 2 .undef)).bind fun v67 =>
 (guardV v67 false
 ((aBin .eql .plain v66 (.int .i64 13)).bind fun v68 =>
 (guardV v68 true
 ((aLen false v65).bind fun v69 =>
 (aBin .eql .plain v69 (.int .i64 0)).bind fun v70 =>
 some (0, [v70], r64.2))
 (some (0, [skipV], r64.2))).bind fun g71 =>
 (aPick v68 (g71.2.1.getD 0 .undef) (.bool false)).bind fun v72 =>
 (guardV v72 true
 ((call 20 [(x63.2.1.getD 1 .undef)] g71.2.2).bind fun r73 =>
 (aBin .eql .plain r73.1 (.int .i64 0)).bind fun v74 =>
 some (0, [v74], r73.2))
 (some (0, [skipV], g71.2.2))).bind fun g75 =>
 (aPick v72 (g75.2.1.getD 0 .undef) (.bool false)).bind fun v76 =>
 some (0, [v76], g75.2.2))
 (some (0, [skipV], r64.2))).bind fun g77 =>
 (aPick v67 (.bool true) (g77.2.1.getD 0 .undef)).bind fun v78 =>
 (guardV v78 true
 ((call 15 [] g77.2.2).bind fun r79 =>
 some (0, [r79.1], r79.2))
 (some (0, [skipV], g77.2.2))).bind fun g80 =>
 (aPick v78 (g80.2.1.getD 0 .undef) (.bool false)).bind fun v81 =>
 some (0, [v81], g80.2.2) else
 bif Nat.beq x63.1 2 then some (0, [(x63.2.1.getD 0 .undef)], x63.2.2) else
 none)
theorem run6 (call : Go.Fw.Call) (a0 a1 a2 : AVal) (h : Heap) : runFn call (.code A6) [a0, a1, a2] h = (S6 call a0 a1 a2 h).bind ansOf := by kernel_rfl

/-- frankpledge/frankpledgelaw3.FramePieces -/
noncomputable def A7 : AFunc := ⟨2, (.seq (.region [.op 0 (.mov 4 (.const (.bool false)))] [])
 (.seq (.region [.op 0 (.mov 16 (.tmp 0)),
 .op 1 (.call 17 8 [.tmp 16]),
 .op 2 (.mov 5 (.tmp 17))] [])
 (.seq (.region [.op 0 (.call 18 17 []),
 .op 1 (.call 19 17 []),
 .op 2 (.mov 6 (.tmp 18)),
 .op 3 (.mov 7 (.tmp 19))] [])
 (.seq (.seq (.region [.op 0 (.mov 20 (.tmp 6)),
 .op 1 (.bin 21 .eql .ptr (.tmp 20) (.const (.nilPtr))),
 .op 2 (.mov 22 (.tmp 21)),
 .guard 22 false [.op 3 (.mov 23 (.tmp 7)),
 .op 4 (.bin 24 .eql .ptr (.tmp 23) (.const (.nilPtr)))] [] [24],
 .op 5 (.pick 25 (.tmp 22) (.const (.bool true)) (.tmp 24))] [])
 (.cond (.tmp 25)
 (.seq (.region [.op 0 (.mov 4 (.const (.bool false)))] [])
 .ret)
 .skip))
 (.seq (.region [.op 0 (.mov 27 (.tmp 6)),
 .op 1 (.mov 28 (.tmp 5)),
 .op 2 (.call 29 18 [.tmp 27, .tmp 28]),
 .op 3 (.mov 26 (.tmp 29)),
 .op 4 (.extract 30 (.tmp 26) 0),
 .op 5 (.extract 31 (.tmp 26) 1),
 .op 6 (.mov 8 (.tmp 30)),
 .op 7 (.mov 9 (.tmp 31))] [])
 (.seq (.region [.op 0 (.mov 10 (.const (.nilSlice)))] [])
 (.seq (.seq (.region [.op 0 (.mov 11 (.const (.int .i64 0)))] [])
 (.block 0 (.loop ⟨[1, 5, 6, 7, 8, 9, 10, 11], []⟩ [((.exit 0), ⟨[6, 7, 8, 9, 10], []⟩), (.ret, ⟨[4], []⟩)]
 (.seq (.seq (.region [.op 0 (.mov 32 (.tmp 11)),
 .op 1 (.mov 33 (.tmp 1)),
 .op 2 (.len 34 false (.tmp 33)),
 .op 3 (.bin 35 .leq .plain (.tmp 32) (.tmp 34)),
 .op 4 (.mov 36 (.tmp 35)),
 .guard 36 true [.op 5 (.mov 37 (.tmp 11)),
 .op 6 (.bin 38 .lss .plain (.tmp 37) (.const (.int .i64 40)))] [] [38],
 .op 7 (.pick 39 (.tmp 36) (.tmp 38) (.const (.bool false)))] [])
 (.cond (.tmp 39)
 .skip
 (.exit 0)))
 (.seq (.block 1 (.seq (.region [.op 0 (.mov 42 (.tmp 5)),
 .op 1 (.len 43 false (.tmp 42)),
 .op 2 (.mov 12 (.tmp 43))] [])
 (.seq (.seq (.region [.op 0 (.mov 44 (.tmp 11)),
 .op 1 (.mov 45 (.tmp 1)),
 .op 2 (.len 46 false (.tmp 45)),
 .op 3 (.bin 47 .lss .plain (.tmp 44) (.tmp 46)),
 .op 4 (.mov 48 (.tmp 47)),
 .guard 48 true [.op 5 (.mov 49 (.tmp 11)),
 .op 6 (.bin 50 .lss .plain (.tmp 49) (.const (.int .i64 39)))] [] [50],
 .op 7 (.pick 51 (.tmp 48) (.tmp 50) (.const (.bool false)))] [])
 (.join [(.normal, ⟨[1, 5, 6, 7, 8, 9, 10, 11, 12], []⟩)] (.cond (.tmp 51)
 (.region [.op 0 (.mov 52 (.tmp 1)),
 .op 1 (.mov 53 (.tmp 11)),
 .op 2 (.iaddr 54 none 1 (.tmp 52) (.tmp 53)),
 .op 3 (.load 55 false 1 (.tmp 54)),
 .op 4 (.mov 56 (.tmp 5)),
 .op 5 (.len 57 false (.tmp 56)),
 .op 6 (.call 58 16 [.tmp 55, .const (.int .i64 0), .tmp 57]),
 .op 7 (.mov 12 (.tmp 58))] [])
 .skip)))
 (.seq (.region [.op 0 (.mov 60 (.tmp 7)),
 .op 1 (.mov 61 (.tmp 5)),
 .op 2 (.mov 62 (.tmp 12)),
 .op 3 (.slice 63 (.sl 1) (.tmp 61) none (some (.tmp 62)) none),
 .op 4 (.call 64 18 [.tmp 60, .tmp 63]),
 .op 5 (.mov 59 (.tmp 64)),
 .op 6 (.extract 65 (.tmp 59) 0),
 .op 7 (.extract 66 (.tmp 59) 1),
 .op 8 (.mov 13 (.tmp 65)),
 .op 9 (.mov 14 (.tmp 66))] [])
 (.seq (.region [.op 0 (.mov 67 (.tmp 5)),
 .op 1 (.mov 68 (.tmp 12)),
 .op 2 (.slice 69 (.sl 1) (.tmp 67) (some (.tmp 68)) none none),
 .op 3 (.mov 5 (.tmp 69))] [])
 (.seq (.seq (.region [.op 0 (.mov 70 (.tmp 14)),
 .op 1 (.bin 71 .neq .plain (.tmp 70) (.const (.int .i64 0)))] [])
 (.cond (.tmp 71)
 (.seq (.region [.op 0 (.mov 4 (.const (.bool false)))] [])
 .ret)
 .skip))
 (.region [.op 0 (.mov 72 (.tmp 10)),
 .op 1 (.mov 73 (.tmp 13)),
 .op 2 (.append 74 1 24 [.nilSlice] false (.tmp 72) (.tmp 73)),
 .op 3 (.mov 10 (.tmp 74))] [])))))))
 (.region [.op 0 (.mov 40 (.tmp 11)),
 .op 1 (.bin 41 .add .plain (.tmp 40) (.const (.int .i64 1))),
 .op 2 (.mov 11 (.tmp 41))] []))))))
 (.seq (.seq (.region [.op 0 (.mov 75 (.tmp 9)),
 .op 1 (.bin 76 .neq .plain (.tmp 75) (.const (.int .i64 0))),
 .op 2 (.mov 77 (.tmp 76)),
 .guard 77 false [.op 3 (.mov 78 (.tmp 8)),
 .op 4 (.len 79 false (.tmp 78)),
 .op 5 (.mov 80 (.tmp 10)),
 .op 6 (.len 81 false (.tmp 80)),
 .op 7 (.bin 82 .neq .plain (.tmp 79) (.tmp 81))] [] [82],
 .op 8 (.pick 83 (.tmp 77) (.const (.bool true)) (.tmp 82))] [])
 (.cond (.tmp 83)
 (.seq (.region [.op 0 (.mov 4 (.const (.bool false)))] [])
 .ret)
 .skip))
 (.seq (.seq (.region [.op 0 (.mov 84 (.tmp 8)),
 .op 1 (.len 85 false (.tmp 84)),
 .op 2 (.mov 86 (.const (.int .i64 0)))] [])
 (.block 2 (.loop ⟨[6, 7, 8, 10, 85, 86], []⟩ [((.exit 2), ⟨[6, 7], []⟩), (.ret, ⟨[4], []⟩)]
 (.seq (.region [.op 0 (.bin 87 .lss .plain (.tmp 86) (.tmp 85))] [])
 (.seq (.cond (.tmp 87)
 .skip
 (.exit 2))
 (.seq (.block 3 (.seq (.region [.op 0 (.mov 88 (.tmp 86)),
 .op 1 (.mov 15 (.tmp 88))] [])
 (.seq (.region [.op 0 (.mov 89 (.tmp 8)),
 .op 1 (.mov 90 (.tmp 15)),
 .op 2 (.iaddr 91 none 1 (.tmp 89) (.tmp 90)),
 .op 3 (.load 92 false 1 (.tmp 91)),
 .op 4 (.conv 93 .bytesStr (.tmp 92)),
 .op 5 (.mov 94 (.tmp 10)),
 .op 6 (.mov 95 (.tmp 15)),
 .op 7 (.iaddr 96 none 1 (.tmp 94) (.tmp 95)),
 .op 8 (.load 97 false 1 (.tmp 96)),
 .op 9 (.conv 98 .bytesStr (.tmp 97)),
 .op 10 (.bin 99 .neq .plain (.tmp 93) (.tmp 98))] [])
 (.cond (.tmp 99)
 (.seq (.region [.op 0 (.mov 4 (.const (.bool false)))] [])
 .ret)
 .skip))))
 (.region [.op 0 (.bin 100 .add .plain (.tmp 86) (.const (.int .i64 1))),
 .op 1 (.mov 86 (.tmp 100))] [])))))))
 (.seq (.region [.op 0 (.mov 101 (.tmp 7)),
 .op 1 (.call 102 20 [.tmp 101]),
 .op 2 (.bin 103 .eql .plain (.tmp 102) (.const (.int .i64 0))),
 .op 3 (.mov 104 (.tmp 103)),
 .guard 104 true [.op 4 (.mov 105 (.tmp 6)),
 .op 5 (.call 106 20 [.tmp 105]),
 .op 6 (.bin 107 .eql .plain (.tmp 106) (.const (.int .i64 0)))] [] [107],
 .op 7 (.pick 108 (.tmp 104) (.tmp 107) (.const (.bool false))),
 .op 8 (.mov 109 (.tmp 108)),
 .guard 109 true [.op 9 (.call 110 15 [])] [] [110],
 .op 10 (.pick 111 (.tmp 109) (.tmp 110) (.const (.bool false))),
 .op 11 (.mov 4 (.tmp 111))] [])
 .ret)))))))))),
 [.tmp 4]⟩
theorem ok7 : funcOk Try.prog (drawOk Try.prog) Try.f7 A7 = true := by kernel_rfl
/-- xs: t1, t5, t6, t7, t8, t9, t10, t11 -/
noncomputable def L7_0 (call : Go.Fw.Call) (xs : List AVal) (h : Heap) : Option J :=
 (aLen false (xs.getD 0 .undef)).bind fun v11 =>
 (aBin .leq .plain (xs.getD 7 .undef) v11).bind fun v12 =>
 (guardV v12 true
 ((aBin .lss .plain (xs.getD 7 .undef) (.int .i64 40)).bind fun v13 =>
 some (0, [v13], h))
 (some (0, [skipV], h))).bind fun g14 =>
 (aPick v12 (g14.2.1.getD 0 .undef) (.bool false)).bind fun v15 =>
 condV v15
 ((aLen false (xs.getD 1 .undef)).bind fun v16 =>
 (aLen false (xs.getD 0 .undef)).bind fun v17 =>
 (aBin .lss .plain (xs.getD 7 .undef) v17).bind fun v18 =>
 (guardV v18 true
 ((aBin .lss .plain (xs.getD 7 .undef) (.int .i64 39)).bind fun v19 =>
 some (0, [v19], g14.2.2))
 (some (0, [skipV], g14.2.2))).bind fun g20 =>
 (aPick v18 (g20.2.1.getD 0 .undef) (.bool false)).bind fun v21 =>
 (condV v21
 ((aIaddr 1 (xs.getD 0 .undef) (xs.getD 7 .undef)).bind fun v22 =>
 (aLoad g20.2.2 1 v22).bind fun c23 =>
 (fromCells false c23).bind fun v24 =>
 (aLen false (xs.getD 1 .undef)).bind fun v25 =>
 (call 16 [v24, (.int .i64 0), v25] g20.2.2).bind fun r26 =>
 some (0, [(xs.getD 0 .undef), (xs.getD 1 .undef), (xs.getD 2 .undef), (xs.getD 3 .undef), (xs.getD 4 .undef), (xs.getD 5 .undef), (xs.getD 6 .undef), (xs.getD 7 .undef), r26.1], r26.2))
 (some (0, [(xs.getD 0 .undef), (xs.getD 1 .undef), (xs.getD 2 .undef), (xs.getD 3 .undef), (xs.getD 4 .undef), (xs.getD 5 .undef), (xs.getD 6 .undef), (xs.getD 7 .undef), v16], g20.2.2))).bind fun x27 =>
 bif Nat.beq x27.1 0 then (aSliceSl 1 (x27.2.1.getD 1 .undef) none (some (x27.2.1.getD 8 .undef)) none).bind fun v28 =>
 (call 18 [(x27.2.1.getD 3 .undef), v28] x27.2.2).bind fun r29 =>
 (aExtract 0 r29.1).bind fun v30 =>
 (aExtract 1 r29.1).bind fun v31 =>
 (aSliceSl 1 (x27.2.1.getD 1 .undef) (some (x27.2.1.getD 8 .undef)) none none).bind fun v32 =>
 (aBin .neq .plain v31 (.int .i64 0)).bind fun v33 =>
 condV v33
 (some (2, [(.bool false)], r29.2))
 ((aAppend 1 24 [.nilSlice] false (x27.2.1.getD 6 .undef) v30 r29.2).bind fun r34 =>
 (aBin .add .plain (x27.2.1.getD 7 .undef) (.int .i64 1)).bind fun v35 =>
 some (0, [(x27.2.1.getD 0 .undef), v32, (x27.2.1.getD 2 .undef), (x27.2.1.getD 3 .undef), (x27.2.1.getD 4 .undef), (x27.2.1.getD 5 .undef), r34.1, v35], r34.2)) else
 none)
 (some (1, [(xs.getD 2 .undef), (xs.getD 3 .undef), (xs.getD 4 .undef), (xs.getD 5 .undef), (xs.getD 6 .undef)], g14.2.2))
/-- xs: t6, t7, t8, t10, t85, t86 -/
noncomputable def L7_1 (call : Go.Fw.Call) (xs : List AVal) (h : Heap) : Option J :=
 (aBin .lss .plain (xs.getD 5 .undef) (xs.getD 4 .undef)).bind fun v44 =>
 condV v44
 ((aIaddr 1 (xs.getD 2 .undef) (xs.getD 5 .undef)).bind fun v45 =>
 (aLoad h 1 v45).bind fun c46 =>
 (fromCells false c46).bind fun v47 =>
 (aConv .bytesStr v47 h).bind fun r48 =>
 (aIaddr 1 (xs.getD 3 .undef) (xs.getD 5 .undef)).bind fun v49 =>
 (aLoad r48.2 1 v49).bind fun c50 =>
 (fromCells false c50).bind fun v51 =>
 (aConv .bytesStr v51 r48.2).bind fun r52 =>
 (aBin .neq .plain r48.1 r52.1).bind fun v53 =>
 condV v53
 (some (2, [(.bool false)], r52.2))
 ((aBin .add .plain (xs.getD 5 .undef) (.int .i64 1)).bind fun v54 =>
 some (0, [(xs.getD 0 .undef), (xs.getD 1 .undef), (xs.getD 2 .undef), (xs.getD 3 .undef), (xs.getD 4 .undef), v54], r52.2)))
 (some (1, [(xs.getD 0 .undef), (xs.getD 1 .undef)], h))
noncomputable def S7 (call : Go.Fw.Call) (a0 a1 : AVal) (h : Heap) : Option J :=
 (call 8 [a0] h).bind fun r1 =>
 (call 17 [] r1.2).bind fun r2 =>
 (call 17 [] r2.2).bind fun r3 =>
 (aBin .eql .ptr r2.1 (.nilPtr)).bind fun v4 =>
 (guardV v4 false
 ((aBin .eql .ptr r3.1 (.nilPtr)).bind fun v5 =>
 some (0, [v5], r3.2))
 (some (0, [skipV], r3.2))).bind fun g6 =>
 (aPick v4 (.bool true) (g6.2.1.getD 0 .undef)).bind fun v7 =>
 condV v7
 (some (0, [(.bool false)], g6.2.2))
 ((call 18 [r2.1, r1.1] g6.2.2).bind fun r8 =>
 (aExtract 0 r8.1).bind fun v9 =>
 (aExtract 1 r8.1).bind fun v10 =>
 (loop (L7_0 call) [a1, r1.1, r2.1, r3.1, v9, v10, (.nilSlice), (.int .i64 0)] r8.2).bind fun x36 =>
 bif Nat.beq x36.1 1 then (aBin .neq .plain (x36.2.1.getD 3 .undef) (.int .i64 0)).bind fun v37 =>
 (guardV v37 false
 ((aLen false (x36.2.1.getD 2 .undef)).bind fun v38 =>
 (aLen false (x36.2.1.getD 4 .undef)).bind fun v39 =>
 (aBin .neq .plain v38 v39).bind fun v40 =>
 some (0, [v40], x36.2.2))
 (some (0, [skipV], x36.2.2))).bind fun g41 =>
 (aPick v37 (.bool true) (g41.2.1.getD 0 .undef)).bind fun v42 =>
 condV v42
 (some (0, [(.bool false)], g41.2.2))
 ((aLen false (x36.2.1.getD 2 .undef)).bind fun v43 =>
 (loop (L7_1 call) [(x36.2.1.getD 0 .undef), (x36.2.1.getD 1 .undef), (x36.2.1.getD 2 .undef), (x36.2.1.getD 4 .undef), v43, (.int .i64 0)] g41.2.2).bind fun x55 =>
 bif Nat.beq x55.1 1 then (call 20 [(x55.2.1.getD 1 .undef)] x55.2.2).bind fun r56 =>
 (aBin .eql .plain r56.1 (.int .i64 0)).bind fun v57 =>
 (guardV v57 true
 ((call 20 [(x55.2.1.getD 0 .undef)] r56.2).bind fun r58 =>
 (aBin .eql .plain r58.1 (.int .i64 0)).bind fun v59 =>
 some (0, [v59], r58.2))
 (some (0, [skipV], r56.2))).bind fun g60 =>
 (aPick v57 (g60.2.1.getD 0 .undef) (.bool false)).bind fun v61 =>
 (guardV v61 true
 ((call 15 [] g60.2.2).bind fun r62 =>
 some (0, [r62.1], r62.2))
 (some (0, [skipV], g60.2.2))).bind fun g63 =>
 (aPick v61 (g63.2.1.getD 0 .undef) (.bool false)).bind fun v64 =>
 some (0, [v64], g63.2.2) else
 bif Nat.beq x55.1 2 then some (0, [(x55.2.1.getD 0 .undef)], x55.2.2) else
 none) else
 bif Nat.beq x36.1 2 then some (0, [(x36.2.1.getD 0 .undef)], x36.2.2) else
 none)
theorem run7 (call : Go.Fw.Call) (a0 a1 : AVal) (h : Heap) : runFn call (.code A7) [a0, a1] h = (S7 call a0 a1 h).bind ansOf := by kernel_rfl

/-- frankpledge/frankpledgelaw3.row -/
noncomputable def A8 : AFunc := ⟨1, (.seq (.region [.op 0 (.mov 2 (.const (.nilSlice)))] [])
 (.seq (.region [.op 0 (.mov 3 (.const (.nilSlice)))] [])
 (.seq (.seq (.region [.op 0 (.mov 4 (.const (.int .i64 0)))] [])
 (.block 0 (.loop ⟨[0, 3, 4], []⟩ [((.exit 0), ⟨[3], []⟩)]
 (.seq (.seq (.region [.op 0 (.mov 6 (.tmp 4)),
 .op 1 (.mov 7 (.tmp 0)),
 .op 2 (.len 8 false (.tmp 7)),
 .op 3 (.bin 9 .lss .plain (.tmp 6) (.tmp 8)),
 .op 4 (.mov 10 (.tmp 9)),
 .guard 10 true [.op 5 (.mov 11 (.tmp 4)),
 .op 6 (.bin 12 .lss .plain (.tmp 11) (.const (.int .i64 5)))] [] [12],
 .op 7 (.pick 13 (.tmp 10) (.tmp 12) (.const (.bool false)))] [])
 (.cond (.tmp 13)
 .skip
 (.exit 0)))
 (.seq (.block 1 (.seq (.region [.op 0 (.mov 16 (.tmp 0)),
 .op 1 (.mov 17 (.tmp 4)),
 .op 2 (.iaddr 18 none 1 (.tmp 16) (.tmp 17)),
 .op 3 (.load 19 false 1 (.tmp 18)),
 .op 4 (.mov 5 (.tmp 19))] [])
 (.seq (.seq (.region [.op 0 (.mov 20 (.tmp 5)),
 .op 1 (.len 21 false (.tmp 20)),
 .op 2 (.bin 22 .gtr .plain (.tmp 21) (.const (.int .i64 60)))] [])
 (.join [(.normal, ⟨[0, 3, 4, 5], []⟩)] (.cond (.tmp 22)
 (.region [.op 0 (.mov 23 (.tmp 5)),
 .op 1 (.slice 24 (.sl 1) (.tmp 23) none (some (.const (.int .i64 60))) none),
 .op 2 (.mov 5 (.tmp 24))] [])
 .skip)))
 (.region [.op 0 (.mov 25 (.tmp 3)),
 .op 1 (.mov 26 (.tmp 5)),
 .op 2 (.call 27 11 [.tmp 26]),
 .op 3 (.append 28 1 1 [.int .u8 0] false (.tmp 25) (.tmp 27)),
 .op 4 (.mov 3 (.tmp 28))] []))))
 (.region [.op 0 (.mov 14 (.tmp 4)),
 .op 1 (.bin 15 .add .plain (.tmp 14) (.const (.int .i64 1))),
 .op 2 (.mov 4 (.tmp 15))] []))))))
 (.seq (.region [.op 0 (.mov 29 (.tmp 3)),
 .op 1 (.mov 2 (.tmp 29))] [])
 .ret)))),
 [.tmp 2]⟩
theorem ok8 : funcOk Try.prog (drawOk Try.prog) Try.f8 A8 = true := by kernel_rfl
/-- xs: t0, t3, t4 -/
noncomputable def L8_0 (call : Go.Fw.Call) (xs : List AVal) (h : Heap) : Option J :=
 (aLen false (xs.getD 0 .undef)).bind fun v1 =>
 (aBin .lss .plain (xs.getD 2 .undef) v1).bind fun v2 =>
 (guardV v2 true
 ((aBin .lss .plain (xs.getD 2 .undef) (.int .i64 5)).bind fun v3 =>
 some (0, [v3], h))
 (some (0, [skipV], h))).bind fun g4 =>
 (aPick v2 (g4.2.1.getD 0 .undef) (.bool false)).bind fun v5 =>
 condV v5
 ((aIaddr 1 (xs.getD 0 .undef) (xs.getD 2 .undef)).bind fun v6 =>
 (aLoad g4.2.2 1 v6).bind fun c7 =>
 (fromCells false c7).bind fun v8 =>
 (aLen false v8).bind fun v9 =>
 (aBin .gtr .plain v9 (.int .i64 60)).bind fun v10 =>
 (condV v10
 ((aSliceSl 1 v8 none (some (.int .i64 60)) none).bind fun v11 =>
 some (0, [(xs.getD 0 .undef), (xs.getD 1 .undef), (xs.getD 2 .undef), v11], g4.2.2))
 (some (0, [(xs.getD 0 .undef), (xs.getD 1 .undef), (xs.getD 2 .undef), v8], g4.2.2))).bind fun x12 =>
 bif Nat.beq x12.1 0 then (call 11 [(x12.2.1.getD 3 .undef)] x12.2.2).bind fun r13 =>
 (aAppend 1 1 [.int .u8 0] false (x12.2.1.getD 1 .undef) r13.1 r13.2).bind fun r14 =>
 (aBin .add .plain (x12.2.1.getD 2 .undef) (.int .i64 1)).bind fun v15 =>
 some (0, [(x12.2.1.getD 0 .undef), r14.1, v15], r14.2) else
 none)
 (some (1, [(xs.getD 1 .undef)], g4.2.2))
noncomputable def S8 (call : Go.Fw.Call) (a0 : AVal) (h : Heap) : Option J :=
 (loop (L8_0 call) [a0, (.nilSlice), (.int .i64 0)] h).bind fun x16 =>
 bif Nat.beq x16.1 1 then some (0, [(x16.2.1.getD 0 .undef)], x16.2.2) else
 none
theorem run8 (call : Go.Fw.Call) (a0 : AVal) (h : Heap) : runFn call (.code A8) [a0] h = (S8 call a0 h).bind ansOf := by kernel_rfl

/-- frankpledge/frankpledgelaw3.play -/
noncomputable def A9 : AFunc := ⟨2, (.seq (.region [.op 0 (.mov 4 (.const (.bool false)))] [])
 (.seq (.region [.op 0 (.call 14 17 []),
 .op 1 (.build 15 [.nilSlice, .int .i64 0] []),
 .op 2 (.box 16 false (.tmp 15)),
 .op 3 (.mov 5 (.tmp 14)),
 .op 4 (.mov 6 (.tmp 16))] [])
 (.seq (.seq (.region [.op 0 (.mov 17 (.tmp 5)),
 .op 1 (.bin 18 .eql .ptr (.tmp 17) (.const (.nilPtr)))] [])
 (.cond (.tmp 18)
 (.seq (.region [.op 0 (.mov 4 (.const (.bool false)))] [])
 .ret)
 .skip))
 (.seq (.seq (.region [.op 0 (.mov 7 (.const (.int .i64 0)))] [])
 (.block 0 (.loop ⟨[0, 1, 5, 6, 7], []⟩ [((.exit 0), ⟨[], []⟩), (.ret, ⟨[4], []⟩)]
 (.seq (.seq (.region [.op 0 (.mov 19 (.tmp 7)),
 .op 1 (.mov 20 (.tmp 1)),
 .op 2 (.len 21 false (.tmp 20)),
 .op 3 (.bin 22 .leq .plain (.tmp 19) (.tmp 21)),
 .op 4 (.mov 23 (.tmp 22)),
 .guard 23 true [.op 5 (.mov 24 (.tmp 7)),
 .op 6 (.bin 25 .lss .plain (.tmp 24) (.const (.int .i64 30)))] [] [25],
 .op 7 (.pick 26 (.tmp 23) (.tmp 25) (.const (.bool false)))] [])
 (.cond (.tmp 26)
 .skip
 (.exit 0)))
 (.seq (.block 1 (.seq (.region [.op 0 (.mov 29 (.tmp 0)),
 .op 1 (.len 30 false (.tmp 29)),
 .op 2 (.mov 8 (.tmp 30))] [])
 (.seq (.seq (.region [.op 0 (.mov 31 (.tmp 7)),
 .op 1 (.mov 32 (.tmp 1)),
 .op 2 (.len 33 false (.tmp 32)),
 .op 3 (.bin 34 .lss .plain (.tmp 31) (.tmp 33))] [])
 (.join [(.normal, ⟨[0, 1, 5, 6, 7, 8], []⟩)] (.cond (.tmp 34)
 (.region [.op 0 (.mov 35 (.tmp 1)),
 .op 1 (.mov 36 (.tmp 7)),
 .op 2 (.iaddr 37 none 1 (.tmp 35) (.tmp 36)),
 .op 3 (.load 38 false 1 (.tmp 37)),
 .op 4 (.mov 39 (.tmp 0)),
 .op 5 (.len 40 false (.tmp 39)),
 .op 6 (.call 41 16 [.tmp 38, .const (.int .i64 0), .tmp 40]),
 .op 7 (.mov 8 (.tmp 41))] [])
 .skip)))
 (.seq (.region [.op 0 (.mov 43 (.tmp 5)),
 .op 1 (.mov 44 (.tmp 0)),
 .op 2 (.mov 45 (.tmp 8)),
 .op 3 (.slice 46 (.sl 1) (.tmp 44) none (some (.tmp 45)) none),
 .op 4 (.call 47 18 [.tmp 43, .tmp 46]),
 .op 5 (.mov 42 (.tmp 47)),
 .op 6 (.extract 48 (.tmp 42) 0),
 .op 7 (.extract 49 (.tmp 42) 1),
 .op 8 (.mov 9 (.tmp 48)),
 .op 9 (.mov 10 (.tmp 49))] [])
 (.seq (.region [.op 0 (.mov 51 (.tmp 6)),
 .op 1 (.mov 52 (.tmp 0)),
 .op 2 (.mov 53 (.tmp 8)),
 .op 3 (.slice 54 (.sl 1) (.tmp 52) none (some (.tmp 53)) none),
 .op 4 (.call 55 21 [.tmp 51, .tmp 54]),
 .op 5 (.mov 50 (.tmp 55)),
 .op 6 (.extract 56 (.tmp 50) 0),
 .op 7 (.extract 57 (.tmp 50) 1),
 .op 8 (.mov 11 (.tmp 56)),
 .op 9 (.mov 12 (.tmp 57))] [])
 (.seq (.region [.op 0 (.mov 58 (.tmp 0)),
 .op 1 (.mov 59 (.tmp 8)),
 .op 2 (.slice 60 (.sl 1) (.tmp 58) (some (.tmp 59)) none none),
 .op 3 (.mov 0 (.tmp 60))] [])
 (.seq (.seq (.region [.op 0 (.mov 61 (.tmp 10)),
 .op 1 (.mov 62 (.tmp 12)),
 .op 2 (.bin 63 .neq .plain (.tmp 61) (.tmp 62)),
 .op 3 (.mov 64 (.tmp 63)),
 .guard 64 false [.op 4 (.mov 65 (.tmp 9)),
 .op 5 (.len 66 false (.tmp 65)),
 .op 6 (.mov 67 (.tmp 11)),
 .op 7 (.len 68 false (.tmp 67)),
 .op 8 (.bin 69 .neq .plain (.tmp 66) (.tmp 68))] [] [69],
 .op 9 (.pick 70 (.tmp 64) (.const (.bool true)) (.tmp 69)),
 .op 10 (.mov 71 (.tmp 70)),
 .guard 71 false [.op 11 (.mov 72 (.tmp 5)),
 .op 12 (.call 73 20 [.tmp 72]),
 .op 13 (.mov 74 (.tmp 6)),
 .op 14 (.nilchk 75 (.tmp 74)),
 .op 15 (.faddr 76 0 (.tmp 75)),
 .op 16 (.load 77 false 1 (.tmp 76)),
 .op 17 (.len 78 false (.tmp 77)),
 .op 18 (.bin 79 .neq .plain (.tmp 73) (.tmp 78))] [(16, 12)] [79],
 .op 19 (.pick 80 (.tmp 71) (.const (.bool true)) (.tmp 79))] [])
 (.cond (.tmp 80)
 (.seq (.region [.op 0 (.mov 4 (.const (.bool false)))] [])
 .ret)
 .skip))
 (.seq (.region [.op 0 (.mov 81 (.tmp 9)),
 .op 1 (.len 82 false (.tmp 81)),
 .op 2 (.mov 83 (.const (.int .i64 0)))] [])
 (.block 2 (.loop ⟨[0, 1, 5, 6, 7, 9, 11, 82, 83], []⟩ [((.exit 2), ⟨[0, 1, 5, 6, 7], []⟩), (.ret, ⟨[4], []⟩)]
 (.seq (.region [.op 0 (.bin 84 .lss .plain (.tmp 83) (.tmp 82))] [])
 (.seq (.cond (.tmp 84)
 .skip
 (.exit 2))
 (.seq (.block 3 (.seq (.region [.op 0 (.mov 85 (.tmp 83)),
 .op 1 (.mov 13 (.tmp 85))] [])
 (.seq (.region [.op 0 (.mov 86 (.tmp 9)),
 .op 1 (.mov 87 (.tmp 13)),
 .op 2 (.iaddr 88 none 1 (.tmp 86) (.tmp 87)),
 .op 3 (.load 89 false 1 (.tmp 88)),
 .op 4 (.conv 90 .bytesStr (.tmp 89)),
 .op 5 (.mov 91 (.tmp 11)),
 .op 6 (.mov 92 (.tmp 13)),
 .op 7 (.iaddr 93 none 1 (.tmp 91) (.tmp 92)),
 .op 8 (.load 94 false 1 (.tmp 93)),
 .op 9 (.conv 95 .bytesStr (.tmp 94)),
 .op 10 (.bin 96 .neq .plain (.tmp 90) (.tmp 95))] [])
 (.cond (.tmp 96)
 (.seq (.region [.op 0 (.mov 4 (.const (.bool false)))] [])
 .ret)
 .skip))))
 (.region [.op 0 (.bin 97 .add .plain (.tmp 83) (.const (.int .i64 1))),
 .op 1 (.mov 83 (.tmp 97))] []))))))))))))))
 (.region [.op 0 (.mov 27 (.tmp 7)),
 .op 1 (.bin 28 .add .plain (.tmp 27) (.const (.int .i64 1))),
 .op 2 (.mov 7 (.tmp 28))] []))))))
 (.seq (.region [.op 0 (.mov 4 (.const (.bool true)))] [])
 .ret))))),
 [.tmp 4]⟩
theorem ok9 : funcOk Try.prog (drawOk Try.prog) Try.f9 A9 = true := by kernel_rfl
/-- xs: t0, t1, t5, t6, t7, t9, t11, t82, t83 -/
noncomputable def L9_1 (call : Go.Fw.Call) (xs : List AVal) (h : Heap) : Option J :=
 (aBin .lss .plain (xs.getD 8 .undef) (xs.getD 7 .undef)).bind fun v45 =>
 condV v45
 ((aIaddr 1 (xs.getD 5 .undef) (xs.getD 8 .undef)).bind fun v46 =>
 (aLoad h 1 v46).bind fun c47 =>
 (fromCells false c47).bind fun v48 =>
 (aConv .bytesStr v48 h).bind fun r49 =>
 (aIaddr 1 (xs.getD 6 .undef) (xs.getD 8 .undef)).bind fun v50 =>
 (aLoad r49.2 1 v50).bind fun c51 =>
 (fromCells false c51).bind fun v52 =>
 (aConv .bytesStr v52 r49.2).bind fun r53 =>
 (aBin .neq .plain r49.1 r53.1).bind fun v54 =>
 condV v54
 (some (2, [(.bool false)], r53.2))
 ((aBin .add .plain (xs.getD 8 .undef) (.int .i64 1)).bind fun v55 =>
 some (0, [(xs.getD 0 .undef), (xs.getD 1 .undef), (xs.getD 2 .undef), (xs.getD 3 .undef), (xs.getD 4 .undef), (xs.getD 5 .undef), (xs.getD 6 .undef), (xs.getD 7 .undef), v55], r53.2)))
 (some (1, [(xs.getD 0 .undef), (xs.getD 1 .undef), (xs.getD 2 .undef), (xs.getD 3 .undef), (xs.getD 4 .undef)], h))
/-- xs: t0, t1, t5, t6, t7 -/
noncomputable def L9_0 (call : Go.Fw.Call) (xs : List AVal) (h : Heap) : Option J :=
 (aLen false (xs.getD 1 .undef)).bind fun v6 =>
 (aBin .leq .plain (xs.getD 4 .undef) v6).bind fun v7 =>
 (guardV v7 true
 ((aBin .lss .plain (xs.getD 4 .undef) (.int .i64 30)).bind fun v8 =>
 some (0, [v8], h))
 (some (0, [skipV], h))).bind fun g9 =>
 (aPick v7 (g9.2.1.getD 0 .undef) (.bool false)).bind fun v10 =>
 condV v10
 ((aLen false (xs.getD 0 .undef)).bind fun v11 =>
 (aLen false (xs.getD 1 .undef)).bind fun v12 =>
 (aBin .lss .plain (xs.getD 4 .undef) v12).bind fun v13 =>
 (condV v13
 ((aIaddr 1 (xs.getD 1 .undef) (xs.getD 4 .undef)).bind fun v14 =>
 (aLoad g9.2.2 1 v14).bind fun c15 =>
 (fromCells false c15).bind fun v16 =>
 (aLen false (xs.getD 0 .undef)).bind fun v17 =>
 (call 16 [v16, (.int .i64 0), v17] g9.2.2).bind fun r18 =>
 some (0, [(xs.getD 0 .undef), (xs.getD 1 .undef), (xs.getD 2 .undef), (xs.getD 3 .undef), (xs.getD 4 .undef), r18.1], r18.2))
 (some (0, [(xs.getD 0 .undef), (xs.getD 1 .undef), (xs.getD 2 .undef), (xs.getD 3 .undef), (xs.getD 4 .undef), v11], g9.2.2))).bind fun x19 =>
 bif Nat.beq x19.1 0 then (aSliceSl 1 (x19.2.1.getD 0 .undef) none (some (x19.2.1.getD 5 .undef)) none).bind fun v20 =>
 (call 18 [(x19.2.1.getD 2 .undef), v20] x19.2.2).bind fun r21 =>
 (aExtract 0 r21.1).bind fun v22 =>
 (aExtract 1 r21.1).bind fun v23 =>
 (aSliceSl 1 (x19.2.1.getD 0 .undef) none (some (x19.2.1.getD 5 .undef)) none).bind fun v24 =>
 (call 21 [(x19.2.1.getD 3 .undef), v24] r21.2).bind fun r25 =>
 (aExtract 0 r25.1).bind fun v26 =>
 (aExtract 1 r25.1).bind fun v27 =>
 (aSliceSl 1 (x19.2.1.getD 0 .undef) (some (x19.2.1.getD 5 .undef)) none none).bind fun v28 =>
 (aBin .neq .plain v23 v27).bind fun v29 =>
 (guardV v29 false
 ((aLen false v22).bind fun v30 =>
 (aLen false v26).bind fun v31 =>
 (aBin .neq .plain v30 v31).bind fun v32 =>
 some (0, [v32], r25.2))
 (some (0, [skipV], r25.2))).bind fun g33 =>
 (aPick v29 (.bool true) (g33.2.1.getD 0 .undef)).bind fun v34 =>
 (guardV v34 false
 ((call 20 [(x19.2.1.getD 2 .undef)] g33.2.2).bind fun r35 =>
 (aNilchk (x19.2.1.getD 3 .undef)).bind fun v36 =>
 (aFaddr 0 v36).bind fun v37 =>
 (aLoad r35.2 1 v37).bind fun c38 =>
 (fromCells false c38).bind fun v39 =>
 (aLen false v39).bind fun v40 =>
 (aBin .neq .plain r35.1 v40).bind fun v41 =>
 bif checkPairs [(16, logRd v37 1), (12, some (.ef [] g33.2.2 [] r35.2))] [(16, 12)] then some (0, [v41], r35.2) else none)
 (some (0, [skipV], g33.2.2))).bind fun g42 =>
 (aPick v34 (.bool true) (g42.2.1.getD 0 .undef)).bind fun v43 =>
 condV v43
 (some (2, [(.bool false)], g42.2.2))
 ((aLen false v22).bind fun v44 =>
 (loop (L9_1 call) [v28, (x19.2.1.getD 1 .undef), (x19.2.1.getD 2 .undef), (x19.2.1.getD 3 .undef), (x19.2.1.getD 4 .undef), v22, v26, v44, (.int .i64 0)] g42.2.2).bind fun x56 =>
 bif Nat.beq x56.1 1 then (aBin .add .plain (x56.2.1.getD 4 .undef) (.int .i64 1)).bind fun v57 =>
 some (0, [(x56.2.1.getD 0 .undef), (x56.2.1.getD 1 .undef), (x56.2.1.getD 2 .undef), (x56.2.1.getD 3 .undef), v57], x56.2.2) else
 bif Nat.beq x56.1 2 then some (2, [(x56.2.1.getD 0 .undef)], x56.2.2) else
 none) else
 none)
 (some (1, [], g9.2.2))
noncomputable def S9 (call : Go.Fw.Call) (a0 a1 : AVal) (h : Heap) : Option J :=
 (call 17 [] h).bind fun r1 =>
 (aFill [.nilSlice, .int .i64 0] []).bind fun c2 =>
 (AVal.cells? (.agg c2)).bind fun c3 =>
 (aBin .eql .ptr r1.1 (.nilPtr)).bind fun v5 =>
 condV v5
 (some (0, [(.bool false)], (r1.2.alloc c3)))
 ((loop (L9_0 call) [a0, a1, r1.1, (.ptr r1.2.next 0), (.int .i64 0)] (r1.2.alloc c3)).bind fun x58 =>
 bif Nat.beq x58.1 1 then some (0, [(.bool true)], x58.2.2) else
 bif Nat.beq x58.1 2 then some (0, [(x58.2.1.getD 0 .undef)], x58.2.2) else
 none)
theorem run9 (call : Go.Fw.Call) (a0 a1 : AVal) (h : Heap) : runFn call (.code A9) [a0, a1] h = (S9 call a0 a1 h).bind ansOf := by kernel_rfl

/-- frankpledge/frankpledgelaw3.ones -/
noncomputable def A10 : AFunc := ⟨1, (.seq (.region [.op 0 (.mov 2 (.const (.bool false)))] [])
 (.seq (.region [.op 0 (.mov 8 (.tmp 0)),
 .op 1 (.call 9 19 [.tmp 8]),
 .op 2 (.mov 7 (.tmp 9)),
 .op 3 (.extract 10 (.tmp 7) 0),
 .op 4 (.extract 11 (.tmp 7) 1),
 .op 5 (.mov 3 (.tmp 10)),
 .op 6 (.mov 4 (.tmp 11))] [])
 (.seq (.region [.op 0 (.mov 13 (.tmp 0)),
 .op 1 (.call 14 22 [.tmp 13]),
 .op 2 (.mov 12 (.tmp 14)),
 .op 3 (.extract 15 (.tmp 12) 0),
 .op 4 (.extract 16 (.tmp 12) 1),
 .op 5 (.mov 5 (.tmp 15)),
 .op 6 (.mov 6 (.tmp 16))] [])
 (.seq (.region [.op 0 (.mov 17 (.tmp 3)),
 .op 1 (.conv 18 .bytesStr (.tmp 17)),
 .op 2 (.mov 19 (.tmp 5)),
 .op 3 (.bin 20 .eql .plain (.tmp 18) (.tmp 19)),
 .op 4 (.mov 21 (.tmp 20)),
 .guard 21 true [.op 5 (.mov 22 (.tmp 4)),
 .op 6 (.mov 23 (.tmp 6)),
 .op 7 (.bin 24 .eql .plain (.tmp 22) (.tmp 23))] [] [24],
 .op 8 (.pick 25 (.tmp 21) (.tmp 24) (.const (.bool false))),
 .op 9 (.mov 2 (.tmp 25))] [])
 .ret)))),
 [.tmp 2]⟩
theorem ok10 : funcOk Try.prog (drawOk Try.prog) Try.f10 A10 = true := by kernel_rfl
noncomputable def S10 (call : Go.Fw.Call) (a0 : AVal) (h : Heap) : Option J :=
 (call 19 [a0] h).bind fun r1 =>
 (aExtract 0 r1.1).bind fun v2 =>
 (aExtract 1 r1.1).bind fun v3 =>
 (call 22 [a0] r1.2).bind fun r4 =>
 (aExtract 0 r4.1).bind fun v5 =>
 (aExtract 1 r4.1).bind fun v6 =>
 (aConv .bytesStr v2 r4.2).bind fun r7 =>
 (aBin .eql .plain r7.1 v5).bind fun v8 =>
 (guardV v8 true
 ((aBin .eql .plain v3 v6).bind fun v9 =>
 some (0, [v9], r7.2))
 (some (0, [skipV], r7.2))).bind fun g10 =>
 (aPick v8 (g10.2.1.getD 0 .undef) (.bool false)).bind fun v11 =>
 some (0, [v11], g10.2.2)
theorem run10 (call : Go.Fw.Call) (a0 : AVal) (h : Heap) : runFn call (.code A10) [a0] h = (S10 call a0 h).bind ansOf := by kernel_rfl

/-- frankpledge/frankpledgeref2.Frame -/
noncomputable def A11 : AFunc := ⟨1, (.seq (.region [.op 0 (.mov 2 (.const (.nilSlice)))] [])
 (.seq (.region [.op 0 (.mov 4 (.tmp 0)),
 .op 1 (.len 5 false (.tmp 4)),
 .op 2 (.conv 6 (.toInt .u32) (.tmp 5)),
 .op 3 (.call 7 23 [.const (.nilSlice), .tmp 6]),
 .op 4 (.mov 8 (.tmp 0)),
 .op 5 (.append 9 1 1 [.int .u8 0] false (.tmp 7) (.tmp 8)),
 .op 6 (.mov 3 (.tmp 9))] [])
 (.seq (.region [.op 0 (.mov 10 (.tmp 3)),
 .op 1 (.mov 11 (.tmp 3)),
 .op 2 (.call 12 14 [.tmp 11]),
 .op 3 (.call 13 23 [.tmp 10, .tmp 12]),
 .op 4 (.mov 2 (.tmp 13))] [])
 .ret))),
 [.tmp 2]⟩
theorem ok11 : funcOk Try.prog (drawOk Try.prog) Try.f11 A11 = true := by kernel_rfl
noncomputable def S11 (call : Go.Fw.Call) (a0 : AVal) (h : Heap) : Option J :=
 (aLen false a0).bind fun v1 =>
 (aConv (.toInt .u32) v1 h).bind fun r2 =>
 (call 23 [(.nilSlice), r2.1] r2.2).bind fun r3 =>
 (aAppend 1 1 [.int .u8 0] false r3.1 a0 r3.2).bind fun r4 =>
 (call 14 [r4.1] r4.2).bind fun r5 =>
 (call 23 [r4.1, r5.1] r5.2).bind fun r6 =>
 some (0, [r6.1], r6.2)
theorem run11 (call : Go.Fw.Call) (a0 : AVal) (h : Heap) : runFn call (.code A11) [a0] h = (S11 call a0 h).bind ansOf := by kernel_rfl

/-- frankpledge/frame.Bytes -/
noncomputable def A12 : AFunc := ⟨1, (.seq (.region [.op 0 (.mov 2 (.const (.nilSlice))),
 .op 1 (.mov 3 (.const (.int .i64 0)))] [])
 (.seq (.seq (.region [.op 0 (.mov 5 (.tmp 0)),
 .op 1 (.len 6 false (.tmp 5)),
 .op 2 (.bin 7 .gtr .plain (.tmp 6) (.const (.int .i64 8192)))] [])
 (.cond (.tmp 7)
 (.seq (.region [.op 0 (.mov 2 (.const (.nilSlice))),
 .op 1 (.mov 3 (.const (.int .i64 3)))] [])
 .ret)
 .skip))
 (.seq (.region [.op 0 (.mov 8 (.tmp 0)),
 .op 1 (.len 9 false (.tmp 8)),
 .op 2 (.conv 10 (.toInt .u32) (.tmp 9)),
 .op 3 (.call 11 24 [.const (.nilSlice), .tmp 10]),
 .op 4 (.mov 12 (.tmp 0)),
 .op 5 (.append 13 1 1 [.int .u8 0] false (.tmp 11) (.tmp 12)),
 .op 6 (.mov 4 (.tmp 13))] [])
 (.seq (.region [.op 0 (.mov 14 (.tmp 4)),
 .op 1 (.mov 15 (.tmp 4)),
 .op 2 (.call 16 13 [.tmp 15]),
 .op 3 (.call 17 24 [.tmp 14, .tmp 16]),
 .op 4 (.call 18 25 [.tmp 17]),
 .op 5 (.mov 2 (.tmp 18)),
 .op 6 (.mov 3 (.const (.int .i64 0)))] [])
 .ret)))),
 [.tmp 2, .tmp 3]⟩
theorem ok12 : funcOk Try.prog (drawOk Try.prog) Try.f12 A12 = true := by kernel_rfl
noncomputable def S12 (call : Go.Fw.Call) (a0 : AVal) (h : Heap) : Option J :=
 (aLen false a0).bind fun v1 =>
 (aBin .gtr .plain v1 (.int .i64 8192)).bind fun v2 =>
 condV v2
 (some (0, [.tuple [(.nilSlice), (.int .i64 3)]], h))
 ((aLen false a0).bind fun v3 =>
 (aConv (.toInt .u32) v3 h).bind fun r4 =>
 (call 24 [(.nilSlice), r4.1] r4.2).bind fun r5 =>
 (aAppend 1 1 [.int .u8 0] false r5.1 a0 r5.2).bind fun r6 =>
 (call 13 [r6.1] r6.2).bind fun r7 =>
 (call 24 [r6.1, r7.1] r7.2).bind fun r8 =>
 (call 25 [r8.1] r8.2).bind fun r9 =>
 some (0, [.tuple [r9.1, (.int .i64 0)]], r9.2))
theorem run12 (call : Go.Fw.Call) (a0 : AVal) (h : Heap) : runFn call (.code A12) [a0] h = (S12 call a0 h).bind ansOf := by kernel_rfl

/-- frankpledge/frame.Sum -/
noncomputable def A13 : AFunc := ⟨1, (.seq (.region [.op 0 (.mov 2 (.const (.int .u32 0)))] [])
 (.seq (.region [.op 0 (.mov 3 (.const (.int .u32 17)))] [])
 (.seq (.seq (.region [.op 0 (.mov 6 (.tmp 0)),
 .op 1 (.len 7 false (.tmp 6)),
 .op 2 (.mov 8 (.const (.int .i64 0)))] [])
 (.block 0 (.loop ⟨[3, 6, 7, 8], []⟩ [((.exit 0), ⟨[3], []⟩)]
 (.seq (.region [.op 0 (.bin 9 .lss .plain (.tmp 8) (.tmp 7))] [])
 (.seq (.cond (.tmp 9)
 .skip
 (.exit 0))
 (.seq (.block 1 (.seq (.region [.op 0 (.iaddr 10 none 1 (.tmp 6) (.tmp 8)),
 .op 1 (.load 11 false 1 (.tmp 10)),
 .op 2 (.mov 5 (.tmp 11))] [])
 (.region [.op 0 (.mov 12 (.tmp 3)),
 .op 1 (.bin 13 .mul .plain (.tmp 12) (.const (.int .u32 31))),
 .op 2 (.mov 14 (.tmp 5)),
 .op 3 (.conv 15 (.toInt .u32) (.tmp 14)),
 .op 4 (.bin 16 .add .plain (.tmp 13) (.tmp 15)),
 .op 5 (.bin 17 .add .plain (.tmp 16) (.const (.int .u32 7))),
 .op 6 (.mov 3 (.tmp 17))] [])))
 (.region [.op 0 (.bin 18 .add .plain (.tmp 8) (.const (.int .i64 1))),
 .op 1 (.mov 8 (.tmp 18))] [])))))))
 (.seq (.region [.op 0 (.mov 19 (.tmp 3)),
 .op 1 (.mov 2 (.tmp 19))] [])
 .ret)))),
 [.tmp 2]⟩
theorem ok13 : funcOk Try.prog (drawOk Try.prog) Try.f13 A13 = true := by kernel_rfl
/-- xs: t3, t6, t7, t8 -/
noncomputable def L13_0 (call : Go.Fw.Call) (xs : List AVal) (h : Heap) : Option J :=
 (aBin .lss .plain (xs.getD 3 .undef) (xs.getD 2 .undef)).bind fun v2 =>
 condV v2
 ((aIaddr 1 (xs.getD 1 .undef) (xs.getD 3 .undef)).bind fun v3 =>
 (aLoad h 1 v3).bind fun c4 =>
 (fromCells false c4).bind fun v5 =>
 (aBin .mul .plain (xs.getD 0 .undef) (.int .u32 31)).bind fun v6 =>
 (aConv (.toInt .u32) v5 h).bind fun r7 =>
 (aBin .add .plain v6 r7.1).bind fun v8 =>
 (aBin .add .plain v8 (.int .u32 7)).bind fun v9 =>
 (aBin .add .plain (xs.getD 3 .undef) (.int .i64 1)).bind fun v10 =>
 some (0, [v9, (xs.getD 1 .undef), (xs.getD 2 .undef), v10], r7.2))
 (some (1, [(xs.getD 0 .undef)], h))
noncomputable def S13 (call : Go.Fw.Call) (a0 : AVal) (h : Heap) : Option J :=
 (aLen false a0).bind fun v1 =>
 (loop (L13_0 call) [(.int .u32 17), a0, v1, (.int .i64 0)] h).bind fun x11 =>
 bif Nat.beq x11.1 1 then some (0, [(x11.2.1.getD 0 .undef)], x11.2.2) else
 none
theorem run13 (call : Go.Fw.Call) (a0 : AVal) (h : Heap) : runFn call (.code A13) [a0] h = (S13 call a0 h).bind ansOf := by kernel_rfl

/-- frankpledge/frankpledgeref2.Sum -/
noncomputable def A14 : AFunc := ⟨1, (.seq (.region [.op 0 (.mov 2 (.const (.int .u32 0)))] [])
 (.seq (.region [.op 0 (.mov 3 (.const (.int .u32 17)))] [])
 (.seq (.seq (.region [.op 0 (.mov 4 (.const (.int .i64 0)))] [])
 (.block 0 (.loop ⟨[0, 3, 4], []⟩ [((.exit 0), ⟨[3], []⟩)]
 (.seq (.seq (.region [.op 0 (.mov 5 (.tmp 4)),
 .op 1 (.mov 6 (.tmp 0)),
 .op 2 (.len 7 false (.tmp 6)),
 .op 3 (.bin 8 .lss .plain (.tmp 5) (.tmp 7))] [])
 (.cond (.tmp 8)
 .skip
 (.exit 0)))
 (.seq (.block 1 (.region [.op 0 (.mov 11 (.tmp 3)),
 .op 1 (.bin 12 .mul .plain (.tmp 11) (.const (.int .u32 31))),
 .op 2 (.mov 13 (.tmp 0)),
 .op 3 (.mov 14 (.tmp 4)),
 .op 4 (.iaddr 15 none 1 (.tmp 13) (.tmp 14)),
 .op 5 (.load 16 false 1 (.tmp 15)),
 .op 6 (.conv 17 (.toInt .u32) (.tmp 16)),
 .op 7 (.bin 18 .add .plain (.tmp 12) (.tmp 17)),
 .op 8 (.bin 19 .add .plain (.tmp 18) (.const (.int .u32 7))),
 .op 9 (.mov 3 (.tmp 19))] []))
 (.region [.op 0 (.mov 9 (.tmp 4)),
 .op 1 (.bin 10 .add .plain (.tmp 9) (.const (.int .i64 1))),
 .op 2 (.mov 4 (.tmp 10))] []))))))
 (.seq (.region [.op 0 (.mov 20 (.tmp 3)),
 .op 1 (.mov 2 (.tmp 20))] [])
 .ret)))),
 [.tmp 2]⟩
theorem ok14 : funcOk Try.prog (drawOk Try.prog) Try.f14 A14 = true := by kernel_rfl
/-- xs: t0, t3, t4 -/
noncomputable def L14_0 (call : Go.Fw.Call) (xs : List AVal) (h : Heap) : Option J :=
 (aLen false (xs.getD 0 .undef)).bind fun v1 =>
 (aBin .lss .plain (xs.getD 2 .undef) v1).bind fun v2 =>
 condV v2
 ((aBin .mul .plain (xs.getD 1 .undef) (.int .u32 31)).bind fun v3 =>
 (aIaddr 1 (xs.getD 0 .undef) (xs.getD 2 .undef)).bind fun v4 =>
 (aLoad h 1 v4).bind fun c5 =>
 (fromCells false c5).bind fun v6 =>
 (aConv (.toInt .u32) v6 h).bind fun r7 =>
 (aBin .add .plain v3 r7.1).bind fun v8 =>
 (aBin .add .plain v8 (.int .u32 7)).bind fun v9 =>
 (aBin .add .plain (xs.getD 2 .undef) (.int .i64 1)).bind fun v10 =>
 some (0, [(xs.getD 0 .undef), v9, v10], r7.2))
 (some (1, [(xs.getD 1 .undef)], h))
noncomputable def S14 (call : Go.Fw.Call) (a0 : AVal) (h : Heap) : Option J :=
 (loop (L14_0 call) [a0, (.int .u32 17), (.int .i64 0)] h).bind fun x11 =>
 bif Nat.beq x11.1 1 then some (0, [(x11.2.1.getD 0 .undef)], x11.2.2) else
 none
theorem run14 (call : Go.Fw.Call) (a0 : AVal) (h : Heap) : runFn call (.code A14) [a0] h = (S14 call a0 h).bind ansOf := by kernel_rfl

/-- frankpledge/frankpledgelaw3.known -/
noncomputable def A15 : AFunc := ⟨0, (.seq (.region [.op 0 (.mov 0 (.const (.bool false)))] [])
 (.seq (.region [.op 0 (.buildSl 10 [.int .u8 0] 1 2 [(0, .const (.int .u8 97)), (1, .const (.int .u8 98))]),
 .op 1 (.conv 11 .slBytes (.tmp 10)),
 .op 2 (.call 12 12 [.tmp 11]),
 .op 3 (.mov 9 (.tmp 12)),
 .op 4 (.extract 13 (.tmp 9) 0),
 .op 5 (.extract 14 (.tmp 9) 1),
 .op 6 (.mov 1 (.tmp 13)),
 .op 7 (.mov 2 (.tmp 14))] [])
 (.seq (.region [.op 0 (.mov 16 (.tmp 1)),
 .op 1 (.call 17 19 [.tmp 16]),
 .op 2 (.mov 15 (.tmp 17)),
 .op 3 (.extract 18 (.tmp 15) 0),
 .op 4 (.extract 19 (.tmp 15) 1),
 .op 5 (.mov 3 (.tmp 18)),
 .op 6 (.mov 4 (.tmp 19))] [])
 (.seq (.region [.op 0 (.call 21 19 [.const (.nilSlice)]),
 .op 1 (.mov 20 (.tmp 21)),
 .op 2 (.extract 22 (.tmp 20) 0),
 .op 3 (.extract 23 (.tmp 20) 1),
 .op 4 (.mov 5 (.tmp 22)),
 .op 5 (.mov 6 (.tmp 23))] [])
 (.seq (.region [.op 0 (.mkSlice 25 1 1 [.int .u8 0] (.const (.int .i64 8193)) (.const (.int .i64 8193))),
 .op 1 (.call 26 12 [.tmp 25]),
 .op 2 (.mov 24 (.tmp 26)),
 .op 3 (.extract 27 (.tmp 24) 0),
 .op 4 (.extract 28 (.tmp 24) 1),
 .op 5 (.mov 7 (.tmp 27)),
 .op 6 (.mov 8 (.tmp 28))] [])
 (.seq (.region [.op 0 (.mov 29 (.tmp 2)),
 .op 1 (.bin 30 .eql .plain (.tmp 29) (.const (.int .i64 0))),
 .op 2 (.mov 31 (.tmp 30)),
 .guard 31 true [.op 3 (.mov 32 (.tmp 1)),
 .op 4 (.len 33 false (.tmp 32)),
 .op 5 (.bin 34 .eql .plain (.tmp 33) (.const (.int .i64 10)))] [] [34],
 .op 6 (.pick 35 (.tmp 31) (.tmp 34) (.const (.bool false))),
 .op 7 (.mov 36 (.tmp 35)),
 .guard 36 true [.op 8 (.mov 37 (.tmp 4)),
 .op 9 (.bin 38 .eql .plain (.tmp 37) (.const (.int .i64 0)))] [] [38],
 .op 10 (.pick 39 (.tmp 36) (.tmp 38) (.const (.bool false))),
 .op 11 (.mov 40 (.tmp 39)),
 .guard 40 true [.op 12 (.mov 41 (.tmp 3)),
 .op 13 (.conv 42 .bytesStr (.tmp 41)),
 .op 14 (.bin 43 .eql .plain (.tmp 42) (.const (.str [97, 98])))] [] [43],
 .op 15 (.pick 44 (.tmp 40) (.tmp 43) (.const (.bool false))),
 .op 16 (.mov 45 (.tmp 44)),
 .guard 45 true [.op 17 (.mov 46 (.tmp 6)),
 .op 18 (.bin 47 .eql .plain (.tmp 46) (.const (.int .i64 12)))] [] [47],
 .op 19 (.pick 48 (.tmp 45) (.tmp 47) (.const (.bool false))),
 .op 20 (.mov 49 (.tmp 48)),
 .guard 49 true [.op 21 (.mov 50 (.tmp 8)),
 .op 22 (.bin 51 .eql .plain (.tmp 50) (.const (.int .i64 3)))] [] [51],
 .op 23 (.pick 52 (.tmp 49) (.tmp 51) (.const (.bool false))),
 .op 24 (.mov 53 (.tmp 52)),
 .guard 53 true [.op 25 (.call 54 13 [.const (.nilSlice)]),
 .op 26 (.bin 55 .eql .plain (.tmp 54) (.const (.int .u32 17)))] [] [55],
 .op 27 (.pick 56 (.tmp 53) (.tmp 55) (.const (.bool false))),
 .op 28 (.mov 0 (.tmp 56))] [])
 .ret)))))),
 [.tmp 0]⟩
theorem ok15 : funcOk Try.prog (drawOk Try.prog) Try.f15 A15 = true := by kernel_rfl
noncomputable def S15 (call : Go.Fw.Call) (h : Heap) : Option J :=
 (aFill (reps [.int .u8 0] 2) [(0, 1, (.int .u8 97)), (1, 1, (.int .u8 98))]).bind fun c1 =>
 (aConv .slBytes (.slice h.next 0 2 2 1 true) (h.alloc c1)).bind fun r2 =>
 (call 12 [r2.1] r2.2).bind fun r3 =>
 (aExtract 0 r3.1).bind fun v4 =>
 (aExtract 1 r3.1).bind fun v5 =>
 (call 19 [v4] r3.2).bind fun r6 =>
 (aExtract 0 r6.1).bind fun v7 =>
 (aExtract 1 r6.1).bind fun v8 =>
 (call 19 [(.nilSlice)] r6.2).bind fun r9 =>
 (aExtract 0 r9.1).bind fun v10 =>
 (aExtract 1 r9.1).bind fun v11 =>
 (aMkSlice 1 1 [.int .u8 0] (.int .i64 8193) (.int .i64 8193) r9.2).bind fun r12 =>
 (call 12 [r12.1] r12.2).bind fun r13 =>
 (aExtract 0 r13.1).bind fun v14 =>
 (aExtract 1 r13.1).bind fun v15 =>
 (aBin .eql .plain v5 (.int .i64 0)).bind fun v16 =>
 (guardV v16 true
 ((aLen false v4).bind fun v17 =>
 (aBin .eql .plain v17 (.int .i64 10)).bind fun v18 =>
 some (0, [v18], r13.2))
 (some (0, [skipV], r13.2))).bind fun g19 =>
 (aPick v16 (g19.2.1.getD 0 .undef) (.bool false)).bind fun v20 =>
 (guardV v20 true
 ((aBin .eql .plain v8 (.int .i64 0)).bind fun v21 =>
 some (0, [v21], g19.2.2))
 (some (0, [skipV], g19.2.2))).bind fun g22 =>
 (aPick v20 (g22.2.1.getD 0 .undef) (.bool false)).bind fun v23 =>
 (guardV v23 true
 ((aConv .bytesStr v7 g22.2.2).bind fun r24 =>
 (aBin .eql .plain r24.1 (.str [97, 98])).bind fun v25 =>
 some (0, [v25], r24.2))
 (some (0, [skipV], g22.2.2))).bind fun g26 =>
 (aPick v23 (g26.2.1.getD 0 .undef) (.bool false)).bind fun v27 =>
 (guardV v27 true
 ((aBin .eql .plain v11 (.int .i64 12)).bind fun v28 =>
 some (0, [v28], g26.2.2))
 (some (0, [skipV], g26.2.2))).bind fun g29 =>
 (aPick v27 (g29.2.1.getD 0 .undef) (.bool false)).bind fun v30 =>
 (guardV v30 true
 ((aBin .eql .plain v15 (.int .i64 3)).bind fun v31 =>
 some (0, [v31], g29.2.2))
 (some (0, [skipV], g29.2.2))).bind fun g32 =>
 (aPick v30 (g32.2.1.getD 0 .undef) (.bool false)).bind fun v33 =>
 (guardV v33 true
 ((call 13 [(.nilSlice)] g32.2.2).bind fun r34 =>
 (aBin .eql .plain r34.1 (.int .u32 17)).bind fun v35 =>
 some (0, [v35], r34.2))
 (some (0, [skipV], g32.2.2))).bind fun g36 =>
 (aPick v33 (g36.2.1.getD 0 .undef) (.bool false)).bind fun v37 =>
 some (0, [v37], g36.2.2)
theorem run15 (call : Go.Fw.Call) (h : Heap) : runFn call (.code A15) [] h = (S15 call  h).bind ansOf := by kernel_rfl

/-- frankpledge/frankpledgebook.Within -/
noncomputable def A16 : AFunc := ⟨3, (.seq (.region [.op 0 (.mov 6 (.const (.int .i64 0)))] [])
 (.seq (.seq (.region [.op 0 (.mov 7 (.tmp 0)),
 .op 1 (.mov 8 (.tmp 1)),
 .op 2 (.bin 9 .geq .plain (.tmp 7) (.tmp 8)),
 .op 3 (.mov 10 (.tmp 9)),
 .guard 10 true [.op 4 (.mov 11 (.tmp 0)),
 .op 5 (.mov 12 (.tmp 2)),
 .op 6 (.bin 13 .leq .plain (.tmp 11) (.tmp 12))] [] [13],
 .op 7 (.pick 14 (.tmp 10) (.tmp 13) (.const (.bool false)))] [])
 (.cond (.tmp 14)
 (.seq (.region [.op 0 (.mov 15 (.tmp 0)),
 .op 1 (.mov 6 (.tmp 15))] [])
 .ret)
 .skip))
 (.seq (.region [.op 0 (.mov 16 (.tmp 0)),
 .op 1 (.mov 17 (.tmp 2)),
 .op 2 (.mov 18 (.tmp 1)),
 .op 3 (.bin 19 .sub .plain (.tmp 17) (.tmp 18)),
 .op 4 (.bin 20 .add .plain (.tmp 19) (.const (.int .i64 1))),
 .op 5 (.bin 21 .rem .plain (.tmp 16) (.tmp 20)),
 .op 6 (.mov 0 (.tmp 21))] [])
 (.seq (.seq (.region [.op 0 (.mov 22 (.tmp 0)),
 .op 1 (.bin 23 .lss .plain (.tmp 22) (.const (.int .i64 0)))] [])
 (.join [(.normal, ⟨[0, 1], []⟩)] (.cond (.tmp 23)
 (.region [.op 0 (.mov 24 (.tmp 0)),
 .op 1 (.mov 25 (.tmp 2)),
 .op 2 (.bin 26 .add .plain (.tmp 24) (.tmp 25)),
 .op 3 (.mov 27 (.tmp 1)),
 .op 4 (.bin 28 .sub .plain (.tmp 26) (.tmp 27)),
 .op 5 (.bin 29 .add .plain (.tmp 28) (.const (.int .i64 1))),
 .op 6 (.mov 0 (.tmp 29))] [])
 .skip)))
 (.seq (.region [.op 0 (.mov 30 (.tmp 1)),
 .op 1 (.mov 31 (.tmp 0)),
 .op 2 (.bin 32 .add .plain (.tmp 30) (.tmp 31)),
 .op 3 (.mov 6 (.tmp 32))] [])
 .ret))))),
 [.tmp 6]⟩
theorem ok16 : funcOk Try.prog (drawOk Try.prog) Try.f16 A16 = true := by kernel_rfl
noncomputable def S16 (call : Go.Fw.Call) (a0 a1 a2 : AVal) (h : Heap) : Option J :=
 (aBin .geq .plain a0 a1).bind fun v1 =>
 (guardV v1 true
 ((aBin .leq .plain a0 a2).bind fun v2 =>
 some (0, [v2], h))
 (some (0, [skipV], h))).bind fun g3 =>
 (aPick v1 (g3.2.1.getD 0 .undef) (.bool false)).bind fun v4 =>
 condV v4
 (some (0, [a0], g3.2.2))
 ((aBin .sub .plain a2 a1).bind fun v5 =>
 (aBin .add .plain v5 (.int .i64 1)).bind fun v6 =>
 (aBin .rem .plain a0 v6).bind fun v7 =>
 (aBin .lss .plain v7 (.int .i64 0)).bind fun v8 =>
 (condV v8
 ((aBin .add .plain v7 a2).bind fun v9 =>
 (aBin .sub .plain v9 a1).bind fun v10 =>
 (aBin .add .plain v10 (.int .i64 1)).bind fun v11 =>
 some (0, [v11, a1], g3.2.2))
 (some (0, [v7, a1], g3.2.2))).bind fun x12 =>
 bif Nat.beq x12.1 0 then (aBin .add .plain (x12.2.1.getD 1 .undef) (x12.2.1.getD 0 .undef)).bind fun v13 =>
 some (0, [v13], x12.2.2) else
 none)
theorem run16 (call : Go.Fw.Call) (a0 a1 a2 : AVal) (h : Heap) : runFn call (.code A16) [a0, a1, a2] h = (S16 call a0 a1 a2 h).bind ansOf := by kernel_rfl

/-- frankpledge/frame.New -/
noncomputable def A17 : AFunc := ⟨0, (.seq (.region [.op 0 (.mov 0 (.const (.nilPtr)))] [])
 (.seq (.region [.op 0 (.build 1 [.nilSlice, .int .i64 0] []),
 .op 1 (.box 2 false (.tmp 1)),
 .op 2 (.mov 0 (.tmp 2))] [])
 .ret)),
 [.tmp 0]⟩
theorem ok17 : funcOk Try.prog (drawOk Try.prog) Try.f17 A17 = true := by kernel_rfl
noncomputable def S17 (call : Go.Fw.Call) (h : Heap) : Option J :=
 (aFill [.nilSlice, .int .i64 0] []).bind fun c1 =>
 (AVal.cells? (.agg c1)).bind fun c2 =>
 some (0, [(.ptr h.next 0)], (h.alloc c2))
theorem run17 (call : Go.Fw.Call) (h : Heap) : runFn call (.code A17) [] h = (S17 call  h).bind ansOf := by kernel_rfl

/-- (*frankpledge/frame.Stream).Feed -/
noncomputable def A18 : AFunc := ⟨2, (.seq (.region [.op 0 (.mov 4 (.const (.nilSlice))),
 .op 1 (.mov 5 (.const (.int .i64 0)))] [])
 (.seq (.seq (.region [.op 0 (.mov 9 (.tmp 0)),
 .op 1 (.nilchk 10 (.tmp 9)),
 .op 2 (.faddr 11 1 (.tmp 10)),
 .op 3 (.load 12 false 1 (.tmp 11)),
 .op 4 (.bin 13 .neq .plain (.tmp 12) (.const (.int .i64 0)))] [])
 (.cond (.tmp 13)
 (.seq (.region [.op 0 (.mov 14 (.tmp 0)),
 .op 1 (.nilchk 15 (.tmp 14)),
 .op 2 (.faddr 16 1 (.tmp 15)),
 .op 3 (.load 17 false 1 (.tmp 16)),
 .op 4 (.mov 4 (.const (.nilSlice))),
 .op 5 (.mov 5 (.tmp 17))] [])
 .ret)
 .skip))
 (.seq (.region [.op 0 (.mov 18 (.tmp 0)),
 .op 1 (.mov 19 (.tmp 0)),
 .op 2 (.nilchk 20 (.tmp 19)),
 .op 3 (.faddr 21 0 (.tmp 20)),
 .op 4 (.load 22 false 1 (.tmp 21)),
 .op 5 (.mov 23 (.tmp 1)),
 .op 6 (.buildSl 24 [.nilSlice] 1 2 [(0, .tmp 22), (1, .tmp 23)]),
 .op 7 (.call 25 26 [.tmp 24]),
 .op 8 (.nilchk 26 (.tmp 18)),
 .op 9 (.faddr 27 0 (.tmp 26)),
 .op 10 (.store false 1 (.tmp 27) (.tmp 25))] [])
 (.seq (.region [.op 0 (.mov 6 (.const (.nilSlice)))] [])
 (.block 0 (.loop ⟨[0, 6], []⟩ [(.ret, ⟨[4, 5], []⟩)]
 (.block 1 (.seq (.region [.op 0 (.mov 29 (.tmp 0)),
 .op 1 (.nilchk 30 (.tmp 29)),
 .op 2 (.faddr 31 0 (.tmp 30)),
 .op 3 (.load 32 false 1 (.tmp 31)),
 .op 4 (.call 33 27 [.tmp 32]),
 .op 5 (.mov 28 (.tmp 33)),
 .op 6 (.extract 34 (.tmp 28) 0),
 .op 7 (.extract 35 (.tmp 28) 1),
 .op 8 (.mov 7 (.tmp 34)),
 .op 9 (.mov 8 (.tmp 35))] [])
 (.seq (.seq (.region [.op 0 (.mov 36 (.tmp 8)),
 .op 1 (.bin 37 .neq .plain (.tmp 36) (.const (.int .i64 0)))] [])
 (.cond (.tmp 37)
 (.seq (.region [.op 0 (.mov 38 (.tmp 0)),
 .op 1 (.mov 39 (.tmp 0)),
 .op 2 (.mov 40 (.tmp 8)),
 .op 3 (.nilchk 41 (.tmp 38)),
 .op 4 (.faddr 42 0 (.tmp 41)),
 .op 5 (.store false 1 (.tmp 42) (.const (.nilSlice))),
 .op 6 (.nilchk 43 (.tmp 39)),
 .op 7 (.faddr 44 1 (.tmp 43)),
 .op 8 (.store false 1 (.tmp 44) (.tmp 40))] [])
 (.seq (.region [.op 0 (.mov 45 (.tmp 6)),
 .op 1 (.mov 46 (.tmp 8)),
 .op 2 (.mov 4 (.tmp 45)),
 .op 3 (.mov 5 (.tmp 46))] [])
 .ret))
 .skip))
 (.seq (.seq (.region [.op 0 (.mov 47 (.tmp 7)),
 .op 1 (.bin 48 .eql .plain (.tmp 47) (.const (.int .i64 0)))] [])
 (.cond (.tmp 48)
 (.seq (.region [.op 0 (.mov 49 (.tmp 6)),
 .op 1 (.mov 4 (.tmp 49)),
 .op 2 (.mov 5 (.const (.int .i64 0)))] [])
 .ret)
 .skip))
 (.seq (.region [.op 0 (.mov 50 (.tmp 6)),
 .op 1 (.mov 51 (.tmp 0)),
 .op 2 (.nilchk 52 (.tmp 51)),
 .op 3 (.faddr 53 0 (.tmp 52)),
 .op 4 (.load 54 false 1 (.tmp 53)),
 .op 5 (.mov 55 (.tmp 7)),
 .op 6 (.bin 56 .sub .plain (.tmp 55) (.const (.int .i64 4))),
 .op 7 (.slice 57 (.sl 1) (.tmp 54) (some (.const (.int .i64 4))) (some (.tmp 56)) none),
 .op 8 (.call 58 28 [.tmp 57]),
 .op 9 (.buildSl 59 [.nilSlice] 1 1 [(0, .tmp 58)]),
 .op 10 (.append 60 1 24 [.nilSlice] false (.tmp 50) (.tmp 59)),
 .op 11 (.mov 6 (.tmp 60))] [])
 (.region [.op 0 (.mov 61 (.tmp 0)),
 .op 1 (.mov 62 (.tmp 0)),
 .op 2 (.nilchk 63 (.tmp 62)),
 .op 3 (.faddr 64 0 (.tmp 63)),
 .op 4 (.load 65 false 1 (.tmp 64)),
 .op 5 (.mov 66 (.tmp 7)),
 .op 6 (.slice 67 (.sl 1) (.tmp 65) (some (.tmp 66)) none none),
 .op 7 (.nilchk 68 (.tmp 61)),
 .op 8 (.faddr 69 0 (.tmp 68)),
 .op 9 (.store false 1 (.tmp 69) (.tmp 67))] [])))))))))))),
 [.tmp 4, .tmp 5]⟩
theorem ok18 : funcOk Try.prog (drawOk Try.prog) Try.f18 A18 = true := by kernel_rfl
/-- xs: t0, t6 -/
noncomputable def L18_0 (call : Go.Fw.Call) (xs : List AVal) (h : Heap) : Option J :=
 (aNilchk (xs.getD 0 .undef)).bind fun v20 =>
 (aFaddr 0 v20).bind fun v21 =>
 (aLoad h 1 v21).bind fun c22 =>
 (fromCells false c22).bind fun v23 =>
 (call 27 [v23] h).bind fun r24 =>
 (aExtract 0 r24.1).bind fun v25 =>
 (aExtract 1 r24.1).bind fun v26 =>
 (aBin .neq .plain v26 (.int .i64 0)).bind fun v27 =>
 condV v27
 ((aNilchk (xs.getD 0 .undef)).bind fun v28 =>
 (aFaddr 0 v28).bind fun v29 =>
 (aCells 1 (.nilSlice)).bind fun c30 =>
 (aStore r24.2 v29 c30).bind fun h31 =>
 (aNilchk (xs.getD 0 .undef)).bind fun v32 =>
 (aFaddr 1 v32).bind fun v33 =>
 (aCells 1 v26).bind fun c34 =>
 (aStore h31 v33 c34).bind fun h35 =>
 some (1, [(xs.getD 1 .undef), v26], h35))
 ((aBin .eql .plain v25 (.int .i64 0)).bind fun v36 =>
 condV v36
 (some (1, [(xs.getD 1 .undef), (.int .i64 0)], r24.2))
 ((aNilchk (xs.getD 0 .undef)).bind fun v37 =>
 (aFaddr 0 v37).bind fun v38 =>
 (aLoad r24.2 1 v38).bind fun c39 =>
 (fromCells false c39).bind fun v40 =>
 (aBin .sub .plain v25 (.int .i64 4)).bind fun v41 =>
 (aSliceSl 1 v40 (some (.int .i64 4)) (some v41) none).bind fun v42 =>
 (call 28 [v42] r24.2).bind fun r43 =>
 (aFill (reps [.nilSlice] 1) [(0, 1, r43.1)]).bind fun c44 =>
 (aAppend 1 24 [.nilSlice] false (xs.getD 1 .undef) (.slice r43.2.next 0 1 1 1 true) (r43.2.alloc c44)).bind fun r45 =>
 (aNilchk (xs.getD 0 .undef)).bind fun v46 =>
 (aFaddr 0 v46).bind fun v47 =>
 (aLoad r45.2 1 v47).bind fun c48 =>
 (fromCells false c48).bind fun v49 =>
 (aSliceSl 1 v49 (some v25) none none).bind fun v50 =>
 (aNilchk (xs.getD 0 .undef)).bind fun v51 =>
 (aFaddr 0 v51).bind fun v52 =>
 (aCells 1 v50).bind fun c53 =>
 (aStore r45.2 v52 c53).bind fun h54 =>
 some (0, [(xs.getD 0 .undef), r45.1], h54)))
noncomputable def S18 (call : Go.Fw.Call) (a0 a1 : AVal) (h : Heap) : Option J :=
 (aNilchk a0).bind fun v1 =>
 (aFaddr 1 v1).bind fun v2 =>
 (aLoad h 1 v2).bind fun c3 =>
 (fromCells false c3).bind fun v4 =>
 (aBin .neq .plain v4 (.int .i64 0)).bind fun v5 =>
 condV v5
 ((aNilchk a0).bind fun v6 =>
 (aFaddr 1 v6).bind fun v7 =>
 (aLoad h 1 v7).bind fun c8 =>
 (fromCells false c8).bind fun v9 =>
 some (0, [.tuple [(.nilSlice), v9]], h))
 ((aNilchk a0).bind fun v10 =>
 (aFaddr 0 v10).bind fun v11 =>
 (aLoad h 1 v11).bind fun c12 =>
 (fromCells false c12).bind fun v13 =>
 (aFill (reps [.nilSlice] 2) [(0, 1, v13), (1, 1, a1)]).bind fun c14 =>
 (call 26 [(.slice h.next 0 2 2 1 true)] (h.alloc c14)).bind fun r15 =>
 (aNilchk a0).bind fun v16 =>
 (aFaddr 0 v16).bind fun v17 =>
 (aCells 1 r15.1).bind fun c18 =>
 (aStore r15.2 v17 c18).bind fun h19 =>
 (loop (L18_0 call) [a0, (.nilSlice)] h19).bind fun x55 =>
 bif Nat.beq x55.1 1 then some (0, [.tuple [(x55.2.1.getD 0 .undef), (x55.2.1.getD 1 .undef)]], x55.2.2) else
 none)
theorem run18 (call : Go.Fw.Call) (a0 a1 : AVal) (h : Heap) : runFn call (.code A18) [a0, a1] h = (S18 call a0 a1 h).bind ansOf := by kernel_rfl

/-- frankpledge/frame.One -/
noncomputable def A19 : AFunc := ⟨1, (.seq (.region [.op 0 (.mov 2 (.const (.nilSlice))),
 .op 1 (.mov 3 (.const (.int .i64 0)))] [])
 (.seq (.seq (.region [.op 0 (.mov 5 (.tmp 0)),
 .op 1 (.len 6 false (.tmp 5)),
 .op 2 (.bin 7 .lss .plain (.tmp 6) (.const (.int .i64 4)))] [])
 (.cond (.tmp 7)
 (.seq (.region [.op 0 (.mov 2 (.const (.nilSlice))),
 .op 1 (.mov 3 (.const (.int .i64 12)))] [])
 .ret)
 .skip))
 (.seq (.region [.op 0 (.mov 8 (.tmp 0)),
 .op 1 (.call 9 29 [.tmp 8]),
 .op 2 (.mov 4 (.tmp 9))] [])
 (.seq (.block 0 (.seq (.region [.op 0 (.mov 11 (.tmp 4)),
 .op 1 (.bin 12 .gtr .plain (.tmp 11) (.const (.int .u32 8192))),
 .op 2 (.mov 10 (.tmp 12))] [])
 (.cond (.tmp 10)
 (.seq (.region [.op 0 (.mov 2 (.const (.nilSlice))),
 .op 1 (.mov 3 (.const (.int .i64 3)))] [])
 .ret)
 (.seq (.region [.op 0 (.mov 14 (.tmp 0)),
 .op 1 (.len 15 false (.tmp 14)),
 .op 2 (.mov 16 (.tmp 4)),
 .op 3 (.conv 17 (.toInt .i64) (.tmp 16)),
 .op 4 (.bin 18 .add .plain (.tmp 17) (.const (.int .i64 8))),
 .op 5 (.bin 19 .neq .plain (.tmp 15) (.tmp 18)),
 .op 6 (.mov 13 (.tmp 19))] [])
 (.cond (.tmp 13)
 (.seq (.region [.op 0 (.mov 2 (.const (.nilSlice))),
 .op 1 (.mov 3 (.const (.int .i64 12)))] [])
 .ret)
 (.seq (.region [.op 0 (.mov 21 (.tmp 0)),
 .op 1 (.mov 22 (.tmp 0)),
 .op 2 (.len 23 false (.tmp 22)),
 .op 3 (.bin 24 .sub .plain (.tmp 23) (.const (.int .i64 4))),
 .op 4 (.slice 25 (.sl 1) (.tmp 21) none (some (.tmp 24)) none),
 .op 5 (.call 26 13 [.tmp 25]),
 .op 6 (.mov 27 (.tmp 0)),
 .op 7 (.mov 28 (.tmp 0)),
 .op 8 (.len 29 false (.tmp 28)),
 .op 9 (.bin 30 .sub .plain (.tmp 29) (.const (.int .i64 4))),
 .op 10 (.slice 31 (.sl 1) (.tmp 27) (some (.tmp 30)) none none),
 .op 11 (.call 32 29 [.tmp 31]),
 .op 12 (.bin 33 .neq .plain (.tmp 26) (.tmp 32)),
 .op 13 (.mov 20 (.tmp 33))] [])
 (.cond (.tmp 20)
 (.seq (.region [.op 0 (.mov 2 (.const (.nilSlice))),
 .op 1 (.mov 3 (.const (.int .i64 13)))] [])
 .ret)
 .skip)))))))
 (.seq (.region [.op 0 (.mov 34 (.tmp 0)),
 .op 1 (.mov 35 (.tmp 0)),
 .op 2 (.len 36 false (.tmp 35)),
 .op 3 (.bin 37 .sub .plain (.tmp 36) (.const (.int .i64 4))),
 .op 4 (.slice 38 (.sl 1) (.tmp 34) (some (.const (.int .i64 4))) (some (.tmp 37)) none),
 .op 5 (.call 39 28 [.tmp 38]),
 .op 6 (.mov 2 (.tmp 39)),
 .op 7 (.mov 3 (.const (.int .i64 0)))] [])
 .ret))))),
 [.tmp 2, .tmp 3]⟩
theorem ok19 : funcOk Try.prog (drawOk Try.prog) Try.f19 A19 = true := by kernel_rfl
noncomputable def S19 (call : Go.Fw.Call) (a0 : AVal) (h : Heap) : Option J :=
 (aLen false a0).bind fun v1 =>
 (aBin .lss .plain v1 (.int .i64 4)).bind fun v2 =>
 condV v2
 (some (0, [.tuple [(.nilSlice), (.int .i64 12)]], h))
 ((call 29 [a0] h).bind fun r3 =>
 (aBin .gtr .plain r3.1 (.int .u32 8192)).bind fun v4 =>
 condV v4
 (some (0, [.tuple [(.nilSlice), (.int .i64 3)]], r3.2))
 ((aLen false a0).bind fun v5 =>
 (aConv (.toInt .i64) r3.1 r3.2).bind fun r6 =>
 (aBin .add .plain r6.1 (.int .i64 8)).bind fun v7 =>
 (aBin .neq .plain v5 v7).bind fun v8 =>
 condV v8
 (some (0, [.tuple [(.nilSlice), (.int .i64 12)]], r6.2))
 ((aLen false a0).bind fun v9 =>
 (aBin .sub .plain v9 (.int .i64 4)).bind fun v10 =>
 (aSliceSl 1 a0 none (some v10) none).bind fun v11 =>
 (call 13 [v11] r6.2).bind fun r12 =>
 (aLen false a0).bind fun v13 =>
 (aBin .sub .plain v13 (.int .i64 4)).bind fun v14 =>
 (aSliceSl 1 a0 (some v14) none none).bind fun v15 =>
 (call 29 [v15] r12.2).bind fun r16 =>
 (aBin .neq .plain r12.1 r16.1).bind fun v17 =>
 condV v17
 (some (0, [.tuple [(.nilSlice), (.int .i64 13)]], r16.2))
 ((aLen false a0).bind fun v18 =>
 (aBin .sub .plain v18 (.int .i64 4)).bind fun v19 =>
 (aSliceSl 1 a0 (some (.int .i64 4)) (some v19) none).bind fun v20 =>
 (call 28 [v20] r16.2).bind fun r21 =>
 some (0, [.tuple [r21.1, (.int .i64 0)]], r21.2)))))
theorem run19 (call : Go.Fw.Call) (a0 : AVal) (h : Heap) : runFn call (.code A19) [a0] h = (S19 call a0 h).bind ansOf := by kernel_rfl

/-- (*frankpledge/frame.Stream).Left -/
noncomputable def A20 : AFunc := ⟨1, (.seq (.region [.op 0 (.mov 2 (.const (.int .i64 0)))] [])
 (.seq (.region [.op 0 (.mov 3 (.tmp 0)),
 .op 1 (.nilchk 4 (.tmp 3)),
 .op 2 (.faddr 5 0 (.tmp 4)),
 .op 3 (.load 6 false 1 (.tmp 5)),
 .op 4 (.len 7 false (.tmp 6)),
 .op 5 (.mov 2 (.tmp 7))] [])
 .ret)),
 [.tmp 2]⟩
theorem ok20 : funcOk Try.prog (drawOk Try.prog) Try.f20 A20 = true := by kernel_rfl
noncomputable def S20 (call : Go.Fw.Call) (a0 : AVal) (h : Heap) : Option J :=
 (aNilchk a0).bind fun v1 =>
 (aFaddr 0 v1).bind fun v2 =>
 (aLoad h 1 v2).bind fun c3 =>
 (fromCells false c3).bind fun v4 =>
 (aLen false v4).bind fun v5 =>
 some (0, [v5], h)
theorem run20 (call : Go.Fw.Call) (a0 : AVal) (h : Heap) : runFn call (.code A20) [a0] h = (S20 call a0 h).bind ansOf := by kernel_rfl

/-- (*frankpledge/frankpledgeref2.Stream).Feed -/
noncomputable def A21 : AFunc := ⟨2, (.seq (.region [.op 0 (.mov 4 (.const (.nilSlice))),
 .op 1 (.mov 5 (.const (.int .i64 0)))] [])
 (.seq (.seq (.region [.op 0 (.mov 9 (.tmp 0)),
 .op 1 (.nilchk 10 (.tmp 9)),
 .op 2 (.faddr 11 1 (.tmp 10)),
 .op 3 (.load 12 false 1 (.tmp 11)),
 .op 4 (.bin 13 .neq .plain (.tmp 12) (.const (.int .i64 0)))] [])
 (.cond (.tmp 13)
 (.seq (.region [.op 0 (.mov 14 (.tmp 0)),
 .op 1 (.nilchk 15 (.tmp 14)),
 .op 2 (.faddr 16 1 (.tmp 15)),
 .op 3 (.load 17 false 1 (.tmp 16)),
 .op 4 (.mov 4 (.const (.nilSlice))),
 .op 5 (.mov 5 (.tmp 17))] [])
 .ret)
 .skip))
 (.seq (.region [.op 0 (.mov 18 (.tmp 0)),
 .op 1 (.buildSl 19 [.int .u8 0] 1 0 []),
 .op 2 (.mov 20 (.tmp 0)),
 .op 3 (.nilchk 21 (.tmp 20)),
 .op 4 (.faddr 22 0 (.tmp 21)),
 .op 5 (.load 23 false 1 (.tmp 22)),
 .op 6 (.append 24 1 1 [.int .u8 0] false (.tmp 19) (.tmp 23)),
 .op 7 (.mov 25 (.tmp 1)),
 .op 8 (.append 26 1 1 [.int .u8 0] false (.tmp 24) (.tmp 25)),
 .op 9 (.nilchk 27 (.tmp 18)),
 .op 10 (.faddr 28 0 (.tmp 27)),
 .op 11 (.store false 1 (.tmp 28) (.tmp 26))] [])
 (.seq (.region [.op 0 (.mov 6 (.const (.nilSlice)))] [])
 (.seq (.block 0 (.loop ⟨[0, 6], []⟩ [((.exit 0), ⟨[6], []⟩), (.ret, ⟨[4, 5], []⟩)]
 (.seq (.seq (.region [.op 0 (.mov 29 (.tmp 0)),
 .op 1 (.nilchk 30 (.tmp 29)),
 .op 2 (.faddr 31 0 (.tmp 30)),
 .op 3 (.load 32 false 1 (.tmp 31)),
 .op 4 (.len 33 false (.tmp 32)),
 .op 5 (.bin 34 .geq .plain (.tmp 33) (.const (.int .i64 4)))] [])
 (.cond (.tmp 34)
 .skip
 (.exit 0)))
 (.block 1 (.seq (.region [.op 0 (.mov 35 (.tmp 0)),
 .op 1 (.nilchk 36 (.tmp 35)),
 .op 2 (.faddr 37 0 (.tmp 36)),
 .op 3 (.load 38 false 1 (.tmp 37)),
 .op 4 (.call 39 30 [.tmp 38]),
 .op 5 (.mov 7 (.tmp 39))] [])
 (.seq (.seq (.region [.op 0 (.mov 40 (.tmp 7)),
 .op 1 (.bin 41 .gtr .plain (.tmp 40) (.const (.int .u32 8192)))] [])
 (.cond (.tmp 41)
 (.seq (.region [.op 0 (.mov 42 (.tmp 0)),
 .op 1 (.mov 43 (.tmp 0)),
 .op 2 (.nilchk 44 (.tmp 42)),
 .op 3 (.faddr 45 1 (.tmp 44)),
 .op 4 (.store false 1 (.tmp 45) (.const (.int .i64 3))),
 .op 5 (.nilchk 46 (.tmp 43)),
 .op 6 (.faddr 47 0 (.tmp 46)),
 .op 7 (.store false 1 (.tmp 47) (.const (.nilSlice)))] [])
 (.seq (.region [.op 0 (.mov 48 (.tmp 6)),
 .op 1 (.mov 49 (.tmp 0)),
 .op 2 (.nilchk 50 (.tmp 49)),
 .op 3 (.faddr 51 1 (.tmp 50)),
 .op 4 (.load 52 false 1 (.tmp 51)),
 .op 5 (.mov 4 (.tmp 48)),
 .op 6 (.mov 5 (.tmp 52))] [])
 .ret))
 .skip))
 (.seq (.region [.op 0 (.mov 53 (.tmp 7)),
 .op 1 (.conv 54 (.toInt .i64) (.tmp 53)),
 .op 2 (.mov 8 (.tmp 54))] [])
 (.seq (.seq (.region [.op 0 (.mov 55 (.tmp 0)),
 .op 1 (.nilchk 56 (.tmp 55)),
 .op 2 (.faddr 57 0 (.tmp 56)),
 .op 3 (.load 58 false 1 (.tmp 57)),
 .op 4 (.len 59 false (.tmp 58)),
 .op 5 (.mov 60 (.tmp 8)),
 .op 6 (.bin 61 .add .plain (.tmp 60) (.const (.int .i64 8))),
 .op 7 (.bin 62 .lss .plain (.tmp 59) (.tmp 61))] [])
 (.cond (.tmp 62)
 (.exit 0)
 .skip))
 (.seq (.seq (.region [.op 0 (.mov 63 (.tmp 0)),
 .op 1 (.nilchk 64 (.tmp 63)),
 .op 2 (.faddr 65 0 (.tmp 64)),
 .op 3 (.load 66 false 1 (.tmp 65)),
 .op 4 (.mov 67 (.tmp 8)),
 .op 5 (.bin 68 .add .plain (.tmp 67) (.const (.int .i64 4))),
 .op 6 (.slice 69 (.sl 1) (.tmp 66) (some (.tmp 68)) none none),
 .op 7 (.call 70 30 [.tmp 69]),
 .op 8 (.mov 71 (.tmp 0)),
 .op 9 (.nilchk 72 (.tmp 71)),
 .op 10 (.faddr 73 0 (.tmp 72)),
 .op 11 (.load 74 false 1 (.tmp 73)),
 .op 12 (.mov 75 (.tmp 8)),
 .op 13 (.bin 76 .add .plain (.tmp 75) (.const (.int .i64 4))),
 .op 14 (.slice 77 (.sl 1) (.tmp 74) none (some (.tmp 76)) none),
 .op 15 (.call 78 14 [.tmp 77]),
 .op 16 (.bin 79 .neq .plain (.tmp 70) (.tmp 78))] [(11, 7)])
 (.cond (.tmp 79)
 (.seq (.region [.op 0 (.mov 80 (.tmp 0)),
 .op 1 (.mov 81 (.tmp 0)),
 .op 2 (.nilchk 82 (.tmp 80)),
 .op 3 (.faddr 83 1 (.tmp 82)),
 .op 4 (.store false 1 (.tmp 83) (.const (.int .i64 13))),
 .op 5 (.nilchk 84 (.tmp 81)),
 .op 6 (.faddr 85 0 (.tmp 84)),
 .op 7 (.store false 1 (.tmp 85) (.const (.nilSlice)))] [])
 (.seq (.region [.op 0 (.mov 86 (.tmp 6)),
 .op 1 (.mov 87 (.tmp 0)),
 .op 2 (.nilchk 88 (.tmp 87)),
 .op 3 (.faddr 89 1 (.tmp 88)),
 .op 4 (.load 90 false 1 (.tmp 89)),
 .op 5 (.mov 4 (.tmp 86)),
 .op 6 (.mov 5 (.tmp 90))] [])
 .ret))
 .skip))
 (.seq (.region [.op 0 (.mov 91 (.tmp 6)),
 .op 1 (.buildSl 92 [.int .u8 0] 1 0 []),
 .op 2 (.mov 93 (.tmp 0)),
 .op 3 (.nilchk 94 (.tmp 93)),
 .op 4 (.faddr 95 0 (.tmp 94)),
 .op 5 (.load 96 false 1 (.tmp 95)),
 .op 6 (.mov 97 (.tmp 8)),
 .op 7 (.bin 98 .add .plain (.const (.int .i64 4)) (.tmp 97)),
 .op 8 (.slice 99 (.sl 1) (.tmp 96) (some (.const (.int .i64 4))) (some (.tmp 98)) none),
 .op 9 (.append 100 1 1 [.int .u8 0] false (.tmp 92) (.tmp 99)),
 .op 10 (.buildSl 101 [.nilSlice] 1 1 [(0, .tmp 100)]),
 .op 11 (.append 102 1 24 [.nilSlice] false (.tmp 91) (.tmp 101)),
 .op 12 (.mov 6 (.tmp 102))] [])
 (.region [.op 0 (.mov 103 (.tmp 0)),
 .op 1 (.mov 104 (.tmp 0)),
 .op 2 (.nilchk 105 (.tmp 104)),
 .op 3 (.faddr 106 0 (.tmp 105)),
 .op 4 (.load 107 false 1 (.tmp 106)),
 .op 5 (.mov 108 (.tmp 8)),
 .op 6 (.bin 109 .add .plain (.tmp 108) (.const (.int .i64 8))),
 .op 7 (.slice 110 (.sl 1) (.tmp 107) (some (.tmp 109)) none none),
 .op 8 (.nilchk 111 (.tmp 103)),
 .op 9 (.faddr 112 0 (.tmp 111)),
 .op 10 (.store false 1 (.tmp 112) (.tmp 110))] [])))))))))))
 (.seq (.region [.op 0 (.mov 113 (.tmp 6)),
 .op 1 (.mov 4 (.tmp 113)),
 .op 2 (.mov 5 (.const (.int .i64 0)))] [])
 .ret)))))),
 [.tmp 4, .tmp 5]⟩
theorem ok21 : funcOk Try.prog (drawOk Try.prog) Try.f21 A21 = true := by kernel_rfl
/-- xs: t0, t6 -/
noncomputable def L21_0 (call : Go.Fw.Call) (xs : List AVal) (h : Heap) : Option J :=
 (aNilchk (xs.getD 0 .undef)).bind fun v21 =>
 (aFaddr 0 v21).bind fun v22 =>
 (aLoad h 1 v22).bind fun c23 =>
 (fromCells false c23).bind fun v24 =>
 (aLen false v24).bind fun v25 =>
 (aBin .geq .plain v25 (.int .i64 4)).bind fun v26 =>
 condV v26
 ((aNilchk (xs.getD 0 .undef)).bind fun v27 =>
 (aFaddr 0 v27).bind fun v28 =>
 (aLoad h 1 v28).bind fun c29 =>
 (fromCells false c29).bind fun v30 =>
 (call 30 [v30] h).bind fun r31 =>
 (aBin .gtr .plain r31.1 (.int .u32 8192)).bind fun v32 =>
 condV v32
 ((aNilchk (xs.getD 0 .undef)).bind fun v33 =>
 (aFaddr 1 v33).bind fun v34 =>
 (aCells 1 (.int .i64 3)).bind fun c35 =>
 (aStore r31.2 v34 c35).bind fun h36 =>
 (aNilchk (xs.getD 0 .undef)).bind fun v37 =>
 (aFaddr 0 v37).bind fun v38 =>
 (aCells 1 (.nilSlice)).bind fun c39 =>
 (aStore h36 v38 c39).bind fun h40 =>
 (aNilchk (xs.getD 0 .undef)).bind fun v41 =>
 (aFaddr 1 v41).bind fun v42 =>
 (aLoad h40 1 v42).bind fun c43 =>
 (fromCells false c43).bind fun v44 =>
 some (2, [(xs.getD 1 .undef), v44], h40))
 ((aConv (.toInt .i64) r31.1 r31.2).bind fun r45 =>
 (aNilchk (xs.getD 0 .undef)).bind fun v46 =>
 (aFaddr 0 v46).bind fun v47 =>
 (aLoad r45.2 1 v47).bind fun c48 =>
 (fromCells false c48).bind fun v49 =>
 (aLen false v49).bind fun v50 =>
 (aBin .add .plain r45.1 (.int .i64 8)).bind fun v51 =>
 (aBin .lss .plain v50 v51).bind fun v52 =>
 condV v52
 (some (1, [(xs.getD 1 .undef)], r45.2))
 ((aNilchk (xs.getD 0 .undef)).bind fun v53 =>
 (aFaddr 0 v53).bind fun v54 =>
 (aLoad r45.2 1 v54).bind fun c55 =>
 (fromCells false c55).bind fun v56 =>
 (aBin .add .plain r45.1 (.int .i64 4)).bind fun v57 =>
 (aSliceSl 1 v56 (some v57) none none).bind fun v58 =>
 (call 30 [v58] r45.2).bind fun r59 =>
 (aNilchk (xs.getD 0 .undef)).bind fun v60 =>
 (aFaddr 0 v60).bind fun v61 =>
 (aLoad r59.2 1 v61).bind fun c62 =>
 (fromCells false c62).bind fun v63 =>
 (aBin .add .plain r45.1 (.int .i64 4)).bind fun v64 =>
 (aSliceSl 1 v63 none (some v64) none).bind fun v65 =>
 (call 14 [v65] r59.2).bind fun r66 =>
 (aBin .neq .plain r59.1 r66.1).bind fun v67 =>
 bif checkPairs [(11, logRd v61 1), (7, some (.ef [] r45.2 [] r59.2))] [(11, 7)] then condV v67
 ((aNilchk (xs.getD 0 .undef)).bind fun v68 =>
 (aFaddr 1 v68).bind fun v69 =>
 (aCells 1 (.int .i64 13)).bind fun c70 =>
 (aStore r66.2 v69 c70).bind fun h71 =>
 (aNilchk (xs.getD 0 .undef)).bind fun v72 =>
 (aFaddr 0 v72).bind fun v73 =>
 (aCells 1 (.nilSlice)).bind fun c74 =>
 (aStore h71 v73 c74).bind fun h75 =>
 (aNilchk (xs.getD 0 .undef)).bind fun v76 =>
 (aFaddr 1 v76).bind fun v77 =>
 (aLoad h75 1 v77).bind fun c78 =>
 (fromCells false c78).bind fun v79 =>
 some (2, [(xs.getD 1 .undef), v79], h75))
 ((aFill (reps [.int .u8 0] 0) []).bind fun c80 =>
 (aNilchk (xs.getD 0 .undef)).bind fun v81 =>
 (aFaddr 0 v81).bind fun v82 =>
 (aLoad (r66.2.alloc c80) 1 v82).bind fun c83 =>
 (fromCells false c83).bind fun v84 =>
 (aBin .add .plain (.int .i64 4) r45.1).bind fun v85 =>
 (aSliceSl 1 v84 (some (.int .i64 4)) (some v85) none).bind fun v86 =>
 (aAppend 1 1 [.int .u8 0] false (.slice r66.2.next 0 0 0 1 true) v86 (r66.2.alloc c80)).bind fun r87 =>
 (aFill (reps [.nilSlice] 1) [(0, 1, r87.1)]).bind fun c88 =>
 (aAppend 1 24 [.nilSlice] false (xs.getD 1 .undef) (.slice r87.2.next 0 1 1 1 true) (r87.2.alloc c88)).bind fun r89 =>
 (aNilchk (xs.getD 0 .undef)).bind fun v90 =>
 (aFaddr 0 v90).bind fun v91 =>
 (aLoad r89.2 1 v91).bind fun c92 =>
 (fromCells false c92).bind fun v93 =>
 (aBin .add .plain r45.1 (.int .i64 8)).bind fun v94 =>
 (aSliceSl 1 v93 (some v94) none none).bind fun v95 =>
 (aNilchk (xs.getD 0 .undef)).bind fun v96 =>
 (aFaddr 0 v96).bind fun v97 =>
 (aCells 1 v95).bind fun c98 =>
 (aStore r89.2 v97 c98).bind fun h99 =>
 some (0, [(xs.getD 0 .undef), r89.1], h99)) else none)))
 (some (1, [(xs.getD 1 .undef)], h))
noncomputable def S21 (call : Go.Fw.Call) (a0 a1 : AVal) (h : Heap) : Option J :=
 (aNilchk a0).bind fun v1 =>
 (aFaddr 1 v1).bind fun v2 =>
 (aLoad h 1 v2).bind fun c3 =>
 (fromCells false c3).bind fun v4 =>
 (aBin .neq .plain v4 (.int .i64 0)).bind fun v5 =>
 condV v5
 ((aNilchk a0).bind fun v6 =>
 (aFaddr 1 v6).bind fun v7 =>
 (aLoad h 1 v7).bind fun c8 =>
 (fromCells false c8).bind fun v9 =>
 some (0, [.tuple [(.nilSlice), v9]], h))
 ((aFill (reps [.int .u8 0] 0) []).bind fun c10 =>
 (aNilchk a0).bind fun v11 =>
 (aFaddr 0 v11).bind fun v12 =>
 (aLoad (h.alloc c10) 1 v12).bind fun c13 =>
 (fromCells false c13).bind fun v14 =>
 (aAppend 1 1 [.int .u8 0] false (.slice h.next 0 0 0 1 true) v14 (h.alloc c10)).bind fun r15 =>
 (aAppend 1 1 [.int .u8 0] false r15.1 a1 r15.2).bind fun r16 =>
 (aNilchk a0).bind fun v17 =>
 (aFaddr 0 v17).bind fun v18 =>
 (aCells 1 r16.1).bind fun c19 =>
 (aStore r16.2 v18 c19).bind fun h20 =>
 (loop (L21_0 call) [a0, (.nilSlice)] h20).bind fun x100 =>
 bif Nat.beq x100.1 1 then some (0, [.tuple [(x100.2.1.getD 0 .undef), (.int .i64 0)]], x100.2.2) else
 bif Nat.beq x100.1 2 then some (0, [.tuple [(x100.2.1.getD 0 .undef), (x100.2.1.getD 1 .undef)]], x100.2.2) else
 none)
theorem run21 (call : Go.Fw.Call) (a0 a1 : AVal) (h : Heap) : runFn call (.code A21) [a0, a1] h = (S21 call a0 a1 h).bind ansOf := by kernel_rfl

/-- frankpledge/frankpledgelaw3.one -/
noncomputable def A22 : AFunc := ⟨1, (.seq (.region [.op 0 (.mov 2 (.const (.str []))),
 .op 1 (.mov 3 (.const (.int .i64 0)))] [])
 (.seq (.seq (.region [.op 0 (.mov 5 (.tmp 0)),
 .op 1 (.len 6 false (.tmp 5)),
 .op 2 (.bin 7 .lss .plain (.tmp 6) (.const (.int .i64 4)))] [])
 (.cond (.tmp 7)
 (.seq (.region [.op 0 (.mov 2 (.const (.str []))),
 .op 1 (.mov 3 (.const (.int .i64 12)))] [])
 .ret)
 .skip))
 (.seq (.region [.op 0 (.mov 8 (.tmp 0)),
 .op 1 (.iaddr 9 none 1 (.tmp 8) (.const (.int .i64 0))),
 .op 2 (.load 10 false 1 (.tmp 9)),
 .op 3 (.conv 11 (.toInt .i64) (.tmp 10)),
 .op 4 (.bin 12 .shl .plain (.tmp 11) (.const (.int .u64 24))),
 .op 5 (.mov 13 (.tmp 0)),
 .op 6 (.iaddr 14 none 1 (.tmp 13) (.const (.int .i64 1))),
 .op 7 (.load 15 false 1 (.tmp 14)),
 .op 8 (.conv 16 (.toInt .i64) (.tmp 15)),
 .op 9 (.bin 17 .shl .plain (.tmp 16) (.const (.int .u64 16))),
 .op 10 (.bin 18 .or .plain (.tmp 12) (.tmp 17)),
 .op 11 (.mov 19 (.tmp 0)),
 .op 12 (.iaddr 20 none 1 (.tmp 19) (.const (.int .i64 2))),
 .op 13 (.load 21 false 1 (.tmp 20)),
 .op 14 (.conv 22 (.toInt .i64) (.tmp 21)),
 .op 15 (.bin 23 .shl .plain (.tmp 22) (.const (.int .u64 8))),
 .op 16 (.bin 24 .or .plain (.tmp 18) (.tmp 23)),
 .op 17 (.mov 25 (.tmp 0)),
 .op 18 (.iaddr 26 none 1 (.tmp 25) (.const (.int .i64 3))),
 .op 19 (.load 27 false 1 (.tmp 26)),
 .op 20 (.conv 28 (.toInt .i64) (.tmp 27)),
 .op 21 (.bin 29 .or .plain (.tmp 24) (.tmp 28)),
 .op 22 (.mov 4 (.tmp 29))] [])
 (.seq (.seq (.region [.op 0 (.mov 30 (.tmp 4)),
 .op 1 (.bin 31 .gtr .plain (.tmp 30) (.const (.int .i64 8192)))] [])
 (.cond (.tmp 31)
 (.seq (.region [.op 0 (.mov 2 (.const (.str []))),
 .op 1 (.mov 3 (.const (.int .i64 3)))] [])
 .ret)
 .skip))
 (.seq (.seq (.region [.op 0 (.mov 32 (.tmp 0)),
 .op 1 (.len 33 false (.tmp 32)),
 .op 2 (.mov 34 (.tmp 4)),
 .op 3 (.bin 35 .add .plain (.tmp 34) (.const (.int .i64 8))),
 .op 4 (.bin 36 .neq .plain (.tmp 33) (.tmp 35))] [])
 (.cond (.tmp 36)
 (.seq (.region [.op 0 (.mov 2 (.const (.str []))),
 .op 1 (.mov 3 (.const (.int .i64 12)))] [])
 .ret)
 .skip))
 (.seq (.seq (.region [.op 0 (.mov 37 (.tmp 0)),
 .op 1 (.mov 38 (.tmp 4)),
 .op 2 (.bin 39 .add .plain (.const (.int .i64 4)) (.tmp 38)),
 .op 3 (.slice 40 (.sl 1) (.tmp 37) (some (.const (.int .i64 4))) (some (.tmp 39)) none),
 .op 4 (.call 41 11 [.tmp 40]),
 .op 5 (.conv 42 .bytesStr (.tmp 41)),
 .op 6 (.mov 43 (.tmp 0)),
 .op 7 (.conv 44 .bytesStr (.tmp 43)),
 .op 8 (.bin 45 .neq .plain (.tmp 42) (.tmp 44))] [(7, 4)])
 (.cond (.tmp 45)
 (.seq (.region [.op 0 (.mov 2 (.const (.str []))),
 .op 1 (.mov 3 (.const (.int .i64 13)))] [])
 .ret)
 .skip))
 (.seq (.region [.op 0 (.mov 46 (.tmp 0)),
 .op 1 (.mov 47 (.tmp 4)),
 .op 2 (.bin 48 .add .plain (.const (.int .i64 4)) (.tmp 47)),
 .op 3 (.slice 49 (.sl 1) (.tmp 46) (some (.const (.int .i64 4))) (some (.tmp 48)) none),
 .op 4 (.conv 50 .bytesStr (.tmp 49)),
 .op 5 (.mov 2 (.tmp 50)),
 .op 6 (.mov 3 (.const (.int .i64 0)))] [])
 .ret))))))),
 [.tmp 2, .tmp 3]⟩
theorem ok22 : funcOk Try.prog (drawOk Try.prog) Try.f22 A22 = true := by kernel_rfl
noncomputable def S22 (call : Go.Fw.Call) (a0 : AVal) (h : Heap) : Option J :=
 (aLen false a0).bind fun v1 =>
 (aBin .lss .plain v1 (.int .i64 4)).bind fun v2 =>
 condV v2
 (some (0, [.tuple [(.str []), (.int .i64 12)]], h))
 ((aIaddr 1 a0 (.int .i64 0)).bind fun v3 =>
 (aLoad h 1 v3).bind fun c4 =>
 (fromCells false c4).bind fun v5 =>
 (aConv (.toInt .i64) v5 h).bind fun r6 =>
 (aBin .shl .plain r6.1 (.int .u64 24)).bind fun v7 =>
 (aIaddr 1 a0 (.int .i64 1)).bind fun v8 =>
 (aLoad r6.2 1 v8).bind fun c9 =>
 (fromCells false c9).bind fun v10 =>
 (aConv (.toInt .i64) v10 r6.2).bind fun r11 =>
 (aBin .shl .plain r11.1 (.int .u64 16)).bind fun v12 =>
 (aBin .or .plain v7 v12).bind fun v13 =>
 (aIaddr 1 a0 (.int .i64 2)).bind fun v14 =>
 (aLoad r11.2 1 v14).bind fun c15 =>
 (fromCells false c15).bind fun v16 =>
 (aConv (.toInt .i64) v16 r11.2).bind fun r17 =>
 (aBin .shl .plain r17.1 (.int .u64 8)).bind fun v18 =>
 (aBin .or .plain v13 v18).bind fun v19 =>
 (aIaddr 1 a0 (.int .i64 3)).bind fun v20 =>
 (aLoad r17.2 1 v20).bind fun c21 =>
 (fromCells false c21).bind fun v22 =>
 (aConv (.toInt .i64) v22 r17.2).bind fun r23 =>
 (aBin .or .plain v19 r23.1).bind fun v24 =>
 (aBin .gtr .plain v24 (.int .i64 8192)).bind fun v25 =>
 condV v25
 (some (0, [.tuple [(.str []), (.int .i64 3)]], r23.2))
 ((aLen false a0).bind fun v26 =>
 (aBin .add .plain v24 (.int .i64 8)).bind fun v27 =>
 (aBin .neq .plain v26 v27).bind fun v28 =>
 condV v28
 (some (0, [.tuple [(.str []), (.int .i64 12)]], r23.2))
 ((aBin .add .plain (.int .i64 4) v24).bind fun v29 =>
 (aSliceSl 1 a0 (some (.int .i64 4)) (some v29) none).bind fun v30 =>
 (call 11 [v30] r23.2).bind fun r31 =>
 (aConv .bytesStr r31.1 r31.2).bind fun r32 =>
 (aConv .bytesStr a0 r32.2).bind fun r33 =>
 (aBin .neq .plain r32.1 r33.1).bind fun v34 =>
 bif checkPairs [(7, logBs a0), (4, some (.ef [] r23.2 [] r31.2))] [(7, 4)] then condV v34
 (some (0, [.tuple [(.str []), (.int .i64 13)]], r33.2))
 ((aBin .add .plain (.int .i64 4) v24).bind fun v35 =>
 (aSliceSl 1 a0 (some (.int .i64 4)) (some v35) none).bind fun v36 =>
 (aConv .bytesStr v36 r33.2).bind fun r37 =>
 some (0, [.tuple [r37.1, (.int .i64 0)]], r37.2)) else none)))
theorem run22 (call : Go.Fw.Call) (a0 : AVal) (h : Heap) : runFn call (.code A22) [a0] h = (S22 call a0 h).bind ansOf := by kernel_rfl

/-- frankpledge/frankpledgeref2.four -/
noncomputable def A23 : AFunc := ⟨2, (.seq (.region [.op 0 (.mov 4 (.const (.nilSlice)))] [])
 (.seq (.region [.op 0 (.buildSl 5 [.int .u8 0] 1 0 []),
 .op 1 (.mov 6 (.tmp 0)),
 .op 2 (.append 7 1 1 [.int .u8 0] false (.tmp 5) (.tmp 6)),
 .op 3 (.mov 8 (.tmp 1)),
 .op 4 (.bin 9 .shr .plain (.tmp 8) (.const (.int .u64 24))),
 .op 5 (.conv 10 (.toInt .u8) (.tmp 9)),
 .op 6 (.mov 11 (.tmp 1)),
 .op 7 (.bin 12 .shr .plain (.tmp 11) (.const (.int .u64 16))),
 .op 8 (.conv 13 (.toInt .u8) (.tmp 12)),
 .op 9 (.mov 14 (.tmp 1)),
 .op 10 (.bin 15 .shr .plain (.tmp 14) (.const (.int .u64 8))),
 .op 11 (.conv 16 (.toInt .u8) (.tmp 15)),
 .op 12 (.mov 17 (.tmp 1)),
 .op 13 (.conv 18 (.toInt .u8) (.tmp 17)),
 .op 14 (.buildSl 19 [.int .u8 0] 1 4 [(0, .tmp 10), (1, .tmp 13), (2, .tmp 16), (3, .tmp 18)]),
 .op 15 (.append 20 1 1 [.int .u8 0] false (.tmp 7) (.tmp 19)),
 .op 16 (.mov 4 (.tmp 20))] [])
 .ret)),
 [.tmp 4]⟩
theorem ok23 : funcOk Try.prog (drawOk Try.prog) Try.f23 A23 = true := by kernel_rfl
noncomputable def S23 (call : Go.Fw.Call) (a0 a1 : AVal) (h : Heap) : Option J :=
 (aFill (reps [.int .u8 0] 0) []).bind fun c1 =>
 (aAppend 1 1 [.int .u8 0] false (.slice h.next 0 0 0 1 true) a0 (h.alloc c1)).bind fun r2 =>
 (aBin .shr .plain a1 (.int .u64 24)).bind fun v3 =>
 (aConv (.toInt .u8) v3 r2.2).bind fun r4 =>
 (aBin .shr .plain a1 (.int .u64 16)).bind fun v5 =>
 (aConv (.toInt .u8) v5 r4.2).bind fun r6 =>
 (aBin .shr .plain a1 (.int .u64 8)).bind fun v7 =>
 (aConv (.toInt .u8) v7 r6.2).bind fun r8 =>
 (aConv (.toInt .u8) a1 r8.2).bind fun r9 =>
 (aFill (reps [.int .u8 0] 4) [(0, 1, r4.1), (1, 1, r6.1), (2, 1, r8.1), (3, 1, r9.1)]).bind fun c10 =>
 (aAppend 1 1 [.int .u8 0] false r2.1 (.slice r9.2.next 0 4 4 1 true) (r9.2.alloc c10)).bind fun r11 =>
 some (0, [r11.1], r11.2)
theorem run23 (call : Go.Fw.Call) (a0 a1 : AVal) (h : Heap) : runFn call (.code A23) [a0, a1] h = (S23 call a0 a1 h).bind ansOf := by kernel_rfl

/-- frankpledge/frame.put -/
noncomputable def A24 : AFunc := ⟨2, (.seq (.region [.op 0 (.mov 4 (.const (.nilSlice)))] [])
 (.seq (.seq (.region [.op 0 (.mov 5 (.const (.int .i64 3)))] [])
 (.block 0 (.loop ⟨[0, 1, 5], []⟩ [((.exit 0), ⟨[0], []⟩)]
 (.seq (.seq (.region [.op 0 (.mov 6 (.tmp 5)),
 .op 1 (.bin 7 .geq .plain (.tmp 6) (.const (.int .i64 0)))] [])
 (.cond (.tmp 7)
 .skip
 (.exit 0)))
 (.seq (.block 1 (.region [.op 0 (.mov 10 (.tmp 0)),
 .op 1 (.mov 11 (.tmp 1)),
 .op 2 (.mov 12 (.tmp 5)),
 .op 3 (.bin 13 .mul .plain (.const (.int .i64 8)) (.tmp 12)),
 .op 4 (.bin 14 .shr .plain (.tmp 11) (.tmp 13)),
 .op 5 (.conv 15 (.toInt .u8) (.tmp 14)),
 .op 6 (.buildSl 16 [.int .u8 0] 1 1 [(0, .tmp 15)]),
 .op 7 (.append 17 1 1 [.int .u8 0] false (.tmp 10) (.tmp 16)),
 .op 8 (.mov 0 (.tmp 17))] []))
 (.region [.op 0 (.mov 8 (.tmp 5)),
 .op 1 (.bin 9 .sub .plain (.tmp 8) (.const (.int .i64 1))),
 .op 2 (.mov 5 (.tmp 9))] []))))))
 (.seq (.region [.op 0 (.mov 18 (.tmp 0)),
 .op 1 (.mov 4 (.tmp 18))] [])
 .ret))),
 [.tmp 4]⟩
theorem ok24 : funcOk Try.prog (drawOk Try.prog) Try.f24 A24 = true := by kernel_rfl
/-- xs: t0, t1, t5 -/
noncomputable def L24_0 (call : Go.Fw.Call) (xs : List AVal) (h : Heap) : Option J :=
 (aBin .geq .plain (xs.getD 2 .undef) (.int .i64 0)).bind fun v1 =>
 condV v1
 ((aBin .mul .plain (.int .i64 8) (xs.getD 2 .undef)).bind fun v2 =>
 (aBin .shr .plain (xs.getD 1 .undef) v2).bind fun v3 =>
 (aConv (.toInt .u8) v3 h).bind fun r4 =>
 (aFill (reps [.int .u8 0] 1) [(0, 1, r4.1)]).bind fun c5 =>
 (aAppend 1 1 [.int .u8 0] false (xs.getD 0 .undef) (.slice r4.2.next 0 1 1 1 true) (r4.2.alloc c5)).bind fun r6 =>
 (aBin .sub .plain (xs.getD 2 .undef) (.int .i64 1)).bind fun v7 =>
 some (0, [r6.1, (xs.getD 1 .undef), v7], r6.2))
 (some (1, [(xs.getD 0 .undef)], h))
noncomputable def S24 (call : Go.Fw.Call) (a0 a1 : AVal) (h : Heap) : Option J :=
 (loop (L24_0 call) [a0, a1, (.int .i64 3)] h).bind fun x8 =>
 bif Nat.beq x8.1 1 then some (0, [(x8.2.1.getD 0 .undef)], x8.2.2) else
 none
theorem run24 (call : Go.Fw.Call) (a0 a1 : AVal) (h : Heap) : runFn call (.code A24) [a0, a1] h = (S24 call a0 a1 h).bind ansOf := by kernel_rfl

/-- slices.Clip[[]byte,byte] -/
noncomputable def A25 : AFunc := ⟨1, (.seq (.region [.op 0 (.mov 2 (.const (.nilSlice)))] [])
 (.seq (.region [.op 0 (.mov 3 (.tmp 0)),
 .op 1 (.mov 4 (.tmp 0)),
 .op 2 (.len 5 false (.tmp 4)),
 .op 3 (.mov 6 (.tmp 0)),
 .op 4 (.len 7 false (.tmp 6)),
 .op 5 (.slice 8 (.sl 1) (.tmp 3) none (some (.tmp 5)) (some (.tmp 7))),
 .op 6 (.mov 2 (.tmp 8))] [])
 .ret)),
 [.tmp 2]⟩
theorem ok25 : funcOk Try.prog (drawOk Try.prog) Try.f25 A25 = true := by kernel_rfl
noncomputable def S25 (call : Go.Fw.Call) (a0 : AVal) (h : Heap) : Option J :=
 (aLen false a0).bind fun v1 =>
 (aLen false a0).bind fun v2 =>
 (aSliceSl 1 a0 none (some v1) (some v2)).bind fun v3 =>
 some (0, [v3], h)
theorem run25 (call : Go.Fw.Call) (a0 : AVal) (h : Heap) : runFn call (.code A25) [a0] h = (S25 call a0 h).bind ansOf := by kernel_rfl

/-- slices.Concat[[]byte,byte] -/
noncomputable def A26 : AFunc := ⟨1, (.seq (.region [.op 0 (.mov 2 (.const (.nilSlice)))] [])
 (.seq (.region [.op 0 (.mov 3 (.const (.int .i64 0)))] [])
 (.seq (.seq (.region [.op 0 (.mov 9 (.tmp 0)),
 .op 1 (.len 10 false (.tmp 9)),
 .op 2 (.mov 11 (.const (.int .i64 0)))] [])
 (.block 0 (.loop ⟨[0, 3, 9, 10, 11], []⟩ [((.exit 0), ⟨[0, 3], []⟩)]
 (.seq (.region [.op 0 (.bin 12 .lss .plain (.tmp 11) (.tmp 10))] [])
 (.seq (.cond (.tmp 12)
 .skip
 (.exit 0))
 (.seq (.block 1 (.seq (.region [.op 0 (.iaddr 13 none 1 (.tmp 9) (.tmp 11)),
 .op 1 (.load 14 false 1 (.tmp 13)),
 .op 2 (.mov 5 (.tmp 14))] [])
 (.seq (.region [.op 0 (.mov 15 (.tmp 3)),
 .op 1 (.mov 16 (.tmp 5)),
 .op 2 (.len 17 false (.tmp 16)),
 .op 3 (.bin 18 .add .plain (.tmp 15) (.tmp 17)),
 .op 4 (.mov 3 (.tmp 18))] [])
 (.seq (.region [.op 0 (.mov 19 (.tmp 3)),
 .op 1 (.bin 20 .lss .plain (.tmp 19) (.const (.int .i64 0)))] [])
 (.cond (.tmp 20)
 .dead
 .skip)))))
 (.region [.op 0 (.bin 22 .add .plain (.tmp 11) (.const (.int .i64 1))),
 .op 1 (.mov 11 (.tmp 22))] [])))))))
 (.seq (.region [.op 0 (.mov 23 (.tmp 3)),
 .op 1 (.call 24 31 [.const (.nilSlice), .tmp 23]),
 .op 2 (.mov 6 (.tmp 24))] [])
 (.seq (.seq (.region [.op 0 (.mov 25 (.tmp 0)),
 .op 1 (.len 26 false (.tmp 25)),
 .op 2 (.mov 27 (.const (.int .i64 0)))] [])
 (.block 2 (.loop ⟨[6, 25, 26, 27], []⟩ [((.exit 2), ⟨[6], []⟩)]
 (.seq (.region [.op 0 (.bin 28 .lss .plain (.tmp 27) (.tmp 26))] [])
 (.seq (.cond (.tmp 28)
 .skip
 (.exit 2))
 (.seq (.block 3 (.seq (.region [.op 0 (.iaddr 29 none 1 (.tmp 25) (.tmp 27)),
 .op 1 (.load 30 false 1 (.tmp 29)),
 .op 2 (.mov 8 (.tmp 30))] [])
 (.region [.op 0 (.mov 31 (.tmp 6)),
 .op 1 (.mov 32 (.tmp 8)),
 .op 2 (.append 33 1 1 [.int .u8 0] false (.tmp 31) (.tmp 32)),
 .op 3 (.mov 6 (.tmp 33))] [])))
 (.region [.op 0 (.bin 34 .add .plain (.tmp 27) (.const (.int .i64 1))),
 .op 1 (.mov 27 (.tmp 34))] [])))))))
 (.seq (.region [.op 0 (.mov 35 (.tmp 6)),
 .op 1 (.mov 2 (.tmp 35))] [])
 .ret)))))),
 [.tmp 2]⟩
theorem ok26 : funcOk Try.prog (drawOk Try.prog) Try.f26 A26 = true := by kernel_rfl
/-- xs: t0, t3, t9, t10, t11 -/
noncomputable def L26_0 (call : Go.Fw.Call) (xs : List AVal) (h : Heap) : Option J :=
 (aBin .lss .plain (xs.getD 4 .undef) (xs.getD 3 .undef)).bind fun v2 =>
 condV v2
 ((aIaddr 1 (xs.getD 2 .undef) (xs.getD 4 .undef)).bind fun v3 =>
 (aLoad h 1 v3).bind fun c4 =>
 (fromCells false c4).bind fun v5 =>
 (aLen false v5).bind fun v6 =>
 (aBin .add .plain (xs.getD 1 .undef) v6).bind fun v7 =>
 (aBin .lss .plain v7 (.int .i64 0)).bind fun v8 =>
 condV v8
 (none)
 ((aBin .add .plain (xs.getD 4 .undef) (.int .i64 1)).bind fun v9 =>
 some (0, [(xs.getD 0 .undef), v7, (xs.getD 2 .undef), (xs.getD 3 .undef), v9], h)))
 (some (1, [(xs.getD 0 .undef), (xs.getD 1 .undef)], h))
/-- xs: t6, t25, t26, t27 -/
noncomputable def L26_1 (call : Go.Fw.Call) (xs : List AVal) (h : Heap) : Option J :=
 (aBin .lss .plain (xs.getD 3 .undef) (xs.getD 2 .undef)).bind fun v13 =>
 condV v13
 ((aIaddr 1 (xs.getD 1 .undef) (xs.getD 3 .undef)).bind fun v14 =>
 (aLoad h 1 v14).bind fun c15 =>
 (fromCells false c15).bind fun v16 =>
 (aAppend 1 1 [.int .u8 0] false (xs.getD 0 .undef) v16 h).bind fun r17 =>
 (aBin .add .plain (xs.getD 3 .undef) (.int .i64 1)).bind fun v18 =>
 some (0, [r17.1, (xs.getD 1 .undef), (xs.getD 2 .undef), v18], r17.2))
 (some (1, [(xs.getD 0 .undef)], h))
noncomputable def S26 (call : Go.Fw.Call) (a0 : AVal) (h : Heap) : Option J :=
 (aLen false a0).bind fun v1 =>
 (loop (L26_0 call) [a0, (.int .i64 0), a0, v1, (.int .i64 0)] h).bind fun x10 =>
 bif Nat.beq x10.1 1 then (call 31 [(.nilSlice), (x10.2.1.getD 1 .undef)] x10.2.2).bind fun r11 =>
 (aLen false (x10.2.1.getD 0 .undef)).bind fun v12 =>
 (loop (L26_1 call) [r11.1, (x10.2.1.getD 0 .undef), v12, (.int .i64 0)] r11.2).bind fun x19 =>
 bif Nat.beq x19.1 1 then some (0, [(x19.2.1.getD 0 .undef)], x19.2.2) else
 none else
 none
theorem run26 (call : Go.Fw.Call) (a0 : AVal) (h : Heap) : runFn call (.code A26) [a0] h = (S26 call a0 h).bind ansOf := by kernel_rfl

/-- frankpledge/frame.next -/
noncomputable def A27 : AFunc := ⟨1, (.seq (.region [.op 0 (.mov 2 (.const (.int .i64 0))),
 .op 1 (.mov 3 (.const (.int .i64 0)))] [])
 (.seq (.seq (.region [.op 0 (.mov 6 (.tmp 0)),
 .op 1 (.len 7 false (.tmp 6)),
 .op 2 (.bin 8 .lss .plain (.tmp 7) (.const (.int .i64 4)))] [])
 (.cond (.tmp 8)
 (.seq (.region [.op 0 (.mov 2 (.const (.int .i64 0))),
 .op 1 (.mov 3 (.const (.int .i64 0)))] [])
 .ret)
 .skip))
 (.seq (.region [.op 0 (.mov 9 (.tmp 0)),
 .op 1 (.call 10 29 [.tmp 9]),
 .op 2 (.mov 4 (.tmp 10))] [])
 (.seq (.seq (.region [.op 0 (.mov 11 (.tmp 4)),
 .op 1 (.bin 12 .gtr .plain (.tmp 11) (.const (.int .u32 8192)))] [])
 (.cond (.tmp 12)
 (.seq (.region [.op 0 (.mov 2 (.const (.int .i64 0))),
 .op 1 (.mov 3 (.const (.int .i64 3)))] [])
 .ret)
 .skip))
 (.seq (.region [.op 0 (.mov 13 (.tmp 4)),
 .op 1 (.conv 14 (.toInt .i64) (.tmp 13)),
 .op 2 (.bin 15 .add .plain (.const (.int .i64 4)) (.tmp 14)),
 .op 3 (.mov 5 (.tmp 15))] [])
 (.seq (.seq (.region [.op 0 (.mov 16 (.tmp 0)),
 .op 1 (.len 17 false (.tmp 16)),
 .op 2 (.mov 18 (.tmp 5)),
 .op 3 (.bin 19 .add .plain (.tmp 18) (.const (.int .i64 4))),
 .op 4 (.bin 20 .lss .plain (.tmp 17) (.tmp 19))] [])
 (.cond (.tmp 20)
 (.seq (.region [.op 0 (.mov 2 (.const (.int .i64 0))),
 .op 1 (.mov 3 (.const (.int .i64 0)))] [])
 .ret)
 .skip))
 (.seq (.seq (.region [.op 0 (.mov 21 (.tmp 0)),
 .op 1 (.mov 22 (.tmp 5)),
 .op 2 (.slice 23 (.sl 1) (.tmp 21) none (some (.tmp 22)) none),
 .op 3 (.call 24 13 [.tmp 23]),
 .op 4 (.mov 25 (.tmp 0)),
 .op 5 (.mov 26 (.tmp 5)),
 .op 6 (.slice 27 (.sl 1) (.tmp 25) (some (.tmp 26)) none none),
 .op 7 (.call 28 29 [.tmp 27]),
 .op 8 (.bin 29 .neq .plain (.tmp 24) (.tmp 28))] [])
 (.cond (.tmp 29)
 (.seq (.region [.op 0 (.mov 2 (.const (.int .i64 0))),
 .op 1 (.mov 3 (.const (.int .i64 13)))] [])
 .ret)
 .skip))
 (.seq (.region [.op 0 (.mov 30 (.tmp 5)),
 .op 1 (.bin 31 .add .plain (.tmp 30) (.const (.int .i64 4))),
 .op 2 (.mov 2 (.tmp 31)),
 .op 3 (.mov 3 (.const (.int .i64 0)))] [])
 .ret)))))))),
 [.tmp 2, .tmp 3]⟩
theorem ok27 : funcOk Try.prog (drawOk Try.prog) Try.f27 A27 = true := by kernel_rfl
noncomputable def S27 (call : Go.Fw.Call) (a0 : AVal) (h : Heap) : Option J :=
 (aLen false a0).bind fun v1 =>
 (aBin .lss .plain v1 (.int .i64 4)).bind fun v2 =>
 condV v2
 (some (0, [.tuple [(.int .i64 0), (.int .i64 0)]], h))
 ((call 29 [a0] h).bind fun r3 =>
 (aBin .gtr .plain r3.1 (.int .u32 8192)).bind fun v4 =>
 condV v4
 (some (0, [.tuple [(.int .i64 0), (.int .i64 3)]], r3.2))
 ((aConv (.toInt .i64) r3.1 r3.2).bind fun r5 =>
 (aBin .add .plain (.int .i64 4) r5.1).bind fun v6 =>
 (aLen false a0).bind fun v7 =>
 (aBin .add .plain v6 (.int .i64 4)).bind fun v8 =>
 (aBin .lss .plain v7 v8).bind fun v9 =>
 condV v9
 (some (0, [.tuple [(.int .i64 0), (.int .i64 0)]], r5.2))
 ((aSliceSl 1 a0 none (some v6) none).bind fun v10 =>
 (call 13 [v10] r5.2).bind fun r11 =>
 (aSliceSl 1 a0 (some v6) none none).bind fun v12 =>
 (call 29 [v12] r11.2).bind fun r13 =>
 (aBin .neq .plain r11.1 r13.1).bind fun v14 =>
 condV v14
 (some (0, [.tuple [(.int .i64 0), (.int .i64 13)]], r13.2))
 ((aBin .add .plain v6 (.int .i64 4)).bind fun v15 =>
 some (0, [.tuple [v15, (.int .i64 0)]], r13.2)))))
theorem run27 (call : Go.Fw.Call) (a0 : AVal) (h : Heap) : runFn call (.code A27) [a0] h = (S27 call a0 h).bind ansOf := by kernel_rfl

/-- slices.Clone[[]byte,byte] -/
noncomputable def A28 : AFunc := ⟨1, (.seq (.region [.op 0 (.mov 2 (.const (.nilSlice)))] [])
 (.seq (.seq (.region [.op 0 (.mov 3 (.tmp 0)),
 .op 1 (.bin 4 .eql .slice (.tmp 3) (.const (.nilSlice)))] [])
 (.cond (.tmp 4)
 (.seq (.region [.op 0 (.mov 2 (.const (.nilSlice)))] [])
 .ret)
 .skip))
 (.seq (.region [.op 0 (.buildSl 5 [.int .u8 0] 1 0 []),
 .op 1 (.mov 6 (.tmp 0)),
 .op 2 (.append 7 1 1 [.int .u8 0] false (.tmp 5) (.tmp 6)),
 .op 3 (.mov 2 (.tmp 7))] [])
 .ret))),
 [.tmp 2]⟩
theorem ok28 : funcOk Try.prog (drawOk Try.prog) Try.f28 A28 = true := by kernel_rfl
noncomputable def S28 (call : Go.Fw.Call) (a0 : AVal) (h : Heap) : Option J :=
 (aBin .eql .slice a0 (.nilSlice)).bind fun v1 =>
 condV v1
 (some (0, [(.nilSlice)], h))
 ((aFill (reps [.int .u8 0] 0) []).bind fun c2 =>
 (aAppend 1 1 [.int .u8 0] false (.slice h.next 0 0 0 1 true) a0 (h.alloc c2)).bind fun r3 =>
 some (0, [r3.1], r3.2))
theorem run28 (call : Go.Fw.Call) (a0 : AVal) (h : Heap) : runFn call (.code A28) [a0] h = (S28 call a0 h).bind ansOf := by kernel_rfl

/-- frankpledge/frame.get -/
noncomputable def A29 : AFunc := ⟨1, (.seq (.region [.op 0 (.mov 2 (.const (.int .u32 0)))] [])
 (.seq (.region [.op 0 (.mov 3 (.const (.int .u32 0)))] [])
 (.seq (.seq (.region [.op 0 (.mov 6 (.tmp 0)),
 .op 1 (.slice 7 (.sl 1) (.tmp 6) none (some (.const (.int .i64 4))) none),
 .op 2 (.len 8 false (.tmp 7)),
 .op 3 (.mov 9 (.const (.int .i64 0)))] [])
 (.block 0 (.loop ⟨[3, 7, 8, 9], []⟩ [((.exit 0), ⟨[3], []⟩)]
 (.seq (.region [.op 0 (.bin 10 .lss .plain (.tmp 9) (.tmp 8))] [])
 (.seq (.cond (.tmp 10)
 .skip
 (.exit 0))
 (.seq (.block 1 (.seq (.region [.op 0 (.iaddr 11 none 1 (.tmp 7) (.tmp 9)),
 .op 1 (.load 12 false 1 (.tmp 11)),
 .op 2 (.mov 5 (.tmp 12))] [])
 (.region [.op 0 (.mov 13 (.tmp 3)),
 .op 1 (.bin 14 .shl .plain (.tmp 13) (.const (.int .u64 8))),
 .op 2 (.mov 15 (.tmp 5)),
 .op 3 (.conv 16 (.toInt .u32) (.tmp 15)),
 .op 4 (.bin 17 .or .plain (.tmp 14) (.tmp 16)),
 .op 5 (.mov 3 (.tmp 17))] [])))
 (.region [.op 0 (.bin 18 .add .plain (.tmp 9) (.const (.int .i64 1))),
 .op 1 (.mov 9 (.tmp 18))] [])))))))
 (.seq (.region [.op 0 (.mov 19 (.tmp 3)),
 .op 1 (.mov 2 (.tmp 19))] [])
 .ret)))),
 [.tmp 2]⟩
theorem ok29 : funcOk Try.prog (drawOk Try.prog) Try.f29 A29 = true := by kernel_rfl
/-- xs: t3, t7, t8, t9 -/
noncomputable def L29_0 (call : Go.Fw.Call) (xs : List AVal) (h : Heap) : Option J :=
 (aBin .lss .plain (xs.getD 3 .undef) (xs.getD 2 .undef)).bind fun v3 =>
 condV v3
 ((aIaddr 1 (xs.getD 1 .undef) (xs.getD 3 .undef)).bind fun v4 =>
 (aLoad h 1 v4).bind fun c5 =>
 (fromCells false c5).bind fun v6 =>
 (aBin .shl .plain (xs.getD 0 .undef) (.int .u64 8)).bind fun v7 =>
 (aConv (.toInt .u32) v6 h).bind fun r8 =>
 (aBin .or .plain v7 r8.1).bind fun v9 =>
 (aBin .add .plain (xs.getD 3 .undef) (.int .i64 1)).bind fun v10 =>
 some (0, [v9, (xs.getD 1 .undef), (xs.getD 2 .undef), v10], r8.2))
 (some (1, [(xs.getD 0 .undef)], h))
noncomputable def S29 (call : Go.Fw.Call) (a0 : AVal) (h : Heap) : Option J :=
 (aSliceSl 1 a0 none (some (.int .i64 4)) none).bind fun v1 =>
 (aLen false v1).bind fun v2 =>
 (loop (L29_0 call) [(.int .u32 0), v1, v2, (.int .i64 0)] h).bind fun x11 =>
 bif Nat.beq x11.1 1 then some (0, [(x11.2.1.getD 0 .undef)], x11.2.2) else
 none
theorem run29 (call : Go.Fw.Call) (a0 : AVal) (h : Heap) : runFn call (.code A29) [a0] h = (S29 call a0 h).bind ansOf := by kernel_rfl

/-- frankpledge/frankpledgeref2.get -/
noncomputable def A30 : AFunc := ⟨1, (.seq (.region [.op 0 (.mov 2 (.const (.int .u32 0)))] [])
 (.seq (.region [.op 0 (.mov 3 (.tmp 0)),
 .op 1 (.iaddr 4 none 1 (.tmp 3) (.const (.int .i64 0))),
 .op 2 (.load 5 false 1 (.tmp 4)),
 .op 3 (.conv 6 (.toInt .u32) (.tmp 5)),
 .op 4 (.bin 7 .shl .plain (.tmp 6) (.const (.int .u64 24))),
 .op 5 (.mov 8 (.tmp 0)),
 .op 6 (.iaddr 9 none 1 (.tmp 8) (.const (.int .i64 1))),
 .op 7 (.load 10 false 1 (.tmp 9)),
 .op 8 (.conv 11 (.toInt .u32) (.tmp 10)),
 .op 9 (.bin 12 .shl .plain (.tmp 11) (.const (.int .u64 16))),
 .op 10 (.bin 13 .or .plain (.tmp 7) (.tmp 12)),
 .op 11 (.mov 14 (.tmp 0)),
 .op 12 (.iaddr 15 none 1 (.tmp 14) (.const (.int .i64 2))),
 .op 13 (.load 16 false 1 (.tmp 15)),
 .op 14 (.conv 17 (.toInt .u32) (.tmp 16)),
 .op 15 (.bin 18 .shl .plain (.tmp 17) (.const (.int .u64 8))),
 .op 16 (.bin 19 .or .plain (.tmp 13) (.tmp 18)),
 .op 17 (.mov 20 (.tmp 0)),
 .op 18 (.iaddr 21 none 1 (.tmp 20) (.const (.int .i64 3))),
 .op 19 (.load 22 false 1 (.tmp 21)),
 .op 20 (.conv 23 (.toInt .u32) (.tmp 22)),
 .op 21 (.bin 24 .or .plain (.tmp 19) (.tmp 23)),
 .op 22 (.mov 2 (.tmp 24))] [])
 .ret)),
 [.tmp 2]⟩
theorem ok30 : funcOk Try.prog (drawOk Try.prog) Try.f30 A30 = true := by kernel_rfl
noncomputable def S30 (call : Go.Fw.Call) (a0 : AVal) (h : Heap) : Option J :=
 (aIaddr 1 a0 (.int .i64 0)).bind fun v1 =>
 (aLoad h 1 v1).bind fun c2 =>
 (fromCells false c2).bind fun v3 =>
 (aConv (.toInt .u32) v3 h).bind fun r4 =>
 (aBin .shl .plain r4.1 (.int .u64 24)).bind fun v5 =>
 (aIaddr 1 a0 (.int .i64 1)).bind fun v6 =>
 (aLoad r4.2 1 v6).bind fun c7 =>
 (fromCells false c7).bind fun v8 =>
 (aConv (.toInt .u32) v8 r4.2).bind fun r9 =>
 (aBin .shl .plain r9.1 (.int .u64 16)).bind fun v10 =>
 (aBin .or .plain v5 v10).bind fun v11 =>
 (aIaddr 1 a0 (.int .i64 2)).bind fun v12 =>
 (aLoad r9.2 1 v12).bind fun c13 =>
 (fromCells false c13).bind fun v14 =>
 (aConv (.toInt .u32) v14 r9.2).bind fun r15 =>
 (aBin .shl .plain r15.1 (.int .u64 8)).bind fun v16 =>
 (aBin .or .plain v11 v16).bind fun v17 =>
 (aIaddr 1 a0 (.int .i64 3)).bind fun v18 =>
 (aLoad r15.2 1 v18).bind fun c19 =>
 (fromCells false c19).bind fun v20 =>
 (aConv (.toInt .u32) v20 r15.2).bind fun r21 =>
 (aBin .or .plain v17 r21.1).bind fun v22 =>
 some (0, [v22], r21.2)
theorem run30 (call : Go.Fw.Call) (a0 : AVal) (h : Heap) : runFn call (.code A30) [a0] h = (S30 call a0 h).bind ansOf := by kernel_rfl

/-- slices.Grow[[]byte,byte] -/
noncomputable def A31 : AFunc := ⟨2, (.seq (.region [.op 0 (.mov 4 (.const (.nilSlice)))] [])
 (.seq (.seq (.region [.op 0 (.mov 5 (.tmp 1)),
 .op 1 (.bin 6 .lss .plain (.tmp 5) (.const (.int .i64 0)))] [])
 (.cond (.tmp 6)
 .dead
 .skip))
 (.seq (.seq (.region [.op 0 (.mov 8 (.tmp 1)),
 .op 1 (.mov 9 (.tmp 0)),
 .op 2 (.cap 10 (.tmp 9)),
 .op 3 (.mov 11 (.tmp 0)),
 .op 4 (.len 12 false (.tmp 11)),
 .op 5 (.bin 13 .sub .plain (.tmp 10) (.tmp 12)),
 .op 6 (.bin 14 .sub .plain (.tmp 8) (.tmp 13)),
 .op 7 (.mov 1 (.tmp 14))] [])
 (.seq (.region [.op 0 (.mov 15 (.tmp 1)),
 .op 1 (.bin 16 .gtr .plain (.tmp 15) (.const (.int .i64 0)))] [])
 (.join [(.normal, ⟨[0], []⟩)] (.cond (.tmp 16)
 (.region [.op 0 (.mov 17 (.tmp 0)),
 .op 1 (.mov 18 (.tmp 0)),
 .op 2 (.cap 19 (.tmp 18)),
 .op 3 (.slice 20 (.sl 1) (.tmp 17) none (some (.tmp 19)) none),
 .op 4 (.mov 21 (.tmp 1)),
 .op 5 (.append 22 1 1 [.int .u8 0] true (.tmp 20) (.tmp 21)),
 .op 6 (.mov 23 (.tmp 0)),
 .op 7 (.len 24 false (.tmp 23)),
 .op 8 (.slice 25 (.sl 1) (.tmp 22) none (some (.tmp 24)) none),
 .op 9 (.mov 0 (.tmp 25))] [])
 .skip))))
 (.seq (.region [.op 0 (.mov 26 (.tmp 0)),
 .op 1 (.mov 4 (.tmp 26))] [])
 .ret)))),
 [.tmp 4]⟩
theorem ok31 : funcOk Try.prog (drawOk Try.prog) Try.f31 A31 = true := by kernel_rfl
noncomputable def S31 (call : Go.Fw.Call) (a0 a1 : AVal) (h : Heap) : Option J :=
 (aBin .lss .plain a1 (.int .i64 0)).bind fun v1 =>
 condV v1
 (none)
 ((aCap a0).bind fun v2 =>
 (aLen false a0).bind fun v3 =>
 (aBin .sub .plain v2 v3).bind fun v4 =>
 (aBin .sub .plain a1 v4).bind fun v5 =>
 (aBin .gtr .plain v5 (.int .i64 0)).bind fun v6 =>
 (condV v6
 ((aCap a0).bind fun v7 =>
 (aSliceSl 1 a0 none (some v7) none).bind fun v8 =>
 (aAppend 1 1 [.int .u8 0] true v8 v5 h).bind fun r9 =>
 (aLen false a0).bind fun v10 =>
 (aSliceSl 1 r9.1 none (some v10) none).bind fun v11 =>
 some (0, [v11], r9.2))
 (some (0, [a0], h))).bind fun x12 =>
 bif Nat.beq x12.1 0 then some (0, [(x12.2.1.getD 0 .undef)], x12.2.2) else
 none)
theorem run31 (call : Go.Fw.Call) (a0 a1 : AVal) (h : Heap) : runFn call (.code A31) [a0, a1] h = (S31 call a0 a1 h).bind ansOf := by kernel_rfl

noncomputable def tbl (f : Nat) : Option AFn :=
 match f with
 | 3 => some (.code A3)
 | 4 => some (.code A4)
 | 5 => some (.code A5)
 | 6 => some (.code A6)
 | 7 => some (.code A7)
 | 8 => some (.code A8)
 | 9 => some (.code A9)
 | 10 => some (.code A10)
 | 11 => some (.code A11)
 | 12 => some (.code A12)
 | 13 => some (.code A13)
 | 14 => some (.code A14)
 | 15 => some (.code A15)
 | 16 => some (.code A16)
 | 17 => some (.code A17)
 | 18 => some (.code A18)
 | 19 => some (.code A19)
 | 20 => some (.code A20)
 | 21 => some (.code A21)
 | 22 => some (.code A22)
 | 23 => some (.code A23)
 | 24 => some (.code A24)
 | 25 => some (.code A25)
 | 26 => some (.code A26)
 | 27 => some (.code A27)
 | 28 => some (.code A28)
 | 29 => some (.code A29)
 | 30 => some (.code A30)
 | 31 => some (.code A31)
 | _ => none
theorem c3 (h : Heap) : E tbl 3 [] h = (S3 (E tbl)  h).bind ansOf := (E_eq tbl 3 [] h).trans (run3 (E tbl)  h)
theorem c4 (a0 a1 a2 a3 a4 : AVal) (h : Heap) : E tbl 4 [a0, a1, a2, a3, a4] h = (S4 (E tbl) a0 a1 a2 a3 a4 h).bind ansOf := (E_eq tbl 4 [a0, a1, a2, a3, a4] h).trans (run4 (E tbl) a0 a1 a2 a3 a4 h)
theorem c5 (a0 a1 a2 : AVal) (h : Heap) : E tbl 5 [a0, a1, a2] h = (S5 (E tbl) a0 a1 a2 h).bind ansOf := (E_eq tbl 5 [a0, a1, a2] h).trans (run5 (E tbl) a0 a1 a2 h)
theorem c6 (a0 a1 a2 : AVal) (h : Heap) : E tbl 6 [a0, a1, a2] h = (S6 (E tbl) a0 a1 a2 h).bind ansOf := (E_eq tbl 6 [a0, a1, a2] h).trans (run6 (E tbl) a0 a1 a2 h)
theorem c7 (a0 a1 : AVal) (h : Heap) : E tbl 7 [a0, a1] h = (S7 (E tbl) a0 a1 h).bind ansOf := (E_eq tbl 7 [a0, a1] h).trans (run7 (E tbl) a0 a1 h)
theorem c8 (a0 : AVal) (h : Heap) : E tbl 8 [a0] h = (S8 (E tbl) a0 h).bind ansOf := (E_eq tbl 8 [a0] h).trans (run8 (E tbl) a0 h)
theorem c9 (a0 a1 : AVal) (h : Heap) : E tbl 9 [a0, a1] h = (S9 (E tbl) a0 a1 h).bind ansOf := (E_eq tbl 9 [a0, a1] h).trans (run9 (E tbl) a0 a1 h)
theorem c10 (a0 : AVal) (h : Heap) : E tbl 10 [a0] h = (S10 (E tbl) a0 h).bind ansOf := (E_eq tbl 10 [a0] h).trans (run10 (E tbl) a0 h)
theorem c11 (a0 : AVal) (h : Heap) : E tbl 11 [a0] h = (S11 (E tbl) a0 h).bind ansOf := (E_eq tbl 11 [a0] h).trans (run11 (E tbl) a0 h)
theorem c12 (a0 : AVal) (h : Heap) : E tbl 12 [a0] h = (S12 (E tbl) a0 h).bind ansOf := (E_eq tbl 12 [a0] h).trans (run12 (E tbl) a0 h)
theorem c13 (a0 : AVal) (h : Heap) : E tbl 13 [a0] h = (S13 (E tbl) a0 h).bind ansOf := (E_eq tbl 13 [a0] h).trans (run13 (E tbl) a0 h)
theorem c14 (a0 : AVal) (h : Heap) : E tbl 14 [a0] h = (S14 (E tbl) a0 h).bind ansOf := (E_eq tbl 14 [a0] h).trans (run14 (E tbl) a0 h)
theorem c15 (h : Heap) : E tbl 15 [] h = (S15 (E tbl)  h).bind ansOf := (E_eq tbl 15 [] h).trans (run15 (E tbl)  h)
theorem c16 (a0 a1 a2 : AVal) (h : Heap) : E tbl 16 [a0, a1, a2] h = (S16 (E tbl) a0 a1 a2 h).bind ansOf := (E_eq tbl 16 [a0, a1, a2] h).trans (run16 (E tbl) a0 a1 a2 h)
theorem c17 (h : Heap) : E tbl 17 [] h = (S17 (E tbl)  h).bind ansOf := (E_eq tbl 17 [] h).trans (run17 (E tbl)  h)
theorem c18 (a0 a1 : AVal) (h : Heap) : E tbl 18 [a0, a1] h = (S18 (E tbl) a0 a1 h).bind ansOf := (E_eq tbl 18 [a0, a1] h).trans (run18 (E tbl) a0 a1 h)
theorem c19 (a0 : AVal) (h : Heap) : E tbl 19 [a0] h = (S19 (E tbl) a0 h).bind ansOf := (E_eq tbl 19 [a0] h).trans (run19 (E tbl) a0 h)
theorem c20 (a0 : AVal) (h : Heap) : E tbl 20 [a0] h = (S20 (E tbl) a0 h).bind ansOf := (E_eq tbl 20 [a0] h).trans (run20 (E tbl) a0 h)
theorem c21 (a0 a1 : AVal) (h : Heap) : E tbl 21 [a0, a1] h = (S21 (E tbl) a0 a1 h).bind ansOf := (E_eq tbl 21 [a0, a1] h).trans (run21 (E tbl) a0 a1 h)
theorem c22 (a0 : AVal) (h : Heap) : E tbl 22 [a0] h = (S22 (E tbl) a0 h).bind ansOf := (E_eq tbl 22 [a0] h).trans (run22 (E tbl) a0 h)
theorem c23 (a0 a1 : AVal) (h : Heap) : E tbl 23 [a0, a1] h = (S23 (E tbl) a0 a1 h).bind ansOf := (E_eq tbl 23 [a0, a1] h).trans (run23 (E tbl) a0 a1 h)
theorem c24 (a0 a1 : AVal) (h : Heap) : E tbl 24 [a0, a1] h = (S24 (E tbl) a0 a1 h).bind ansOf := (E_eq tbl 24 [a0, a1] h).trans (run24 (E tbl) a0 a1 h)
theorem c25 (a0 : AVal) (h : Heap) : E tbl 25 [a0] h = (S25 (E tbl) a0 h).bind ansOf := (E_eq tbl 25 [a0] h).trans (run25 (E tbl) a0 h)
theorem c26 (a0 : AVal) (h : Heap) : E tbl 26 [a0] h = (S26 (E tbl) a0 h).bind ansOf := (E_eq tbl 26 [a0] h).trans (run26 (E tbl) a0 h)
theorem c27 (a0 : AVal) (h : Heap) : E tbl 27 [a0] h = (S27 (E tbl) a0 h).bind ansOf := (E_eq tbl 27 [a0] h).trans (run27 (E tbl) a0 h)
theorem c28 (a0 : AVal) (h : Heap) : E tbl 28 [a0] h = (S28 (E tbl) a0 h).bind ansOf := (E_eq tbl 28 [a0] h).trans (run28 (E tbl) a0 h)
theorem c29 (a0 : AVal) (h : Heap) : E tbl 29 [a0] h = (S29 (E tbl) a0 h).bind ansOf := (E_eq tbl 29 [a0] h).trans (run29 (E tbl) a0 h)
theorem c30 (a0 : AVal) (h : Heap) : E tbl 30 [a0] h = (S30 (E tbl) a0 h).bind ansOf := (E_eq tbl 30 [a0] h).trans (run30 (E tbl) a0 h)
theorem c31 (a0 a1 : AVal) (h : Heap) : E tbl 31 [a0, a1] h = (S31 (E tbl) a0 a1 h).bind ansOf := (E_eq tbl 31 [a0, a1] h).trans (run31 (E tbl) a0 a1 h)
theorem tbl_ok : ∀ f a, tbl f = some a → FnOk Try.prog (drawOk Try.prog) f a := by
  intro f a h
  unfold tbl at h
  split at h
  · cases h; exact ⟨_, Try.func3, by decide +kernel, ok3⟩
  · cases h; exact ⟨_, Try.func4, by decide +kernel, ok4⟩
  · cases h; exact ⟨_, Try.func5, by decide +kernel, ok5⟩
  · cases h; exact ⟨_, Try.func6, by decide +kernel, ok6⟩
  · cases h; exact ⟨_, Try.func7, by decide +kernel, ok7⟩
  · cases h; exact ⟨_, Try.func8, by decide +kernel, ok8⟩
  · cases h; exact ⟨_, Try.func9, by decide +kernel, ok9⟩
  · cases h; exact ⟨_, Try.func10, by decide +kernel, ok10⟩
  · cases h; exact ⟨_, Try.func11, by decide +kernel, ok11⟩
  · cases h; exact ⟨_, Try.func12, by decide +kernel, ok12⟩
  · cases h; exact ⟨_, Try.func13, by decide +kernel, ok13⟩
  · cases h; exact ⟨_, Try.func14, by decide +kernel, ok14⟩
  · cases h; exact ⟨_, Try.func15, by decide +kernel, ok15⟩
  · cases h; exact ⟨_, Try.func16, by decide +kernel, ok16⟩
  · cases h; exact ⟨_, Try.func17, by decide +kernel, ok17⟩
  · cases h; exact ⟨_, Try.func18, by decide +kernel, ok18⟩
  · cases h; exact ⟨_, Try.func19, by decide +kernel, ok19⟩
  · cases h; exact ⟨_, Try.func20, by decide +kernel, ok20⟩
  · cases h; exact ⟨_, Try.func21, by decide +kernel, ok21⟩
  · cases h; exact ⟨_, Try.func22, by decide +kernel, ok22⟩
  · cases h; exact ⟨_, Try.func23, by decide +kernel, ok23⟩
  · cases h; exact ⟨_, Try.func24, by decide +kernel, ok24⟩
  · cases h; exact ⟨_, Try.func25, by decide +kernel, ok25⟩
  · cases h; exact ⟨_, Try.func26, by decide +kernel, ok26⟩
  · cases h; exact ⟨_, Try.func27, by decide +kernel, ok27⟩
  · cases h; exact ⟨_, Try.func28, by decide +kernel, ok28⟩
  · cases h; exact ⟨_, Try.func29, by decide +kernel, ok29⟩
  · cases h; exact ⟨_, Try.func30, by decide +kernel, ok30⟩
  · cases h; exact ⟨_, Try.func31, by decide +kernel, ok31⟩
  · cases h
theorem prog_ok : CallOk Try.prog (E tbl) := E_ok tbl_ok
end Go.Proofs.Ytmmfcgbcocmkgaa.Code
