/- runs -/
import Derived.Test.YtinkiihdnepfjaaGreatDoorTb8
import Derived.Test.YtinkiihdnepfjaaGreatDoorFl
set_option linter.unusedSimpArgs false
set_option linter.unusedVariables false
set_option maxRecDepth 1000000
namespace Go.Proofs.YtinkiihdnepfjaaGreatDoor.Code
open Go.Fw Go.Fw.K
namespace Abs
noncomputable def L8_0 (call : Go.Fw.Call) (xs : List AVal) (h : Heap) : Option J :=
 (aBin .lss .plain (xs.getD 4 .undef) (xs.getD 3 .undef)).bind fun v13 =>
 condV v13
 ((aIaddr 9 (xs.getD 2 .undef) (xs.getD 4 .undef)).bind fun v14 =>
 (aLoad h 9 v14).bind fun c15 =>
 (fromCells true c15).bind fun v16 =>
 (aCells 9 v16).bind fun c17 =>
 bif Nat.ble ((0) + 9) (List.length (α := AVal) [.str [], .str [], .int .i64 0, .int .i64 0, .int .i64 0, .int .i64 0, .int .i64 0, .int .i64 0, .bool false]) then (rdL (splice [.str [], .str [], .int .i64 0, .int .i64 0, .int .i64 0, .int .i64 0, .int .i64 0, .int .i64 0, .bool false] (0) c17) 8 1).bind fun c18 =>
 (fromCells false c18).bind fun v19 =>
 condV v19
 (some (2, [(.bool false)], h))
 ((aBin .add .plain (xs.getD 4 .undef) (.int .i64 1)).bind fun v20 =>
 some (0, [(xs.getD 0 .undef), (xs.getD 1 .undef), (xs.getD 2 .undef), (xs.getD 3 .undef), v20], h)) else none)
 (some (1, [(xs.getD 0 .undef), (xs.getD 1 .undef)], h))
noncomputable def S8 (call : Go.Fw.Call) (a0 a1 : AVal) (h : Heap) : Option J :=
 (call 17 [a0, (.int .i64 0), (.int .i64 4)] h).bind fun r1 =>
 (aBin .add .plain (.int .i64 1) r1.1).bind fun v2 =>
 (call 16 [v2, (.int .i64 20)] r1.2).bind fun r3 =>
 (aBin .eql .ptr r3.1 (.nilPtr)).bind fun v4 =>
 (guardV v4 false
 ((call 17 [a1, (.int .i64 0), (.int .i64 300)] r3.2).bind fun r5 =>
 (aBin .add .plain (.int .i64 60) r5.1).bind fun v6 =>
 (call 19 [r3.1, (.int .i64 0), v6] r5.2).bind fun r7 =>
 (aUn .not r7.1).bind fun v8 =>
 some (0, [v8], r7.2))
 (some (0, [skipV], r3.2))).bind fun g9 =>
 (aPick v4 (.bool true) (g9.2.1.getD 0 .undef)).bind fun v10 =>
 condV v10
 (some (0, [(.bool false)], g9.2.2))
 ((call 33 [r3.1, (.int .i64 0)] g9.2.2).bind fun r11 =>
 (aLen false r11.1).bind fun v12 =>
 (loop (L8_0 call) [v2, r3.1, r11.1, v12, (.int .i64 0)] r11.2).bind fun x21 =>
 bif Nat.beq x21.1 1 then (call 33 [(x21.2.1.getD 1 .undef), (.int .i64 0)] x21.2.2).bind fun r22 =>
 (aLen false r22.1).bind fun v23 =>
 (aBin .eql .plain v23 (x21.2.1.getD 0 .undef)).bind fun v24 =>
 (guardV v24 true
 ((call 22 [] r22.2).bind fun r25 =>
 some (0, [r25.1], r25.2))
 (some (0, [skipV], r22.2))).bind fun g26 =>
 (aPick v24 (g26.2.1.getD 0 .undef) (.bool false)).bind fun v27 =>
 some (0, [v27], g26.2.2) else
 bif Nat.beq x21.1 2 then some (0, [(x21.2.1.getD 0 .undef)], x21.2.2) else
 none)
theorem run8 (call : Go.Fw.Call) (a0 a1 : AVal) (h : Heap) : runFn call (.code A8) [a0, a1] h = (S8 call a0 a1 h).bind ansOf := by kernel_rfl
end Abs
theorem aw : okR (kS tblS 100 22 [] T0) = true := by decide +kernel
theorem aw_prim : PrimOk Tryz.prog 22 semT := by
  obtain ⟨h', e⟩ := ran tbl_is aw 0
  exact primT rfl prog_ok (by kernel_rfl) e
noncomputable def look (f : Nat) : Option TFn := ifB (Nat.beq f 22) (some FT) (tblS.get f)
noncomputable def tblX (f : Nat) : Option AFn := bif Nat.beq f 22 then some (.prim semT) else tblA.get f
theorem look_is (f : Nat) (F : TFn) (h : look f = some F) : ∃ a, tblX f = some a ∧ Is F a := by
  unfold look at h
  unfold tblX
  cases hb : Nat.beq f 22 with
  | true => rw [hb] at h; cases h; exact ⟨_, rfl, is_T⟩
  | false => rw [hb] at h; exact tbl_is.get f F h
theorem progX_ok : CallOk Tryz.prog (E tblX) := E_ok fun f a h => by
  unfold tblX at h
  cases hb : Nat.beq f 22 with
  | true =>
    rw [hb] at h
    cases h
    rw [Nat.eq_of_beq_eq_true hb]
    exact aw_prim
  | false =>
    rw [hb] at h
    have := tbl_all.get f a h
    simpa using this
noncomputable abbrev cK : TCall := kSf look 100
theorem cK_rel : CR 0 cK (E tblX) := kSf_rel look_is 0 100
theorem t17 : tblX 17 = some (.code A17) := by kernel_rfl
theorem t19 : tblX 19 = some (.code A19) := by kernel_rfl
theorem t8 : tblX 8 = some (.code A8) := by kernel_rfl
abbrev iN (n : Nat) : AVal := .int .i64 (.ofNat n)
abbrev bT : AVal := .bool true
abbrev bF : AVal := .bool false
abbrev nP : AVal := .nilPtr
abbrev nS : AVal := .nilSlice
def d1w : AVal := .ptr 24 0
def d1n : Nat := 650
def d1 : List (Nat × List AVal) := [(0,[iN 0,iN 2]),
 (1,[.slice 0 0 2 2 1 true]),
 (2,[.slice 14 0 1 1 1 false,.slice 22 0 1 1 1 false,.ptr 1 0]),
 (6,[iN 32,.slice 144 0 1 1 10 false]),
 (7,[iN 0,iN 0,iN 0]),
 (8,[iN 1,.slice 148 0 1 1 2 false]),
 (9,[iN 0,iN 0,iN 0,iN 1,.ptr 6 0,.ptr 7 0,.ptr 8 0]),
 (10,[nS,.slice 11 0 0 0 1 true,iN 0]),
 (11,[]),
 (12,[iN 0,iN 0,nS,iN 0,.ptr 9 0,.ptr 10 0]),
 (14,[.ptr 12 0]),
 (18,[iN 0]),
 (19,[.slice 615 0 1 1 9 true,iN 1]),
 (20,[.str [97,112,112,48],.str [105,100,48],.slice 18 0 1 1 1 false,iN 0,iN 2,.ptr 19 0,.slice 27 3 0 0 3 false,bT,iN 1,iN 20,iN 1,bT,bF,iN 1,iN 5,iN 0,iN 0,iN 2,iN 0,.int .i64 (.negSucc 0),.str [],.str [],bF,.int .u32 (.ofNat 0),nS,nS,iN 2,bT,iN 1,bT,iN 2]),
 (22,[.ptr 20 0]),
 (23,[iN 2,.slice 125 0 0 1 3 false,bF,bF,bF,bF,bF,bF,bF,bF,bF,bF,bF,bF,bF,bF,bF,bF,bF,bF,bF,bF,bF,bF,bF,bF,bF,bF,bF,bF,bF,bF,bF,bF,bF,bF,bF,bF]),
 (24,[.ptr 2 0,.ptr 23 0]),
 (27,[iN 1,iN 20,iN 1]),
 (125,[iN 0,iN 0,nS]),
 (144,[.str [97,112,112,48],.str [105,100,48],iN 1,iN 0,iN 20,iN 0,iN 0,iN 1,bF,iN 0]),
 (148,[.str [97,112,112,48],.str [105,100,48]]),
 (615,[.str [97,112,112,48],.str [105,100,48],iN 1,iN 0,iN 20,iN 0,iN 0,iN 1,bF])]
def d2w : AVal := .ptr 32 0
def d2n : Nat := 1448
def d2 : List (Nat × List AVal) := [(0,[iN 0,iN 2,iN 2]),
 (1,[.slice 0 0 3 3 1 true]),
 (2,[.slice 14 0 1 1 1 false,.slice 30 0 2 2 1 false,.ptr 1 0]),
 (6,[iN 32,.slice 778 0 2 2 10 false]),
 (7,[iN 0,iN 0,iN 0]),
 (8,[iN 2,.slice 782 0 2 2 2 false]),
 (9,[iN 0,iN 0,iN 0,iN 2,.ptr 6 0,.ptr 7 0,.ptr 8 0]),
 (10,[nS,.slice 11 0 0 0 1 true,iN 0]),
 (11,[]),
 (12,[iN 0,iN 0,nS,iN 0,.ptr 9 0,.ptr 10 0]),
 (14,[.ptr 12 0]),
 (18,[iN 0]),
 (19,[.slice 623 0 1 1 9 true,iN 1]),
 (20,[.str [97,112,112,48],.str [105,100,48],.slice 18 0 1 1 1 false,iN 0,iN 2,.ptr 19 0,.slice 35 3 0 0 3 false,bT,iN 1,iN 20,iN 1,bT,bF,iN 1,iN 5,iN 0,iN 0,iN 2,iN 0,.int .i64 (.negSucc 0),.str [],.str [],bF,.int .u32 (.ofNat 0),nS,nS,iN 2,bT,iN 1,bT,iN 2]),
 (26,[iN 0]),
 (27,[.slice 1377 0 2 2 9 true,iN 2]),
 (28,[.str [97,112,112,48],.str [105,100,49],.slice 26 0 1 1 1 false,iN 0,iN 2,.ptr 27 0,.slice 660 3 0 0 3 false,bT,iN 1,iN 20,iN 1,bT,bF,iN 1,iN 5,iN 0,iN 0,iN 2,iN 0,.int .i64 (.negSucc 0),.str [],.str [],bF,.int .u32 (.ofNat 0),nS,nS,iN 2,bT,iN 1,bT,iN 2]),
 (30,[.ptr 20 0,.ptr 28 0]),
 (31,[iN 3,.slice 133 0 0 1 3 false,bF,bF,bF,bF,bF,bF,bF,bF,bF,bF,bF,bF,bF,bF,bF,bF,bF,bF,bF,bF,bF,bF,bF,bF,bF,bF,bF,bF,bF,bF,bF,bF,bF,bF,bF,bF]),
 (32,[.ptr 2 0,.ptr 31 0]),
 (35,[iN 1,iN 20,iN 1]),
 (133,[iN 0,iN 0,nS]),
 (623,[.str [97,112,112,48],.str [105,100,48],iN 1,iN 0,iN 20,iN 0,iN 0,iN 1,bF]),
 (660,[iN 1,iN 20,iN 1]),
 (778,[.str [97,112,112,48],.str [105,100,48],iN 1,iN 0,iN 20,iN 0,iN 0,iN 1,bF,iN 0,.str [97,112,112,48],.str [105,100,49],iN 1,iN 0,iN 20,iN 0,iN 0,iN 2,bF,iN 0]),
 (782,[.str [97,112,112,48],.str [105,100,48],.str [97,112,112,48],.str [105,100,49]]),
 (1377,[.str [97,112,112,48],.str [105,100,48],iN 1,iN 0,iN 20,iN 0,iN 0,iN 1,bF,.str [97,112,112,48],.str [105,100,49],iN 1,iN 0,iN 20,iN 0,iN 0,iN 2,bF])]
def d3w : AVal := .ptr 40 0
def d3n : Nat := 2414
def d3 : List (Nat × List AVal) := [(0,[iN 0,iN 2,iN 2,iN 2]),
 (1,[.slice 0 0 4 4 1 true]),
 (2,[.slice 14 0 1 1 1 false,.slice 38 0 3 3 1 false,.ptr 1 0]),
 (6,[iN 32,.slice 1578 0 3 3 10 false]),
 (7,[iN 0,iN 0,iN 0]),
 (8,[iN 3,.slice 1582 0 3 3 2 false]),
 (9,[iN 0,iN 0,iN 0,iN 3,.ptr 6 0,.ptr 7 0,.ptr 8 0]),
 (10,[nS,.slice 11 0 0 0 1 true,iN 0]),
 (11,[]),
 (12,[iN 0,iN 0,nS,iN 0,.ptr 9 0,.ptr 10 0]),
 (14,[.ptr 12 0]),
 (18,[iN 0]),
 (19,[.slice 631 0 1 1 9 true,iN 1]),
 (20,[.str [97,112,112,48],.str [105,100,48],.slice 18 0 1 1 1 false,iN 0,iN 2,.ptr 19 0,.slice 43 3 0 0 3 false,bT,iN 1,iN 20,iN 1,bT,bF,iN 1,iN 5,iN 0,iN 0,iN 2,iN 0,.int .i64 (.negSucc 0),.str [],.str [],bF,.int .u32 (.ofNat 0),nS,nS,iN 2,bT,iN 1,bT,iN 2]),
 (26,[iN 0]),
 (27,[.slice 1385 0 2 2 9 true,iN 2]),
 (28,[.str [97,112,112,48],.str [105,100,49],.slice 26 0 1 1 1 false,iN 0,iN 2,.ptr 27 0,.slice 668 3 0 0 3 false,bT,iN 1,iN 20,iN 1,bT,bF,iN 1,iN 5,iN 0,iN 0,iN 2,iN 0,.int .i64 (.negSucc 0),.str [],.str [],bF,.int .u32 (.ofNat 0),nS,nS,iN 2,bT,iN 1,bT,iN 2]),
 (34,[iN 0]),
 (35,[.slice 2307 0 3 3 9 true,iN 3]),
 (36,[.str [97,112,112,49],.str [105,100,50],.slice 34 0 1 1 1 false,iN 0,iN 2,.ptr 35 0,.slice 1458 3 0 0 3 false,bT,iN 1,iN 20,iN 1,bT,bF,iN 1,iN 5,iN 0,iN 0,iN 2,iN 0,.int .i64 (.negSucc 0),.str [],.str [],bF,.int .u32 (.ofNat 0),nS,nS,iN 2,bT,iN 1,bT,iN 2]),
 (38,[.ptr 20 0,.ptr 28 0,.ptr 36 0]),
 (39,[iN 4,.slice 141 0 0 1 3 false,bF,bF,bF,bF,bF,bF,bF,bF,bF,bF,bF,bF,bF,bF,bF,bF,bF,bF,bF,bF,bF,bF,bF,bF,bF,bF,bF,bF,bF,bF,bF,bF,bF,bF,bF,bF]),
 (40,[.ptr 2 0,.ptr 39 0]),
 (43,[iN 1,iN 20,iN 1]),
 (141,[iN 0,iN 0,nS]),
 (631,[.str [97,112,112,48],.str [105,100,48],iN 1,iN 0,iN 20,iN 0,iN 0,iN 1,bF]),
 (668,[iN 1,iN 20,iN 1]),
 (1385,[.str [97,112,112,48],.str [105,100,48],iN 1,iN 0,iN 20,iN 0,iN 0,iN 1,bF,.str [97,112,112,48],.str [105,100,49],iN 1,iN 0,iN 20,iN 0,iN 0,iN 2,bF]),
 (1458,[iN 1,iN 20,iN 1]),
 (1578,[.str [97,112,112,48],.str [105,100,48],iN 1,iN 0,iN 20,iN 0,iN 0,iN 1,bF,iN 0,.str [97,112,112,48],.str [105,100,49],iN 1,iN 0,iN 20,iN 0,iN 0,iN 2,bF,iN 0,.str [97,112,112,49],.str [105,100,50],iN 1,iN 0,iN 20,iN 0,iN 0,iN 3,bF,iN 0]),
 (1582,[.str [97,112,112,48],.str [105,100,48],.str [97,112,112,48],.str [105,100,49],.str [97,112,112,49],.str [105,100,50]]),
 (2307,[.str [97,112,112,48],.str [105,100,48],iN 1,iN 0,iN 20,iN 0,iN 0,iN 1,bF,.str [97,112,112,48],.str [105,100,49],iN 1,iN 0,iN 20,iN 0,iN 0,iN 2,bF,.str [97,112,112,49],.str [105,100,50],iN 1,iN 0,iN 20,iN 0,iN 0,iN 3,bF])]
def d4w : AVal := .ptr 48 0
def d4n : Nat := 3550
def d4 : List (Nat × List AVal) := [(0,[iN 0,iN 2,iN 2,iN 2,iN 2]),
 (1,[.slice 0 0 5 5 1 true]),
 (2,[.slice 14 0 1 1 1 false,.slice 46 0 4 4 1 false,.ptr 1 0]),
 (6,[iN 32,.slice 2546 0 4 4 10 false]),
 (7,[iN 0,iN 0,iN 0]),
 (8,[iN 4,.slice 2550 0 4 4 2 false]),
 (9,[iN 0,iN 0,iN 0,iN 4,.ptr 6 0,.ptr 7 0,.ptr 8 0]),
 (10,[nS,.slice 11 0 0 0 1 true,iN 0]),
 (11,[]),
 (12,[iN 0,iN 0,nS,iN 0,.ptr 9 0,.ptr 10 0]),
 (14,[.ptr 12 0]),
 (18,[iN 0]),
 (19,[.slice 639 0 1 1 9 true,iN 1]),
 (20,[.str [97,112,112,48],.str [105,100,48],.slice 18 0 1 1 1 false,iN 0,iN 2,.ptr 19 0,.slice 51 3 0 0 3 false,bT,iN 1,iN 20,iN 1,bT,bF,iN 1,iN 5,iN 0,iN 0,iN 2,iN 0,.int .i64 (.negSucc 0),.str [],.str [],bF,.int .u32 (.ofNat 0),nS,nS,iN 2,bT,iN 1,bT,iN 2]),
 (26,[iN 0]),
 (27,[.slice 1393 0 2 2 9 true,iN 2]),
 (28,[.str [97,112,112,48],.str [105,100,49],.slice 26 0 1 1 1 false,iN 0,iN 2,.ptr 27 0,.slice 676 3 0 0 3 false,bT,iN 1,iN 20,iN 1,bT,bF,iN 1,iN 5,iN 0,iN 0,iN 2,iN 0,.int .i64 (.negSucc 0),.str [],.str [],bF,.int .u32 (.ofNat 0),nS,nS,iN 2,bT,iN 1,bT,iN 2]),
 (34,[iN 0]),
 (35,[.slice 2315 0 3 3 9 true,iN 3]),
 (36,[.str [97,112,112,49],.str [105,100,50],.slice 34 0 1 1 1 false,iN 0,iN 2,.ptr 35 0,.slice 1466 3 0 0 3 false,bT,iN 1,iN 20,iN 1,bT,bF,iN 1,iN 5,iN 0,iN 0,iN 2,iN 0,.int .i64 (.negSucc 0),.str [],.str [],bF,.int .u32 (.ofNat 0),nS,nS,iN 2,bT,iN 1,bT,iN 2]),
 (42,[iN 0]),
 (43,[.slice 3407 0 4 4 9 true,iN 4]),
 (44,[.str [97,112,112,49],.str [105,100,51],.slice 42 0 1 1 1 false,iN 0,iN 2,.ptr 43 0,.slice 2424 3 0 0 3 false,bT,iN 1,iN 20,iN 1,bT,bF,iN 1,iN 5,iN 0,iN 0,iN 2,iN 0,.int .i64 (.negSucc 0),.str [],.str [],bF,.int .u32 (.ofNat 0),nS,nS,iN 2,bT,iN 1,bT,iN 2]),
 (46,[.ptr 20 0,.ptr 28 0,.ptr 36 0,.ptr 44 0]),
 (47,[iN 5,.slice 149 0 0 1 3 false,bF,bF,bF,bF,bF,bF,bF,bF,bF,bF,bF,bF,bF,bF,bF,bF,bF,bF,bF,bF,bF,bF,bF,bF,bF,bF,bF,bF,bF,bF,bF,bF,bF,bF,bF,bF]),
 (48,[.ptr 2 0,.ptr 47 0]),
 (51,[iN 1,iN 20,iN 1]),
 (149,[iN 0,iN 0,nS]),
 (639,[.str [97,112,112,48],.str [105,100,48],iN 1,iN 0,iN 20,iN 0,iN 0,iN 1,bF]),
 (676,[iN 1,iN 20,iN 1]),
 (1393,[.str [97,112,112,48],.str [105,100,48],iN 1,iN 0,iN 20,iN 0,iN 0,iN 1,bF,.str [97,112,112,48],.str [105,100,49],iN 1,iN 0,iN 20,iN 0,iN 0,iN 2,bF]),
 (1466,[iN 1,iN 20,iN 1]),
 (2315,[.str [97,112,112,48],.str [105,100,48],iN 1,iN 0,iN 20,iN 0,iN 0,iN 1,bF,.str [97,112,112,48],.str [105,100,49],iN 1,iN 0,iN 20,iN 0,iN 0,iN 2,bF,.str [97,112,112,49],.str [105,100,50],iN 1,iN 0,iN 20,iN 0,iN 0,iN 3,bF]),
 (2424,[iN 1,iN 20,iN 1]),
 (2546,[.str [97,112,112,48],.str [105,100,48],iN 1,iN 0,iN 20,iN 0,iN 0,iN 1,bF,iN 0,.str [97,112,112,48],.str [105,100,49],iN 1,iN 0,iN 20,iN 0,iN 0,iN 2,bF,iN 0,.str [97,112,112,49],.str [105,100,50],iN 1,iN 0,iN 20,iN 0,iN 0,iN 3,bF,iN 0,.str [97,112,112,49],.str [105,100,51],iN 1,iN 0,iN 20,iN 0,iN 0,iN 4,bF,iN 0]),
 (2550,[.str [97,112,112,48],.str [105,100,48],.str [97,112,112,48],.str [105,100,49],.str [97,112,112,49],.str [105,100,50],.str [97,112,112,49],.str [105,100,51]]),
 (3407,[.str [97,112,112,48],.str [105,100,48],iN 1,iN 0,iN 20,iN 0,iN 0,iN 1,bF,.str [97,112,112,48],.str [105,100,49],iN 1,iN 0,iN 20,iN 0,iN 0,iN 2,bF,.str [97,112,112,49],.str [105,100,50],iN 1,iN 0,iN 20,iN 0,iN 0,iN 3,bF,.str [97,112,112,49],.str [105,100,51],iN 1,iN 0,iN 20,iN 0,iN 0,iN 4,bF])]
def d5w : AVal := .ptr 56 0
def d5n : Nat := 4858
def d5 : List (Nat × List AVal) := [(0,[iN 0,iN 2,iN 2,iN 2,iN 2,iN 2]),
 (1,[.slice 0 0 6 6 1 true]),
 (2,[.slice 14 0 1 1 1 false,.slice 54 0 5 5 1 false,.ptr 1 0]),
 (6,[iN 32,.slice 3684 0 5 5 10 false]),
 (7,[iN 0,iN 0,iN 0]),
 (8,[iN 5,.slice 3688 0 5 5 2 false]),
 (9,[iN 0,iN 0,iN 0,iN 5,.ptr 6 0,.ptr 7 0,.ptr 8 0]),
 (10,[nS,.slice 11 0 0 0 1 true,iN 0]),
 (11,[]),
 (12,[iN 0,iN 0,nS,iN 0,.ptr 9 0,.ptr 10 0]),
 (14,[.ptr 12 0]),
 (18,[iN 0]),
 (19,[.slice 647 0 1 1 9 true,iN 1]),
 (20,[.str [97,112,112,48],.str [105,100,48],.slice 18 0 1 1 1 false,iN 0,iN 2,.ptr 19 0,.slice 59 3 0 0 3 false,bT,iN 1,iN 20,iN 1,bT,bF,iN 1,iN 5,iN 0,iN 0,iN 2,iN 0,.int .i64 (.negSucc 0),.str [],.str [],bF,.int .u32 (.ofNat 0),nS,nS,iN 2,bT,iN 1,bT,iN 2]),
 (26,[iN 0]),
 (27,[.slice 1401 0 2 2 9 true,iN 2]),
 (28,[.str [97,112,112,48],.str [105,100,49],.slice 26 0 1 1 1 false,iN 0,iN 2,.ptr 27 0,.slice 684 3 0 0 3 false,bT,iN 1,iN 20,iN 1,bT,bF,iN 1,iN 5,iN 0,iN 0,iN 2,iN 0,.int .i64 (.negSucc 0),.str [],.str [],bF,.int .u32 (.ofNat 0),nS,nS,iN 2,bT,iN 1,bT,iN 2]),
 (34,[iN 0]),
 (35,[.slice 2323 0 3 3 9 true,iN 3]),
 (36,[.str [97,112,112,49],.str [105,100,50],.slice 34 0 1 1 1 false,iN 0,iN 2,.ptr 35 0,.slice 1474 3 0 0 3 false,bT,iN 1,iN 20,iN 1,bT,bF,iN 1,iN 5,iN 0,iN 0,iN 2,iN 0,.int .i64 (.negSucc 0),.str [],.str [],bF,.int .u32 (.ofNat 0),nS,nS,iN 2,bT,iN 1,bT,iN 2]),
 (42,[iN 0]),
 (43,[.slice 3415 0 4 4 9 true,iN 4]),
 (44,[.str [97,112,112,49],.str [105,100,51],.slice 42 0 1 1 1 false,iN 0,iN 2,.ptr 43 0,.slice 2432 3 0 0 3 false,bT,iN 1,iN 20,iN 1,bT,bF,iN 1,iN 5,iN 0,iN 0,iN 2,iN 0,.int .i64 (.negSucc 0),.str [],.str [],bF,.int .u32 (.ofNat 0),nS,nS,iN 2,bT,iN 1,bT,iN 2]),
 (50,[iN 0]),
 (51,[.slice 4679 0 5 5 9 true,iN 5]),
 (52,[.str [97,112,112,50],.str [105,100,52],.slice 50 0 1 1 1 false,iN 0,iN 2,.ptr 51 0,.slice 3560 3 0 0 3 false,bT,iN 1,iN 20,iN 1,bT,bF,iN 1,iN 5,iN 0,iN 0,iN 2,iN 0,.int .i64 (.negSucc 0),.str [],.str [],bF,.int .u32 (.ofNat 0),nS,nS,iN 2,bT,iN 1,bT,iN 2]),
 (54,[.ptr 20 0,.ptr 28 0,.ptr 36 0,.ptr 44 0,.ptr 52 0]),
 (55,[iN 6,.slice 157 0 0 1 3 false,bF,bF,bF,bF,bF,bF,bF,bF,bF,bF,bF,bF,bF,bF,bF,bF,bF,bF,bF,bF,bF,bF,bF,bF,bF,bF,bF,bF,bF,bF,bF,bF,bF,bF,bF,bF]),
 (56,[.ptr 2 0,.ptr 55 0]),
 (59,[iN 1,iN 20,iN 1]),
 (157,[iN 0,iN 0,nS]),
 (647,[.str [97,112,112,48],.str [105,100,48],iN 1,iN 0,iN 20,iN 0,iN 0,iN 1,bF]),
 (684,[iN 1,iN 20,iN 1]),
 (1401,[.str [97,112,112,48],.str [105,100,48],iN 1,iN 0,iN 20,iN 0,iN 0,iN 1,bF,.str [97,112,112,48],.str [105,100,49],iN 1,iN 0,iN 20,iN 0,iN 0,iN 2,bF]),
 (1474,[iN 1,iN 20,iN 1]),
 (2323,[.str [97,112,112,48],.str [105,100,48],iN 1,iN 0,iN 20,iN 0,iN 0,iN 1,bF,.str [97,112,112,48],.str [105,100,49],iN 1,iN 0,iN 20,iN 0,iN 0,iN 2,bF,.str [97,112,112,49],.str [105,100,50],iN 1,iN 0,iN 20,iN 0,iN 0,iN 3,bF]),
 (2432,[iN 1,iN 20,iN 1]),
 (3415,[.str [97,112,112,48],.str [105,100,48],iN 1,iN 0,iN 20,iN 0,iN 0,iN 1,bF,.str [97,112,112,48],.str [105,100,49],iN 1,iN 0,iN 20,iN 0,iN 0,iN 2,bF,.str [97,112,112,49],.str [105,100,50],iN 1,iN 0,iN 20,iN 0,iN 0,iN 3,bF,.str [97,112,112,49],.str [105,100,51],iN 1,iN 0,iN 20,iN 0,iN 0,iN 4,bF]),
 (3560,[iN 1,iN 20,iN 1]),
 (3684,[.str [97,112,112,48],.str [105,100,48],iN 1,iN 0,iN 20,iN 0,iN 0,iN 1,bF,iN 0,.str [97,112,112,48],.str [105,100,49],iN 1,iN 0,iN 20,iN 0,iN 0,iN 2,bF,iN 0,.str [97,112,112,49],.str [105,100,50],iN 1,iN 0,iN 20,iN 0,iN 0,iN 3,bF,iN 0,.str [97,112,112,49],.str [105,100,51],iN 1,iN 0,iN 20,iN 0,iN 0,iN 4,bF,iN 0,.str [97,112,112,50],.str [105,100,52],iN 1,iN 0,iN 20,iN 0,iN 0,iN 5,bF,iN 0]),
 (3688,[.str [97,112,112,48],.str [105,100,48],.str [97,112,112,48],.str [105,100,49],.str [97,112,112,49],.str [105,100,50],.str [97,112,112,49],.str [105,100,51],.str [97,112,112,50],.str [105,100,52]]),
 (4679,[.str [97,112,112,48],.str [105,100,48],iN 1,iN 0,iN 20,iN 0,iN 0,iN 1,bF,.str [97,112,112,48],.str [105,100,49],iN 1,iN 0,iN 20,iN 0,iN 0,iN 2,bF,.str [97,112,112,49],.str [105,100,50],iN 1,iN 0,iN 20,iN 0,iN 0,iN 3,bF,.str [97,112,112,49],.str [105,100,51],iN 1,iN 0,iN 20,iN 0,iN 0,iN 4,bF,.str [97,112,112,50],.str [105,100,52],iN 1,iN 0,iN 20,iN 0,iN 0,iN 5,bF])]
theorem runA1 : isR (cK 16 [.int .i64 (.ofNat 1), .int .i64 (.ofNat 20)] T0) d1w d1n d1 = true := by decide +kernel
noncomputable def chk1 (t : TH) : Bool := okR (F8 (ovrK 16 19 d1w cK) [.int .i64 (.ofNat 0), .int .i64 (.ofNat 0)] t)
noncomputable def step1 (t : TH) : KR := cK 19 [d1w, .int .i64 (.ofNat 0), .int .i64 (.ofNat 1)] t
theorem runB1 : walk step1 chk1 (fun _ => true) 360 (ofL d1n d1) = true := by decide +kernel
theorem rep_w1 : rep 0 d1w = d1w := by simp [d1w]
noncomputable abbrev stepE1 (h : Heap) : Option (AVal × Heap) := E tblX 19 [d1w, .int .i64 0, .int .i64 1] h
theorem step_rel1 (t : TH) (h : Heap) (S : Sub 0 t h) : RR 0 (step1 t) (stepE1 h) := by
  have := cK_rel 19 [d1w, .int .i64 (.ofNat 0), .int .i64 (.ofNat 1)] t h S
  rw [repL_cons, repL_cons, repL_cons, repL_nil, rep_w1, rep_int] at this
  exact this
theorem rest1 (a b : Int) (n : Nat) (ha : wn a 4 = 0) (hb : wn b 300 = n) (hn : n ≤ 300) {h0 h1 h2 : Heap} (e16 : E tblX 16 [.int .i64 1, .int .i64 20] h0 = some (d1w, h1)) (e19 : E tblX 19 [d1w, .int .i64 0, .int .i64 (60 + n : Nat)] h1 = some (.bool true, h2)) :
    Abs.S8 (E tblX) (.int .i64 a) (.int .i64 b) h0 = Abs.S8 (ovrE 16 19 d1w (E tblX)) (.int .i64 0) (.int .i64 0) h2 := by
  have o16 : ∀ x h, ovrE 16 19 d1w (E tblX) 16 x h = some (d1w, h) := fun x h => rfl
  have o19 : ∀ x h, ovrE 16 19 d1w (E tblX) 19 x h = some (.bool true, h) := fun x h => rfl
  have o17 : ∀ x h, ovrE 16 19 d1w (E tblX) 17 x h = E tblX 17 x h := fun x h => rfl
  have o33 : ∀ x h, ovrE 16 19 d1w (E tblX) 33 x h = E tblX 33 x h := fun x h => rfl
  have o22 : ∀ x h, ovrE 16 19 d1w (E tblX) 22 x h = E tblX 22 x h := fun x h => rfl
  have oL : Abs.L8_0 (ovrE 16 19 d1w (E tblX)) = Abs.L8_0 (E tblX) := rfl
  have wnil : aBin .eql .ptr d1w .nilPtr = some (.bool false) := rfl
  have w1 : IntKind.i64.wrap (1 + 0) = 1 := by decide
  have w2 : wn 0 4 = 0 := by decide
  have w3 : IntKind.i64.wrap (60 + (n : Int)) = (60 + n : Nat) := by rw [wrap_small _ (by omega) (by omega)]; simp
  unfold Abs.S8
  simp only [within t17 _ 4 (by omega) (by omega), o17, ha, w2, Option.bind_some, bin_add, w1, e16, o16, o19, o33, o22, oL, within t17 _ 300 (by omega) (by omega), hb, wnil, guard_bool]
  simp only [w3, e19, Option.bind_some, show (false == false) = true from rfl, cond_true, un_not, List.getD_cons_zero, pick_bool, cond_bool, cond_false, Bool.not_true]
theorem at1 (a b : Int) (ha : wn a 4 = 0) : ∃ h', E tblX 8 [.int .i64 a, .int .i64 b] emptyHeap = some (.bool true, h') := by
  obtain ⟨n, hn, hle⟩ := wn_nat b 300
  have hn : wn b 300 = n := hn
  obtain ⟨h1, e16, S1⟩ := isR_rel (cK_rel 16 _ T0 emptyHeap (T0_sub 0)) runA1
  rw [rep_w1, repL_cons, repL_cons, repL_nil, rep_int, rep_int] at e16
  obtain ⟨a0, _⟩ := walk_rel step_rel1 360 _ h1 S1 runB1
  obtain ⟨t2, h2, g, S2, e⟩ := a0 (60 + n) (by omega)
  have e19 := flow_goes t19 d1w (.int .i64 0) (60 + n) (by omega) g
  obtain ⟨h3, e3⟩ := okR_rel (st8 _ _ _ ▸ func_rel (ovr_rel rep_w1 cK_rel) (by kernel_rfl) [.int .i64 (.ofNat 0), .int .i64 (.ofNat 0)] S2) e
  simp only [repL_cons, repL_nil, rep_int] at e3
  refine ⟨h3, ?_⟩
  rw [E_eq, t8]
  simp only
  rw [Abs.run8, rest1 a b n ha hn hle e16 e19, ← Abs.run8]
  exact e3
theorem runA2 : isR (cK 16 [.int .i64 (.ofNat 2), .int .i64 (.ofNat 20)] T0) d2w d2n d2 = true := by decide +kernel
noncomputable def chk2 (t : TH) : Bool := okR (F8 (ovrK 16 19 d2w cK) [.int .i64 (.ofNat 1), .int .i64 (.ofNat 0)] t)
noncomputable def step2 (t : TH) : KR := cK 19 [d2w, .int .i64 (.ofNat 0), .int .i64 (.ofNat 1)] t
theorem runB2 : walk step2 chk2 (fun _ => true) 360 (ofL d2n d2) = true := by decide +kernel
theorem rep_w2 : rep 0 d2w = d2w := by simp [d2w]
noncomputable abbrev stepE2 (h : Heap) : Option (AVal × Heap) := E tblX 19 [d2w, .int .i64 0, .int .i64 1] h
theorem step_rel2 (t : TH) (h : Heap) (S : Sub 0 t h) : RR 0 (step2 t) (stepE2 h) := by
  have := cK_rel 19 [d2w, .int .i64 (.ofNat 0), .int .i64 (.ofNat 1)] t h S
  rw [repL_cons, repL_cons, repL_cons, repL_nil, rep_w2, rep_int] at this
  exact this
theorem rest2 (a b : Int) (n : Nat) (ha : wn a 4 = 1) (hb : wn b 300 = n) (hn : n ≤ 300) {h0 h1 h2 : Heap} (e16 : E tblX 16 [.int .i64 2, .int .i64 20] h0 = some (d2w, h1)) (e19 : E tblX 19 [d2w, .int .i64 0, .int .i64 (60 + n : Nat)] h1 = some (.bool true, h2)) :
    Abs.S8 (E tblX) (.int .i64 a) (.int .i64 b) h0 = Abs.S8 (ovrE 16 19 d2w (E tblX)) (.int .i64 1) (.int .i64 0) h2 := by
  have o16 : ∀ x h, ovrE 16 19 d2w (E tblX) 16 x h = some (d2w, h) := fun x h => rfl
  have o19 : ∀ x h, ovrE 16 19 d2w (E tblX) 19 x h = some (.bool true, h) := fun x h => rfl
  have o17 : ∀ x h, ovrE 16 19 d2w (E tblX) 17 x h = E tblX 17 x h := fun x h => rfl
  have o33 : ∀ x h, ovrE 16 19 d2w (E tblX) 33 x h = E tblX 33 x h := fun x h => rfl
  have o22 : ∀ x h, ovrE 16 19 d2w (E tblX) 22 x h = E tblX 22 x h := fun x h => rfl
  have oL : Abs.L8_0 (ovrE 16 19 d2w (E tblX)) = Abs.L8_0 (E tblX) := rfl
  have wnil : aBin .eql .ptr d2w .nilPtr = some (.bool false) := rfl
  have w1 : IntKind.i64.wrap (1 + 1) = 2 := by decide
  have w2 : wn 1 4 = 1 := by decide
  have w3 : IntKind.i64.wrap (60 + (n : Int)) = (60 + n : Nat) := by rw [wrap_small _ (by omega) (by omega)]; simp
  unfold Abs.S8
  simp only [within t17 _ 4 (by omega) (by omega), o17, ha, w2, Option.bind_some, bin_add, w1, e16, o16, o19, o33, o22, oL, within t17 _ 300 (by omega) (by omega), hb, wnil, guard_bool]
  simp only [w3, e19, Option.bind_some, show (false == false) = true from rfl, cond_true, un_not, List.getD_cons_zero, pick_bool, cond_bool, cond_false, Bool.not_true]
theorem at2 (a b : Int) (ha : wn a 4 = 1) : ∃ h', E tblX 8 [.int .i64 a, .int .i64 b] emptyHeap = some (.bool true, h') := by
  obtain ⟨n, hn, hle⟩ := wn_nat b 300
  have hn : wn b 300 = n := hn
  obtain ⟨h1, e16, S1⟩ := isR_rel (cK_rel 16 _ T0 emptyHeap (T0_sub 0)) runA2
  rw [rep_w2, repL_cons, repL_cons, repL_nil, rep_int, rep_int] at e16
  obtain ⟨a0, _⟩ := walk_rel step_rel2 360 _ h1 S1 runB2
  obtain ⟨t2, h2, g, S2, e⟩ := a0 (60 + n) (by omega)
  have e19 := flow_goes t19 d2w (.int .i64 0) (60 + n) (by omega) g
  obtain ⟨h3, e3⟩ := okR_rel (st8 _ _ _ ▸ func_rel (ovr_rel rep_w2 cK_rel) (by kernel_rfl) [.int .i64 (.ofNat 1), .int .i64 (.ofNat 0)] S2) e
  simp only [repL_cons, repL_nil, rep_int] at e3
  refine ⟨h3, ?_⟩
  rw [E_eq, t8]
  simp only
  rw [Abs.run8, rest2 a b n ha hn hle e16 e19, ← Abs.run8]
  exact e3
theorem runA3 : isR (cK 16 [.int .i64 (.ofNat 3), .int .i64 (.ofNat 20)] T0) d3w d3n d3 = true := by decide +kernel
noncomputable def chk3 (t : TH) : Bool := okR (F8 (ovrK 16 19 d3w cK) [.int .i64 (.ofNat 2), .int .i64 (.ofNat 0)] t)
noncomputable def step3 (t : TH) : KR := cK 19 [d3w, .int .i64 (.ofNat 0), .int .i64 (.ofNat 1)] t
theorem runB3 : walk step3 chk3 (fun _ => true) 360 (ofL d3n d3) = true := by decide +kernel
theorem rep_w3 : rep 0 d3w = d3w := by simp [d3w]
noncomputable abbrev stepE3 (h : Heap) : Option (AVal × Heap) := E tblX 19 [d3w, .int .i64 0, .int .i64 1] h
theorem step_rel3 (t : TH) (h : Heap) (S : Sub 0 t h) : RR 0 (step3 t) (stepE3 h) := by
  have := cK_rel 19 [d3w, .int .i64 (.ofNat 0), .int .i64 (.ofNat 1)] t h S
  rw [repL_cons, repL_cons, repL_cons, repL_nil, rep_w3, rep_int] at this
  exact this
theorem rest3 (a b : Int) (n : Nat) (ha : wn a 4 = 2) (hb : wn b 300 = n) (hn : n ≤ 300) {h0 h1 h2 : Heap} (e16 : E tblX 16 [.int .i64 3, .int .i64 20] h0 = some (d3w, h1)) (e19 : E tblX 19 [d3w, .int .i64 0, .int .i64 (60 + n : Nat)] h1 = some (.bool true, h2)) :
    Abs.S8 (E tblX) (.int .i64 a) (.int .i64 b) h0 = Abs.S8 (ovrE 16 19 d3w (E tblX)) (.int .i64 2) (.int .i64 0) h2 := by
  have o16 : ∀ x h, ovrE 16 19 d3w (E tblX) 16 x h = some (d3w, h) := fun x h => rfl
  have o19 : ∀ x h, ovrE 16 19 d3w (E tblX) 19 x h = some (.bool true, h) := fun x h => rfl
  have o17 : ∀ x h, ovrE 16 19 d3w (E tblX) 17 x h = E tblX 17 x h := fun x h => rfl
  have o33 : ∀ x h, ovrE 16 19 d3w (E tblX) 33 x h = E tblX 33 x h := fun x h => rfl
  have o22 : ∀ x h, ovrE 16 19 d3w (E tblX) 22 x h = E tblX 22 x h := fun x h => rfl
  have oL : Abs.L8_0 (ovrE 16 19 d3w (E tblX)) = Abs.L8_0 (E tblX) := rfl
  have wnil : aBin .eql .ptr d3w .nilPtr = some (.bool false) := rfl
  have w1 : IntKind.i64.wrap (1 + 2) = 3 := by decide
  have w2 : wn 2 4 = 2 := by decide
  have w3 : IntKind.i64.wrap (60 + (n : Int)) = (60 + n : Nat) := by rw [wrap_small _ (by omega) (by omega)]; simp
  unfold Abs.S8
  simp only [within t17 _ 4 (by omega) (by omega), o17, ha, w2, Option.bind_some, bin_add, w1, e16, o16, o19, o33, o22, oL, within t17 _ 300 (by omega) (by omega), hb, wnil, guard_bool]
  simp only [w3, e19, Option.bind_some, show (false == false) = true from rfl, cond_true, un_not, List.getD_cons_zero, pick_bool, cond_bool, cond_false, Bool.not_true]
theorem at3 (a b : Int) (ha : wn a 4 = 2) : ∃ h', E tblX 8 [.int .i64 a, .int .i64 b] emptyHeap = some (.bool true, h') := by
  obtain ⟨n, hn, hle⟩ := wn_nat b 300
  have hn : wn b 300 = n := hn
  obtain ⟨h1, e16, S1⟩ := isR_rel (cK_rel 16 _ T0 emptyHeap (T0_sub 0)) runA3
  rw [rep_w3, repL_cons, repL_cons, repL_nil, rep_int, rep_int] at e16
  obtain ⟨a0, _⟩ := walk_rel step_rel3 360 _ h1 S1 runB3
  obtain ⟨t2, h2, g, S2, e⟩ := a0 (60 + n) (by omega)
  have e19 := flow_goes t19 d3w (.int .i64 0) (60 + n) (by omega) g
  obtain ⟨h3, e3⟩ := okR_rel (st8 _ _ _ ▸ func_rel (ovr_rel rep_w3 cK_rel) (by kernel_rfl) [.int .i64 (.ofNat 2), .int .i64 (.ofNat 0)] S2) e
  simp only [repL_cons, repL_nil, rep_int] at e3
  refine ⟨h3, ?_⟩
  rw [E_eq, t8]
  simp only
  rw [Abs.run8, rest3 a b n ha hn hle e16 e19, ← Abs.run8]
  exact e3
theorem runA4 : isR (cK 16 [.int .i64 (.ofNat 4), .int .i64 (.ofNat 20)] T0) d4w d4n d4 = true := by decide +kernel
noncomputable def chk4 (t : TH) : Bool := okR (F8 (ovrK 16 19 d4w cK) [.int .i64 (.ofNat 3), .int .i64 (.ofNat 0)] t)
noncomputable def step4 (t : TH) : KR := cK 19 [d4w, .int .i64 (.ofNat 0), .int .i64 (.ofNat 1)] t
theorem runB4 : walk step4 chk4 (fun _ => true) 360 (ofL d4n d4) = true := by decide +kernel
theorem rep_w4 : rep 0 d4w = d4w := by simp [d4w]
noncomputable abbrev stepE4 (h : Heap) : Option (AVal × Heap) := E tblX 19 [d4w, .int .i64 0, .int .i64 1] h
theorem step_rel4 (t : TH) (h : Heap) (S : Sub 0 t h) : RR 0 (step4 t) (stepE4 h) := by
  have := cK_rel 19 [d4w, .int .i64 (.ofNat 0), .int .i64 (.ofNat 1)] t h S
  rw [repL_cons, repL_cons, repL_cons, repL_nil, rep_w4, rep_int] at this
  exact this
theorem rest4 (a b : Int) (n : Nat) (ha : wn a 4 = 3) (hb : wn b 300 = n) (hn : n ≤ 300) {h0 h1 h2 : Heap} (e16 : E tblX 16 [.int .i64 4, .int .i64 20] h0 = some (d4w, h1)) (e19 : E tblX 19 [d4w, .int .i64 0, .int .i64 (60 + n : Nat)] h1 = some (.bool true, h2)) :
    Abs.S8 (E tblX) (.int .i64 a) (.int .i64 b) h0 = Abs.S8 (ovrE 16 19 d4w (E tblX)) (.int .i64 3) (.int .i64 0) h2 := by
  have o16 : ∀ x h, ovrE 16 19 d4w (E tblX) 16 x h = some (d4w, h) := fun x h => rfl
  have o19 : ∀ x h, ovrE 16 19 d4w (E tblX) 19 x h = some (.bool true, h) := fun x h => rfl
  have o17 : ∀ x h, ovrE 16 19 d4w (E tblX) 17 x h = E tblX 17 x h := fun x h => rfl
  have o33 : ∀ x h, ovrE 16 19 d4w (E tblX) 33 x h = E tblX 33 x h := fun x h => rfl
  have o22 : ∀ x h, ovrE 16 19 d4w (E tblX) 22 x h = E tblX 22 x h := fun x h => rfl
  have oL : Abs.L8_0 (ovrE 16 19 d4w (E tblX)) = Abs.L8_0 (E tblX) := rfl
  have wnil : aBin .eql .ptr d4w .nilPtr = some (.bool false) := rfl
  have w1 : IntKind.i64.wrap (1 + 3) = 4 := by decide
  have w2 : wn 3 4 = 3 := by decide
  have w3 : IntKind.i64.wrap (60 + (n : Int)) = (60 + n : Nat) := by rw [wrap_small _ (by omega) (by omega)]; simp
  unfold Abs.S8
  simp only [within t17 _ 4 (by omega) (by omega), o17, ha, w2, Option.bind_some, bin_add, w1, e16, o16, o19, o33, o22, oL, within t17 _ 300 (by omega) (by omega), hb, wnil, guard_bool]
  simp only [w3, e19, Option.bind_some, show (false == false) = true from rfl, cond_true, un_not, List.getD_cons_zero, pick_bool, cond_bool, cond_false, Bool.not_true]
theorem at4 (a b : Int) (ha : wn a 4 = 3) : ∃ h', E tblX 8 [.int .i64 a, .int .i64 b] emptyHeap = some (.bool true, h') := by
  obtain ⟨n, hn, hle⟩ := wn_nat b 300
  have hn : wn b 300 = n := hn
  obtain ⟨h1, e16, S1⟩ := isR_rel (cK_rel 16 _ T0 emptyHeap (T0_sub 0)) runA4
  rw [rep_w4, repL_cons, repL_cons, repL_nil, rep_int, rep_int] at e16
  obtain ⟨a0, _⟩ := walk_rel step_rel4 360 _ h1 S1 runB4
  obtain ⟨t2, h2, g, S2, e⟩ := a0 (60 + n) (by omega)
  have e19 := flow_goes t19 d4w (.int .i64 0) (60 + n) (by omega) g
  obtain ⟨h3, e3⟩ := okR_rel (st8 _ _ _ ▸ func_rel (ovr_rel rep_w4 cK_rel) (by kernel_rfl) [.int .i64 (.ofNat 3), .int .i64 (.ofNat 0)] S2) e
  simp only [repL_cons, repL_nil, rep_int] at e3
  refine ⟨h3, ?_⟩
  rw [E_eq, t8]
  simp only
  rw [Abs.run8, rest4 a b n ha hn hle e16 e19, ← Abs.run8]
  exact e3
theorem runA5 : isR (cK 16 [.int .i64 (.ofNat 5), .int .i64 (.ofNat 20)] T0) d5w d5n d5 = true := by decide +kernel
noncomputable def chk5 (t : TH) : Bool := okR (F8 (ovrK 16 19 d5w cK) [.int .i64 (.ofNat 4), .int .i64 (.ofNat 0)] t)
noncomputable def step5 (t : TH) : KR := cK 19 [d5w, .int .i64 (.ofNat 0), .int .i64 (.ofNat 1)] t
theorem runB5 : walk step5 chk5 (fun _ => true) 360 (ofL d5n d5) = true := by decide +kernel
theorem rep_w5 : rep 0 d5w = d5w := by simp [d5w]
noncomputable abbrev stepE5 (h : Heap) : Option (AVal × Heap) := E tblX 19 [d5w, .int .i64 0, .int .i64 1] h
theorem step_rel5 (t : TH) (h : Heap) (S : Sub 0 t h) : RR 0 (step5 t) (stepE5 h) := by
  have := cK_rel 19 [d5w, .int .i64 (.ofNat 0), .int .i64 (.ofNat 1)] t h S
  rw [repL_cons, repL_cons, repL_cons, repL_nil, rep_w5, rep_int] at this
  exact this
theorem rest5 (a b : Int) (n : Nat) (ha : wn a 4 = 4) (hb : wn b 300 = n) (hn : n ≤ 300) {h0 h1 h2 : Heap} (e16 : E tblX 16 [.int .i64 5, .int .i64 20] h0 = some (d5w, h1)) (e19 : E tblX 19 [d5w, .int .i64 0, .int .i64 (60 + n : Nat)] h1 = some (.bool true, h2)) :
    Abs.S8 (E tblX) (.int .i64 a) (.int .i64 b) h0 = Abs.S8 (ovrE 16 19 d5w (E tblX)) (.int .i64 4) (.int .i64 0) h2 := by
  have o16 : ∀ x h, ovrE 16 19 d5w (E tblX) 16 x h = some (d5w, h) := fun x h => rfl
  have o19 : ∀ x h, ovrE 16 19 d5w (E tblX) 19 x h = some (.bool true, h) := fun x h => rfl
  have o17 : ∀ x h, ovrE 16 19 d5w (E tblX) 17 x h = E tblX 17 x h := fun x h => rfl
  have o33 : ∀ x h, ovrE 16 19 d5w (E tblX) 33 x h = E tblX 33 x h := fun x h => rfl
  have o22 : ∀ x h, ovrE 16 19 d5w (E tblX) 22 x h = E tblX 22 x h := fun x h => rfl
  have oL : Abs.L8_0 (ovrE 16 19 d5w (E tblX)) = Abs.L8_0 (E tblX) := rfl
  have wnil : aBin .eql .ptr d5w .nilPtr = some (.bool false) := rfl
  have w1 : IntKind.i64.wrap (1 + 4) = 5 := by decide
  have w2 : wn 4 4 = 4 := by decide
  have w3 : IntKind.i64.wrap (60 + (n : Int)) = (60 + n : Nat) := by rw [wrap_small _ (by omega) (by omega)]; simp
  unfold Abs.S8
  simp only [within t17 _ 4 (by omega) (by omega), o17, ha, w2, Option.bind_some, bin_add, w1, e16, o16, o19, o33, o22, oL, within t17 _ 300 (by omega) (by omega), hb, wnil, guard_bool]
  simp only [w3, e19, Option.bind_some, show (false == false) = true from rfl, cond_true, un_not, List.getD_cons_zero, pick_bool, cond_bool, cond_false, Bool.not_true]
theorem at5 (a b : Int) (ha : wn a 4 = 4) : ∃ h', E tblX 8 [.int .i64 a, .int .i64 b] emptyHeap = some (.bool true, h') := by
  obtain ⟨n, hn, hle⟩ := wn_nat b 300
  have hn : wn b 300 = n := hn
  obtain ⟨h1, e16, S1⟩ := isR_rel (cK_rel 16 _ T0 emptyHeap (T0_sub 0)) runA5
  rw [rep_w5, repL_cons, repL_cons, repL_nil, rep_int, rep_int] at e16
  obtain ⟨a0, _⟩ := walk_rel step_rel5 360 _ h1 S1 runB5
  obtain ⟨t2, h2, g, S2, e⟩ := a0 (60 + n) (by omega)
  have e19 := flow_goes t19 d5w (.int .i64 0) (60 + n) (by omega) g
  obtain ⟨h3, e3⟩ := okR_rel (st8 _ _ _ ▸ func_rel (ovr_rel rep_w5 cK_rel) (by kernel_rfl) [.int .i64 (.ofNat 4), .int .i64 (.ofNat 0)] S2) e
  simp only [repL_cons, repL_nil, rep_int] at e3
  refine ⟨h3, ?_⟩
  rw [E_eq, t8]
  simp only
  rw [Abs.run8, rest5 a b n ha hn hle e16 e19, ← Abs.run8]
  exact e3
theorem topGuardsL (a b : Int) : ∃ h', E tblX 8 [.int .i64 a, .int .i64 b] emptyHeap = some (.bool true, h') := by
  obtain ⟨h2, h3⟩ := wn_le a 4 (by omega)
  by_cases e0 : wn a 4 = 0
  · exact at1 a b e0
  by_cases e1 : wn a 4 = 1
  · exact at2 a b e1
  by_cases e2 : wn a 4 = 2
  · exact at3 a b e2
  by_cases e3 : wn a 4 = 3
  · exact at4 a b e3
  exact at5 a b (by omega)
end Go.Proofs.YtinkiihdnepfjaaGreatDoor.Code
