/- runs -/
import Derived.Test.YtinkiihdnepfjaaGreatDoorTb9
import Derived.Test.YtinkiihdnepfjaaGreatDoorWn
import Derived.Test.YtinkiihdnepfjaaGreatDoorKY
set_option linter.unusedSimpArgs false
set_option linter.unusedVariables false
set_option maxRecDepth 1000000
namespace Go.Proofs.YtinkiihdnepfjaaGreatDoor.Code
open Go.Fw Go.Fw.K
namespace Abs
noncomputable def L9_1 (call : Go.Fw.Call) (xs : List AVal) (h : Heap) : Option J :=
 (aBin .leq .plain (xs.getD 3 .undef) (xs.getD 0 .undef)).bind fun v6 =>
 condV v6
 ((aBin .neq .plain (xs.getD 3 .undef) (.int .i64 1)).bind fun v7 =>
 (guardV v7 true
 ((call 19 [(xs.getD 1 .undef), (xs.getD 3 .undef), (.int .i64 1)] h).bind fun r8 =>
 (aUn .not r8.1).bind fun v9 =>
 some (0, [v9], r8.2))
 (some (0, [skipV], h))).bind fun g10 =>
 (aPick v7 (g10.2.1.getD 0 .undef) (.bool false)).bind fun v11 =>
 condV v11
 (some (2, [(.bool false)], g10.2.2))
 ((aBin .add .plain (xs.getD 3 .undef) (.int .i64 1)).bind fun v12 =>
 some (0, [(xs.getD 0 .undef), (xs.getD 1 .undef), (xs.getD 2 .undef), v12], g10.2.2)))
 (some (1, [(xs.getD 0 .undef), (xs.getD 1 .undef), (xs.getD 2 .undef)], h))
noncomputable def L9_2 (call : Go.Fw.Call) (xs : List AVal) (h : Heap) : Option J :=
 (aBin .lss .plain (xs.getD 6 .undef) (xs.getD 5 .undef)).bind fun v16 =>
 condV v16
 ((aIaddr 9 (xs.getD 4 .undef) (xs.getD 6 .undef)).bind fun v17 =>
 (aLoad h 9 v17).bind fun c18 =>
 (fromCells true c18).bind fun v19 =>
 (aCells 9 v19).bind fun c20 =>
 bif Nat.ble ((0) + 9) (List.length (α := AVal) [.str [], .str [], .int .i64 0, .int .i64 0, .int .i64 0, .int .i64 0, .int .i64 0, .int .i64 0, .bool false]) then (rdL (splice [.str [], .str [], .int .i64 0, .int .i64 0, .int .i64 0, .int .i64 0, .int .i64 0, .int .i64 0, .bool false] (0) c20) 8 1).bind fun c21 =>
 (fromCells false c21).bind fun v22 =>
 (condV v22
 ((aBin .add .plain (xs.getD 3 .undef) (.int .i64 1)).bind fun v23 =>
 (rdL (splice [.str [], .str [], .int .i64 0, .int .i64 0, .int .i64 0, .int .i64 0, .int .i64 0, .int .i64 0, .bool false] (0) c20) 1 1).bind fun c24 =>
 (fromCells false c24).bind fun v25 =>
 (aBin .neq .plain v25 (.str [105, 100, 48])).bind fun v26 =>
 condV v26
 (some (0, [(.bool false)], h))
 (some (1, [(xs.getD 0 .undef), (xs.getD 1 .undef), (xs.getD 2 .undef), v23, (xs.getD 4 .undef), (xs.getD 5 .undef), (xs.getD 6 .undef)], h)))
 (some (1, [(xs.getD 0 .undef), (xs.getD 1 .undef), (xs.getD 2 .undef), (xs.getD 3 .undef), (xs.getD 4 .undef), (xs.getD 5 .undef), (xs.getD 6 .undef)], h))).bind fun x27 =>
 bif Nat.beq x27.1 0 then some (2, [(x27.2.1.getD 0 .undef)], x27.2.2) else
 bif Nat.beq x27.1 1 then (aBin .add .plain (x27.2.1.getD 6 .undef) (.int .i64 1)).bind fun v28 =>
 some (0, [(x27.2.1.getD 0 .undef), (x27.2.1.getD 1 .undef), (x27.2.1.getD 2 .undef), (x27.2.1.getD 3 .undef), (x27.2.1.getD 4 .undef), (x27.2.1.getD 5 .undef), v28], x27.2.2) else
 none else none)
 (some (1, [(xs.getD 0 .undef), (xs.getD 1 .undef), (xs.getD 2 .undef), (xs.getD 3 .undef)], h))
noncomputable def L9_0 (call : Go.Fw.Call) (xs : List AVal) (h : Heap) : Option J :=
 (aBin .lss .plain (xs.getD 2 .undef) (.int .i64 200)).bind fun v5 =>
 condV v5
 ((loop (L9_1 call) [(xs.getD 0 .undef), (xs.getD 1 .undef), (xs.getD 2 .undef), (.int .i64 0)] h).bind fun x13 =>
 bif Nat.beq x13.1 1 then (call 33 [(x13.2.1.getD 1 .undef), (.int .i64 0)] x13.2.2).bind fun r14 =>
 (aLen false r14.1).bind fun v15 =>
 (loop (L9_2 call) [(x13.2.1.getD 0 .undef), (x13.2.1.getD 1 .undef), (x13.2.1.getD 2 .undef), (.int .i64 0), r14.1, v15, (.int .i64 0)] r14.2).bind fun x29 =>
 bif Nat.beq x29.1 1 then (aBin .gtr .plain (x29.2.1.getD 3 .undef) (.int .i64 1)).bind fun v30 =>
 condV v30
 (some (2, [(.bool false)], x29.2.2))
 ((aBin .add .plain (x29.2.1.getD 2 .undef) (.int .i64 1)).bind fun v31 =>
 some (0, [(x29.2.1.getD 0 .undef), (x29.2.1.getD 1 .undef), v31], x29.2.2)) else
 bif Nat.beq x29.1 2 then some (2, [(x29.2.1.getD 0 .undef)], x29.2.2) else
 none else
 bif Nat.beq x13.1 2 then some (2, [(x13.2.1.getD 0 .undef)], x13.2.2) else
 none)
 (some (1, [(xs.getD 0 .undef), (xs.getD 1 .undef)], h))
noncomputable def S9 (call : Go.Fw.Call) (a0 : AVal) (h : Heap) : Option J :=
 (call 17 [a0, (.int .i64 0), (.int .i64 2)] h).bind fun r1 =>
 (aBin .add .plain (.int .i64 3) r1.1).bind fun v2 =>
 (call 16 [v2, (.int .i64 30)] r1.2).bind fun r3 =>
 (aBin .eql .ptr r3.1 (.nilPtr)).bind fun v4 =>
 condV v4
 (some (0, [(.bool false)], r3.2))
 ((loop (L9_0 call) [v2, r3.1, (.int .i64 0)] r3.2).bind fun x32 =>
 bif Nat.beq x32.1 1 then (call 33 [(x32.2.1.getD 1 .undef), (.int .i64 0)] x32.2.2).bind fun r33 =>
 (aLen false r33.1).bind fun v34 =>
 (aBin .eql .plain v34 (x32.2.1.getD 0 .undef)).bind fun v35 =>
 (guardV v35 true
 ((call 22 [] r33.2).bind fun r36 =>
 some (0, [r36.1], r36.2))
 (some (0, [skipV], r33.2))).bind fun g37 =>
 (aPick v35 (g37.2.1.getD 0 .undef) (.bool false)).bind fun v38 =>
 some (0, [v38], g37.2.2) else
 bif Nat.beq x32.1 2 then some (0, [(x32.2.1.getD 0 .undef)], x32.2.2) else
 none)
theorem run9 (call : Go.Fw.Call) (a0 : AVal) (h : Heap) : runFn call (.code A9) [a0] h = (S9 call a0 h).bind ansOf := by kernel_rfl
end Abs
theorem aw : okR (kS tblS 100 22 [] T0) = true := by decide +kernel
theorem aw_prim : PrimOk Tryz.prog 22 semT := by
  obtain ⟨h', e⟩ := ran tbl_is aw 0
  exact primT rfl prog_ok (by kernel_rfl) e
noncomputable def look (f : Nat) : Option TFn := ifB (Nat.beq f 22) (some FT) (tblS.get f)
noncomputable def tblX (f : Nat) : Option AFn := bif Nat.beq f 22 then some (.prim semT) else tblA.get f
theorem look_is (f : Nat) (F : TFn) (h : look f = some F) : ∃ a, tblX f = some a ∧ Is F a := by
  unfold look at h
  unfold tblX
  cases hb : Nat.beq f 22 with
  | true => rw [hb] at h; cases h; exact ⟨_, rfl, is_T⟩
  | false => rw [hb] at h; exact tbl_is.get f F h
theorem progX_ok : CallOk Tryz.prog (E tblX) := E_ok fun f a h => by
  unfold tblX at h
  cases hb : Nat.beq f 22 with
  | true =>
    rw [hb] at h
    cases h
    rw [Nat.eq_of_beq_eq_true hb]
    exact aw_prim
  | false =>
    rw [hb] at h
    have := tbl_all.get f a h
    simpa using this
noncomputable abbrev cK : TCall := kSf look 100
theorem cK_rel : CR 0 cK (E tblX) := kSf_rel look_is 0 100
theorem t17 : tblX 17 = some (.code A17) := by kernel_rfl
theorem t9 : tblX 9 = some (.code A9) := by kernel_rfl
abbrev iN (n : Nat) : AVal := .int .i64 (.ofNat n)
abbrev bT : AVal := .bool true
abbrev bF : AVal := .bool false
abbrev nP : AVal := .nilPtr
abbrev nS : AVal := .nilSlice
def s3_0w : AVal := .ptr 40 0
def s3_0n : Nat := 2414
def s3_0 : List (Nat × List AVal) := [(0,[iN 0,iN 2,iN 2,iN 2]),
 (1,[.slice 0 0 4 4 1 true]),
 (2,[.slice 14 0 1 1 1 false,.slice 38 0 3 3 1 false,.ptr 1 0]),
 (6,[iN 32,.slice 1578 0 3 3 10 false]),
 (7,[iN 0,iN 0,iN 0]),
 (8,[iN 3,.slice 1582 0 3 3 2 false]),
 (9,[iN 0,iN 0,iN 0,iN 3,.ptr 6 0,.ptr 7 0,.ptr 8 0]),
 (10,[nS,.slice 11 0 0 0 1 true,iN 0]),
 (11,[]),
 (12,[iN 0,iN 0,nS,iN 0,.ptr 9 0,.ptr 10 0]),
 (14,[.ptr 12 0]),
 (18,[iN 0]),
 (19,[.slice 631 0 1 1 9 true,iN 1]),
 (20,[.str [97,112,112,48],.str [105,100,48],.slice 18 0 1 1 1 false,iN 0,iN 2,.ptr 19 0,.slice 43 3 0 0 3 false,bT,iN 1,iN 30,iN 1,bT,bF,iN 1,iN 5,iN 0,iN 0,iN 2,iN 0,.int .i64 (.negSucc 0),.str [],.str [],bF,.int .u32 (.ofNat 0),nS,nS,iN 2,bT,iN 1,bT,iN 2]),
 (26,[iN 0]),
 (27,[.slice 1385 0 2 2 9 true,iN 2]),
 (28,[.str [97,112,112,48],.str [105,100,49],.slice 26 0 1 1 1 false,iN 0,iN 2,.ptr 27 0,.slice 668 3 0 0 3 false,bT,iN 1,iN 30,iN 1,bT,bF,iN 1,iN 5,iN 0,iN 0,iN 2,iN 0,.int .i64 (.negSucc 0),.str [],.str [],bF,.int .u32 (.ofNat 0),nS,nS,iN 2,bT,iN 1,bT,iN 2]),
 (34,[iN 0]),
 (35,[.slice 2307 0 3 3 9 true,iN 3]),
 (36,[.str [97,112,112,49],.str [105,100,50],.slice 34 0 1 1 1 false,iN 0,iN 2,.ptr 35 0,.slice 1458 3 0 0 3 false,bT,iN 1,iN 30,iN 1,bT,bF,iN 1,iN 5,iN 0,iN 0,iN 2,iN 0,.int .i64 (.negSucc 0),.str [],.str [],bF,.int .u32 (.ofNat 0),nS,nS,iN 2,bT,iN 1,bT,iN 2]),
 (38,[.ptr 20 0,.ptr 28 0,.ptr 36 0]),
 (39,[iN 4,.slice 141 0 0 1 3 false,bF,bF,bF,bF,bF,bF,bF,bF,bF,bF,bF,bF,bF,bF,bF,bF,bF,bF,bF,bF,bF,bF,bF,bF,bF,bF,bF,bF,bF,bF,bF,bF,bF,bF,bF,bF]),
 (40,[.ptr 2 0,.ptr 39 0]),
 (43,[iN 1,iN 30,iN 1]),
 (141,[iN 0,iN 0,nS]),
 (631,[.str [97,112,112,48],.str [105,100,48],iN 1,iN 0,iN 30,iN 0,iN 0,iN 1,bF]),
 (668,[iN 1,iN 30,iN 1]),
 (1385,[.str [97,112,112,48],.str [105,100,48],iN 1,iN 0,iN 30,iN 0,iN 0,iN 1,bF,.str [97,112,112,48],.str [105,100,49],iN 1,iN 0,iN 30,iN 0,iN 0,iN 2,bF]),
 (1458,[iN 1,iN 30,iN 1]),
 (1578,[.str [97,112,112,48],.str [105,100,48],iN 1,iN 0,iN 30,iN 0,iN 0,iN 1,bF,iN 0,.str [97,112,112,48],.str [105,100,49],iN 1,iN 0,iN 30,iN 0,iN 0,iN 2,bF,iN 0,.str [97,112,112,49],.str [105,100,50],iN 1,iN 0,iN 30,iN 0,iN 0,iN 3,bF,iN 0]),
 (1582,[.str [97,112,112,48],.str [105,100,48],.str [97,112,112,48],.str [105,100,49],.str [97,112,112,49],.str [105,100,50]]),
 (2307,[.str [97,112,112,48],.str [105,100,48],iN 1,iN 0,iN 30,iN 0,iN 0,iN 1,bF,.str [97,112,112,48],.str [105,100,49],iN 1,iN 0,iN 30,iN 0,iN 0,iN 2,bF,.str [97,112,112,49],.str [105,100,50],iN 1,iN 0,iN 30,iN 0,iN 0,iN 3,bF])]
def s3_1w : AVal := .ptr 40 0
def s3_1n : Nat := 8339
def s3_1 : List (Nat × List AVal) := [(0,[iN 67,iN 2,iN 69,iN 69]),
 (1,[.slice 0 0 4 4 1 true]),
 (2,[.slice 14 0 1 1 1 false,.slice 38 0 3 3 1 false,.ptr 1 0]),
 (6,[iN 32,.slice 1578 0 3 3 10 false]),
 (7,[iN 60,iN 12,iN 0]),
 (8,[iN 3,.slice 1582 0 3 3 2 false]),
 (9,[iN 0,iN 0,iN 0,iN 3,.ptr 6 0,.ptr 7 0,.ptr 8 0]),
 (10,[nS,.slice 11 0 0 0 1 true,iN 0]),
 (11,[]),
 (12,[iN 67,iN 60,nS,iN 0,.ptr 9 0,.ptr 10 0]),
 (14,[.ptr 12 0]),
 (18,[iN 0]),
 (19,[.slice 631 0 1 1 9 true,iN 1]),
 (20,[.str [97,112,112,48],.str [105,100,48],.slice 18 0 1 1 1 false,iN 0,iN 2,.ptr 19 0,.slice 43 3 0 0 3 false,bT,iN 1,iN 30,iN 1,bT,bF,iN 1,iN 5,iN 0,iN 0,iN 2,iN 0,.int .i64 (.negSucc 0),.str [],.str [],bF,.int .u32 (.ofNat 0),nS,nS,iN 2,bT,iN 1,bT,iN 2]),
 (26,[iN 0]),
 (27,[.slice 6993 0 3 3 9 true,iN 3]),
 (28,[.str [97,112,112,48],.str [105,100,49],.slice 26 0 1 1 1 false,iN 0,iN 69,.ptr 27 0,.slice 668 3 0 0 3 false,bT,iN 1,iN 30,iN 1,bT,bF,iN 1,iN 2,iN 0,iN 0,iN 10,iN 0,iN 0,.str [97,112,112,48],.str [105,100,49],bF,.int .u32 (.ofNat 0),nS,nS,iN 61,bT,iN 61,bT,iN 52]),
 (34,[iN 0]),
 (35,[.slice 7560 0 3 3 9 true,iN 3]),
 (36,[.str [97,112,112,49],.str [105,100,50],.slice 34 0 1 1 1 false,iN 0,iN 69,.ptr 35 0,.slice 1458 3 0 0 3 false,bT,iN 1,iN 30,iN 1,bT,bF,iN 1,iN 2,iN 0,iN 0,iN 10,iN 0,iN 0,.str [97,112,112,49],.str [105,100,50],bF,.int .u32 (.ofNat 0),nS,nS,iN 61,bT,iN 61,bT,iN 52]),
 (38,[.ptr 20 0,.ptr 28 0,.ptr 36 0]),
 (39,[iN 4,.slice 141 0 0 1 3 false,bF,bF,bF,bF,bF,bF,bF,bF,bF,bF,bF,bF,bF,bF,bF,bF,bF,bF,bF,bF,bF,bF,bF,bF,bF,bF,bF,bF,bF,bF,bF,bF,bF,bF,bF,bF]),
 (40,[.ptr 2 0,.ptr 39 0]),
 (43,[iN 1,iN 30,iN 1]),
 (141,[iN 0,iN 0,nS]),
 (631,[.str [97,112,112,48],.str [105,100,48],iN 1,iN 0,iN 30,iN 0,iN 0,iN 1,bF]),
 (668,[iN 1,iN 30,iN 1]),
 (1458,[iN 1,iN 30,iN 1]),
 (1578,[.str [97,112,112,48],.str [105,100,48],iN 1,iN 0,iN 30,iN 0,iN 0,iN 1,bF,iN 0,.str [97,112,112,48],.str [105,100,49],iN 1,iN 0,iN 30,iN 0,iN 0,iN 2,bF,iN 59,.str [97,112,112,49],.str [105,100,50],iN 1,iN 0,iN 30,iN 0,iN 0,iN 3,bF,iN 59]),
 (1582,[.str [97,112,112,48],.str [105,100,48],.str [97,112,112,48],.str [105,100,49],.str [97,112,112,49],.str [105,100,50]]),
 (6993,[.str [97,112,112,48],.str [105,100,48],iN 1,iN 0,iN 30,iN 0,iN 0,iN 1,bF,.str [97,112,112,48],.str [105,100,49],iN 1,iN 0,iN 30,iN 0,iN 0,iN 2,bF,.str [97,112,112,49],.str [105,100,50],iN 1,iN 0,iN 30,iN 0,iN 0,iN 3,bF]),
 (7560,[.str [97,112,112,48],.str [105,100,48],iN 1,iN 0,iN 30,iN 0,iN 0,iN 1,bF,.str [97,112,112,48],.str [105,100,49],iN 1,iN 0,iN 30,iN 0,iN 0,iN 2,bF,.str [97,112,112,49],.str [105,100,50],iN 1,iN 0,iN 30,iN 0,iN 0,iN 3,bF])]
def s3_2w : AVal := .ptr 40 0
def s3_2n : Nat := 15759
def s3_2 : List (Nat × List AVal) := [(0,[iN 134,iN 2,iN 136,iN 136]),
 (1,[.slice 0 0 4 4 1 true]),
 (2,[.slice 14 0 1 1 1 false,.slice 38 0 3 3 1 false,.ptr 1 0]),
 (6,[iN 32,.slice 1578 0 3 3 10 false]),
 (7,[iN 120,iN 12,iN 2]),
 (8,[iN 3,.slice 1582 0 3 3 2 false]),
 (9,[iN 0,iN 0,iN 0,iN 3,.ptr 6 0,.ptr 7 0,.ptr 8 0]),
 (10,[nS,.slice 11 0 0 0 1 true,iN 0]),
 (11,[]),
 (12,[iN 134,iN 120,nS,iN 0,.ptr 9 0,.ptr 10 0]),
 (14,[.ptr 12 0]),
 (18,[iN 0]),
 (19,[.slice 631 0 1 1 9 true,iN 1]),
 (20,[.str [97,112,112,48],.str [105,100,48],.slice 18 0 1 1 1 false,iN 0,iN 2,.ptr 19 0,.slice 43 3 0 0 3 false,bT,iN 1,iN 30,iN 1,bT,bF,iN 1,iN 5,iN 0,iN 0,iN 2,iN 0,.int .i64 (.negSucc 0),.str [],.str [],bF,.int .u32 (.ofNat 0),nS,nS,iN 2,bT,iN 1,bT,iN 2]),
 (26,[iN 0]),
 (27,[.slice 14511 0 3 3 9 true,iN 3]),
 (28,[.str [97,112,112,48],.str [105,100,49],.slice 26 0 1 1 1 false,iN 0,iN 136,.ptr 27 0,.slice 668 3 0 0 3 false,bT,iN 1,iN 30,iN 1,bT,bF,iN 1,iN 2,iN 0,iN 0,iN 20,iN 0,iN 0,.str [97,112,112,48],.str [105,100,49],bF,.int .u32 (.ofNat 0),nS,nS,iN 131,bT,iN 131,bT,iN 127]),
 (34,[iN 0]),
 (35,[.slice 15078 0 3 3 9 true,iN 3]),
 (36,[.str [97,112,112,49],.str [105,100,50],.slice 34 0 1 1 1 false,iN 0,iN 136,.ptr 35 0,.slice 1458 3 0 0 3 false,bT,iN 1,iN 30,iN 1,bT,bF,iN 1,iN 2,iN 0,iN 0,iN 20,iN 0,iN 0,.str [97,112,112,49],.str [105,100,50],bF,.int .u32 (.ofNat 0),nS,nS,iN 131,bT,iN 131,bT,iN 127]),
 (38,[.ptr 20 0,.ptr 28 0,.ptr 36 0]),
 (39,[iN 4,.slice 141 0 0 1 3 false,bF,bF,bF,bF,bF,bF,bF,bF,bF,bF,bF,bF,bF,bF,bF,bF,bF,bF,bF,bF,bF,bF,bF,bF,bF,bF,bF,bF,bF,bF,bF,bF,bF,bF,bF,bF]),
 (40,[.ptr 2 0,.ptr 39 0]),
 (43,[iN 1,iN 30,iN 1]),
 (141,[iN 0,iN 0,nS]),
 (631,[.str [97,112,112,48],.str [105,100,48],iN 1,iN 0,iN 30,iN 0,iN 0,iN 1,bF]),
 (668,[iN 1,iN 30,iN 1]),
 (1458,[iN 1,iN 30,iN 1]),
 (1578,[.str [97,112,112,48],.str [105,100,48],iN 1,iN 0,iN 30,iN 0,iN 0,iN 1,bF,iN 0,.str [97,112,112,48],.str [105,100,49],iN 1,iN 0,iN 30,iN 0,iN 0,iN 2,bF,iN 129,.str [97,112,112,49],.str [105,100,50],iN 1,iN 0,iN 30,iN 0,iN 0,iN 3,bF,iN 129]),
 (1582,[.str [97,112,112,48],.str [105,100,48],.str [97,112,112,48],.str [105,100,49],.str [97,112,112,49],.str [105,100,50]]),
 (14511,[.str [97,112,112,48],.str [105,100,48],iN 1,iN 0,iN 30,iN 0,iN 0,iN 1,bF,.str [97,112,112,48],.str [105,100,49],iN 1,iN 0,iN 30,iN 0,iN 0,iN 2,bF,.str [97,112,112,49],.str [105,100,50],iN 1,iN 0,iN 30,iN 0,iN 0,iN 3,bF]),
 (15078,[.str [97,112,112,48],.str [105,100,48],iN 1,iN 0,iN 30,iN 0,iN 0,iN 1,bF,.str [97,112,112,48],.str [105,100,49],iN 1,iN 0,iN 30,iN 0,iN 0,iN 2,bF,.str [97,112,112,49],.str [105,100,50],iN 1,iN 0,iN 30,iN 0,iN 0,iN 3,bF])]
def s3_3w : AVal := .ptr 40 0
def s3_3n : Nat := 23169
def s3_3 : List (Nat × List AVal) := [(0,[iN 200,iN 2,iN 202,iN 202]),
 (1,[.slice 0 0 4 4 1 true]),
 (2,[.slice 14 0 1 1 1 false,.slice 38 0 3 3 1 false,.ptr 1 0]),
 (6,[iN 32,.slice 1578 0 3 3 10 false]),
 (7,[iN 180,iN 12,iN 4]),
 (8,[iN 3,.slice 1582 0 3 3 2 false]),
 (9,[iN 0,iN 0,iN 0,iN 3,.ptr 6 0,.ptr 7 0,.ptr 8 0]),
 (10,[nS,.slice 11 0 0 0 1 true,iN 0]),
 (11,[]),
 (12,[iN 200,iN 200,nS,iN 0,.ptr 9 0,.ptr 10 0]),
 (14,[.ptr 12 0]),
 (18,[iN 0]),
 (19,[.slice 631 0 1 1 9 true,iN 1]),
 (20,[.str [97,112,112,48],.str [105,100,48],.slice 18 0 1 1 1 false,iN 0,iN 2,.ptr 19 0,.slice 43 3 0 0 3 false,bT,iN 1,iN 30,iN 1,bT,bF,iN 1,iN 5,iN 0,iN 0,iN 2,iN 0,.int .i64 (.negSucc 0),.str [],.str [],bF,.int .u32 (.ofNat 0),nS,nS,iN 2,bT,iN 1,bT,iN 2]),
 (26,[iN 0]),
 (27,[.slice 22489 0 3 3 9 true,iN 3]),
 (28,[.str [97,112,112,48],.str [105,100,49],.slice 26 0 1 1 1 false,iN 0,iN 202,.ptr 27 0,.slice 668 3 0 0 3 false,bT,iN 1,iN 30,iN 1,bT,bF,iN 1,iN 5,iN 0,iN 0,iN 30,iN 0,iN 3,.str [],.str [],bF,.int .u32 (.ofNat 0),nS,nS,iN 202,bT,iN 201,bT,iN 202]),
 (34,[iN 0]),
 (35,[.slice 23056 0 3 3 9 true,iN 3]),
 (36,[.str [97,112,112,49],.str [105,100,50],.slice 34 0 1 1 1 false,iN 0,iN 202,.ptr 35 0,.slice 1458 3 0 0 3 false,bT,iN 1,iN 30,iN 1,bT,bF,iN 1,iN 5,iN 0,iN 0,iN 30,iN 0,iN 3,.str [],.str [],bF,.int .u32 (.ofNat 0),nS,nS,iN 202,bT,iN 201,bT,iN 202]),
 (38,[.ptr 20 0,.ptr 28 0,.ptr 36 0]),
 (39,[iN 4,.slice 141 0 0 1 3 false,bF,bF,bF,bF,bF,bF,bF,bF,bF,bF,bF,bF,bF,bF,bF,bF,bF,bF,bF,bF,bF,bF,bF,bF,bF,bF,bF,bF,bF,bF,bF,bF,bF,bF,bF,bF]),
 (40,[.ptr 2 0,.ptr 39 0]),
 (43,[iN 1,iN 30,iN 1]),
 (141,[iN 0,iN 0,nS]),
 (631,[.str [97,112,112,48],.str [105,100,48],iN 1,iN 0,iN 30,iN 0,iN 0,iN 1,bF]),
 (668,[iN 1,iN 30,iN 1]),
 (1458,[iN 1,iN 30,iN 1]),
 (1578,[.str [97,112,112,48],.str [105,100,48],iN 1,iN 0,iN 30,iN 0,iN 0,iN 1,bF,iN 0,.str [97,112,112,48],.str [105,100,49],iN 1,iN 0,iN 30,iN 0,iN 0,iN 2,bF,iN 199,.str [97,112,112,49],.str [105,100,50],iN 1,iN 0,iN 30,iN 0,iN 0,iN 3,bF,iN 199]),
 (1582,[.str [97,112,112,48],.str [105,100,48],.str [97,112,112,48],.str [105,100,49],.str [97,112,112,49],.str [105,100,50]]),
 (22489,[.str [97,112,112,48],.str [105,100,48],iN 1,iN 0,iN 30,iN 0,iN 0,iN 1,bF,.str [97,112,112,48],.str [105,100,49],iN 1,iN 0,iN 30,iN 0,iN 0,iN 2,bF,.str [97,112,112,49],.str [105,100,50],iN 1,iN 0,iN 30,iN 0,iN 0,iN 3,bF]),
 (23056,[.str [97,112,112,48],.str [105,100,48],iN 1,iN 0,iN 30,iN 0,iN 0,iN 1,bF,.str [97,112,112,48],.str [105,100,49],iN 1,iN 0,iN 30,iN 0,iN 0,iN 2,bF,.str [97,112,112,49],.str [105,100,50],iN 1,iN 0,iN 30,iN 0,iN 0,iN 3,bF])]
def s4_0w : AVal := .ptr 48 0
def s4_0n : Nat := 3550
def s4_0 : List (Nat × List AVal) := [(0,[iN 0,iN 2,iN 2,iN 2,iN 2]),
 (1,[.slice 0 0 5 5 1 true]),
 (2,[.slice 14 0 1 1 1 false,.slice 46 0 4 4 1 false,.ptr 1 0]),
 (6,[iN 32,.slice 2546 0 4 4 10 false]),
 (7,[iN 0,iN 0,iN 0]),
 (8,[iN 4,.slice 2550 0 4 4 2 false]),
 (9,[iN 0,iN 0,iN 0,iN 4,.ptr 6 0,.ptr 7 0,.ptr 8 0]),
 (10,[nS,.slice 11 0 0 0 1 true,iN 0]),
 (11,[]),
 (12,[iN 0,iN 0,nS,iN 0,.ptr 9 0,.ptr 10 0]),
 (14,[.ptr 12 0]),
 (18,[iN 0]),
 (19,[.slice 639 0 1 1 9 true,iN 1]),
 (20,[.str [97,112,112,48],.str [105,100,48],.slice 18 0 1 1 1 false,iN 0,iN 2,.ptr 19 0,.slice 51 3 0 0 3 false,bT,iN 1,iN 30,iN 1,bT,bF,iN 1,iN 5,iN 0,iN 0,iN 2,iN 0,.int .i64 (.negSucc 0),.str [],.str [],bF,.int .u32 (.ofNat 0),nS,nS,iN 2,bT,iN 1,bT,iN 2]),
 (26,[iN 0]),
 (27,[.slice 1393 0 2 2 9 true,iN 2]),
 (28,[.str [97,112,112,48],.str [105,100,49],.slice 26 0 1 1 1 false,iN 0,iN 2,.ptr 27 0,.slice 676 3 0 0 3 false,bT,iN 1,iN 30,iN 1,bT,bF,iN 1,iN 5,iN 0,iN 0,iN 2,iN 0,.int .i64 (.negSucc 0),.str [],.str [],bF,.int .u32 (.ofNat 0),nS,nS,iN 2,bT,iN 1,bT,iN 2]),
 (34,[iN 0]),
 (35,[.slice 2315 0 3 3 9 true,iN 3]),
 (36,[.str [97,112,112,49],.str [105,100,50],.slice 34 0 1 1 1 false,iN 0,iN 2,.ptr 35 0,.slice 1466 3 0 0 3 false,bT,iN 1,iN 30,iN 1,bT,bF,iN 1,iN 5,iN 0,iN 0,iN 2,iN 0,.int .i64 (.negSucc 0),.str [],.str [],bF,.int .u32 (.ofNat 0),nS,nS,iN 2,bT,iN 1,bT,iN 2]),
 (42,[iN 0]),
 (43,[.slice 3407 0 4 4 9 true,iN 4]),
 (44,[.str [97,112,112,49],.str [105,100,51],.slice 42 0 1 1 1 false,iN 0,iN 2,.ptr 43 0,.slice 2424 3 0 0 3 false,bT,iN 1,iN 30,iN 1,bT,bF,iN 1,iN 5,iN 0,iN 0,iN 2,iN 0,.int .i64 (.negSucc 0),.str [],.str [],bF,.int .u32 (.ofNat 0),nS,nS,iN 2,bT,iN 1,bT,iN 2]),
 (46,[.ptr 20 0,.ptr 28 0,.ptr 36 0,.ptr 44 0]),
 (47,[iN 5,.slice 149 0 0 1 3 false,bF,bF,bF,bF,bF,bF,bF,bF,bF,bF,bF,bF,bF,bF,bF,bF,bF,bF,bF,bF,bF,bF,bF,bF,bF,bF,bF,bF,bF,bF,bF,bF,bF,bF,bF,bF]),
 (48,[.ptr 2 0,.ptr 47 0]),
 (51,[iN 1,iN 30,iN 1]),
 (149,[iN 0,iN 0,nS]),
 (639,[.str [97,112,112,48],.str [105,100,48],iN 1,iN 0,iN 30,iN 0,iN 0,iN 1,bF]),
 (676,[iN 1,iN 30,iN 1]),
 (1393,[.str [97,112,112,48],.str [105,100,48],iN 1,iN 0,iN 30,iN 0,iN 0,iN 1,bF,.str [97,112,112,48],.str [105,100,49],iN 1,iN 0,iN 30,iN 0,iN 0,iN 2,bF]),
 (1466,[iN 1,iN 30,iN 1]),
 (2315,[.str [97,112,112,48],.str [105,100,48],iN 1,iN 0,iN 30,iN 0,iN 0,iN 1,bF,.str [97,112,112,48],.str [105,100,49],iN 1,iN 0,iN 30,iN 0,iN 0,iN 2,bF,.str [97,112,112,49],.str [105,100,50],iN 1,iN 0,iN 30,iN 0,iN 0,iN 3,bF]),
 (2424,[iN 1,iN 30,iN 1]),
 (2546,[.str [97,112,112,48],.str [105,100,48],iN 1,iN 0,iN 30,iN 0,iN 0,iN 1,bF,iN 0,.str [97,112,112,48],.str [105,100,49],iN 1,iN 0,iN 30,iN 0,iN 0,iN 2,bF,iN 0,.str [97,112,112,49],.str [105,100,50],iN 1,iN 0,iN 30,iN 0,iN 0,iN 3,bF,iN 0,.str [97,112,112,49],.str [105,100,51],iN 1,iN 0,iN 30,iN 0,iN 0,iN 4,bF,iN 0]),
 (2550,[.str [97,112,112,48],.str [105,100,48],.str [97,112,112,48],.str [105,100,49],.str [97,112,112,49],.str [105,100,50],.str [97,112,112,49],.str [105,100,51]]),
 (3407,[.str [97,112,112,48],.str [105,100,48],iN 1,iN 0,iN 30,iN 0,iN 0,iN 1,bF,.str [97,112,112,48],.str [105,100,49],iN 1,iN 0,iN 30,iN 0,iN 0,iN 2,bF,.str [97,112,112,49],.str [105,100,50],iN 1,iN 0,iN 30,iN 0,iN 0,iN 3,bF,.str [97,112,112,49],.str [105,100,51],iN 1,iN 0,iN 30,iN 0,iN 0,iN 4,bF])]
def s4_1w : AVal := .ptr 48 0
def s4_1n : Nat := 12190
def s4_1 : List (Nat × List AVal) := [(0,[iN 50,iN 2,iN 52,iN 52,iN 52]),
 (1,[.slice 0 0 5 5 1 true]),
 (2,[.slice 14 0 1 1 1 false,.slice 46 0 4 4 1 false,.ptr 1 0]),
 (6,[iN 32,.slice 2546 0 4 4 10 false]),
 (7,[iN 0,iN 0,iN 15]),
 (8,[iN 4,.slice 2550 0 4 4 2 false]),
 (9,[iN 0,iN 0,iN 0,iN 4,.ptr 6 0,.ptr 7 0,.ptr 8 0]),
 (10,[nS,.slice 11 0 0 0 1 true,iN 0]),
 (11,[]),
 (12,[iN 50,iN 40,nS,iN 0,.ptr 9 0,.ptr 10 0]),
 (14,[.ptr 12 0]),
 (18,[iN 0]),
 (19,[.slice 639 0 1 1 9 true,iN 1]),
 (20,[.str [97,112,112,48],.str [105,100,48],.slice 18 0 1 1 1 false,iN 0,iN 2,.ptr 19 0,.slice 51 3 0 0 3 false,bT,iN 1,iN 30,iN 1,bT,bF,iN 1,iN 5,iN 0,iN 0,iN 2,iN 0,.int .i64 (.negSucc 0),.str [],.str [],bF,.int .u32 (.ofNat 0),nS,nS,iN 2,bT,iN 1,bT,iN 2]),
 (26,[iN 0]),
 (27,[.slice 10675 0 4 4 9 true,iN 4]),
 (28,[.str [97,112,112,48],.str [105,100,49],.slice 26 0 1 1 1 false,iN 0,iN 52,.ptr 27 0,.slice 676 3 0 0 3 false,bT,iN 1,iN 30,iN 1,bT,bF,iN 1,iN 5,iN 0,iN 0,iN 9,iN 0,iN 4,.str [],.str [],bF,.int .u32 (.ofNat 0),nS,nS,iN 52,bT,iN 51,bT,iN 52]),
 (34,[iN 0]),
 (35,[.slice 11357 0 4 4 9 true,iN 4]),
 (36,[.str [97,112,112,49],.str [105,100,50],.slice 34 0 1 1 1 false,iN 0,iN 52,.ptr 35 0,.slice 1466 3 0 0 3 false,bT,iN 1,iN 30,iN 1,bT,bF,iN 1,iN 5,iN 0,iN 0,iN 9,iN 0,iN 4,.str [],.str [],bF,.int .u32 (.ofNat 0),nS,nS,iN 52,bT,iN 51,bT,iN 52]),
 (42,[iN 0]),
 (43,[.slice 12039 0 4 4 9 true,iN 4]),
 (44,[.str [97,112,112,49],.str [105,100,51],.slice 42 0 1 1 1 false,iN 0,iN 52,.ptr 43 0,.slice 2424 3 0 0 3 false,bT,iN 1,iN 30,iN 1,bT,bF,iN 1,iN 5,iN 0,iN 0,iN 9,iN 0,iN 4,.str [],.str [],bF,.int .u32 (.ofNat 0),nS,nS,iN 52,bT,iN 51,bT,iN 52]),
 (46,[.ptr 20 0,.ptr 28 0,.ptr 36 0,.ptr 44 0]),
 (47,[iN 5,.slice 149 0 0 1 3 false,bF,bF,bF,bF,bF,bF,bF,bF,bF,bF,bF,bF,bF,bF,bF,bF,bF,bF,bF,bF,bF,bF,bF,bF,bF,bF,bF,bF,bF,bF,bF,bF,bF,bF,bF,bF]),
 (48,[.ptr 2 0,.ptr 47 0]),
 (51,[iN 1,iN 30,iN 1]),
 (149,[iN 0,iN 0,nS]),
 (639,[.str [97,112,112,48],.str [105,100,48],iN 1,iN 0,iN 30,iN 0,iN 0,iN 1,bF]),
 (676,[iN 1,iN 30,iN 1]),
 (1466,[iN 1,iN 30,iN 1]),
 (2424,[iN 1,iN 30,iN 1]),
 (2546,[.str [97,112,112,48],.str [105,100,48],iN 1,iN 0,iN 30,iN 0,iN 0,iN 1,bF,iN 0,.str [97,112,112,48],.str [105,100,49],iN 1,iN 0,iN 30,iN 0,iN 0,iN 2,bF,iN 49,.str [97,112,112,49],.str [105,100,50],iN 1,iN 0,iN 30,iN 0,iN 0,iN 3,bF,iN 49,.str [97,112,112,49],.str [105,100,51],iN 1,iN 0,iN 30,iN 0,iN 0,iN 4,bF,iN 49]),
 (2550,[.str [97,112,112,48],.str [105,100,48],.str [97,112,112,48],.str [105,100,49],.str [97,112,112,49],.str [105,100,50],.str [97,112,112,49],.str [105,100,51]]),
 (10675,[.str [97,112,112,48],.str [105,100,48],iN 1,iN 0,iN 30,iN 0,iN 0,iN 1,bF,.str [97,112,112,48],.str [105,100,49],iN 1,iN 0,iN 30,iN 0,iN 0,iN 2,bF,.str [97,112,112,49],.str [105,100,50],iN 1,iN 0,iN 30,iN 0,iN 0,iN 3,bF,.str [97,112,112,49],.str [105,100,51],iN 1,iN 0,iN 30,iN 0,iN 0,iN 4,bF]),
 (11357,[.str [97,112,112,48],.str [105,100,48],iN 1,iN 0,iN 30,iN 0,iN 0,iN 1,bF,.str [97,112,112,48],.str [105,100,49],iN 1,iN 0,iN 30,iN 0,iN 0,iN 2,bF,.str [97,112,112,49],.str [105,100,50],iN 1,iN 0,iN 30,iN 0,iN 0,iN 3,bF,.str [97,112,112,49],.str [105,100,51],iN 1,iN 0,iN 30,iN 0,iN 0,iN 4,bF]),
 (12039,[.str [97,112,112,48],.str [105,100,48],iN 1,iN 0,iN 30,iN 0,iN 0,iN 1,bF,.str [97,112,112,48],.str [105,100,49],iN 1,iN 0,iN 30,iN 0,iN 0,iN 2,bF,.str [97,112,112,49],.str [105,100,50],iN 1,iN 0,iN 30,iN 0,iN 0,iN 3,bF,.str [97,112,112,49],.str [105,100,51],iN 1,iN 0,iN 30,iN 0,iN 0,iN 4,bF])]
def s4_2w : AVal := .ptr 48 0
def s4_2n : Nat := 20541
def s4_2 : List (Nat × List AVal) := [(0,[iN 100,iN 2,iN 102,iN 102,iN 102]),
 (1,[.slice 0 0 5 5 1 true]),
 (2,[.slice 14 0 1 1 1 false,.slice 46 0 4 4 1 false,.ptr 1 0]),
 (6,[iN 32,.slice 2546 0 4 4 10 false]),
 (7,[iN 60,iN 18,iN 12]),
 (8,[iN 4,.slice 2550 0 4 4 2 false]),
 (9,[iN 0,iN 0,iN 0,iN 4,.ptr 6 0,.ptr 7 0,.ptr 8 0]),
 (10,[nS,.slice 11 0 0 0 1 true,iN 0]),
 (11,[]),
 (12,[iN 100,iN 100,nS,iN 0,.ptr 9 0,.ptr 10 0]),
 (14,[.ptr 12 0]),
 (18,[iN 0]),
 (19,[.slice 639 0 1 1 9 true,iN 1]),
 (20,[.str [97,112,112,48],.str [105,100,48],.slice 18 0 1 1 1 false,iN 0,iN 2,.ptr 19 0,.slice 51 3 0 0 3 false,bT,iN 1,iN 30,iN 1,bT,bF,iN 1,iN 5,iN 0,iN 0,iN 2,iN 0,.int .i64 (.negSucc 0),.str [],.str [],bF,.int .u32 (.ofNat 0),nS,nS,iN 2,bT,iN 1,bT,iN 2]),
 (26,[iN 0]),
 (27,[.slice 19026 0 4 4 9 true,iN 4]),
 (28,[.str [97,112,112,48],.str [105,100,49],.slice 26 0 1 1 1 false,iN 0,iN 102,.ptr 27 0,.slice 676 3 0 0 3 false,bT,iN 1,iN 30,iN 1,bT,bF,iN 1,iN 5,iN 0,iN 0,iN 16,iN 0,iN 4,.str [],.str [],bF,.int .u32 (.ofNat 0),nS,nS,iN 102,bT,iN 101,bT,iN 102]),
 (34,[iN 0]),
 (35,[.slice 19708 0 4 4 9 true,iN 4]),
 (36,[.str [97,112,112,49],.str [105,100,50],.slice 34 0 1 1 1 false,iN 0,iN 102,.ptr 35 0,.slice 1466 3 0 0 3 false,bT,iN 1,iN 30,iN 1,bT,bF,iN 1,iN 5,iN 0,iN 0,iN 16,iN 0,iN 4,.str [],.str [],bF,.int .u32 (.ofNat 0),nS,nS,iN 102,bT,iN 101,bT,iN 102]),
 (42,[iN 0]),
 (43,[.slice 20390 0 4 4 9 true,iN 4]),
 (44,[.str [97,112,112,49],.str [105,100,51],.slice 42 0 1 1 1 false,iN 0,iN 102,.ptr 43 0,.slice 2424 3 0 0 3 false,bT,iN 1,iN 30,iN 1,bT,bF,iN 1,iN 5,iN 0,iN 0,iN 16,iN 0,iN 4,.str [],.str [],bF,.int .u32 (.ofNat 0),nS,nS,iN 102,bT,iN 101,bT,iN 102]),
 (46,[.ptr 20 0,.ptr 28 0,.ptr 36 0,.ptr 44 0]),
 (47,[iN 5,.slice 149 0 0 1 3 false,bF,bF,bF,bF,bF,bF,bF,bF,bF,bF,bF,bF,bF,bF,bF,bF,bF,bF,bF,bF,bF,bF,bF,bF,bF,bF,bF,bF,bF,bF,bF,bF,bF,bF,bF,bF]),
 (48,[.ptr 2 0,.ptr 47 0]),
 (51,[iN 1,iN 30,iN 1]),
 (149,[iN 0,iN 0,nS]),
 (639,[.str [97,112,112,48],.str [105,100,48],iN 1,iN 0,iN 30,iN 0,iN 0,iN 1,bF]),
 (676,[iN 1,iN 30,iN 1]),
 (1466,[iN 1,iN 30,iN 1]),
 (2424,[iN 1,iN 30,iN 1]),
 (2546,[.str [97,112,112,48],.str [105,100,48],iN 1,iN 0,iN 30,iN 0,iN 0,iN 1,bF,iN 0,.str [97,112,112,48],.str [105,100,49],iN 1,iN 0,iN 30,iN 0,iN 0,iN 2,bF,iN 99,.str [97,112,112,49],.str [105,100,50],iN 1,iN 0,iN 30,iN 0,iN 0,iN 3,bF,iN 99,.str [97,112,112,49],.str [105,100,51],iN 1,iN 0,iN 30,iN 0,iN 0,iN 4,bF,iN 99]),
 (2550,[.str [97,112,112,48],.str [105,100,48],.str [97,112,112,48],.str [105,100,49],.str [97,112,112,49],.str [105,100,50],.str [97,112,112,49],.str [105,100,51]]),
 (19026,[.str [97,112,112,48],.str [105,100,48],iN 1,iN 0,iN 30,iN 0,iN 0,iN 1,bF,.str [97,112,112,48],.str [105,100,49],iN 1,iN 0,iN 30,iN 0,iN 0,iN 2,bF,.str [97,112,112,49],.str [105,100,50],iN 1,iN 0,iN 30,iN 0,iN 0,iN 3,bF,.str [97,112,112,49],.str [105,100,51],iN 1,iN 0,iN 30,iN 0,iN 0,iN 4,bF]),
 (19708,[.str [97,112,112,48],.str [105,100,48],iN 1,iN 0,iN 30,iN 0,iN 0,iN 1,bF,.str [97,112,112,48],.str [105,100,49],iN 1,iN 0,iN 30,iN 0,iN 0,iN 2,bF,.str [97,112,112,49],.str [105,100,50],iN 1,iN 0,iN 30,iN 0,iN 0,iN 3,bF,.str [97,112,112,49],.str [105,100,51],iN 1,iN 0,iN 30,iN 0,iN 0,iN 4,bF]),
 (20390,[.str [97,112,112,48],.str [105,100,48],iN 1,iN 0,iN 30,iN 0,iN 0,iN 1,bF,.str [97,112,112,48],.str [105,100,49],iN 1,iN 0,iN 30,iN 0,iN 0,iN 2,bF,.str [97,112,112,49],.str [105,100,50],iN 1,iN 0,iN 30,iN 0,iN 0,iN 3,bF,.str [97,112,112,49],.str [105,100,51],iN 1,iN 0,iN 30,iN 0,iN 0,iN 4,bF])]
def s4_3w : AVal := .ptr 48 0
def s4_3n : Nat := 28890
def s4_3 : List (Nat × List AVal) := [(0,[iN 150,iN 2,iN 152,iN 152,iN 152]),
 (1,[.slice 0 0 5 5 1 true]),
 (2,[.slice 14 0 1 1 1 false,.slice 46 0 4 4 1 false,.ptr 1 0]),
 (6,[iN 32,.slice 2546 0 4 4 10 false]),
 (7,[iN 120,iN 18,iN 9]),
 (8,[iN 4,.slice 2550 0 4 4 2 false]),
 (9,[iN 0,iN 0,iN 0,iN 4,.ptr 6 0,.ptr 7 0,.ptr 8 0]),
 (10,[nS,.slice 11 0 0 0 1 true,iN 0]),
 (11,[]),
 (12,[iN 150,iN 140,nS,iN 0,.ptr 9 0,.ptr 10 0]),
 (14,[.ptr 12 0]),
 (18,[iN 0]),
 (19,[.slice 639 0 1 1 9 true,iN 1]),
 (20,[.str [97,112,112,48],.str [105,100,48],.slice 18 0 1 1 1 false,iN 0,iN 2,.ptr 19 0,.slice 51 3 0 0 3 false,bT,iN 1,iN 30,iN 1,bT,bF,iN 1,iN 5,iN 0,iN 0,iN 2,iN 0,.int .i64 (.negSucc 0),.str [],.str [],bF,.int .u32 (.ofNat 0),nS,nS,iN 2,bT,iN 1,bT,iN 2]),
 (26,[iN 0]),
 (27,[.slice 27375 0 4 4 9 true,iN 4]),
 (28,[.str [97,112,112,48],.str [105,100,49],.slice 26 0 1 1 1 false,iN 0,iN 152,.ptr 27 0,.slice 676 3 0 0 3 false,bT,iN 1,iN 30,iN 1,bT,bF,iN 1,iN 5,iN 0,iN 0,iN 23,iN 0,iN 4,.str [],.str [],bF,.int .u32 (.ofNat 0),nS,nS,iN 152,bT,iN 151,bT,iN 152]),
 (34,[iN 0]),
 (35,[.slice 28057 0 4 4 9 true,iN 4]),
 (36,[.str [97,112,112,49],.str [105,100,50],.slice 34 0 1 1 1 false,iN 0,iN 152,.ptr 35 0,.slice 1466 3 0 0 3 false,bT,iN 1,iN 30,iN 1,bT,bF,iN 1,iN 5,iN 0,iN 0,iN 23,iN 0,iN 4,.str [],.str [],bF,.int .u32 (.ofNat 0),nS,nS,iN 152,bT,iN 151,bT,iN 152]),
 (42,[iN 0]),
 (43,[.slice 28739 0 4 4 9 true,iN 4]),
 (44,[.str [97,112,112,49],.str [105,100,51],.slice 42 0 1 1 1 false,iN 0,iN 152,.ptr 43 0,.slice 2424 3 0 0 3 false,bT,iN 1,iN 30,iN 1,bT,bF,iN 1,iN 5,iN 0,iN 0,iN 23,iN 0,iN 4,.str [],.str [],bF,.int .u32 (.ofNat 0),nS,nS,iN 152,bT,iN 151,bT,iN 152]),
 (46,[.ptr 20 0,.ptr 28 0,.ptr 36 0,.ptr 44 0]),
 (47,[iN 5,.slice 149 0 0 1 3 false,bF,bF,bF,bF,bF,bF,bF,bF,bF,bF,bF,bF,bF,bF,bF,bF,bF,bF,bF,bF,bF,bF,bF,bF,bF,bF,bF,bF,bF,bF,bF,bF,bF,bF,bF,bF]),
 (48,[.ptr 2 0,.ptr 47 0]),
 (51,[iN 1,iN 30,iN 1]),
 (149,[iN 0,iN 0,nS]),
 (639,[.str [97,112,112,48],.str [105,100,48],iN 1,iN 0,iN 30,iN 0,iN 0,iN 1,bF]),
 (676,[iN 1,iN 30,iN 1]),
 (1466,[iN 1,iN 30,iN 1]),
 (2424,[iN 1,iN 30,iN 1]),
 (2546,[.str [97,112,112,48],.str [105,100,48],iN 1,iN 0,iN 30,iN 0,iN 0,iN 1,bF,iN 0,.str [97,112,112,48],.str [105,100,49],iN 1,iN 0,iN 30,iN 0,iN 0,iN 2,bF,iN 149,.str [97,112,112,49],.str [105,100,50],iN 1,iN 0,iN 30,iN 0,iN 0,iN 3,bF,iN 149,.str [97,112,112,49],.str [105,100,51],iN 1,iN 0,iN 30,iN 0,iN 0,iN 4,bF,iN 149]),
 (2550,[.str [97,112,112,48],.str [105,100,48],.str [97,112,112,48],.str [105,100,49],.str [97,112,112,49],.str [105,100,50],.str [97,112,112,49],.str [105,100,51]]),
 (27375,[.str [97,112,112,48],.str [105,100,48],iN 1,iN 0,iN 30,iN 0,iN 0,iN 1,bF,.str [97,112,112,48],.str [105,100,49],iN 1,iN 0,iN 30,iN 0,iN 0,iN 2,bF,.str [97,112,112,49],.str [105,100,50],iN 1,iN 0,iN 30,iN 0,iN 0,iN 3,bF,.str [97,112,112,49],.str [105,100,51],iN 1,iN 0,iN 30,iN 0,iN 0,iN 4,bF]),
 (28057,[.str [97,112,112,48],.str [105,100,48],iN 1,iN 0,iN 30,iN 0,iN 0,iN 1,bF,.str [97,112,112,48],.str [105,100,49],iN 1,iN 0,iN 30,iN 0,iN 0,iN 2,bF,.str [97,112,112,49],.str [105,100,50],iN 1,iN 0,iN 30,iN 0,iN 0,iN 3,bF,.str [97,112,112,49],.str [105,100,51],iN 1,iN 0,iN 30,iN 0,iN 0,iN 4,bF]),
 (28739,[.str [97,112,112,48],.str [105,100,48],iN 1,iN 0,iN 30,iN 0,iN 0,iN 1,bF,.str [97,112,112,48],.str [105,100,49],iN 1,iN 0,iN 30,iN 0,iN 0,iN 2,bF,.str [97,112,112,49],.str [105,100,50],iN 1,iN 0,iN 30,iN 0,iN 0,iN 3,bF,.str [97,112,112,49],.str [105,100,51],iN 1,iN 0,iN 30,iN 0,iN 0,iN 4,bF])]
def s4_4w : AVal := .ptr 48 0
def s4_4n : Nat := 37241
def s4_4 : List (Nat × List AVal) := [(0,[iN 200,iN 2,iN 202,iN 202,iN 202]),
 (1,[.slice 0 0 5 5 1 true]),
 (2,[.slice 14 0 1 1 1 false,.slice 46 0 4 4 1 false,.ptr 1 0]),
 (6,[iN 32,.slice 2546 0 4 4 10 false]),
 (7,[iN 180,iN 18,iN 6]),
 (8,[iN 4,.slice 2550 0 4 4 2 false]),
 (9,[iN 0,iN 0,iN 0,iN 4,.ptr 6 0,.ptr 7 0,.ptr 8 0]),
 (10,[nS,.slice 11 0 0 0 1 true,iN 0]),
 (11,[]),
 (12,[iN 200,iN 200,nS,iN 0,.ptr 9 0,.ptr 10 0]),
 (14,[.ptr 12 0]),
 (18,[iN 0]),
 (19,[.slice 639 0 1 1 9 true,iN 1]),
 (20,[.str [97,112,112,48],.str [105,100,48],.slice 18 0 1 1 1 false,iN 0,iN 2,.ptr 19 0,.slice 51 3 0 0 3 false,bT,iN 1,iN 30,iN 1,bT,bF,iN 1,iN 5,iN 0,iN 0,iN 2,iN 0,.int .i64 (.negSucc 0),.str [],.str [],bF,.int .u32 (.ofNat 0),nS,nS,iN 2,bT,iN 1,bT,iN 2]),
 (26,[iN 0]),
 (27,[.slice 35726 0 4 4 9 true,iN 4]),
 (28,[.str [97,112,112,48],.str [105,100,49],.slice 26 0 1 1 1 false,iN 0,iN 202,.ptr 27 0,.slice 676 3 0 0 3 false,bT,iN 1,iN 30,iN 1,bT,bF,iN 1,iN 5,iN 0,iN 0,iN 30,iN 0,iN 4,.str [],.str [],bF,.int .u32 (.ofNat 0),nS,nS,iN 202,bT,iN 201,bT,iN 202]),
 (34,[iN 0]),
 (35,[.slice 36408 0 4 4 9 true,iN 4]),
 (36,[.str [97,112,112,49],.str [105,100,50],.slice 34 0 1 1 1 false,iN 0,iN 202,.ptr 35 0,.slice 1466 3 0 0 3 false,bT,iN 1,iN 30,iN 1,bT,bF,iN 1,iN 5,iN 0,iN 0,iN 30,iN 0,iN 4,.str [],.str [],bF,.int .u32 (.ofNat 0),nS,nS,iN 202,bT,iN 201,bT,iN 202]),
 (42,[iN 0]),
 (43,[.slice 37090 0 4 4 9 true,iN 4]),
 (44,[.str [97,112,112,49],.str [105,100,51],.slice 42 0 1 1 1 false,iN 0,iN 202,.ptr 43 0,.slice 2424 3 0 0 3 false,bT,iN 1,iN 30,iN 1,bT,bF,iN 1,iN 5,iN 0,iN 0,iN 30,iN 0,iN 4,.str [],.str [],bF,.int .u32 (.ofNat 0),nS,nS,iN 202,bT,iN 201,bT,iN 202]),
 (46,[.ptr 20 0,.ptr 28 0,.ptr 36 0,.ptr 44 0]),
 (47,[iN 5,.slice 149 0 0 1 3 false,bF,bF,bF,bF,bF,bF,bF,bF,bF,bF,bF,bF,bF,bF,bF,bF,bF,bF,bF,bF,bF,bF,bF,bF,bF,bF,bF,bF,bF,bF,bF,bF,bF,bF,bF,bF]),
 (48,[.ptr 2 0,.ptr 47 0]),
 (51,[iN 1,iN 30,iN 1]),
 (149,[iN 0,iN 0,nS]),
 (639,[.str [97,112,112,48],.str [105,100,48],iN 1,iN 0,iN 30,iN 0,iN 0,iN 1,bF]),
 (676,[iN 1,iN 30,iN 1]),
 (1466,[iN 1,iN 30,iN 1]),
 (2424,[iN 1,iN 30,iN 1]),
 (2546,[.str [97,112,112,48],.str [105,100,48],iN 1,iN 0,iN 30,iN 0,iN 0,iN 1,bF,iN 0,.str [97,112,112,48],.str [105,100,49],iN 1,iN 0,iN 30,iN 0,iN 0,iN 2,bF,iN 199,.str [97,112,112,49],.str [105,100,50],iN 1,iN 0,iN 30,iN 0,iN 0,iN 3,bF,iN 199,.str [97,112,112,49],.str [105,100,51],iN 1,iN 0,iN 30,iN 0,iN 0,iN 4,bF,iN 199]),
 (2550,[.str [97,112,112,48],.str [105,100,48],.str [97,112,112,48],.str [105,100,49],.str [97,112,112,49],.str [105,100,50],.str [97,112,112,49],.str [105,100,51]]),
 (35726,[.str [97,112,112,48],.str [105,100,48],iN 1,iN 0,iN 30,iN 0,iN 0,iN 1,bF,.str [97,112,112,48],.str [105,100,49],iN 1,iN 0,iN 30,iN 0,iN 0,iN 2,bF,.str [97,112,112,49],.str [105,100,50],iN 1,iN 0,iN 30,iN 0,iN 0,iN 3,bF,.str [97,112,112,49],.str [105,100,51],iN 1,iN 0,iN 30,iN 0,iN 0,iN 4,bF]),
 (36408,[.str [97,112,112,48],.str [105,100,48],iN 1,iN 0,iN 30,iN 0,iN 0,iN 1,bF,.str [97,112,112,48],.str [105,100,49],iN 1,iN 0,iN 30,iN 0,iN 0,iN 2,bF,.str [97,112,112,49],.str [105,100,50],iN 1,iN 0,iN 30,iN 0,iN 0,iN 3,bF,.str [97,112,112,49],.str [105,100,51],iN 1,iN 0,iN 30,iN 0,iN 0,iN 4,bF]),
 (37090,[.str [97,112,112,48],.str [105,100,48],iN 1,iN 0,iN 30,iN 0,iN 0,iN 1,bF,.str [97,112,112,48],.str [105,100,49],iN 1,iN 0,iN 30,iN 0,iN 0,iN 2,bF,.str [97,112,112,49],.str [105,100,50],iN 1,iN 0,iN 30,iN 0,iN 0,iN 3,bF,.str [97,112,112,49],.str [105,100,51],iN 1,iN 0,iN 30,iN 0,iN 0,iN 4,bF])]
def s5_0w : AVal := .ptr 56 0
def s5_0n : Nat := 4858
def s5_0 : List (Nat × List AVal) := [(0,[iN 0,iN 2,iN 2,iN 2,iN 2,iN 2]),
 (1,[.slice 0 0 6 6 1 true]),
 (2,[.slice 14 0 1 1 1 false,.slice 54 0 5 5 1 false,.ptr 1 0]),
 (6,[iN 32,.slice 3684 0 5 5 10 false]),
 (7,[iN 0,iN 0,iN 0]),
 (8,[iN 5,.slice 3688 0 5 5 2 false]),
 (9,[iN 0,iN 0,iN 0,iN 5,.ptr 6 0,.ptr 7 0,.ptr 8 0]),
 (10,[nS,.slice 11 0 0 0 1 true,iN 0]),
 (11,[]),
 (12,[iN 0,iN 0,nS,iN 0,.ptr 9 0,.ptr 10 0]),
 (14,[.ptr 12 0]),
 (18,[iN 0]),
 (19,[.slice 647 0 1 1 9 true,iN 1]),
 (20,[.str [97,112,112,48],.str [105,100,48],.slice 18 0 1 1 1 false,iN 0,iN 2,.ptr 19 0,.slice 59 3 0 0 3 false,bT,iN 1,iN 30,iN 1,bT,bF,iN 1,iN 5,iN 0,iN 0,iN 2,iN 0,.int .i64 (.negSucc 0),.str [],.str [],bF,.int .u32 (.ofNat 0),nS,nS,iN 2,bT,iN 1,bT,iN 2]),
 (26,[iN 0]),
 (27,[.slice 1401 0 2 2 9 true,iN 2]),
 (28,[.str [97,112,112,48],.str [105,100,49],.slice 26 0 1 1 1 false,iN 0,iN 2,.ptr 27 0,.slice 684 3 0 0 3 false,bT,iN 1,iN 30,iN 1,bT,bF,iN 1,iN 5,iN 0,iN 0,iN 2,iN 0,.int .i64 (.negSucc 0),.str [],.str [],bF,.int .u32 (.ofNat 0),nS,nS,iN 2,bT,iN 1,bT,iN 2]),
 (34,[iN 0]),
 (35,[.slice 2323 0 3 3 9 true,iN 3]),
 (36,[.str [97,112,112,49],.str [105,100,50],.slice 34 0 1 1 1 false,iN 0,iN 2,.ptr 35 0,.slice 1474 3 0 0 3 false,bT,iN 1,iN 30,iN 1,bT,bF,iN 1,iN 5,iN 0,iN 0,iN 2,iN 0,.int .i64 (.negSucc 0),.str [],.str [],bF,.int .u32 (.ofNat 0),nS,nS,iN 2,bT,iN 1,bT,iN 2]),
 (42,[iN 0]),
 (43,[.slice 3415 0 4 4 9 true,iN 4]),
 (44,[.str [97,112,112,49],.str [105,100,51],.slice 42 0 1 1 1 false,iN 0,iN 2,.ptr 43 0,.slice 2432 3 0 0 3 false,bT,iN 1,iN 30,iN 1,bT,bF,iN 1,iN 5,iN 0,iN 0,iN 2,iN 0,.int .i64 (.negSucc 0),.str [],.str [],bF,.int .u32 (.ofNat 0),nS,nS,iN 2,bT,iN 1,bT,iN 2]),
 (50,[iN 0]),
 (51,[.slice 4679 0 5 5 9 true,iN 5]),
 (52,[.str [97,112,112,50],.str [105,100,52],.slice 50 0 1 1 1 false,iN 0,iN 2,.ptr 51 0,.slice 3560 3 0 0 3 false,bT,iN 1,iN 30,iN 1,bT,bF,iN 1,iN 5,iN 0,iN 0,iN 2,iN 0,.int .i64 (.negSucc 0),.str [],.str [],bF,.int .u32 (.ofNat 0),nS,nS,iN 2,bT,iN 1,bT,iN 2]),
 (54,[.ptr 20 0,.ptr 28 0,.ptr 36 0,.ptr 44 0,.ptr 52 0]),
 (55,[iN 6,.slice 157 0 0 1 3 false,bF,bF,bF,bF,bF,bF,bF,bF,bF,bF,bF,bF,bF,bF,bF,bF,bF,bF,bF,bF,bF,bF,bF,bF,bF,bF,bF,bF,bF,bF,bF,bF,bF,bF,bF,bF]),
 (56,[.ptr 2 0,.ptr 55 0]),
 (59,[iN 1,iN 30,iN 1]),
 (157,[iN 0,iN 0,nS]),
 (647,[.str [97,112,112,48],.str [105,100,48],iN 1,iN 0,iN 30,iN 0,iN 0,iN 1,bF]),
 (684,[iN 1,iN 30,iN 1]),
 (1401,[.str [97,112,112,48],.str [105,100,48],iN 1,iN 0,iN 30,iN 0,iN 0,iN 1,bF,.str [97,112,112,48],.str [105,100,49],iN 1,iN 0,iN 30,iN 0,iN 0,iN 2,bF]),
 (1474,[iN 1,iN 30,iN 1]),
 (2323,[.str [97,112,112,48],.str [105,100,48],iN 1,iN 0,iN 30,iN 0,iN 0,iN 1,bF,.str [97,112,112,48],.str [105,100,49],iN 1,iN 0,iN 30,iN 0,iN 0,iN 2,bF,.str [97,112,112,49],.str [105,100,50],iN 1,iN 0,iN 30,iN 0,iN 0,iN 3,bF]),
 (2432,[iN 1,iN 30,iN 1]),
 (3415,[.str [97,112,112,48],.str [105,100,48],iN 1,iN 0,iN 30,iN 0,iN 0,iN 1,bF,.str [97,112,112,48],.str [105,100,49],iN 1,iN 0,iN 30,iN 0,iN 0,iN 2,bF,.str [97,112,112,49],.str [105,100,50],iN 1,iN 0,iN 30,iN 0,iN 0,iN 3,bF,.str [97,112,112,49],.str [105,100,51],iN 1,iN 0,iN 30,iN 0,iN 0,iN 4,bF]),
 (3560,[iN 1,iN 30,iN 1]),
 (3684,[.str [97,112,112,48],.str [105,100,48],iN 1,iN 0,iN 30,iN 0,iN 0,iN 1,bF,iN 0,.str [97,112,112,48],.str [105,100,49],iN 1,iN 0,iN 30,iN 0,iN 0,iN 2,bF,iN 0,.str [97,112,112,49],.str [105,100,50],iN 1,iN 0,iN 30,iN 0,iN 0,iN 3,bF,iN 0,.str [97,112,112,49],.str [105,100,51],iN 1,iN 0,iN 30,iN 0,iN 0,iN 4,bF,iN 0,.str [97,112,112,50],.str [105,100,52],iN 1,iN 0,iN 30,iN 0,iN 0,iN 5,bF,iN 0]),
 (3688,[.str [97,112,112,48],.str [105,100,48],.str [97,112,112,48],.str [105,100,49],.str [97,112,112,49],.str [105,100,50],.str [97,112,112,49],.str [105,100,51],.str [97,112,112,50],.str [105,100,52]]),
 (4679,[.str [97,112,112,48],.str [105,100,48],iN 1,iN 0,iN 30,iN 0,iN 0,iN 1,bF,.str [97,112,112,48],.str [105,100,49],iN 1,iN 0,iN 30,iN 0,iN 0,iN 2,bF,.str [97,112,112,49],.str [105,100,50],iN 1,iN 0,iN 30,iN 0,iN 0,iN 3,bF,.str [97,112,112,49],.str [105,100,51],iN 1,iN 0,iN 30,iN 0,iN 0,iN 4,bF,.str [97,112,112,50],.str [105,100,52],iN 1,iN 0,iN 30,iN 0,iN 0,iN 5,bF])]
def s5_1w : AVal := .ptr 56 0
def s5_1n : Nat := 13148
def s5_1 : List (Nat × List AVal) := [(0,[iN 40,iN 2,iN 42,iN 42,iN 42,iN 42]),
 (1,[.slice 0 0 6 6 1 true]),
 (2,[.slice 14 0 1 1 1 false,.slice 54 0 5 5 1 false,.ptr 1 0]),
 (6,[iN 32,.slice 3684 0 5 5 10 false]),
 (7,[iN 0,iN 0,iN 16]),
 (8,[iN 5,.slice 3688 0 5 5 2 false]),
 (9,[iN 0,iN 0,iN 0,iN 5,.ptr 6 0,.ptr 7 0,.ptr 8 0]),
 (10,[nS,.slice 11 0 0 0 1 true,iN 0]),
 (11,[]),
 (12,[iN 40,iN 40,nS,iN 0,.ptr 9 0,.ptr 10 0]),
 (14,[.ptr 12 0]),
 (18,[iN 0]),
 (19,[.slice 647 0 1 1 9 true,iN 1]),
 (20,[.str [97,112,112,48],.str [105,100,48],.slice 18 0 1 1 1 false,iN 0,iN 2,.ptr 19 0,.slice 59 3 0 0 3 false,bT,iN 1,iN 30,iN 1,bT,bF,iN 1,iN 5,iN 0,iN 0,iN 2,iN 0,.int .i64 (.negSucc 0),.str [],.str [],bF,.int .u32 (.ofNat 0),nS,nS,iN 2,bT,iN 1,bT,iN 2]),
 (26,[iN 0]),
 (27,[.slice 8110 0 5 5 9 true,iN 5]),
 (28,[.str [97,112,112,48],.str [105,100,49],.slice 26 0 1 1 1 false,iN 0,iN 42,.ptr 27 0,.slice 684 3 0 0 3 false,bT,iN 1,iN 30,iN 1,bT,bF,iN 1,iN 2,iN 0,iN 0,iN 7,iN 0,iN 0,.str [97,112,112,48],.str [105,100,49],bF,.int .u32 (.ofNat 0),nS,nS,iN 41,bT,iN 41,bT,iN 27]),
 (34,[iN 0]),
 (35,[.slice 9106 0 5 5 9 true,iN 5]),
 (36,[.str [97,112,112,49],.str [105,100,50],.slice 34 0 1 1 1 false,iN 0,iN 42,.ptr 35 0,.slice 1474 3 0 0 3 false,bT,iN 1,iN 30,iN 1,bT,bF,iN 1,iN 2,iN 0,iN 0,iN 7,iN 0,iN 0,.str [97,112,112,49],.str [105,100,50],bF,.int .u32 (.ofNat 0),nS,nS,iN 41,bT,iN 41,bT,iN 27]),
 (42,[iN 0]),
 (43,[.slice 10004 0 5 5 9 true,iN 5]),
 (44,[.str [97,112,112,49],.str [105,100,51],.slice 42 0 1 1 1 false,iN 0,iN 42,.ptr 43 0,.slice 2432 3 0 0 3 false,bT,iN 1,iN 30,iN 1,bT,bF,iN 1,iN 2,iN 0,iN 0,iN 7,iN 0,iN 0,.str [97,112,112,49],.str [105,100,51],bF,.int .u32 (.ofNat 0),nS,nS,iN 41,bT,iN 41,bT,iN 27]),
 (50,[iN 0]),
 (51,[.slice 10801 0 5 5 9 true,iN 5]),
 (52,[.str [97,112,112,50],.str [105,100,52],.slice 50 0 1 1 1 false,iN 0,iN 42,.ptr 51 0,.slice 3560 3 0 0 3 false,bT,iN 1,iN 30,iN 1,bT,bF,iN 1,iN 2,iN 0,iN 0,iN 7,iN 0,iN 0,.str [97,112,112,50],.str [105,100,52],bF,.int .u32 (.ofNat 0),nS,nS,iN 41,bT,iN 41,bT,iN 27]),
 (54,[.ptr 20 0,.ptr 28 0,.ptr 36 0,.ptr 44 0,.ptr 52 0]),
 (55,[iN 6,.slice 157 0 0 1 3 false,bF,bF,bF,bF,bF,bF,bF,bF,bF,bF,bF,bF,bF,bF,bF,bF,bF,bF,bF,bF,bF,bF,bF,bF,bF,bF,bF,bF,bF,bF,bF,bF,bF,bF,bF,bF]),
 (56,[.ptr 2 0,.ptr 55 0]),
 (59,[iN 1,iN 30,iN 1]),
 (157,[iN 0,iN 0,nS]),
 (647,[.str [97,112,112,48],.str [105,100,48],iN 1,iN 0,iN 30,iN 0,iN 0,iN 1,bF]),
 (684,[iN 1,iN 30,iN 1]),
 (1474,[iN 1,iN 30,iN 1]),
 (2432,[iN 1,iN 30,iN 1]),
 (3560,[iN 1,iN 30,iN 1]),
 (3684,[.str [97,112,112,48],.str [105,100,48],iN 1,iN 0,iN 30,iN 0,iN 0,iN 1,bF,iN 0,.str [97,112,112,48],.str [105,100,49],iN 1,iN 0,iN 30,iN 0,iN 0,iN 2,bF,iN 39,.str [97,112,112,49],.str [105,100,50],iN 1,iN 0,iN 30,iN 0,iN 0,iN 3,bF,iN 39,.str [97,112,112,49],.str [105,100,51],iN 1,iN 0,iN 30,iN 0,iN 0,iN 4,bF,iN 39,.str [97,112,112,50],.str [105,100,52],iN 1,iN 0,iN 30,iN 0,iN 0,iN 5,bF,iN 39]),
 (3688,[.str [97,112,112,48],.str [105,100,48],.str [97,112,112,48],.str [105,100,49],.str [97,112,112,49],.str [105,100,50],.str [97,112,112,49],.str [105,100,51],.str [97,112,112,50],.str [105,100,52]]),
 (8110,[.str [97,112,112,48],.str [105,100,48],iN 1,iN 0,iN 30,iN 0,iN 0,iN 1,bF,.str [97,112,112,48],.str [105,100,49],iN 1,iN 0,iN 30,iN 0,iN 0,iN 2,bF,.str [97,112,112,49],.str [105,100,50],iN 1,iN 0,iN 30,iN 0,iN 0,iN 3,bF,.str [97,112,112,49],.str [105,100,51],iN 1,iN 0,iN 30,iN 0,iN 0,iN 4,bF,.str [97,112,112,50],.str [105,100,52],iN 1,iN 0,iN 30,iN 0,iN 0,iN 5,bF]),
 (9106,[.str [97,112,112,48],.str [105,100,48],iN 1,iN 0,iN 30,iN 0,iN 0,iN 1,bF,.str [97,112,112,48],.str [105,100,49],iN 1,iN 0,iN 30,iN 0,iN 0,iN 2,bF,.str [97,112,112,49],.str [105,100,50],iN 1,iN 0,iN 30,iN 0,iN 0,iN 3,bF,.str [97,112,112,49],.str [105,100,51],iN 1,iN 0,iN 30,iN 0,iN 0,iN 4,bF,.str [97,112,112,50],.str [105,100,52],iN 1,iN 0,iN 30,iN 0,iN 0,iN 5,bF]),
 (10004,[.str [97,112,112,48],.str [105,100,48],iN 1,iN 0,iN 30,iN 0,iN 0,iN 1,bF,.str [97,112,112,48],.str [105,100,49],iN 1,iN 0,iN 30,iN 0,iN 0,iN 2,bF,.str [97,112,112,49],.str [105,100,50],iN 1,iN 0,iN 30,iN 0,iN 0,iN 3,bF,.str [97,112,112,49],.str [105,100,51],iN 1,iN 0,iN 30,iN 0,iN 0,iN 4,bF,.str [97,112,112,50],.str [105,100,52],iN 1,iN 0,iN 30,iN 0,iN 0,iN 5,bF]),
 (10801,[.str [97,112,112,48],.str [105,100,48],iN 1,iN 0,iN 30,iN 0,iN 0,iN 1,bF,.str [97,112,112,48],.str [105,100,49],iN 1,iN 0,iN 30,iN 0,iN 0,iN 2,bF,.str [97,112,112,49],.str [105,100,50],iN 1,iN 0,iN 30,iN 0,iN 0,iN 3,bF,.str [97,112,112,49],.str [105,100,51],iN 1,iN 0,iN 30,iN 0,iN 0,iN 4,bF,.str [97,112,112,50],.str [105,100,52],iN 1,iN 0,iN 30,iN 0,iN 0,iN 5,bF])]
def s5_2w : AVal := .ptr 56 0
def s5_2n : Nat := 24024
def s5_2 : List (Nat × List AVal) := [(0,[iN 80,iN 2,iN 82,iN 82,iN 82,iN 82]),
 (1,[.slice 0 0 6 6 1 true]),
 (2,[.slice 14 0 1 1 1 false,.slice 54 0 5 5 1 false,.ptr 1 0]),
 (6,[iN 32,.slice 3684 0 5 5 10 false]),
 (7,[iN 60,iN 24,iN 8]),
 (8,[iN 5,.slice 3688 0 5 5 2 false]),
 (9,[iN 0,iN 0,iN 0,iN 5,.ptr 6 0,.ptr 7 0,.ptr 8 0]),
 (10,[nS,.slice 11 0 0 0 1 true,iN 0]),
 (11,[]),
 (12,[iN 80,iN 80,nS,iN 0,.ptr 9 0,.ptr 10 0]),
 (14,[.ptr 12 0]),
 (18,[iN 0]),
 (19,[.slice 647 0 1 1 9 true,iN 1]),
 (20,[.str [97,112,112,48],.str [105,100,48],.slice 18 0 1 1 1 false,iN 0,iN 2,.ptr 19 0,.slice 59 3 0 0 3 false,bT,iN 1,iN 30,iN 1,bT,bF,iN 1,iN 5,iN 0,iN 0,iN 2,iN 0,.int .i64 (.negSucc 0),.str [],.str [],bF,.int .u32 (.ofNat 0),nS,nS,iN 2,bT,iN 1,bT,iN 2]),
 (26,[iN 0]),
 (27,[.slice 20414 0 5 5 9 true,iN 5]),
 (28,[.str [97,112,112,48],.str [105,100,49],.slice 26 0 1 1 1 false,iN 0,iN 82,.ptr 27 0,.slice 684 3 0 0 3 false,bT,iN 1,iN 30,iN 1,bT,bF,iN 1,iN 2,iN 0,iN 0,iN 13,iN 0,iN 0,.str [97,112,112,48],.str [105,100,49],bF,.int .u32 (.ofNat 0),nS,nS,iN 81,bT,iN 81,bT,iN 77]),
 (34,[iN 0]),
 (35,[.slice 21211 0 5 5 9 true,iN 5]),
 (36,[.str [97,112,112,49],.str [105,100,50],.slice 34 0 1 1 1 false,iN 0,iN 82,.ptr 35 0,.slice 1474 3 0 0 3 false,bT,iN 1,iN 30,iN 1,bT,bF,iN 1,iN 2,iN 0,iN 0,iN 13,iN 0,iN 0,.str [97,112,112,49],.str [105,100,50],bF,.int .u32 (.ofNat 0),nS,nS,iN 81,bT,iN 81,bT,iN 77]),
 (42,[iN 0]),
 (43,[.slice 22008 0 5 5 9 true,iN 5]),
 (44,[.str [97,112,112,49],.str [105,100,51],.slice 42 0 1 1 1 false,iN 0,iN 82,.ptr 43 0,.slice 2432 3 0 0 3 false,bT,iN 1,iN 30,iN 1,bT,bF,iN 1,iN 2,iN 0,iN 0,iN 13,iN 0,iN 0,.str [97,112,112,49],.str [105,100,51],bF,.int .u32 (.ofNat 0),nS,nS,iN 81,bT,iN 81,bT,iN 77]),
 (50,[iN 0]),
 (51,[.slice 22805 0 5 5 9 true,iN 5]),
 (52,[.str [97,112,112,50],.str [105,100,52],.slice 50 0 1 1 1 false,iN 0,iN 82,.ptr 51 0,.slice 3560 3 0 0 3 false,bT,iN 1,iN 30,iN 1,bT,bF,iN 1,iN 2,iN 0,iN 0,iN 13,iN 0,iN 0,.str [97,112,112,50],.str [105,100,52],bF,.int .u32 (.ofNat 0),nS,nS,iN 81,bT,iN 81,bT,iN 77]),
 (54,[.ptr 20 0,.ptr 28 0,.ptr 36 0,.ptr 44 0,.ptr 52 0]),
 (55,[iN 6,.slice 157 0 0 1 3 false,bF,bF,bF,bF,bF,bF,bF,bF,bF,bF,bF,bF,bF,bF,bF,bF,bF,bF,bF,bF,bF,bF,bF,bF,bF,bF,bF,bF,bF,bF,bF,bF,bF,bF,bF,bF]),
 (56,[.ptr 2 0,.ptr 55 0]),
 (59,[iN 1,iN 30,iN 1]),
 (157,[iN 0,iN 0,nS]),
 (647,[.str [97,112,112,48],.str [105,100,48],iN 1,iN 0,iN 30,iN 0,iN 0,iN 1,bF]),
 (684,[iN 1,iN 30,iN 1]),
 (1474,[iN 1,iN 30,iN 1]),
 (2432,[iN 1,iN 30,iN 1]),
 (3560,[iN 1,iN 30,iN 1]),
 (3684,[.str [97,112,112,48],.str [105,100,48],iN 1,iN 0,iN 30,iN 0,iN 0,iN 1,bF,iN 0,.str [97,112,112,48],.str [105,100,49],iN 1,iN 0,iN 30,iN 0,iN 0,iN 2,bF,iN 79,.str [97,112,112,49],.str [105,100,50],iN 1,iN 0,iN 30,iN 0,iN 0,iN 3,bF,iN 79,.str [97,112,112,49],.str [105,100,51],iN 1,iN 0,iN 30,iN 0,iN 0,iN 4,bF,iN 79,.str [97,112,112,50],.str [105,100,52],iN 1,iN 0,iN 30,iN 0,iN 0,iN 5,bF,iN 79]),
 (3688,[.str [97,112,112,48],.str [105,100,48],.str [97,112,112,48],.str [105,100,49],.str [97,112,112,49],.str [105,100,50],.str [97,112,112,49],.str [105,100,51],.str [97,112,112,50],.str [105,100,52]]),
 (20414,[.str [97,112,112,48],.str [105,100,48],iN 1,iN 0,iN 30,iN 0,iN 0,iN 1,bF,.str [97,112,112,48],.str [105,100,49],iN 1,iN 0,iN 30,iN 0,iN 0,iN 2,bF,.str [97,112,112,49],.str [105,100,50],iN 1,iN 0,iN 30,iN 0,iN 0,iN 3,bF,.str [97,112,112,49],.str [105,100,51],iN 1,iN 0,iN 30,iN 0,iN 0,iN 4,bF,.str [97,112,112,50],.str [105,100,52],iN 1,iN 0,iN 30,iN 0,iN 0,iN 5,bF]),
 (21211,[.str [97,112,112,48],.str [105,100,48],iN 1,iN 0,iN 30,iN 0,iN 0,iN 1,bF,.str [97,112,112,48],.str [105,100,49],iN 1,iN 0,iN 30,iN 0,iN 0,iN 2,bF,.str [97,112,112,49],.str [105,100,50],iN 1,iN 0,iN 30,iN 0,iN 0,iN 3,bF,.str [97,112,112,49],.str [105,100,51],iN 1,iN 0,iN 30,iN 0,iN 0,iN 4,bF,.str [97,112,112,50],.str [105,100,52],iN 1,iN 0,iN 30,iN 0,iN 0,iN 5,bF]),
 (22008,[.str [97,112,112,48],.str [105,100,48],iN 1,iN 0,iN 30,iN 0,iN 0,iN 1,bF,.str [97,112,112,48],.str [105,100,49],iN 1,iN 0,iN 30,iN 0,iN 0,iN 2,bF,.str [97,112,112,49],.str [105,100,50],iN 1,iN 0,iN 30,iN 0,iN 0,iN 3,bF,.str [97,112,112,49],.str [105,100,51],iN 1,iN 0,iN 30,iN 0,iN 0,iN 4,bF,.str [97,112,112,50],.str [105,100,52],iN 1,iN 0,iN 30,iN 0,iN 0,iN 5,bF]),
 (22805,[.str [97,112,112,48],.str [105,100,48],iN 1,iN 0,iN 30,iN 0,iN 0,iN 1,bF,.str [97,112,112,48],.str [105,100,49],iN 1,iN 0,iN 30,iN 0,iN 0,iN 2,bF,.str [97,112,112,49],.str [105,100,50],iN 1,iN 0,iN 30,iN 0,iN 0,iN 3,bF,.str [97,112,112,49],.str [105,100,51],iN 1,iN 0,iN 30,iN 0,iN 0,iN 4,bF,.str [97,112,112,50],.str [105,100,52],iN 1,iN 0,iN 30,iN 0,iN 0,iN 5,bF])]
def s5_3w : AVal := .ptr 56 0
def s5_3n : Nat := 31720
def s5_3 : List (Nat × List AVal) := [(0,[iN 120,iN 2,iN 122,iN 122,iN 122,iN 122]),
 (1,[.slice 0 0 6 6 1 true]),
 (2,[.slice 14 0 1 1 1 false,.slice 54 0 5 5 1 false,.ptr 1 0]),
 (6,[iN 32,.slice 3684 0 5 5 10 false]),
 (7,[iN 120,iN 24,iN 0]),
 (8,[iN 5,.slice 3688 0 5 5 2 false]),
 (9,[iN 0,iN 0,iN 0,iN 5,.ptr 6 0,.ptr 7 0,.ptr 8 0]),
 (10,[nS,.slice 11 0 0 0 1 true,iN 0]),
 (11,[]),
 (12,[iN 120,iN 120,nS,iN 0,.ptr 9 0,.ptr 10 0]),
 (14,[.ptr 12 0]),
 (18,[iN 0]),
 (19,[.slice 647 0 1 1 9 true,iN 1]),
 (20,[.str [97,112,112,48],.str [105,100,48],.slice 18 0 1 1 1 false,iN 0,iN 2,.ptr 19 0,.slice 59 3 0 0 3 false,bT,iN 1,iN 30,iN 1,bT,bF,iN 1,iN 5,iN 0,iN 0,iN 2,iN 0,.int .i64 (.negSucc 0),.str [],.str [],bF,.int .u32 (.ofNat 0),nS,nS,iN 2,bT,iN 1,bT,iN 2]),
 (26,[iN 0]),
 (27,[.slice 26882 0 5 5 9 true,iN 5]),
 (28,[.str [97,112,112,48],.str [105,100,49],.slice 26 0 1 1 1 false,iN 0,iN 122,.ptr 27 0,.slice 684 3 0 0 3 false,bT,iN 1,iN 30,iN 1,bT,bF,iN 1,iN 2,iN 0,iN 0,iN 18,iN 0,iN 0,.str [97,112,112,48],.str [105,100,49],bF,.int .u32 (.ofNat 0),nS,nS,iN 121,bT,iN 121,bT,iN 102]),
 (34,[iN 0]),
 (35,[.slice 27679 0 5 5 9 true,iN 5]),
 (36,[.str [97,112,112,49],.str [105,100,50],.slice 34 0 1 1 1 false,iN 0,iN 122,.ptr 35 0,.slice 1474 3 0 0 3 false,bT,iN 1,iN 30,iN 1,bT,bF,iN 1,iN 2,iN 0,iN 0,iN 18,iN 0,iN 0,.str [97,112,112,49],.str [105,100,50],bF,.int .u32 (.ofNat 0),nS,nS,iN 121,bT,iN 121,bT,iN 102]),
 (42,[iN 0]),
 (43,[.slice 28476 0 5 5 9 true,iN 5]),
 (44,[.str [97,112,112,49],.str [105,100,51],.slice 42 0 1 1 1 false,iN 0,iN 122,.ptr 43 0,.slice 2432 3 0 0 3 false,bT,iN 1,iN 30,iN 1,bT,bF,iN 1,iN 2,iN 0,iN 0,iN 18,iN 0,iN 0,.str [97,112,112,49],.str [105,100,51],bF,.int .u32 (.ofNat 0),nS,nS,iN 121,bT,iN 121,bT,iN 102]),
 (50,[iN 0]),
 (51,[.slice 29273 0 5 5 9 true,iN 5]),
 (52,[.str [97,112,112,50],.str [105,100,52],.slice 50 0 1 1 1 false,iN 0,iN 122,.ptr 51 0,.slice 3560 3 0 0 3 false,bT,iN 1,iN 30,iN 1,bT,bF,iN 1,iN 2,iN 0,iN 0,iN 18,iN 0,iN 0,.str [97,112,112,50],.str [105,100,52],bF,.int .u32 (.ofNat 0),nS,nS,iN 121,bT,iN 121,bT,iN 102]),
 (54,[.ptr 20 0,.ptr 28 0,.ptr 36 0,.ptr 44 0,.ptr 52 0]),
 (55,[iN 6,.slice 157 0 0 1 3 false,bF,bF,bF,bF,bF,bF,bF,bF,bF,bF,bF,bF,bF,bF,bF,bF,bF,bF,bF,bF,bF,bF,bF,bF,bF,bF,bF,bF,bF,bF,bF,bF,bF,bF,bF,bF]),
 (56,[.ptr 2 0,.ptr 55 0]),
 (59,[iN 1,iN 30,iN 1]),
 (157,[iN 0,iN 0,nS]),
 (647,[.str [97,112,112,48],.str [105,100,48],iN 1,iN 0,iN 30,iN 0,iN 0,iN 1,bF]),
 (684,[iN 1,iN 30,iN 1]),
 (1474,[iN 1,iN 30,iN 1]),
 (2432,[iN 1,iN 30,iN 1]),
 (3560,[iN 1,iN 30,iN 1]),
 (3684,[.str [97,112,112,48],.str [105,100,48],iN 1,iN 0,iN 30,iN 0,iN 0,iN 1,bF,iN 0,.str [97,112,112,48],.str [105,100,49],iN 1,iN 0,iN 30,iN 0,iN 0,iN 2,bF,iN 119,.str [97,112,112,49],.str [105,100,50],iN 1,iN 0,iN 30,iN 0,iN 0,iN 3,bF,iN 119,.str [97,112,112,49],.str [105,100,51],iN 1,iN 0,iN 30,iN 0,iN 0,iN 4,bF,iN 119,.str [97,112,112,50],.str [105,100,52],iN 1,iN 0,iN 30,iN 0,iN 0,iN 5,bF,iN 119]),
 (3688,[.str [97,112,112,48],.str [105,100,48],.str [97,112,112,48],.str [105,100,49],.str [97,112,112,49],.str [105,100,50],.str [97,112,112,49],.str [105,100,51],.str [97,112,112,50],.str [105,100,52]]),
 (26882,[.str [97,112,112,48],.str [105,100,48],iN 1,iN 0,iN 30,iN 0,iN 0,iN 1,bF,.str [97,112,112,48],.str [105,100,49],iN 1,iN 0,iN 30,iN 0,iN 0,iN 2,bF,.str [97,112,112,49],.str [105,100,50],iN 1,iN 0,iN 30,iN 0,iN 0,iN 3,bF,.str [97,112,112,49],.str [105,100,51],iN 1,iN 0,iN 30,iN 0,iN 0,iN 4,bF,.str [97,112,112,50],.str [105,100,52],iN 1,iN 0,iN 30,iN 0,iN 0,iN 5,bF]),
 (27679,[.str [97,112,112,48],.str [105,100,48],iN 1,iN 0,iN 30,iN 0,iN 0,iN 1,bF,.str [97,112,112,48],.str [105,100,49],iN 1,iN 0,iN 30,iN 0,iN 0,iN 2,bF,.str [97,112,112,49],.str [105,100,50],iN 1,iN 0,iN 30,iN 0,iN 0,iN 3,bF,.str [97,112,112,49],.str [105,100,51],iN 1,iN 0,iN 30,iN 0,iN 0,iN 4,bF,.str [97,112,112,50],.str [105,100,52],iN 1,iN 0,iN 30,iN 0,iN 0,iN 5,bF]),
 (28476,[.str [97,112,112,48],.str [105,100,48],iN 1,iN 0,iN 30,iN 0,iN 0,iN 1,bF,.str [97,112,112,48],.str [105,100,49],iN 1,iN 0,iN 30,iN 0,iN 0,iN 2,bF,.str [97,112,112,49],.str [105,100,50],iN 1,iN 0,iN 30,iN 0,iN 0,iN 3,bF,.str [97,112,112,49],.str [105,100,51],iN 1,iN 0,iN 30,iN 0,iN 0,iN 4,bF,.str [97,112,112,50],.str [105,100,52],iN 1,iN 0,iN 30,iN 0,iN 0,iN 5,bF]),
 (29273,[.str [97,112,112,48],.str [105,100,48],iN 1,iN 0,iN 30,iN 0,iN 0,iN 1,bF,.str [97,112,112,48],.str [105,100,49],iN 1,iN 0,iN 30,iN 0,iN 0,iN 2,bF,.str [97,112,112,49],.str [105,100,50],iN 1,iN 0,iN 30,iN 0,iN 0,iN 3,bF,.str [97,112,112,49],.str [105,100,51],iN 1,iN 0,iN 30,iN 0,iN 0,iN 4,bF,.str [97,112,112,50],.str [105,100,52],iN 1,iN 0,iN 30,iN 0,iN 0,iN 5,bF])]
def s5_4w : AVal := .ptr 56 0
def s5_4n : Nat := 42596
def s5_4 : List (Nat × List AVal) := [(0,[iN 160,iN 2,iN 162,iN 162,iN 162,iN 162]),
 (1,[.slice 0 0 6 6 1 true]),
 (2,[.slice 14 0 1 1 1 false,.slice 54 0 5 5 1 false,.ptr 1 0]),
 (6,[iN 32,.slice 3684 0 5 5 10 false]),
 (7,[iN 120,iN 24,iN 16]),
 (8,[iN 5,.slice 3688 0 5 5 2 false]),
 (9,[iN 0,iN 0,iN 0,iN 5,.ptr 6 0,.ptr 7 0,.ptr 8 0]),
 (10,[nS,.slice 11 0 0 0 1 true,iN 0]),
 (11,[]),
 (12,[iN 160,iN 160,nS,iN 0,.ptr 9 0,.ptr 10 0]),
 (14,[.ptr 12 0]),
 (18,[iN 0]),
 (19,[.slice 647 0 1 1 9 true,iN 1]),
 (20,[.str [97,112,112,48],.str [105,100,48],.slice 18 0 1 1 1 false,iN 0,iN 2,.ptr 19 0,.slice 59 3 0 0 3 false,bT,iN 1,iN 30,iN 1,bT,bF,iN 1,iN 5,iN 0,iN 0,iN 2,iN 0,.int .i64 (.negSucc 0),.str [],.str [],bF,.int .u32 (.ofNat 0),nS,nS,iN 2,bT,iN 1,bT,iN 2]),
 (26,[iN 0]),
 (27,[.slice 38886 0 5 5 9 true,iN 5]),
 (28,[.str [97,112,112,48],.str [105,100,49],.slice 26 0 1 1 1 false,iN 0,iN 162,.ptr 27 0,.slice 684 3 0 0 3 false,bT,iN 1,iN 30,iN 1,bT,bF,iN 1,iN 2,iN 0,iN 0,iN 24,iN 0,iN 0,.str [97,112,112,48],.str [105,100,49],bF,.int .u32 (.ofNat 0),nS,nS,iN 161,bT,iN 161,bT,iN 152]),
 (34,[iN 0]),
 (35,[.slice 39683 0 5 5 9 true,iN 5]),
 (36,[.str [97,112,112,49],.str [105,100,50],.slice 34 0 1 1 1 false,iN 0,iN 162,.ptr 35 0,.slice 1474 3 0 0 3 false,bT,iN 1,iN 30,iN 1,bT,bF,iN 1,iN 2,iN 0,iN 0,iN 24,iN 0,iN 0,.str [97,112,112,49],.str [105,100,50],bF,.int .u32 (.ofNat 0),nS,nS,iN 161,bT,iN 161,bT,iN 152]),
 (42,[iN 0]),
 (43,[.slice 40480 0 5 5 9 true,iN 5]),
 (44,[.str [97,112,112,49],.str [105,100,51],.slice 42 0 1 1 1 false,iN 0,iN 162,.ptr 43 0,.slice 2432 3 0 0 3 false,bT,iN 1,iN 30,iN 1,bT,bF,iN 1,iN 2,iN 0,iN 0,iN 24,iN 0,iN 0,.str [97,112,112,49],.str [105,100,51],bF,.int .u32 (.ofNat 0),nS,nS,iN 161,bT,iN 161,bT,iN 152]),
 (50,[iN 0]),
 (51,[.slice 41277 0 5 5 9 true,iN 5]),
 (52,[.str [97,112,112,50],.str [105,100,52],.slice 50 0 1 1 1 false,iN 0,iN 162,.ptr 51 0,.slice 3560 3 0 0 3 false,bT,iN 1,iN 30,iN 1,bT,bF,iN 1,iN 2,iN 0,iN 0,iN 24,iN 0,iN 0,.str [97,112,112,50],.str [105,100,52],bF,.int .u32 (.ofNat 0),nS,nS,iN 161,bT,iN 161,bT,iN 152]),
 (54,[.ptr 20 0,.ptr 28 0,.ptr 36 0,.ptr 44 0,.ptr 52 0]),
 (55,[iN 6,.slice 157 0 0 1 3 false,bF,bF,bF,bF,bF,bF,bF,bF,bF,bF,bF,bF,bF,bF,bF,bF,bF,bF,bF,bF,bF,bF,bF,bF,bF,bF,bF,bF,bF,bF,bF,bF,bF,bF,bF,bF]),
 (56,[.ptr 2 0,.ptr 55 0]),
 (59,[iN 1,iN 30,iN 1]),
 (157,[iN 0,iN 0,nS]),
 (647,[.str [97,112,112,48],.str [105,100,48],iN 1,iN 0,iN 30,iN 0,iN 0,iN 1,bF]),
 (684,[iN 1,iN 30,iN 1]),
 (1474,[iN 1,iN 30,iN 1]),
 (2432,[iN 1,iN 30,iN 1]),
 (3560,[iN 1,iN 30,iN 1]),
 (3684,[.str [97,112,112,48],.str [105,100,48],iN 1,iN 0,iN 30,iN 0,iN 0,iN 1,bF,iN 0,.str [97,112,112,48],.str [105,100,49],iN 1,iN 0,iN 30,iN 0,iN 0,iN 2,bF,iN 159,.str [97,112,112,49],.str [105,100,50],iN 1,iN 0,iN 30,iN 0,iN 0,iN 3,bF,iN 159,.str [97,112,112,49],.str [105,100,51],iN 1,iN 0,iN 30,iN 0,iN 0,iN 4,bF,iN 159,.str [97,112,112,50],.str [105,100,52],iN 1,iN 0,iN 30,iN 0,iN 0,iN 5,bF,iN 159]),
 (3688,[.str [97,112,112,48],.str [105,100,48],.str [97,112,112,48],.str [105,100,49],.str [97,112,112,49],.str [105,100,50],.str [97,112,112,49],.str [105,100,51],.str [97,112,112,50],.str [105,100,52]]),
 (38886,[.str [97,112,112,48],.str [105,100,48],iN 1,iN 0,iN 30,iN 0,iN 0,iN 1,bF,.str [97,112,112,48],.str [105,100,49],iN 1,iN 0,iN 30,iN 0,iN 0,iN 2,bF,.str [97,112,112,49],.str [105,100,50],iN 1,iN 0,iN 30,iN 0,iN 0,iN 3,bF,.str [97,112,112,49],.str [105,100,51],iN 1,iN 0,iN 30,iN 0,iN 0,iN 4,bF,.str [97,112,112,50],.str [105,100,52],iN 1,iN 0,iN 30,iN 0,iN 0,iN 5,bF]),
 (39683,[.str [97,112,112,48],.str [105,100,48],iN 1,iN 0,iN 30,iN 0,iN 0,iN 1,bF,.str [97,112,112,48],.str [105,100,49],iN 1,iN 0,iN 30,iN 0,iN 0,iN 2,bF,.str [97,112,112,49],.str [105,100,50],iN 1,iN 0,iN 30,iN 0,iN 0,iN 3,bF,.str [97,112,112,49],.str [105,100,51],iN 1,iN 0,iN 30,iN 0,iN 0,iN 4,bF,.str [97,112,112,50],.str [105,100,52],iN 1,iN 0,iN 30,iN 0,iN 0,iN 5,bF]),
 (40480,[.str [97,112,112,48],.str [105,100,48],iN 1,iN 0,iN 30,iN 0,iN 0,iN 1,bF,.str [97,112,112,48],.str [105,100,49],iN 1,iN 0,iN 30,iN 0,iN 0,iN 2,bF,.str [97,112,112,49],.str [105,100,50],iN 1,iN 0,iN 30,iN 0,iN 0,iN 3,bF,.str [97,112,112,49],.str [105,100,51],iN 1,iN 0,iN 30,iN 0,iN 0,iN 4,bF,.str [97,112,112,50],.str [105,100,52],iN 1,iN 0,iN 30,iN 0,iN 0,iN 5,bF]),
 (41277,[.str [97,112,112,48],.str [105,100,48],iN 1,iN 0,iN 30,iN 0,iN 0,iN 1,bF,.str [97,112,112,48],.str [105,100,49],iN 1,iN 0,iN 30,iN 0,iN 0,iN 2,bF,.str [97,112,112,49],.str [105,100,50],iN 1,iN 0,iN 30,iN 0,iN 0,iN 3,bF,.str [97,112,112,49],.str [105,100,51],iN 1,iN 0,iN 30,iN 0,iN 0,iN 4,bF,.str [97,112,112,50],.str [105,100,52],iN 1,iN 0,iN 30,iN 0,iN 0,iN 5,bF])]
def s5_5w : AVal := .ptr 56 0
def s5_5n : Nat := 53472
def s5_5 : List (Nat × List AVal) := [(0,[iN 200,iN 2,iN 202,iN 202,iN 202,iN 202]),
 (1,[.slice 0 0 6 6 1 true]),
 (2,[.slice 14 0 1 1 1 false,.slice 54 0 5 5 1 false,.ptr 1 0]),
 (6,[iN 32,.slice 3684 0 5 5 10 false]),
 (7,[iN 180,iN 24,iN 8]),
 (8,[iN 5,.slice 3688 0 5 5 2 false]),
 (9,[iN 0,iN 0,iN 0,iN 5,.ptr 6 0,.ptr 7 0,.ptr 8 0]),
 (10,[nS,.slice 11 0 0 0 1 true,iN 0]),
 (11,[]),
 (12,[iN 200,iN 200,nS,iN 0,.ptr 9 0,.ptr 10 0]),
 (14,[.ptr 12 0]),
 (18,[iN 0]),
 (19,[.slice 647 0 1 1 9 true,iN 1]),
 (20,[.str [97,112,112,48],.str [105,100,48],.slice 18 0 1 1 1 false,iN 0,iN 2,.ptr 19 0,.slice 59 3 0 0 3 false,bT,iN 1,iN 30,iN 1,bT,bF,iN 1,iN 5,iN 0,iN 0,iN 2,iN 0,.int .i64 (.negSucc 0),.str [],.str [],bF,.int .u32 (.ofNat 0),nS,nS,iN 2,bT,iN 1,bT,iN 2]),
 (26,[iN 0]),
 (27,[.slice 50892 0 5 5 9 true,iN 5]),
 (28,[.str [97,112,112,48],.str [105,100,49],.slice 26 0 1 1 1 false,iN 0,iN 202,.ptr 27 0,.slice 684 3 0 0 3 false,bT,iN 1,iN 30,iN 1,bT,bF,iN 1,iN 5,iN 0,iN 0,iN 30,iN 0,iN 5,.str [],.str [],bF,.int .u32 (.ofNat 0),nS,nS,iN 202,bT,iN 201,bT,iN 202]),
 (34,[iN 0]),
 (35,[.slice 51689 0 5 5 9 true,iN 5]),
 (36,[.str [97,112,112,49],.str [105,100,50],.slice 34 0 1 1 1 false,iN 0,iN 202,.ptr 35 0,.slice 1474 3 0 0 3 false,bT,iN 1,iN 30,iN 1,bT,bF,iN 1,iN 5,iN 0,iN 0,iN 30,iN 0,iN 5,.str [],.str [],bF,.int .u32 (.ofNat 0),nS,nS,iN 202,bT,iN 201,bT,iN 202]),
 (42,[iN 0]),
 (43,[.slice 52486 0 5 5 9 true,iN 5]),
 (44,[.str [97,112,112,49],.str [105,100,51],.slice 42 0 1 1 1 false,iN 0,iN 202,.ptr 43 0,.slice 2432 3 0 0 3 false,bT,iN 1,iN 30,iN 1,bT,bF,iN 1,iN 5,iN 0,iN 0,iN 30,iN 0,iN 5,.str [],.str [],bF,.int .u32 (.ofNat 0),nS,nS,iN 202,bT,iN 201,bT,iN 202]),
 (50,[iN 0]),
 (51,[.slice 53283 0 5 5 9 true,iN 5]),
 (52,[.str [97,112,112,50],.str [105,100,52],.slice 50 0 1 1 1 false,iN 0,iN 202,.ptr 51 0,.slice 3560 3 0 0 3 false,bT,iN 1,iN 30,iN 1,bT,bF,iN 1,iN 5,iN 0,iN 0,iN 30,iN 0,iN 5,.str [],.str [],bF,.int .u32 (.ofNat 0),nS,nS,iN 202,bT,iN 201,bT,iN 202]),
 (54,[.ptr 20 0,.ptr 28 0,.ptr 36 0,.ptr 44 0,.ptr 52 0]),
 (55,[iN 6,.slice 157 0 0 1 3 false,bF,bF,bF,bF,bF,bF,bF,bF,bF,bF,bF,bF,bF,bF,bF,bF,bF,bF,bF,bF,bF,bF,bF,bF,bF,bF,bF,bF,bF,bF,bF,bF,bF,bF,bF,bF]),
 (56,[.ptr 2 0,.ptr 55 0]),
 (59,[iN 1,iN 30,iN 1]),
 (157,[iN 0,iN 0,nS]),
 (647,[.str [97,112,112,48],.str [105,100,48],iN 1,iN 0,iN 30,iN 0,iN 0,iN 1,bF]),
 (684,[iN 1,iN 30,iN 1]),
 (1474,[iN 1,iN 30,iN 1]),
 (2432,[iN 1,iN 30,iN 1]),
 (3560,[iN 1,iN 30,iN 1]),
 (3684,[.str [97,112,112,48],.str [105,100,48],iN 1,iN 0,iN 30,iN 0,iN 0,iN 1,bF,iN 0,.str [97,112,112,48],.str [105,100,49],iN 1,iN 0,iN 30,iN 0,iN 0,iN 2,bF,iN 199,.str [97,112,112,49],.str [105,100,50],iN 1,iN 0,iN 30,iN 0,iN 0,iN 3,bF,iN 199,.str [97,112,112,49],.str [105,100,51],iN 1,iN 0,iN 30,iN 0,iN 0,iN 4,bF,iN 199,.str [97,112,112,50],.str [105,100,52],iN 1,iN 0,iN 30,iN 0,iN 0,iN 5,bF,iN 199]),
 (3688,[.str [97,112,112,48],.str [105,100,48],.str [97,112,112,48],.str [105,100,49],.str [97,112,112,49],.str [105,100,50],.str [97,112,112,49],.str [105,100,51],.str [97,112,112,50],.str [105,100,52]]),
 (50892,[.str [97,112,112,48],.str [105,100,48],iN 1,iN 0,iN 30,iN 0,iN 0,iN 1,bF,.str [97,112,112,48],.str [105,100,49],iN 1,iN 0,iN 30,iN 0,iN 0,iN 2,bF,.str [97,112,112,49],.str [105,100,50],iN 1,iN 0,iN 30,iN 0,iN 0,iN 3,bF,.str [97,112,112,49],.str [105,100,51],iN 1,iN 0,iN 30,iN 0,iN 0,iN 4,bF,.str [97,112,112,50],.str [105,100,52],iN 1,iN 0,iN 30,iN 0,iN 0,iN 5,bF]),
 (51689,[.str [97,112,112,48],.str [105,100,48],iN 1,iN 0,iN 30,iN 0,iN 0,iN 1,bF,.str [97,112,112,48],.str [105,100,49],iN 1,iN 0,iN 30,iN 0,iN 0,iN 2,bF,.str [97,112,112,49],.str [105,100,50],iN 1,iN 0,iN 30,iN 0,iN 0,iN 3,bF,.str [97,112,112,49],.str [105,100,51],iN 1,iN 0,iN 30,iN 0,iN 0,iN 4,bF,.str [97,112,112,50],.str [105,100,52],iN 1,iN 0,iN 30,iN 0,iN 0,iN 5,bF]),
 (52486,[.str [97,112,112,48],.str [105,100,48],iN 1,iN 0,iN 30,iN 0,iN 0,iN 1,bF,.str [97,112,112,48],.str [105,100,49],iN 1,iN 0,iN 30,iN 0,iN 0,iN 2,bF,.str [97,112,112,49],.str [105,100,50],iN 1,iN 0,iN 30,iN 0,iN 0,iN 3,bF,.str [97,112,112,49],.str [105,100,51],iN 1,iN 0,iN 30,iN 0,iN 0,iN 4,bF,.str [97,112,112,50],.str [105,100,52],iN 1,iN 0,iN 30,iN 0,iN 0,iN 5,bF]),
 (53283,[.str [97,112,112,48],.str [105,100,48],iN 1,iN 0,iN 30,iN 0,iN 0,iN 1,bF,.str [97,112,112,48],.str [105,100,49],iN 1,iN 0,iN 30,iN 0,iN 0,iN 2,bF,.str [97,112,112,49],.str [105,100,50],iN 1,iN 0,iN 30,iN 0,iN 0,iN 3,bF,.str [97,112,112,49],.str [105,100,51],iN 1,iN 0,iN 30,iN 0,iN 0,iN 4,bF,.str [97,112,112,50],.str [105,100,52],iN 1,iN 0,iN 30,iN 0,iN 0,iN 5,bF])]
noncomputable def lp9 : Live × List (AExit × Live) × ACode := (loopsOf A9.body).headD default
theorem k9 (call : TCall) (xs : List AVal) (t : TH) : un (lp9.1.vals.length + lp9.1.locs.length) (fun ys => kC call lp9.2.2 (kMk lp9.1 ys) t (kloopK lp9.1 lp9.2.1)) xs = L9_0 call xs t := by kernel_rfl
theorem e9 (call : Go.Fw.Call) (xs : List AVal) (h : Heap) : runC call lp9.2.2 (Env.mk' lp9.1 xs) h (loopK lp9.1 lp9.2.1) = Abs.L9_0 call xs h := by kernel_rfl
theorem p9 : pCode lp9.2.2 = true := by kernel_rfl
theorem round_rel (xs : List AVal) (t : TH) (h : Heap) (S : Sub 0 t h) : JR 0 (L9_0 cK xs t) (Abs.L9_0 (E tblX) (repL 0 xs) h) := by
  rw [← k9, ← e9]
  exact body_rel cK_rel p9 _ _ xs t h S
noncomputable def fin (k : Nat) (w : AVal) (t : TH) : Bool := KR.rec false (fun v _ => onSl v false fun _ _ l _ _ _ => Nat.beq l k) (cK 33 [w, .int .i64 (.ofNat 0)] t)
theorem fin_rel {k : Nat} {w : AVal} (hw : rep 0 w = w) {t : TH} {h : Heap} (S : Sub 0 t h) (e : fin k w t = true) : ∃ b o c s q h', E tblX 33 [w, .int .i64 0] h = some (.slice b o k c s q, h') := by
  unfold fin at e
  cases hr : cK 33 [w, .int .i64 (.ofNat 0)] t with
  | no => rw [hr] at e; cases e
  | yes v t' =>
    rw [hr] at e
    obtain ⟨h', e1, _⟩ := cK_rel 33 _ t h S v t' hr
    simp only [repL_cons, repL_nil, rep_int, hw] at e1
    cases v <;> first | (cases e; done) | skip
    rename_i b o l c s q
    have : l = k := Nat.eq_of_beq_eq_true e
    subst this
    rw [rep_slice] at e1
    exact ⟨b, o, c, s, q, h', e1⟩
theorem e22 (h : Heap) : E tblX 22 [] h = some (.bool true, h) := by rw [E_eq]; rfl
theorem last (k : Int) (w : AVal) (h : Heap) : loop (Abs.L9_0 (E tblX)) [.int .i64 k, w, .int .i64 200] h = some (1, [.int .i64 k, w], h) :=
  loop_done (by unfold Abs.L9_0; simp only [List.getD_cons_zero, List.getD_cons_succ, bin_lss, Option.bind_some, cond_bool]; rfl)
theorem runA3 : isR (cK 16 [.int .i64 (.ofNat 3), .int .i64 (.ofNat 30)] T0) s3_0w s3_0n s3_0 = true := by decide +kernel
theorem runB3_0 : isJ (rounds (L9_0 cK) 67 [.int .i64 (.ofNat 3), s3_0w, .int .i64 (.ofNat 0)] (ofL s3_0n s3_0)) [.int .i64 (.ofNat 3), s3_0w, .int .i64 (.ofNat 67)] s3_1n s3_1 = true := by decide +kernel
theorem runB3_1 : isJ (rounds (L9_0 cK) 67 [.int .i64 (.ofNat 3), s3_0w, .int .i64 (.ofNat 67)] (ofL s3_1n s3_1)) [.int .i64 (.ofNat 3), s3_0w, .int .i64 (.ofNat 134)] s3_2n s3_2 = true := by decide +kernel
theorem runB3_2 : isJ (rounds (L9_0 cK) 66 [.int .i64 (.ofNat 3), s3_0w, .int .i64 (.ofNat 134)] (ofL s3_2n s3_2)) [.int .i64 (.ofNat 3), s3_0w, .int .i64 (.ofNat 200)] s3_3n s3_3 = true := by decide +kernel
theorem runC3 : fin 3 s3_0w (ofL s3_3n s3_3) = true := by decide +kernel
theorem rep_w3 : rep 0 s3_0w = s3_0w := by simp [s3_0w]
theorem at3 (a : Int) (ha : wn a 2 = 0) : ∃ h', E tblX 9 [.int .i64 a] emptyHeap = some (.bool true, h') := by
  obtain ⟨h1, e16, S0⟩ := isR_rel (cK_rel 16 _ T0 emptyHeap (T0_sub 0)) runA3
  simp only [repL_cons, repL_nil, rep_int, rep_w3] at e16
  obtain ⟨g1, l1, S1⟩ := rounds_rel round_rel _ _ _ h1 S0 runB3_0
  simp only [repL_cons, repL_nil, rep_int, rep_w3] at l1
  obtain ⟨g2, l2, S2⟩ := rounds_rel round_rel _ _ _ g1 S1 runB3_1
  simp only [repL_cons, repL_nil, rep_int, rep_w3] at l2
  obtain ⟨g3, l3, S3⟩ := rounds_rel round_rel _ _ _ g2 S2 runB3_2
  simp only [repL_cons, repL_nil, rep_int, rep_w3] at l3
  obtain ⟨b, o, c, s, q, h2, e33⟩ := fin_rel rep_w3 S3 runC3
  have wnil : aBin .eql .ptr s3_0w .nilPtr = some (.bool false) := rfl
  have w1 : IntKind.i64.wrap (3 + 0) = 3 := by decide
  have e16 : E tblX 16 [.int .i64 3, .int .i64 30] emptyHeap = some (s3_0w, h1) := e16
  have hl : loop (Abs.L9_0 (E tblX)) [.int .i64 3, s3_0w, .int .i64 0] h1 = some (1, [.int .i64 3, s3_0w], g3) := (l1.trans (l2.trans (l3))).trans (last 3 s3_0w g3)
  refine ⟨h2, ?_⟩
  rw [E_eq, t9]
  simp only
  rw [Abs.run9]
  unfold Abs.S9
  simp only [within t17 _ 2 (by omega) (by omega), ha, Option.bind_some, bin_add, w1, e16, wnil, cond_bool, cond_false, hl]
  simp only [show Nat.beq 1 1 = true from rfl, cond_true, List.getD_cons_zero, List.getD_cons_succ, e33, Option.bind_some, aLen, bin_eql, e22]
  rfl
theorem runA4 : isR (cK 16 [.int .i64 (.ofNat 4), .int .i64 (.ofNat 30)] T0) s4_0w s4_0n s4_0 = true := by decide +kernel
theorem runB4_0 : isJ (rounds (L9_0 cK) 50 [.int .i64 (.ofNat 4), s4_0w, .int .i64 (.ofNat 0)] (ofL s4_0n s4_0)) [.int .i64 (.ofNat 4), s4_0w, .int .i64 (.ofNat 50)] s4_1n s4_1 = true := by decide +kernel
theorem runB4_1 : isJ (rounds (L9_0 cK) 50 [.int .i64 (.ofNat 4), s4_0w, .int .i64 (.ofNat 50)] (ofL s4_1n s4_1)) [.int .i64 (.ofNat 4), s4_0w, .int .i64 (.ofNat 100)] s4_2n s4_2 = true := by decide +kernel
theorem runB4_2 : isJ (rounds (L9_0 cK) 50 [.int .i64 (.ofNat 4), s4_0w, .int .i64 (.ofNat 100)] (ofL s4_2n s4_2)) [.int .i64 (.ofNat 4), s4_0w, .int .i64 (.ofNat 150)] s4_3n s4_3 = true := by decide +kernel
theorem runB4_3 : isJ (rounds (L9_0 cK) 50 [.int .i64 (.ofNat 4), s4_0w, .int .i64 (.ofNat 150)] (ofL s4_3n s4_3)) [.int .i64 (.ofNat 4), s4_0w, .int .i64 (.ofNat 200)] s4_4n s4_4 = true := by decide +kernel
theorem runC4 : fin 4 s4_0w (ofL s4_4n s4_4) = true := by decide +kernel
theorem rep_w4 : rep 0 s4_0w = s4_0w := by simp [s4_0w]
theorem at4 (a : Int) (ha : wn a 2 = 1) : ∃ h', E tblX 9 [.int .i64 a] emptyHeap = some (.bool true, h') := by
  obtain ⟨h1, e16, S0⟩ := isR_rel (cK_rel 16 _ T0 emptyHeap (T0_sub 0)) runA4
  simp only [repL_cons, repL_nil, rep_int, rep_w4] at e16
  obtain ⟨g1, l1, S1⟩ := rounds_rel round_rel _ _ _ h1 S0 runB4_0
  simp only [repL_cons, repL_nil, rep_int, rep_w4] at l1
  obtain ⟨g2, l2, S2⟩ := rounds_rel round_rel _ _ _ g1 S1 runB4_1
  simp only [repL_cons, repL_nil, rep_int, rep_w4] at l2
  obtain ⟨g3, l3, S3⟩ := rounds_rel round_rel _ _ _ g2 S2 runB4_2
  simp only [repL_cons, repL_nil, rep_int, rep_w4] at l3
  obtain ⟨g4, l4, S4⟩ := rounds_rel round_rel _ _ _ g3 S3 runB4_3
  simp only [repL_cons, repL_nil, rep_int, rep_w4] at l4
  obtain ⟨b, o, c, s, q, h2, e33⟩ := fin_rel rep_w4 S4 runC4
  have wnil : aBin .eql .ptr s4_0w .nilPtr = some (.bool false) := rfl
  have w1 : IntKind.i64.wrap (3 + 1) = 4 := by decide
  have e16 : E tblX 16 [.int .i64 4, .int .i64 30] emptyHeap = some (s4_0w, h1) := e16
  have hl : loop (Abs.L9_0 (E tblX)) [.int .i64 4, s4_0w, .int .i64 0] h1 = some (1, [.int .i64 4, s4_0w], g4) := (l1.trans (l2.trans (l3.trans (l4)))).trans (last 4 s4_0w g4)
  refine ⟨h2, ?_⟩
  rw [E_eq, t9]
  simp only
  rw [Abs.run9]
  unfold Abs.S9
  simp only [within t17 _ 2 (by omega) (by omega), ha, Option.bind_some, bin_add, w1, e16, wnil, cond_bool, cond_false, hl]
  simp only [show Nat.beq 1 1 = true from rfl, cond_true, List.getD_cons_zero, List.getD_cons_succ, e33, Option.bind_some, aLen, bin_eql, e22]
  rfl
theorem runA5 : isR (cK 16 [.int .i64 (.ofNat 5), .int .i64 (.ofNat 30)] T0) s5_0w s5_0n s5_0 = true := by decide +kernel
theorem runB5_0 : isJ (rounds (L9_0 cK) 40 [.int .i64 (.ofNat 5), s5_0w, .int .i64 (.ofNat 0)] (ofL s5_0n s5_0)) [.int .i64 (.ofNat 5), s5_0w, .int .i64 (.ofNat 40)] s5_1n s5_1 = true := by decide +kernel
theorem runB5_1 : isJ (rounds (L9_0 cK) 40 [.int .i64 (.ofNat 5), s5_0w, .int .i64 (.ofNat 40)] (ofL s5_1n s5_1)) [.int .i64 (.ofNat 5), s5_0w, .int .i64 (.ofNat 80)] s5_2n s5_2 = true := by decide +kernel
theorem runB5_2 : isJ (rounds (L9_0 cK) 40 [.int .i64 (.ofNat 5), s5_0w, .int .i64 (.ofNat 80)] (ofL s5_2n s5_2)) [.int .i64 (.ofNat 5), s5_0w, .int .i64 (.ofNat 120)] s5_3n s5_3 = true := by decide +kernel
theorem runB5_3 : isJ (rounds (L9_0 cK) 40 [.int .i64 (.ofNat 5), s5_0w, .int .i64 (.ofNat 120)] (ofL s5_3n s5_3)) [.int .i64 (.ofNat 5), s5_0w, .int .i64 (.ofNat 160)] s5_4n s5_4 = true := by decide +kernel
theorem runB5_4 : isJ (rounds (L9_0 cK) 40 [.int .i64 (.ofNat 5), s5_0w, .int .i64 (.ofNat 160)] (ofL s5_4n s5_4)) [.int .i64 (.ofNat 5), s5_0w, .int .i64 (.ofNat 200)] s5_5n s5_5 = true := by decide +kernel
theorem runC5 : fin 5 s5_0w (ofL s5_5n s5_5) = true := by decide +kernel
theorem rep_w5 : rep 0 s5_0w = s5_0w := by simp [s5_0w]
theorem at5 (a : Int) (ha : wn a 2 = 2) : ∃ h', E tblX 9 [.int .i64 a] emptyHeap = some (.bool true, h') := by
  obtain ⟨h1, e16, S0⟩ := isR_rel (cK_rel 16 _ T0 emptyHeap (T0_sub 0)) runA5
  simp only [repL_cons, repL_nil, rep_int, rep_w5] at e16
  obtain ⟨g1, l1, S1⟩ := rounds_rel round_rel _ _ _ h1 S0 runB5_0
  simp only [repL_cons, repL_nil, rep_int, rep_w5] at l1
  obtain ⟨g2, l2, S2⟩ := rounds_rel round_rel _ _ _ g1 S1 runB5_1
  simp only [repL_cons, repL_nil, rep_int, rep_w5] at l2
  obtain ⟨g3, l3, S3⟩ := rounds_rel round_rel _ _ _ g2 S2 runB5_2
  simp only [repL_cons, repL_nil, rep_int, rep_w5] at l3
  obtain ⟨g4, l4, S4⟩ := rounds_rel round_rel _ _ _ g3 S3 runB5_3
  simp only [repL_cons, repL_nil, rep_int, rep_w5] at l4
  obtain ⟨g5, l5, S5⟩ := rounds_rel round_rel _ _ _ g4 S4 runB5_4
  simp only [repL_cons, repL_nil, rep_int, rep_w5] at l5
  obtain ⟨b, o, c, s, q, h2, e33⟩ := fin_rel rep_w5 S5 runC5
  have wnil : aBin .eql .ptr s5_0w .nilPtr = some (.bool false) := rfl
  have w1 : IntKind.i64.wrap (3 + 2) = 5 := by decide
  have e16 : E tblX 16 [.int .i64 5, .int .i64 30] emptyHeap = some (s5_0w, h1) := e16
  have hl : loop (Abs.L9_0 (E tblX)) [.int .i64 5, s5_0w, .int .i64 0] h1 = some (1, [.int .i64 5, s5_0w], g5) := (l1.trans (l2.trans (l3.trans (l4.trans (l5))))).trans (last 5 s5_0w g5)
  refine ⟨h2, ?_⟩
  rw [E_eq, t9]
  simp only
  rw [Abs.run9]
  unfold Abs.S9
  simp only [within t17 _ 2 (by omega) (by omega), ha, Option.bind_some, bin_add, w1, e16, wnil, cond_bool, cond_false, hl]
  simp only [show Nat.beq 1 1 = true from rfl, cond_true, List.getD_cons_zero, List.getD_cons_succ, e33, Option.bind_some, aLen, bin_eql, e22]
  rfl
theorem topSweepsL (a : Int) : ∃ h', E tblX 9 [.int .i64 a] emptyHeap = some (.bool true, h') := by
  obtain ⟨h2, h3⟩ := wn_le a 2 (by omega)
  by_cases e0 : wn a 2 = 0
  · exact at3 a e0
  by_cases e1 : wn a 2 = 1
  · exact at4 a e1
  exact at5 a (by omega)
end Go.Proofs.YtinkiihdnepfjaaGreatDoor.Code
