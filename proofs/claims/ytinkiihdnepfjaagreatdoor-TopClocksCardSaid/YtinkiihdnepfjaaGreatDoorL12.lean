/- runs -/
import Derived.Test.YtinkiihdnepfjaaGreatDoorTb12
import Derived.Test.YtinkiihdnepfjaaGreatDoorFl
set_option linter.unusedSimpArgs false
set_option linter.unusedVariables false
set_option maxRecDepth 1000000
namespace Go.Proofs.YtinkiihdnepfjaaGreatDoor.Code
open Go.Fw Go.Fw.K
namespace Abs
noncomputable def S12 (call : Go.Fw.Call) (a0 : AVal) (h : Heap) : Option J :=
 (call 16 [(.int .i64 2), (.int .i64 15)] h).bind fun r1 =>
 (aBin .eql .ptr r1.1 (.nilPtr)).bind fun v2 =>
 (guardV v2 false
 ((call 17 [a0, (.int .i64 0), (.int .i64 400)] r1.2).bind fun r3 =>
 (call 19 [r1.1, (.int .i64 1), r3.1] r3.2).bind fun r4 =>
 (aUn .not r4.1).bind fun v5 =>
 some (0, [v5], r4.2))
 (some (0, [skipV], r1.2))).bind fun g6 =>
 (aPick v2 (.bool true) (g6.2.1.getD 0 .undef)).bind fun v7 =>
 condV v7
 (some (0, [(.bool false)], g6.2.2))
 ((call 33 [r1.1, (.int .i64 0)] g6.2.2).bind fun r8 =>
 (aLen false r8.1).bind fun v9 =>
 (aBin .eql .plain v9 (.int .i64 2)).bind fun v10 =>
 (guardV v10 true
 ((aIaddr 9 r8.1 (.int .i64 0)).bind fun v11 =>
 (aFaddr 8 v11).bind fun v12 =>
 (aLoad r8.2 1 v12).bind fun c13 =>
 (fromCells false c13).bind fun v14 =>
 (aUn .not v14).bind fun v15 =>
 some (0, [v15], r8.2))
 (some (0, [skipV], r8.2))).bind fun g16 =>
 (aPick v10 (g16.2.1.getD 0 .undef) (.bool false)).bind fun v17 =>
 (guardV v17 true
 ((aIaddr 9 r8.1 (.int .i64 1)).bind fun v18 =>
 (aFaddr 8 v18).bind fun v19 =>
 (aLoad g16.2.2 1 v19).bind fun c20 =>
 (fromCells false c20).bind fun v21 =>
 (aUn .not v21).bind fun v22 =>
 some (0, [v22], g16.2.2))
 (some (0, [skipV], g16.2.2))).bind fun g23 =>
 (aPick v17 (g23.2.1.getD 0 .undef) (.bool false)).bind fun v24 =>
 (guardV v24 true
 ((call 22 [] g23.2.2).bind fun r25 =>
 some (0, [r25.1], r25.2))
 (some (0, [skipV], g23.2.2))).bind fun g26 =>
 (aPick v24 (g26.2.1.getD 0 .undef) (.bool false)).bind fun v27 =>
 some (0, [v27], g26.2.2))
theorem run12 (call : Go.Fw.Call) (a0 : AVal) (h : Heap) : runFn call (.code A12) [a0] h = (S12 call a0 h).bind ansOf := by kernel_rfl
end Abs
theorem aw : okR (kS tblS 100 22 [] T0) = true := by decide +kernel
theorem aw_prim : PrimOk Tryz.prog 22 semT := by
  obtain ⟨h', e⟩ := ran tbl_is aw 0
  exact primT rfl prog_ok (by kernel_rfl) e
noncomputable def look (f : Nat) : Option TFn := ifB (Nat.beq f 22) (some FT) (tblS.get f)
noncomputable def tblX (f : Nat) : Option AFn := bif Nat.beq f 22 then some (.prim semT) else tblA.get f
theorem look_is (f : Nat) (F : TFn) (h : look f = some F) : ∃ a, tblX f = some a ∧ Is F a := by
  unfold look at h
  unfold tblX
  cases hb : Nat.beq f 22 with
  | true => rw [hb] at h; cases h; exact ⟨_, rfl, is_T⟩
  | false => rw [hb] at h; exact tbl_is.get f F h
theorem progX_ok : CallOk Tryz.prog (E tblX) := E_ok fun f a h => by
  unfold tblX at h
  cases hb : Nat.beq f 22 with
  | true =>
    rw [hb] at h
    cases h
    rw [Nat.eq_of_beq_eq_true hb]
    exact aw_prim
  | false =>
    rw [hb] at h
    have := tbl_all.get f a h
    simpa using this
noncomputable abbrev cK : TCall := kSf look 100
theorem cK_rel : CR 0 cK (E tblX) := kSf_rel look_is 0 100
theorem t17 : tblX 17 = some (.code A17) := by kernel_rfl
theorem t19 : tblX 19 = some (.code A19) := by kernel_rfl
theorem t12 : tblX 12 = some (.code A12) := by kernel_rfl
abbrev iN (n : Nat) : AVal := .int .i64 (.ofNat n)
abbrev bT : AVal := .bool true
abbrev bF : AVal := .bool false
abbrev nP : AVal := .nilPtr
abbrev nS : AVal := .nilSlice
def c0w : AVal := .ptr 32 0
def c0n : Nat := 1448
def c0 : List (Nat × List AVal) := [(0,[iN 0,iN 2,iN 2]),
 (1,[.slice 0 0 3 3 1 true]),
 (2,[.slice 14 0 1 1 1 false,.slice 30 0 2 2 1 false,.ptr 1 0]),
 (6,[iN 32,.slice 778 0 2 2 10 false]),
 (7,[iN 0,iN 0,iN 0]),
 (8,[iN 2,.slice 782 0 2 2 2 false]),
 (9,[iN 0,iN 0,iN 0,iN 2,.ptr 6 0,.ptr 7 0,.ptr 8 0]),
 (10,[nS,.slice 11 0 0 0 1 true,iN 0]),
 (11,[]),
 (12,[iN 0,iN 0,nS,iN 0,.ptr 9 0,.ptr 10 0]),
 (14,[.ptr 12 0]),
 (18,[iN 0]),
 (19,[.slice 623 0 1 1 9 true,iN 1]),
 (20,[.str [97,112,112,48],.str [105,100,48],.slice 18 0 1 1 1 false,iN 0,iN 2,.ptr 19 0,.slice 35 3 0 0 3 false,bT,iN 1,iN 15,iN 1,bT,bF,iN 1,iN 5,iN 0,iN 0,iN 2,iN 0,.int .i64 (.negSucc 0),.str [],.str [],bF,.int .u32 (.ofNat 0),nS,nS,iN 2,bT,iN 1,bT,iN 2]),
 (26,[iN 0]),
 (27,[.slice 1377 0 2 2 9 true,iN 2]),
 (28,[.str [97,112,112,48],.str [105,100,49],.slice 26 0 1 1 1 false,iN 0,iN 2,.ptr 27 0,.slice 660 3 0 0 3 false,bT,iN 1,iN 15,iN 1,bT,bF,iN 1,iN 5,iN 0,iN 0,iN 2,iN 0,.int .i64 (.negSucc 0),.str [],.str [],bF,.int .u32 (.ofNat 0),nS,nS,iN 2,bT,iN 1,bT,iN 2]),
 (30,[.ptr 20 0,.ptr 28 0]),
 (31,[iN 3,.slice 133 0 0 1 3 false,bF,bF,bF,bF,bF,bF,bF,bF,bF,bF,bF,bF,bF,bF,bF,bF,bF,bF,bF,bF,bF,bF,bF,bF,bF,bF,bF,bF,bF,bF,bF,bF,bF,bF,bF,bF]),
 (32,[.ptr 2 0,.ptr 31 0]),
 (35,[iN 1,iN 15,iN 1]),
 (133,[iN 0,iN 0,nS]),
 (623,[.str [97,112,112,48],.str [105,100,48],iN 1,iN 0,iN 15,iN 0,iN 0,iN 1,bF]),
 (660,[iN 1,iN 15,iN 1]),
 (778,[.str [97,112,112,48],.str [105,100,48],iN 1,iN 0,iN 15,iN 0,iN 0,iN 1,bF,iN 0,.str [97,112,112,48],.str [105,100,49],iN 1,iN 0,iN 15,iN 0,iN 0,iN 2,bF,iN 0]),
 (782,[.str [97,112,112,48],.str [105,100,48],.str [97,112,112,48],.str [105,100,49]]),
 (1377,[.str [97,112,112,48],.str [105,100,48],iN 1,iN 0,iN 15,iN 0,iN 0,iN 1,bF,.str [97,112,112,48],.str [105,100,49],iN 1,iN 0,iN 15,iN 0,iN 0,iN 2,bF])]
def c1w : AVal := .ptr 32 0
def c1n : Nat := 10080
def c1 : List (Nat × List AVal) := [(0,[iN 0,iN 202,iN 2]),
 (1,[.slice 0 0 3 3 1 true]),
 (2,[.slice 14 0 1 1 1 false,.slice 30 0 2 2 1 false,.ptr 1 0]),
 (6,[iN 32,.slice 778 0 2 2 10 false]),
 (7,[iN 0,iN 0,iN 20]),
 (8,[iN 2,.slice 782 0 2 2 2 false]),
 (9,[iN 0,iN 0,iN 0,iN 2,.ptr 6 0,.ptr 7 0,.ptr 8 0]),
 (10,[nS,.slice 11 0 0 0 1 true,iN 0]),
 (11,[]),
 (12,[iN 0,iN 0,nS,iN 0,.ptr 9 0,.ptr 10 0]),
 (14,[.ptr 12 0]),
 (18,[iN 0]),
 (19,[.slice 10009 0 2 2 9 true,iN 2]),
 (20,[.str [97,112,112,48],.str [105,100,48],.slice 18 0 1 1 1 false,iN 0,iN 202,.ptr 19 0,.slice 35 3 0 0 3 false,bT,iN 1,iN 15,iN 1,bT,bF,iN 1,iN 5,iN 0,iN 0,iN 30,iN 0,iN 2,.str [],.str [],bF,.int .u32 (.ofNat 0),nS,nS,iN 202,bT,iN 201,bT,iN 202]),
 (26,[iN 0]),
 (27,[.slice 1377 0 2 2 9 true,iN 2]),
 (28,[.str [97,112,112,48],.str [105,100,49],.slice 26 0 1 1 1 false,iN 0,iN 2,.ptr 27 0,.slice 660 3 0 0 3 false,bT,iN 1,iN 15,iN 1,bT,bF,iN 1,iN 5,iN 0,iN 0,iN 2,iN 0,.int .i64 (.negSucc 0),.str [],.str [],bF,.int .u32 (.ofNat 0),nS,nS,iN 2,bT,iN 1,bT,iN 2]),
 (30,[.ptr 20 0,.ptr 28 0]),
 (31,[iN 3,.slice 133 0 0 1 3 false,bF,bF,bF,bF,bF,bF,bF,bF,bF,bF,bF,bF,bF,bF,bF,bF,bF,bF,bF,bF,bF,bF,bF,bF,bF,bF,bF,bF,bF,bF,bF,bF,bF,bF,bF,bF]),
 (32,[.ptr 2 0,.ptr 31 0]),
 (35,[iN 1,iN 15,iN 1]),
 (133,[iN 0,iN 0,nS]),
 (660,[iN 1,iN 15,iN 1]),
 (778,[.str [97,112,112,48],.str [105,100,48],iN 1,iN 0,iN 15,iN 0,iN 0,iN 1,bF,iN 0,.str [97,112,112,48],.str [105,100,49],iN 1,iN 0,iN 15,iN 0,iN 0,iN 2,bF,iN 0]),
 (782,[.str [97,112,112,48],.str [105,100,48],.str [97,112,112,48],.str [105,100,49]]),
 (1377,[.str [97,112,112,48],.str [105,100,48],iN 1,iN 0,iN 15,iN 0,iN 0,iN 1,bF,.str [97,112,112,48],.str [105,100,49],iN 1,iN 0,iN 15,iN 0,iN 0,iN 2,bF]),
 (10009,[.str [97,112,112,48],.str [105,100,48],iN 1,iN 0,iN 15,iN 0,iN 0,iN 1,bF,.str [97,112,112,48],.str [105,100,49],iN 1,iN 0,iN 15,iN 0,iN 0,iN 2,bF])]
theorem runA : isR (cK 16 [.int .i64 (.ofNat 2), .int .i64 (.ofNat 15)] T0) c0w c0n c0 = true := by decide +kernel
noncomputable def chk (t : TH) : Bool := okR (F12 (ovrK 16 19 c0w cK) [.int .i64 (.ofNat 0)] t)
noncomputable def step (t : TH) : KR := cK 19 [c0w, .int .i64 (.ofNat 1), .int .i64 (.ofNat 1)] t
theorem runB : walk step chk (fun t => atLeast t c1n c1) 200 (ofL c0n c0) = true := by decide +kernel
theorem runC : walk step chk (fun _ => true) 200 (ofL c1n c1) = true := by decide +kernel
theorem rep_w : rep 0 c0w = c0w := by simp [c0w]
noncomputable abbrev stepE (h : Heap) : Option (AVal × Heap) := E tblX 19 [c0w, .int .i64 1, .int .i64 1] h
theorem step_rel' (t : TH) (h : Heap) (S : Sub 0 t h) : RR 0 (step t) (stepE h) := by
  have := cK_rel 19 [c0w, .int .i64 (.ofNat 1), .int .i64 (.ofNat 1)] t h S
  rw [repL_cons, repL_cons, repL_cons, repL_nil, rep_w, rep_int] at this
  exact this
theorem all (h1 : Heap) (S : Sub 0 (ofL c0n c0) h1) (m : Nat) (hm : m ≤ 400) : ∃ t' h', goes stepE m h1 = some h' ∧ Sub 0 t' h' ∧ chk t' = true := by
  obtain ⟨a, t2, h2, g2, S2, e2⟩ := walk_rel step_rel' 200 _ h1 S runB
  by_cases c : m ≤ 200
  · exact a m c
  · obtain ⟨b, _⟩ := walk_rel step_rel' 200 _ h2 (S2.less e2) runC
    obtain ⟨t', h', g, S', e⟩ := b (m - 200) (by omega)
    refine ⟨t', h', ?_, S', e⟩
    rw [show m = 200 + (m - 200) by omega, goes_add, g2]
    exact g
theorem rest (a : Int) (n : Nat) (ha : wn a 400 = n) {h0 h1 h2 : Heap} (e16 : E tblX 16 [.int .i64 2, .int .i64 15] h0 = some (c0w, h1)) (e19 : E tblX 19 [c0w, .int .i64 1, .int .i64 n] h1 = some (.bool true, h2)) :
    Abs.S12 (E tblX) (.int .i64 a) h0 = Abs.S12 (ovrE 16 19 c0w (E tblX)) (.int .i64 0) h2 := by
  have o16 : ∀ x h, ovrE 16 19 c0w (E tblX) 16 x h = some (c0w, h) := fun x h => rfl
  have o19 : ∀ x h, ovrE 16 19 c0w (E tblX) 19 x h = some (.bool true, h) := fun x h => rfl
  have o17 : ∀ x h, ovrE 16 19 c0w (E tblX) 17 x h = E tblX 17 x h := fun x h => rfl
  have o33 : ∀ x h, ovrE 16 19 c0w (E tblX) 33 x h = E tblX 33 x h := fun x h => rfl
  have o22 : ∀ x h, ovrE 16 19 c0w (E tblX) 22 x h = E tblX 22 x h := fun x h => rfl
  unfold Abs.S12
  have wnil : aBin .eql .ptr c0w .nilPtr = some (.bool false) := rfl
  simp only [e16, o16, o17, o19, o33, o22, Option.bind_some, within t17 _ 400 (by omega) (by omega), ha, wnil, guard_bool]
  simp only [e19, Option.bind_some, show (false == false) = true from rfl, cond_true, un_not, List.getD_cons_zero, pick_bool, cond_bool, cond_false, Bool.not_true, Bool.not_false]
theorem topClocksL (a : Int) : ∃ h', E tblX 12 [.int .i64 a] emptyHeap = some (.bool true, h') := by
  obtain ⟨n, hn, hle⟩ := wn_nat a 400
  have hn : wn a 400 = n := hn
  obtain ⟨h1, e16, S1⟩ := isR_rel (cK_rel 16 _ T0 emptyHeap (T0_sub 0)) runA
  rw [rep_w] at e16
  rw [repL_cons, repL_cons, repL_nil, rep_int, rep_int] at e16
  have e16 : E tblX 16 [.int .i64 2, .int .i64 15] emptyHeap = some (c0w, h1) := e16
  obtain ⟨t2, h2, g, S2, e⟩ := all h1 S1 n hle
  have e19 := flow_goes t19 c0w (.int .i64 1) n (by omega) g
  obtain ⟨h3, e3⟩ := okR_rel (st12 _ _ _ ▸ func_rel (ovr_rel rep_w cK_rel) (by kernel_rfl) [.int .i64 (.ofNat 0)] S2) e
  rw [repL_cons, repL_nil, rep_int] at e3
  refine ⟨h3, ?_⟩
  rw [E_eq, t12]
  simp only
  rw [Abs.run12, rest a n hn e16 e19, ← Abs.run12]
  exact e3
end Go.Proofs.YtinkiihdnepfjaaGreatDoor.Code
