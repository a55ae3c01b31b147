/- Chapter 3: FrameTells, FrameStops, where what is fed is not too great. -/
import Derived.Test.YtmmfcgbcocmkgaaNumbers
namespace Go.Proofs.Ytmmfcgbcocmkgaa.Code
set_option linter.unusedSimpArgs false
set_option linter.unusedVariables false
open Go.Fw

theorem frameTells_upto (h0 : Heap) {s : AVal} {R : List (AVal × List Int)} (I : Go.Fw.Rows .u8 s h0 R) (sz : R.length * 24 ≤ 140737488355328) (_ : ∀ x ∈ R, x.2.length * 1 ≤ 140737488355328)
    {s1 : AVal} {l1 : List Int} (I1 : Ints .u8 s1 h0 l1) (lt1 : ∀ b, slBlk s1 = some b → b < h0.next) (wf1 : ∀ x ∈ l1, (Lit.int .u8 x).wf = true) (sz1 : l1.length * 1 ≤ 140737488355328) (rm1 : El.Room s1) (up1 : l1.length ≤ 1048576)
    {s2 : AVal} {l2 : List Int} (I2 : Ints .i64 s2 h0 l2) (lt2 : ∀ b, slBlk s2 = some b → b < h0.next) (_ : ∀ x ∈ l2, (Lit.int .i64 x).wf = true) (sz2 : l2.length * 8 ≤ 140737488355328) (_ : El.Room s2) (_ : l2.length ≤ 1048576)
    (at_ : Int) (_ : (Lit.int .i64 at_).wf = true) (turn : Int) (wt : (Lit.int .u8 turn).wf = true) : ∃ h', E tbl 4 [s, s1, s2, .int .i64 at_, .int .u8 turn] h0 = some (.bool true, h') := by
  obtain ⟨L, B, hL, _⟩ := I.bytes
  obtain ⟨t, rfl⟩ := u8_wf wt
  obtain ⟨raw, hraw, BR⟩ := ints_bytes I1 lt1 wf1
  obtain ⟨o, h1, e1, F1⟩ := row_ok B (by omega)
  have hlen := rowB_len (L.map (·.2))
  generalize rowB (L.map (·.2)) = bb at F1 hlen
  obtain ⟨x, h2, e2, FX⟩ := F1.bs.again (by omega)
  have F12 : Went h0 h2 := F1.went.trans FX.went
  have lx := FX.own.src.len
  -- the law's turned byte
  obtain ⟨h3, xb, e3, FX3⟩ : ∃ (h3 : Heap) (xb : List UInt8), (condV (.bool (decide ((0 : Int) < (bb.length : Int))))
 ((aBin .sub .plain (.int .i64 bb.length) (.int .i64 1)).bind fun v7 =>
 (E tbl 16 [.int .i64 at_, (.int .i64 0), v7] h2).bind fun r8 =>
 (aIaddr 1 x r8.1).bind fun v9 =>
 (aLoad r8.2 1 v9).bind fun c10 =>
 (fromCells false c10).bind fun v11 =>
 (aBin .xor .plain v11 (.int .u8 (t.toNat : Int))).bind fun v12 =>
 (aIaddr 1 x r8.1).bind fun v13 =>
 (aCells 1 v12).bind fun c14 =>
 (aStore r8.2 v13 c14).bind fun h15 =>
 some (0, [s1, s2, o, x], h15))
 (some (0, [s1, s2, o, x], h2))) = some (0, [s1, s2, o, x], h3) ∧ Fresh h1 x h3 xb ∧ xb.length = bb.length := by
    by_cases hb : 0 < bb.length
    · have i1 : (0 : Int) < (bb.length : Int) := by omega
      have wl : IntKind.i64.wrap ((bb.length : Int) - 1) = ((bb.length - 1 : Nat) : Int) := by rw [IntWalk.i64_in _ (by omega)]; omega
      have e5 := within_ok at_ 0 ((bb.length - 1 : Nat) : Int) h2 (by omega) (by omega) (by omega)
      have wi := within_in at_ 0 ((bb.length - 1 : Nat) : Int) (by omega)
      obtain ⟨k, hk⟩ : ∃ k : Nat, within at_ 0 ((bb.length - 1 : Nat) : Int) = (k : Int) := ⟨(within at_ 0 ((bb.length - 1 : Nat) : Int)).toNat, by omega⟩
      rw [hk] at e5 wi
      obtain ⟨p, h3, q1, q2, q3, F3, n3, f3⟩ := FX.set k (by omega) (bb[k]'(by omega) ^^^ t)
      have x1 := Go.Fw.u8_xor (bb[k]'(by omega)) t
      have hcv : ∀ y : UInt8, aCells 1 (.int .u8 (y.toNat : Int)) = some [.int .u8 (y.toNat : Int)] := fun _ => rfl
      refine ⟨h3, _, ?_, F3, by simp⟩
      simp only [i1, decide_true, cond_bool, cond_true, Option.bind_some, bin_sub, wl, e5, q1, q2, from_one, x1, hcv, q3]
    · have i1 : ¬ (0 : Int) < (bb.length : Int) := by omega
      exact ⟨h2, bb, by simp only [i1, decide_false, cond_bool, cond_false], FX, rfl⟩
  obtain ⟨FX3, hxb⟩ := FX3
  have W3 : Went h1 h3 := FX3.went
  have V3 := F1.went.trans W3
  obtain ⟨h4, e4, W4⟩ := play_ok (W3.src F1.bs) F1.own.room (I2.mono fun c hc => V3.old c (lt2 c hc)) (fun c hc => Nat.lt_of_lt_of_le (lt2 c hc) V3.next) (by omega) (by omega)
  have V4 := V3.trans W4
  obtain ⟨h5, e5, W5⟩ := play_ok (W4.src FX3.bs) FX3.own.room (I2.mono fun c hc => V4.old c (lt2 c hc)) (fun c hc => Nat.lt_of_lt_of_le (lt2 c hc) V4.next) (by omega) (by omega)
  have V5 := V4.trans W5
  obtain ⟨h6, e6, W6⟩ := play_ok (V5.src BR) rm1 (I2.mono fun c hc => V5.old c (lt2 c hc)) (fun c hc => Nat.lt_of_lt_of_le (lt2 c hc) V5.next) (by omega) (by omega)
  have V6 := V5.trans W6
  have W36 := W3.trans (W4.trans (W5.trans W6))
  have FB : Fresh h0 o h6 bb := ⟨W36.own F1.own, V6⟩
  obtain ⟨y, h7, e7, O7, K7⟩ := FB.own.app (bytes := 1) (zero := [.int .u8 0]) (V6.src BR) (by omega) FB.went.next (by omega) (by omega)
  rw [← byteCells_app, ← List.length_append] at O7
  have F7 : Fresh h0 y h7 (bb ++ raw) := ⟨O7, K7.went FB.went fun b hb => (FB.own.blk b hb).1⟩
  have V7 := F7.went
  obtain ⟨h8, e8, W8⟩ := play_ok F7.bs F7.own.room (I2.mono fun c hc => V7.old c (lt2 c hc)) (fun c hc => Nat.lt_of_lt_of_le (lt2 c hc) V7.next) (by rw [List.length_append]; omega) (by omega)
  have V8 := V7.trans W8
  obtain ⟨h9, e9, W9⟩ := ones_ok (V8.src BR) rm1 (by omega)
  have V9 := V8.trans W9
  -- x is still there: nothing of it was lent
  have BX9 : Bs x h9 xb := by
    have hxo : ∀ c, slBlk x = some c → slBlk o ≠ some c := fun c hc e => by
      have := (FX3.own.blk c hc).1; have := (F1.own.blk c e).2; omega
    have hx6 : Bs x h6 xb := (W4.trans (W5.trans W6)).src FX3.bs
    exact W9.src (W8.src (Fw.Src.kept hx6 K7.next fun c hc => K7.old c (hx6.blk c hc) (hxo c hc)))
  obtain ⟨h10, e10, W10⟩ := ones_ok BX9 FX3.own.room (by omega)
  have V10 := V9.trans W10
  have e11 := sum_eq (V10.src BR) (by omega)
  have e12 := rsum_eq (V10.src BR) (by omega)
  obtain ⟨h13, e13, _⟩ := known_ok h10
  refine ⟨h13, ?_⟩
  have f0 : aFill (reps [AVal.int .u8 0] 0) [] = some [] := rfl
  rw [c4]
  simp only [S4, e1, Option.bind_some, f0, e2, lx, bin_gtr, gt_iff_lt, e3, beq_dec, decide_true, cond_true, List.getD_cons_zero, List.getD_cons_succ, e4, guard_bool, beq_self_eq_true, e5, pick_bool, e6, e7, e8, e9, e10, e11, e12, bin_eql, e13, ans_one]
end Go.Proofs.Ytmmfcgbcocmkgaa.Code
namespace Go.Proofs.Ytmmfcgbcocmkgaa.Code
set_option linter.unusedSimpArgs false
set_option linter.unusedVariables false
open Go.Fw

theorem u8_four (c : UInt8) : c ^^^ 4 ≠ c := by
  intro h
  have h1 : (c ^^^ 4) ^^^ c = c ^^^ c := by rw [h]
  rw [UInt8.xor_comm, ← UInt8.xor_assoc, UInt8.xor_self, UInt8.zero_xor] at h1
  exact absurd h1 (by decide)

/-- What a stream makes of a frame, right or turned. -/
theorem stop_feed {h G : Heap} {p : Nat} {sp : AVal} {w : Nat} (T : Beside h G p sp [] w) {f : AVal} {b : List UInt8} (hf : ∀ c, slBlk f = some c → c ≠ p) (S : Bs f G b) (hb : b.length ≤ 1000) :
    ∃ o G' s', E tbl 18 [.ptr p 0, f] G = some (.tuple [o, .int .i64 ((feedP [] w b).2.1 : Nat)], G') ∧ Outs G.next G' o (feedP [] w b).1 ∧ Beside h G' p s' (feedP [] w b).2.2 (feedP [] w b).2.1 ∧ Only p G G' := by
  obtain ⟨o, G', s', e, O, T', On, _⟩ := T.feed S hf (by simp; omega)
  exact ⟨o, G', s', e, O, T', On⟩

theorem frameStops_upto (h0 : Heap) {s : AVal} {R : List (AVal × List Int)} (I : Go.Fw.Rows .u8 s h0 R) (sz : R.length * 24 ≤ 140737488355328) (_ : ∀ x ∈ R, x.2.length * 1 ≤ 140737488355328)
    (bad : Int) (_ : (Lit.int .i64 bad).wf = true)
    {s1 : AVal} {l1 : List Int} (I1 : Ints .u8 s1 h0 l1) (lt1 : ∀ b, slBlk s1 = some b → b < h0.next) (wf1 : ∀ x ∈ l1, (Lit.int .u8 x).wf = true) (sz1 : l1.length * 1 ≤ 140737488355328) (rm1 : El.Room s1) (up1 : l1.length ≤ 1048576) : ∃ h', E tbl 6 [s, .int .i64 bad, s1] h0 = some (.bool true, h') := by
  obtain ⟨L, B, hL, _⟩ := I.bytes
  obtain ⟨more, hmore, BM⟩ := ints_bytes I1 lt1 wf1
  have ln := B.len
  have n1 := new_eq h0
  have T0 : Beside h0 (h0.alloc [.nilSlice, .int .i64 0]) h0.next .nilSlice [] 0 := ⟨Went.alloc _ _, St.new h0, Nat.le_refl _⟩
  obtain ⟨n, hn, hn2⟩ : ∃ n : Nat, min (L.length : Int) 6 = (n : Int) ∧ n = min L.length 6 := ⟨_, by omega, rfl⟩
  have e5 := within_ok bad 0 (n : Int) (h0.alloc [.nilSlice, .int .i64 0]) (by omega) (by omega) (by omega)
  have wi := within_in bad 0 (n : Int) (by omega)
  obtain ⟨k, hk⟩ : ∃ k : Nat, within bad 0 (n : Int) = (k : Int) := ⟨(within bad 0 (n : Int)).toNat, by omega⟩
  rw [hk] at e5 wi
  have key := loop_ok (f := L6_0 (E tbl)) (fun m xs G => ∃ (i : Nat) (sp : AVal), m + i = n ∧ Beside h0 G h0.next sp [] (if i ≤ k then 0 else 13) ∧ xs = [s, s1, .ptr h0.next 0, .int .i64 n, .int .i64 k, .int .i64 i])
    (fun r => ∃ (sp : AVal) (G : Heap), Beside h0 G h0.next sp [] (if n ≤ k then 0 else 13) ∧ r = (1, [s1, .ptr h0.next 0, .int .i64 n, .int .i64 k], G)) ?_ n _ _ ⟨0, .nilSlice, rfl, by simpa using T0, rfl⟩
  · obtain ⟨r, e, sp, G, T, rfl⟩ := key
    have hps : ∀ c, slBlk s1 = some c → c ≠ h0.next := fun c hc => by have := lt1 c hc; omega
    simp only [Int.cast_ofNat_Int] at e
    have hfin : ∃ o G2 s' w2, E tbl 18 [.ptr h0.next 0, s1] G = some (.tuple [o, .int .i64 (w2 : Nat)], G2) ∧ (n = k ∨ (w2 = 13 ∧ aLen false o = some (.int .i64 0) ∧ E tbl 20 [.ptr h0.next 0] G2 = some (.int .i64 0, G2) ∧ s' = sp)) := by
      by_cases hnk : n = k
      · rw [if_pos (by omega)] at T
        obtain ⟨o, G2, s', e1, _, _, _, _⟩ := T.feed (T.went.src BM) hps (by simp; omega)
        exact ⟨o, G2, s', _, e1, .inl hnk⟩
      · rw [if_neg (by omega)] at T
        obtain ⟨o, G2, s', e1, O1, T1, _, _⟩ := T.feed (T.went.src BM) hps (by simp; omega)
        have hfd : feedP [] 13 more = ([], 13, []) := rfl
        rw [hfd] at e1 O1 T1
        have l := O1.len
        have f := left_eq T1.st
        exact ⟨o, G2, sp, 13, e1, .inr ⟨rfl, l, f, rfl⟩⟩
    obtain ⟨o, G2, s', w2, e6, hor⟩ := hfin
    obtain ⟨H, e7, _⟩ := known_ok G2
    refine ⟨H, ?_⟩
    rw [c6]
    rcases hor with hnk | ⟨rfl, l, f, _⟩
    · have ik : ((k : Int) == (n : Int)) = true := by simp only [beq_iff_eq]; omega
      simp only [S6, n1, Option.bind_some, bin_ptr_nil, cond_bool, cond_false, ln, min_two, hn, e5, e, beq_dec, decide_true, cond_true, List.getD_cons_zero, List.getD_cons_succ, e6, ext_0, ext_1, bin_eql, ik]
      simp [e7]
    · by_cases hkn : k = n
      · have ik : ((k : Int) == (n : Int)) = true := by simp only [beq_iff_eq]; omega
        simp only [S6, n1, Option.bind_some, bin_ptr_nil, cond_bool, cond_false, ln, min_two, hn, e5, e, beq_dec, decide_true, cond_true, List.getD_cons_zero, List.getD_cons_succ, e6, ext_0, ext_1, bin_eql, ik]
        simp [e7]
      · have ik : ((k : Int) == (n : Int)) = false := by simp only [beq_eq_false_iff_ne, ne_eq]; omega
        simp only [Int.cast_ofNat_Int] at e6
        simp only [S6, n1, Option.bind_some, bin_ptr_nil, cond_bool, cond_false, ln, min_two, hn, e5, e, beq_dec, decide_true, cond_true, List.getD_cons_zero, List.getD_cons_succ, e6, ext_0, ext_1, bin_eql, ik]
        simp [l, f, e7]
  · rintro m xs G ⟨i, sp, m1, T, rfl⟩
    by_cases h1 : i < n
    · left
      have i1 : (i : Int) < (n : Int) := by omega
      have w1 : IntKind.i64.wrap ((i : Int) + 1) = ((i + 1 : Nat) : Int) := wrap_succ _ (by omega)
      obtain ⟨p, e1, e2, S, RR⟩ := (B.went T.went).at i (by omega)
      have lb := S.len
      have fin : ∀ {x : AVal} {b : List UInt8}, Bs x G b → b.length ≤ 30 → (∀ c, slBlk x = some c → c < h0.next) → ∃ G' sp', (((E tbl 12 [x] G).bind fun r14 =>
 (aExtract 0 r14.1).bind fun v15 =>
 (aExtract 1 r14.1).bind fun v16 =>
 (aBin .neq .plain v16 (.int .i64 0)).bind fun v17 =>
 (guardV v17 false
 ((aLen false v15).bind fun v18 =>
 (aBin .lss .plain v18 (.int .i64 8)).bind fun v19 =>
 some (0, [v19], r14.2))
 (some (0, [skipV], r14.2))).bind fun g20 =>
 (aPick v17 (.bool true) (g20.2.1.getD 0 .undef)).bind fun v21 =>
 condV v21
 (some (2, [(.bool false)], g20.2.2))
 ((aBin .eql .plain (.int .i64 i) (.int .i64 k)).bind fun v22 =>
 (condV v22
 ((aLen false v15).bind fun v23 =>
 (aBin .sub .plain v23 (.int .i64 1)).bind fun v24 =>
 (aIaddr 1 v15 v24).bind fun v25 =>
 (aLoad g20.2.2 1 v25).bind fun c26 =>
 (fromCells false c26).bind fun v27 =>
 (aBin .xor .plain v27 (.int .u8 4)).bind fun v28 =>
 (aIaddr 1 v15 v24).bind fun v29 =>
 (aCells 1 v28).bind fun c30 =>
 (aStore g20.2.2 v29 c30).bind fun h31 =>
 some (0, [s, s1, .ptr h0.next 0, .int .i64 n, .int .i64 k, .int .i64 i, x, v15], h31))
 (some (0, [s, s1, .ptr h0.next 0, .int .i64 n, .int .i64 k, .int .i64 i, x, v15], g20.2.2))).bind fun x32 =>
 bif Nat.beq x32.1 0 then (E tbl 18 [(x32.2.1.getD 2 .undef), (x32.2.1.getD 7 .undef)] x32.2.2).bind fun r33 =>
 (aExtract 0 r33.1).bind fun v34 =>
 (aExtract 1 r33.1).bind fun v35 =>
 (aBin .lss .plain (x32.2.1.getD 5 .undef) (x32.2.1.getD 4 .undef)).bind fun v36 =>
 (guardV v36 true
 ((aBin .neq .plain v35 (.int .i64 0)).bind fun v37 =>
 (guardV v37 false
 ((aLen false v34).bind fun v38 =>
 (aBin .neq .plain v38 (.int .i64 1)).bind fun v39 =>
 some (0, [v39], r33.2))
 (some (0, [skipV], r33.2))).bind fun g40 =>
 (aPick v37 (.bool true) (g40.2.1.getD 0 .undef)).bind fun v41 =>
 (guardV v41 false
 ((aIaddr 1 v34 (.int .i64 0)).bind fun v42 =>
 (aLoad g40.2.2 1 v42).bind fun c43 =>
 (fromCells false c43).bind fun v44 =>
 (aConv .bytesStr v44 g40.2.2).bind fun r45 =>
 (aConv .bytesStr (x32.2.1.getD 6 .undef) r45.2).bind fun r46 =>
 (aBin .neq .plain r45.1 r46.1).bind fun v47 =>
 some (0, [v47], r46.2))
 (some (0, [skipV], g40.2.2))).bind fun g48 =>
 (aPick v41 (.bool true) (g48.2.1.getD 0 .undef)).bind fun v49 =>
 some (0, [v49], g48.2.2))
 (some (0, [skipV], r33.2))).bind fun g50 =>
 (aPick v36 (g50.2.1.getD 0 .undef) (.bool false)).bind fun v51 =>
 (guardV v51 false
 ((aBin .geq .plain (x32.2.1.getD 5 .undef) (x32.2.1.getD 4 .undef)).bind fun v52 =>
 (guardV v52 true
 ((aBin .neq .plain v35 (.int .i64 13)).bind fun v53 =>
 (guardV v53 false
 ((aLen false v34).bind fun v54 =>
 (aBin .neq .plain v54 (.int .i64 0)).bind fun v55 =>
 some (0, [v55], g50.2.2))
 (some (0, [skipV], g50.2.2))).bind fun g56 =>
 (aPick v53 (.bool true) (g56.2.1.getD 0 .undef)).bind fun v57 =>
 some (0, [v57], g56.2.2))
 (some (0, [skipV], g50.2.2))).bind fun g58 =>
 (aPick v52 (g58.2.1.getD 0 .undef) (.bool false)).bind fun v59 =>
 some (0, [v59], g58.2.2))
 (some (0, [skipV], g50.2.2))).bind fun g60 =>
 (aPick v51 (.bool true) (g60.2.1.getD 0 .undef)).bind fun v61 =>
 condV v61
 (some (2, [(.bool false)], g60.2.2))
 ((aBin .add .plain (x32.2.1.getD 5 .undef) (.int .i64 1)).bind fun v62 =>
 some (0, [(x32.2.1.getD 0 .undef), (x32.2.1.getD 1 .undef), (x32.2.1.getD 2 .undef), (x32.2.1.getD 3 .undef), (x32.2.1.getD 4 .undef), v62], g60.2.2)) else
 none)) = some (0, [s, s1, .ptr h0.next 0, .int .i64 n, .int .i64 k, .int .i64 ((i + 1 : Nat) : Int)], G')) ∧ Beside h0 G' h0.next sp' [] (if i + 1 ≤ k then 0 else 13) := by
        intro x b Sx hb hx
        obtain ⟨f, G1, e3, F1⟩ := bytes_eq Sx (by omega)
        have lf := F1.own.src.len
        have hlen : (frameB b).length = b.length + 8 := frameB_len b
        have i8 : ¬ ((frameB b).length : Int) < 8 := by omega
        have hp := T.st.lt
        have hff : ∀ c, slBlk f = some c → c ≠ h0.next := fun c hc => by have := (F1.own.blk c hc).1; omega
        have T1 := T.more F1.went
        by_cases hik : i = k
        · subst hik
          rw [if_pos (Nat.le_refl _)] at T1
          have wl : IntKind.i64.wrap (((frameB b).length : Int) - 1) = (((frameB b).length - 1 : Nat) : Int) := by rw [IntWalk.i64_in _ (by omega)]; omega
          obtain ⟨q, G2, q1, q2, q3, F2, n2, f2⟩ := F1.set ((frameB b).length - 1) (by omega) ((frameB b)[(frameB b).length - 1]'(by omega) ^^^ 4)
          have T2 : Beside h0 G2 h0.next sp [] 0 := ⟨⟨by rw [n2]; exact T1.went.next, fun c hc => by
              rw [f2 c fun e => by have := (F1.own.blk c e).1; have := T.went.next; omega, T1.went.old c hc]⟩, T1.st.kept (by rw [n2]; exact Nat.le_refl _) fun c hc hor => f2 c fun e => by
                rcases hor with h | h
                · exact hff c e h
                · have := T.st.bs.blk c h; have := (F1.own.blk c e).1; omega, T1.hp⟩
          obtain ⟨o, G3, s3, e4, O4, T4, On4⟩ := stop_feed T2 hff F2.bs (by rw [List.length_set]; omega)
          have hfd : feedP [] 0 ((frameB b).set ((frameB b).length - 1) ((frameB b)[(frameB b).length - 1]'(by omega) ^^^ 4)) = ([], 13, []) := turned_next b (by omega) _ (by omega) (by omega) _ (u8_four _)
          rw [hfd] at e4 O4 T4
          have lo := O4.len
          have x1 := Go.Fw.u8_xor ((frameB b)[(frameB b).length - 1]'(by omega)) 4
          have x1' : aBin .xor .plain (.int .u8 (((frameB b)[(frameB b).length - 1]'(by omega)).toNat : Int)) (.int .u8 4) = some (.int .u8 (((frameB b)[(frameB b).length - 1]'(by omega) ^^^ 4).toNat : Int)) := x1
          have hcv : ∀ y : UInt8, aCells 1 (.int .u8 (y.toNat : Int)) = some [.int .u8 (y.toNat : Int)] := fun _ => rfl
          refine ⟨G3, s3, ?_, by rw [if_neg (by omega)]; exact T4⟩
          simp only [Int.cast_ofNat_Int, List.length_nil] at e4 lo
          have ii : ¬ (i : Int) < (i : Int) := by omega
          simp only [e3, Option.bind_some, ext_0, ext_1, bin_neq, bne_self_eq_false, guard_bool, beq_self_eq_true, cond_true, lf, bin_lss, i8, decide_false, pick_bool, cond_false, cond_bool, bin_eql, bin_sub, wl, q1, q2, from_one, x1', hcv, q3, Nat.beq_refl, List.getD_cons_zero, List.getD_cons_succ, e4, ii, lo]
          simp [w1]
        · have ik : ((i : Int) == (k : Int)) = false := by simp only [beq_eq_false_iff_ne, ne_eq]; omega
          obtain ⟨o, G3, s3, e4, O4, T4, On4⟩ := stop_feed T1 hff F1.bs (by omega)
          by_cases hlt : i < k
          · have ilt : (i : Int) < (k : Int) := by omega
            rw [if_pos (show i ≤ k by omega)] at e4 O4 T4
            have hfd : feedP [] 0 (frameB b) = ([b], 0, []) := parse_one b (by omega)
            rw [hfd] at e4 O4 T4
            have lo := O4.len
            obtain ⟨q, y, q1, q2, q3⟩ := O4.at 0 (by simp)
            have t1 := Fw.Src.text q3
            have t2 := Fw.Src.text (Only.src On4 (F1.went.src Sx) fun c hc => by have := hx c hc; omega)
            refine ⟨G3, s3, ?_, by rw [if_pos (by omega)]; exact T4⟩
            simp only [Int.cast_ofNat_Int, List.length_singleton, List.getElem_cons_zero] at e4 lo q1 t1
            simp only [e3, Option.bind_some, ext_0, ext_1, bin_neq, bne_self_eq_false, guard_bool, beq_self_eq_true, cond_true, lf, bin_lss, i8, decide_false, pick_bool, cond_false, cond_bool, bin_eql, ik, Nat.beq_refl, List.getD_cons_zero, List.getD_cons_succ, e4, ilt, decide_true, lo, q1, q2, from_one, t1, t2]
            have inot : ¬ k ≤ i := by omega
            simp [w1, inot]
          · have ilt : ¬ (i : Int) < (k : Int) := by omega
            rw [if_neg (show ¬ i ≤ k by omega)] at e4 O4 T4
            have hfd : feedP [] 13 (frameB b) = ([], 13, []) := rfl
            rw [hfd] at e4 O4 T4
            have lo := O4.len
            refine ⟨G3, s3, ?_, by rw [if_neg (by omega)]; exact T4⟩
            simp only [Int.cast_ofNat_Int, List.length_nil] at e4 lo
            simp only [e3, Option.bind_some, ext_0, ext_1, bin_neq, bne_self_eq_false, guard_bool, beq_self_eq_true, cond_true, lf, bin_lss, i8, decide_false, pick_bool, cond_false, cond_bool, bin_eql, ik, Nat.beq_refl, List.getD_cons_zero, List.getD_cons_succ, e4, ilt, lo]
            have iyes : k ≤ i := by omega
            simp [w1, iyes]
      have slt : ∀ c, slBlk L[i].1 = some c → c < h0.next := fun c hc => (B.2 _ (List.getElem_mem (by omega))).1.blk c hc
      by_cases h30 : 30 < L[i].2.length
      · have i3 : (30 : Int) < (L[i].2.length : Int) := by omega
        obtain ⟨x, e3, S3, _, b3⟩ := S.pre RR 30 (by omega)
        obtain ⟨G', sp', e4, T'⟩ := fin S3 (by rw [List.length_take]; omega) fun c hc => slt c (b3 c hc)
        simp only [Int.cast_ofNat_Int] at e3
        refine ⟨_, G', ?_, m - 1, by omega, i + 1, sp', by omega, T', rfl⟩
        rw [← e4]
        simp only [L6_0, List.getD_cons_zero, List.getD_cons_succ, bin_lss, i1, decide_true, Option.bind_some, cond_bool, cond_true, e1, e2, from_one, lb, bin_gtr, gt_iff_lt, i3, e3, beq_dec]
      · have i3 : ¬ (30 : Int) < (L[i].2.length : Int) := by omega
        obtain ⟨G', sp', e4, T'⟩ := fin S (by omega) slt
        refine ⟨_, G', ?_, m - 1, by omega, i + 1, sp', by omega, T', rfl⟩
        rw [← e4]
        simp only [L6_0, List.getD_cons_zero, List.getD_cons_succ, bin_lss, i1, decide_true, Option.bind_some, cond_bool, cond_true, e1, e2, from_one, lb, bin_gtr, gt_iff_lt, i3, decide_false, cond_false, beq_dec]
    · right
      obtain rfl : i = n := by omega
      exact ⟨0, _, G, by simp [L6_0], sp, G, T, rfl⟩
end Go.Proofs.Ytmmfcgbcocmkgaa.Code
