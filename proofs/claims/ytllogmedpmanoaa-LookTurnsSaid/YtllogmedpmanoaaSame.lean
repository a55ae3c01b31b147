/- The law's own part: two ways tell the same. -/
import Derived.Test.YtllogmedpmanoaaSameLaw
namespace Go.Proofs.Ytllogmedpmanoaa.Code
set_option linter.unusedSimpArgs false
set_option linter.unusedVariables false
open Go.Fw

theorem pk_or (x : AVal) : aPick (.bool true) (.bool true) x = some (.bool true) := rfl
theorem pk_ff : aPick (.bool false) (.bool true) (.bool false) = some (.bool false) := rfl
theorem pk_ft : aPick (.bool false) (.bool true) (.bool true) = some (.bool true) := rfl

theorem rcountLoop_ok {x9 row : AVal} {G : Heap} {l : List Cd} (R : SrcC row G l) (hl : l.length ≤ 1000) :
    loop (L7_0 (E tbl)) [x9, row, .int .i64 l.length, .int .i64 0, .agg (cntV [])] G = some (1, [x9, .agg (cntV l)], G) := by
  have key := loop_ok (f := L7_0 (E tbl)) (fun m xs H => ∃ n : Nat, m + n = l.length ∧ H = G ∧ xs = [x9, row, .int .i64 l.length, .int .i64 n, .agg (cntV (l.take n))])
    (fun r => r = (1, [x9, .agg (cntV l)], G)) ?_ l.length _ G ⟨0, rfl, rfl, rfl⟩
  · obtain ⟨r, e, rfl⟩ := key
    exact e
  · rintro m xs H ⟨n, m1, rfl, rfl⟩
    by_cases h1 : n < l.length
    · left
      have i1 : (n : Int) < (l.length : Int) := by omega
      obtain ⟨a, e1, e2⟩ := SrcC.card R n h1
      have w1 : IntKind.i64.wrap ((n : Int) + 1) = ((n + 1 : Nat) : Int) := wrap_succ _ (by omega)
      have k1 := shows12 l[n] H
      have c0 := cnt_take l 0 n h1
      have c1 := cnt_take l 1 n h1
      have c2 := cnt_take l 2 n h1
      have c3 := cnt_take l 3 n h1
      have v0 := cnt_wrap l 0 n hl
      have v1 := cnt_wrap l 1 n hl
      have v2 := cnt_wrap l 2 n hl
      have v3 := cnt_wrap l 3 n hl
      generalize l[n] = c at *
      refine ⟨_, H, ?_, m - 1, by omega, n + 1, by omega, rfl, rfl⟩
      have cs : ∀ x : Int, aCells 1 (.int .i64 x) = some [.int .i64 x] := fun _ => rfl
      have x0 : aIdx 4 (.int .i64 0) = some 0 := rfl
      have x1 : aIdx 4 (.int .i64 1) = some 1 := rfl
      have x2 : aIdx 4 (.int .i64 2) = some 2 := rfl
      have x3 : aIdx 4 (.int .i64 3) = some 3 := rfl
      rcases shows_cases c.shows with hv | hv | hv | hv | hv
      · rw [hv] at k1
        simp only [hv, if_true, Int.reduceEq, if_false, Int.add_zero] at c0 c1 c2 c3
        simp only [Cd.cells] at e2 k1
        simp only [L7_0, List.getD_cons_zero, List.getD_cons_succ, bin_lss, i1, decide_true, Option.bind_some, cond_bool, cond_true, e1, e2, from_agg, aCells_agg, List.length_cons, List.length_nil, Nat.zero_add, Nat.reduceAdd, Nat.reduceMul, if_true, spl_s, spl_z, spl_c, ble_dec, Nat.le_refl, rdL_t, rdL_z, rdL_s, Option.map_some, from_one, k1, bin_geq, g_and, p_and, Int.reduceGE, Int.reduceLT, decide_true, Bool.and_self, x0, aggCells_agg, bin_add, v0, cs, beq_dec, w1, cntV, c0, c1, c2, c3, pk_t, Nat.reduceLeDiff]
      · rw [hv] at k1
        simp only [hv, if_true, Int.reduceEq, if_false, Int.add_zero] at c0 c1 c2 c3
        simp only [Cd.cells] at e2 k1
        simp only [L7_0, List.getD_cons_zero, List.getD_cons_succ, bin_lss, i1, decide_true, Option.bind_some, cond_bool, cond_true, e1, e2, from_agg, aCells_agg, List.length_cons, List.length_nil, Nat.zero_add, Nat.reduceAdd, Nat.reduceMul, if_true, spl_s, spl_z, spl_c, ble_dec, Nat.le_refl, rdL_t, rdL_z, rdL_s, Option.map_some, from_one, k1, bin_geq, g_and, p_and, Int.reduceGE, Int.reduceLT, decide_true, Bool.and_self, x1, aggCells_agg, bin_add, v1, cs, beq_dec, w1, cntV, c0, c1, c2, c3, pk_t, Nat.reduceLeDiff]
      · rw [hv] at k1
        simp only [hv, if_true, Int.reduceEq, if_false, Int.add_zero] at c0 c1 c2 c3
        simp only [Cd.cells] at e2 k1
        simp only [L7_0, List.getD_cons_zero, List.getD_cons_succ, bin_lss, i1, decide_true, Option.bind_some, cond_bool, cond_true, e1, e2, from_agg, aCells_agg, List.length_cons, List.length_nil, Nat.zero_add, Nat.reduceAdd, Nat.reduceMul, if_true, spl_s, spl_z, spl_c, ble_dec, Nat.le_refl, rdL_t, rdL_z, rdL_s, Option.map_some, from_one, k1, bin_geq, g_and, p_and, Int.reduceGE, Int.reduceLT, decide_true, Bool.and_self, x2, aggCells_agg, bin_add, v2, cs, beq_dec, w1, cntV, c0, c1, c2, c3, pk_t, Nat.reduceLeDiff]
      · rw [hv] at k1
        simp only [hv, if_true, Int.reduceEq, if_false, Int.add_zero] at c0 c1 c2 c3
        simp only [Cd.cells] at e2 k1
        simp only [L7_0, List.getD_cons_zero, List.getD_cons_succ, bin_lss, i1, decide_true, Option.bind_some, cond_bool, cond_true, e1, e2, from_agg, aCells_agg, List.length_cons, List.length_nil, Nat.zero_add, Nat.reduceAdd, Nat.reduceMul, if_true, spl_s, spl_z, spl_c, ble_dec, Nat.le_refl, rdL_t, rdL_z, rdL_s, Option.map_some, from_one, k1, bin_geq, g_and, p_and, Int.reduceGE, Int.reduceLT, decide_true, Bool.and_self, x3, aggCells_agg, bin_add, v3, cs, beq_dec, w1, cntV, c0, c1, c2, c3, pk_t, Nat.reduceLeDiff]
      · have n0 : ¬ c.shows = 0 := fun e => by rw [e] at hv; simp at hv
        have n1 : ¬ c.shows = 1 := fun e => by rw [e] at hv; simp at hv
        have n2 : ¬ c.shows = 2 := fun e => by rw [e] at hv; simp at hv
        have n3 : ¬ c.shows = 3 := fun e => by rw [e] at hv; simp at hv
        rw [if_neg n0, Int.add_zero] at c0
        rw [if_neg n1, Int.add_zero] at c1
        rw [if_neg n2, Int.add_zero] at c2
        rw [if_neg n3, Int.add_zero] at c3
        simp only [Cd.cells] at e2 k1
        simp only [L7_0, List.getD_cons_zero, List.getD_cons_succ, bin_lss, i1, decide_true, Option.bind_some, cond_bool, cond_true, cond_false, e1, e2, from_agg, aCells_agg, List.length_cons, List.length_nil, Nat.zero_add, Nat.reduceAdd, if_true, spl_s, spl_z, spl_c, ble_dec, Nat.le_refl, rdL_t, rdL_z, rdL_s, Option.map_some, from_one, k1, bin_geq, g_and, p_and, hv, aggCells_agg, bin_add, beq_dec, w1, cntV, c0, c1, c2, c3, pk_t]
    · right
      obtain rfl : n = l.length := by omega
      rw [List.take_length]
      exact ⟨0, _, H, by simp [L7_0], rfl⟩
theorem g_orT (h : Heap) (k s : Option J) : guardV (.bool true) false k s = s := rfl
theorem g_orF (h : Heap) (k s : Option J) : guardV (.bool false) false k s = k := rfl

theorem appsRef_ok {x9 row : AVal} {G0 : Heap} {l : List Cd} (R : SrcC row G0 l) (hl : l.length ≤ 1000) (V : List AVal) :
    ∃ o G, loop (L7_1 (E tbl)) [x9, .nilSlice, row, .int .i64 l.length, .int .i64 0, .agg V] G0 = some (1, [x9, o, .agg V], G) ∧ OwnT o G G0.next (dd (l.map Cd.a)) ∧ Went G0 G := by
  have key := loop_ok (f := L7_1 (E tbl)) (fun m xs G => ∃ (n : Nat) (o : AVal), m + n = l.length ∧ OwnT o G G0.next (dd ((l.take n).map Cd.a)) ∧ Went G0 G ∧ xs = [x9, o, row, .int .i64 l.length, .int .i64 n, .agg V])
    (fun r => ∃ G o, r = (1, [x9, o, .agg V], G) ∧ OwnT o G G0.next (dd (l.map Cd.a)) ∧ Went G0 G) ?_ l.length _ G0 ⟨0, .nilSlice, rfl, Fw.Own.nil _ _ _, Went.refl _, rfl⟩
  · obtain ⟨r, e, G, o, rfl, a, b⟩ := key
    exact ⟨o, G, e, a, b⟩
  · rintro m xs G ⟨n, o, m1, O, W, rfl⟩
    by_cases h1 : n < l.length
    · left
      have i1 : (n : Int) < (l.length : Int) := by omega
      obtain ⟨a, e1, e2⟩ := SrcC.card (W.src R) n h1
      have w1 : IntKind.i64.wrap ((n : Int) + 1) = ((n + 1 : Nat) : Int) := wrap_succ _ (by omega)
      have hf : dd ((l.take (n + 1)).map Cd.a) = ddS (dd ((l.take n).map Cd.a)) l[n].a := by
        rw [← dd_snoc, List.take_add_one, List.getElem?_eq_getElem h1, List.map_append]
        rfl
      have h5 : (dd ((l.take n).map Cd.a)).length ≤ l.length := by
        have := dd_len ((l.take n).map Cd.a) []
        rw [List.length_map, List.length_take] at this
        unfold dd
        simp only [List.length_nil] at this
        omega
      obtain ⟨o', G2, e3, O2, K2⟩ := El.Own.snoc (E := txE) (bytes := 16) (zero := [.str []]) O l[n].a (by have := W.next; omega) (by omega) (by omega)
      generalize l[n] = c at *
      generalize dd ((l.take n).map Cd.a) = D at *
      have ln : aLen false o = some (.int .i64 D.length) := O.src.len
      have cs1 : aCells 1 (.str c.a) = some [.str c.a] := rfl
      rw [ddS] at hf
      by_cases hD : D.length = 0
      · have i0 : ((D.length : Int) == 0) = true := by rw [hD]; rfl
        obtain rfl : D = [] := List.length_eq_zero_iff.1 hD
        rw [if_neg (by simp)] at hf
        have i00 : (((0 : Nat) : Int) == 0) = true := rfl
        refine ⟨_, G2, ?_, m - 1, by omega, n + 1, o', by omega, ?_, K2.went W fun b hb => (Fw.Own.blk O b hb).1, rfl⟩
        · simp only [Cd.cells, txE_f] at e2 e3
          simp only [L7_1, cs1, List.getD_cons_zero, List.getD_cons_succ, bin_lss, i1, decide_true, Option.bind_some, cond_bool, cond_true, e1, e2, from_agg, aCells_agg, List.length_cons, List.length_nil, Nat.zero_add, Nat.reduceAdd, if_true, spl_s, spl_z, spl_c, ble_dec, Nat.le_refl, rdL_t, rdL_z, rdL_s, Option.map_some, from_one, ln, bin_eql, i00, g_orT, pk_or, reps_one, fill_cons, fill_nil, e3, beq_dec, bin_add, w1, aggCells_agg]
        · rw [hf]; exact O2
      · have i0 : ((D.length : Int) == 0) = false := beq_eq_false_iff_ne.2 (by omega)
        have wD : IntKind.i64.wrap ((D.length : Int) - 1) = ((D.length - 1 : Nat) : Int) := by rw [IntWalk.i64_in _ (by omega)]; omega
        obtain ⟨q, f1, f2⟩ := El.Src.el (E := txE) O.src (D.length - 1) (by omega)
        have hlast : D.getLast? = some D[D.length - 1] := by rw [List.getLast?_eq_getElem?, List.getElem?_eq_getElem (by omega)]
        rw [hlast] at hf
        simp only [txE_f] at f2
        by_cases hq : D[D.length - 1] = c.a
        · have ce : aBin .neq .plain (.str D[D.length - 1]) (.str c.a) = some (.bool false) := by rw [bin_str_neq, hq]; simp
          rw [if_pos (by rw [hq])] at hf
          refine ⟨_, G, ?_, m - 1, by omega, n + 1, o, by omega, ?_, W, rfl⟩
          · simp only [Cd.cells] at e2
            simp only [L7_1, List.getD_cons_zero, List.getD_cons_succ, bin_lss, i1, decide_true, Option.bind_some, cond_bool, cond_true, e1, e2, from_agg, aCells_agg, List.length_cons, List.length_nil, Nat.zero_add, Nat.reduceAdd, if_true, spl_s, spl_z, spl_c, ble_dec, Nat.le_refl, rdL_t, rdL_z, rdL_s, Option.map_some, from_one, ln, bin_eql, i0, g_orF, bin_sub, wD, f1, f2, ce, pk_ff, cond_false, beq_dec, bin_add, w1, aggCells_agg]
          · rw [hf]; exact O
        · have ce : aBin .neq .plain (.str D[D.length - 1]) (.str c.a) = some (.bool true) := by rw [bin_str_neq]; simpa using hq
          rw [if_neg (by simpa using hq)] at hf
          refine ⟨_, G2, ?_, m - 1, by omega, n + 1, o', by omega, ?_, K2.went W fun b hb => (Fw.Own.blk O b hb).1, rfl⟩
          · simp only [Cd.cells, txE_f] at e2 e3
            simp only [L7_1, cs1, List.getD_cons_zero, List.getD_cons_succ, bin_lss, i1, decide_true, Option.bind_some, cond_bool, cond_true, e1, e2, from_agg, aCells_agg, List.length_cons, List.length_nil, Nat.zero_add, Nat.reduceAdd, if_true, spl_s, spl_z, spl_c, ble_dec, Nat.le_refl, rdL_t, rdL_z, rdL_s, Option.map_some, from_one, ln, bin_eql, i0, g_orF, bin_sub, wD, f1, f2, ce, pk_ft, reps_one, fill_cons, fill_nil, e3, beq_dec, bin_add, w1, aggCells_agg]
          · rw [hf]; exact O2
    · right
      obtain rfl : n = l.length := by omega
      rw [List.take_length] at O
      exact ⟨0, _, G, by simp [L7_1], G, o, rfl, O, W⟩

theorem texts_same {s u : AVal} {h : Heap} {l : List Tx} (S : SrcT s h l) (U : SrcT u h l) (hl : l.length ≤ 1000) :
    loop (L7_2 (E tbl)) [s, u, .int .i64 l.length, .int .i64 0] h = some (1, [], h) := by
  have key : ∃ h', loop (L7_2 (E tbl)) ((fun j : Nat => [s, u, .int .i64 l.length, .int .i64 j]) 0) h = some (1, [], h') ∧ h' = h := by
    refine loop_up (f := L7_2 (E tbl)) l.length (fun j : Nat => [s, u, .int .i64 l.length, .int .i64 j]) _ (fun G => G = h) ?_ ?_ h rfl
    · intro j G hj hG
      rw [hG]
      have i1 : ((j : Int) < (l.length : Int)) := by omega
      obtain ⟨p, q1, q2⟩ := El.Src.el (E := txE) S j hj
      obtain ⟨p', q3, q4⟩ := El.Src.el (E := txE) U j hj
      have w1 : IntKind.i64.wrap ((j : Int) + 1) = ((j + 1 : Nat) : Int) := wrap_succ _ (by omega)
      have ce : ∀ t : Tx, aBin .neq .plain (.str t) (.str t) = some (.bool false) := fun t => by rw [bin_str_neq]; simp
      simp only [txE_f] at q2 q4
      refine ⟨h, ?_, rfl⟩
      simp only [L7_2, List.getD_cons_succ, List.getD_cons_zero, bin_lss, Option.bind_some, i1, decide_true, cond_bool, cond_true, q1, q2, q3, q4, from_one, ce, cond_false, bin_add, w1]
    · intro G hG
      rw [hG]
      exact ⟨h, by simp [L7_2], rfl⟩
  obtain ⟨h', e, rfl⟩ := key
  exact e
end Go.Proofs.Ytllogmedpmanoaa.Code
