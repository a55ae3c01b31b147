/- look.Count. -/
import Derived.Test.YtllogmedpmanoaaApps
namespace Go.Proofs.Ytllogmedpmanoaa.Code
set_option linter.unusedSimpArgs false
set_option linter.unusedVariables false
open Go.Fw

theorem pk_t : aPick (.bool true) (.bool true) (.bool false) = some (.bool true) := rfl
def cnt (l : List Cd) (k : Int) : Int := ((l.filter fun c => c.shows == k).length : Nat)
abbrev cntV (l : List Cd) : List AVal := [.int .i64 (cnt l 0), .int .i64 (cnt l 1), .int .i64 (cnt l 2), .int .i64 (cnt l 3)]
theorem cnt_nil : cntV [] = [.int .i64 0, .int .i64 0, .int .i64 0, .int .i64 0] := rfl
theorem cnt_take (l : List Cd) (k : Int) (n : Nat) (hn : n < l.length) : cnt (l.take (n + 1)) k = cnt (l.take n) k + (if l[n].shows = k then 1 else 0) := by
  unfold cnt
  rw [filter_take l _ n hn, List.length_append]
  by_cases h : l[n].shows = k
  · simp [h]
  · simp [h]
theorem cnt_wrap (l : List Cd) (k : Int) (n : Nat) (hl : l.length ≤ 1000) : IntKind.i64.wrap (cnt (l.take n) k + 1) = cnt (l.take n) k + 1 := by
  have h1 := List.length_filter_le (fun c : Cd => c.shows == k) (l.take n)
  have h2 : (l.take n).length ≤ l.length := by rw [List.length_take]; omega
  exact IntWalk.i64_in _ (by unfold cnt; omega)
theorem shows_cases (v : Int) : v = 0 ∨ v = 1 ∨ v = 2 ∨ v = 3 ∨ (decide (v ≥ 0) && decide (v < 4)) = false := by
  by_cases h0 : v ≥ 0
  · by_cases h4 : v < 4
    · omega
    · right; right; right; right; simp [h4]
  · right; right; right; right; simp [h0]

theorem countLoop_ok {row : AVal} {G : Heap} {l : List Cd} (R : SrcC row G l) (hl : l.length ≤ 1000) :
    loop (L13_0 (E tbl)) [row, .int .i64 l.length, .int .i64 0, .agg (cntV []), .agg (cntV [])] G = some (1, [.agg (cntV []), .agg (cntV l)], G) := by
  have key := loop_ok (f := L13_0 (E tbl)) (fun m xs H => ∃ n : Nat, m + n = l.length ∧ H = G ∧ xs = [row, .int .i64 l.length, .int .i64 n, .agg (cntV []), .agg (cntV (l.take n))])
    (fun r => r = (1, [.agg (cntV []), .agg (cntV l)], G)) ?_ l.length _ G ⟨0, rfl, rfl, rfl⟩
  · obtain ⟨r, e, rfl⟩ := key
    exact e
  · rintro m xs H ⟨n, m1, rfl, rfl⟩
    by_cases h1 : n < l.length
    · left
      have i1 : (n : Int) < (l.length : Int) := by omega
      obtain ⟨a, e1, e2⟩ := SrcC.card R n h1
      have w1 : IntKind.i64.wrap ((n : Int) + 1) = ((n + 1 : Nat) : Int) := wrap_succ _ (by omega)
      have k1 := shows22 l[n] H
      have c0 := cnt_take l 0 n h1
      have c1 := cnt_take l 1 n h1
      have c2 := cnt_take l 2 n h1
      have c3 := cnt_take l 3 n h1
      have v0 := cnt_wrap l 0 n hl
      have v1 := cnt_wrap l 1 n hl
      have v2 := cnt_wrap l 2 n hl
      have v3 := cnt_wrap l 3 n hl
      generalize l[n] = c at *
      refine ⟨_, H, ?_, m - 1, by omega, n + 1, by omega, rfl, rfl⟩
      have cs : ∀ x : Int, aCells 1 (.int .i64 x) = some [.int .i64 x] := fun _ => rfl
      have x0 : aIdx 4 (.int .i64 0) = some 0 := rfl
      have x1 : aIdx 4 (.int .i64 1) = some 1 := rfl
      have x2 : aIdx 4 (.int .i64 2) = some 2 := rfl
      have x3 : aIdx 4 (.int .i64 3) = some 3 := rfl
      rcases shows_cases c.shows with hv | hv | hv | hv | hv
      · rw [hv] at k1
        simp only [hv, if_true, Int.reduceEq, if_false, Int.add_zero] at c0 c1 c2 c3
        simp only [Cd.cells] at e2 k1
        simp only [L13_0, List.getD_cons_zero, List.getD_cons_succ, bin_lss, i1, decide_true, Option.bind_some, cond_bool, cond_true, e1, e2, from_agg, aCells_agg, List.length_cons, List.length_nil, Nat.zero_add, Nat.reduceAdd, Nat.reduceMul, if_true, spl_s, spl_z, spl_c, ble_dec, Nat.le_refl, rdL_t, rdL_z, rdL_s, Option.map_some, from_one, k1, bin_geq, g_and, p_and, Int.reduceGE, Int.reduceLT, decide_true, Bool.and_self, x0, aggCells_agg, bin_add, v0, cs, beq_dec, w1, cntV, c0, c1, c2, c3, pk_t, Nat.reduceLeDiff]
      · rw [hv] at k1
        simp only [hv, if_true, Int.reduceEq, if_false, Int.add_zero] at c0 c1 c2 c3
        simp only [Cd.cells] at e2 k1
        simp only [L13_0, List.getD_cons_zero, List.getD_cons_succ, bin_lss, i1, decide_true, Option.bind_some, cond_bool, cond_true, e1, e2, from_agg, aCells_agg, List.length_cons, List.length_nil, Nat.zero_add, Nat.reduceAdd, Nat.reduceMul, if_true, spl_s, spl_z, spl_c, ble_dec, Nat.le_refl, rdL_t, rdL_z, rdL_s, Option.map_some, from_one, k1, bin_geq, g_and, p_and, Int.reduceGE, Int.reduceLT, decide_true, Bool.and_self, x1, aggCells_agg, bin_add, v1, cs, beq_dec, w1, cntV, c0, c1, c2, c3, pk_t, Nat.reduceLeDiff]
      · rw [hv] at k1
        simp only [hv, if_true, Int.reduceEq, if_false, Int.add_zero] at c0 c1 c2 c3
        simp only [Cd.cells] at e2 k1
        simp only [L13_0, List.getD_cons_zero, List.getD_cons_succ, bin_lss, i1, decide_true, Option.bind_some, cond_bool, cond_true, e1, e2, from_agg, aCells_agg, List.length_cons, List.length_nil, Nat.zero_add, Nat.reduceAdd, Nat.reduceMul, if_true, spl_s, spl_z, spl_c, ble_dec, Nat.le_refl, rdL_t, rdL_z, rdL_s, Option.map_some, from_one, k1, bin_geq, g_and, p_and, Int.reduceGE, Int.reduceLT, decide_true, Bool.and_self, x2, aggCells_agg, bin_add, v2, cs, beq_dec, w1, cntV, c0, c1, c2, c3, pk_t, Nat.reduceLeDiff]
      · rw [hv] at k1
        simp only [hv, if_true, Int.reduceEq, if_false, Int.add_zero] at c0 c1 c2 c3
        simp only [Cd.cells] at e2 k1
        simp only [L13_0, List.getD_cons_zero, List.getD_cons_succ, bin_lss, i1, decide_true, Option.bind_some, cond_bool, cond_true, e1, e2, from_agg, aCells_agg, List.length_cons, List.length_nil, Nat.zero_add, Nat.reduceAdd, Nat.reduceMul, if_true, spl_s, spl_z, spl_c, ble_dec, Nat.le_refl, rdL_t, rdL_z, rdL_s, Option.map_some, from_one, k1, bin_geq, g_and, p_and, Int.reduceGE, Int.reduceLT, decide_true, Bool.and_self, x3, aggCells_agg, bin_add, v3, cs, beq_dec, w1, cntV, c0, c1, c2, c3, pk_t, Nat.reduceLeDiff]
      · have n0 : ¬ c.shows = 0 := fun e => by rw [e] at hv; simp at hv
        have n1 : ¬ c.shows = 1 := fun e => by rw [e] at hv; simp at hv
        have n2 : ¬ c.shows = 2 := fun e => by rw [e] at hv; simp at hv
        have n3 : ¬ c.shows = 3 := fun e => by rw [e] at hv; simp at hv
        rw [if_neg n0, Int.add_zero] at c0
        rw [if_neg n1, Int.add_zero] at c1
        rw [if_neg n2, Int.add_zero] at c2
        rw [if_neg n3, Int.add_zero] at c3
        simp only [Cd.cells] at e2 k1
        simp only [L13_0, List.getD_cons_zero, List.getD_cons_succ, bin_lss, i1, decide_true, Option.bind_some, cond_bool, cond_true, cond_false, e1, e2, from_agg, aCells_agg, List.length_cons, List.length_nil, Nat.zero_add, Nat.reduceAdd, if_true, spl_s, spl_z, spl_c, ble_dec, Nat.le_refl, rdL_t, rdL_z, rdL_s, Option.map_some, from_one, k1, bin_geq, g_and, p_and, hv, aggCells_agg, bin_add, beq_dec, w1, cntV, c0, c1, c2, c3, pk_t]
    · right
      obtain rfl : n = l.length := by omega
      rw [List.take_length]
      exact ⟨0, _, H, by simp [L13_0], rfl⟩
theorem count_ok {s : AVal} {h : Heap} {l : List Cd} (S : SrcC s h l) (hl : l.length ≤ 1000) : E tbl 13 [s] h = some (.agg (cntV l), h) := by
  have ln : aLen false s = some (.int .i64 l.length) := S.len
  have e := countLoop_ok S hl
  rw [cnt_nil] at e
  rw [c13]
  simp only [S13, ln, Option.bind_some, e, nat_beq11, cond_true, List.getD_cons_zero, List.getD_cons_succ, aggCells_agg, rdL_t, rdL_z, Option.map_some, from_agg, aCells_agg, List.length_cons, List.length_nil, Nat.zero_add, Nat.reduceAdd, if_true, ble_dec, Nat.le_refl, decide_true, spl_c, spl_z]
  rfl
end Go.Proofs.Ytllogmedpmanoaa.Code
