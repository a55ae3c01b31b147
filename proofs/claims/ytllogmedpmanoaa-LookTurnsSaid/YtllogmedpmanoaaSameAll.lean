/- The law's own `same`. -/
import Derived.Test.YtllogmedpmanoaaSame
namespace Go.Proofs.Ytllogmedpmanoaa.Code
set_option linter.unusedSimpArgs false
set_option linter.unusedVariables false
open Go.Fw

theorem seenC_len (l : List Cd) : (seenC l).length ≤ l.length := by
  have := List.length_filter_le isHere (sortI lessC noCd l)
  rw [sortI_len] at this
  exact this
theorem findC_len (l : List Cd) (app : Tx) : (findC l app).length ≤ l.length := by
  have := List.length_filter_le (isUp app) (sortI lessC noCd l)
  rw [sortI_len] at this
  exact this
theorem counts_same (l : List Cd) : aBin .neq (.cells [1, 1, 1, 1]) (.agg (cntV l)) (.agg (cntV l)) = some (.bool false) := by
  rw [bin_cells_ne]
  simp only [cntV, cellsEq_int, cellsEq_nil, Option.bind_some, Bool.and_true, beq_self_eq_true, Option.map_some, Bool.not_true]

theorem same_ok {s : AVal} {h : Heap} {l : List Cd} (S : SrcC s h l) (hl : l.length ≤ 12) (app : Tx) (turn : Int) :
    ∃ H, E tbl 7 [s, .str app, .int .i64 turn] h = some (.bool true, H) ∧ Went h H := by
  obtain ⟨o1, h1, e1, S1, W1⟩ := rfind_ok S (by omega) app
  obtain ⟨h2, e2, W2⟩ := pick_ok (W1.src S) (by omega) app turn
  obtain ⟨o3, h3, e3, S3, W3⟩ := find_ok ((W1.trans W2).src S) (by omega) app
  have hfl := findC_len l app
  have e4 := same_eq S3 ((W2.trans W3).src S1) (by omega)
  have W13 : Went h h3 := (W1.trans W2).trans W3
  have S3' : SrcC s h3 l := W13.src S
  obtain ⟨o5, h5, e5, S5, W5⟩ := seen_ok S3' (by omega)
  have hsl := seenC_len l
  obtain ⟨o6, h6, e6, O6, W6⟩ := appsRef_ok (x9 := s) S5 (by omega) (cntV l)
  obtain ⟨o7, h7, e7, ST, W7⟩ := apps_ok ((W5.trans W6).src S3') hl
  have hA : dd ((seenC l).map Cd.a) = appsC l := by unfold appsC; rw [apps_eq]
  rw [hA] at O6
  have lnA : aLen false o7 = some (.int .i64 (appsC l).length) := ST.len
  have lnB : aLen false o6 = some (.int .i64 (appsC l).length) := O6.src.len
  have W37 : Went h3 h7 := (W5.trans W6).trans W7
  have S7' : SrcC s h7 l := W37.src S3'
  have hAl : (appsC l).length ≤ 1000 := by
    have h8 := dd_len (sortI lt [] (appsRaw l)) []
    have h9 := appsRaw_len l
    rw [sortI_len] at h8
    simp only [List.length_nil] at h8
    unfold appsC dd
    omega
  have e8 := texts_same (W7.src O6.src) ST hAl
  have e9 := count_ok S7' (by omega)
  have e10 := rcountLoop_ok (x9 := s) S3' (by omega)
  rw [cnt_nil] at e10
  have ln : aLen false s = some (.int .i64 l.length) := S.len
  have ln1 : aLen false o1 = some (.int .i64 (findC l app).length) := S1.len
  have ln5 : aLen false o5 = some (.int .i64 (seenC l).length) := S5.len
  refine ⟨h7, ?_, W13.trans W37⟩
  have ck : checkPairs [(8, some (.lrd 11 (0) 4)), (7, some (.ef [(11, cntV l)] h7 [(11, cntV l)] h7))] [(8, 7)] = true := by simp [checkPairs]
  have tail : ∀ g : Heap, g = h3 → ((aLen false s).bind fun v29 =>
      (loop (L7_0 (E tbl)) [s, s, v29, .int .i64 0, .agg [.int .i64 0, .int .i64 0, .int .i64 0, .int .i64 0]] g)) = some (1, [s, .agg (cntV l)], h3) := by
    rintro g rfl
    rw [ln, Option.bind_some]
    exact e10
  have cm : ∀ c : Cd, aBin .neq (.cells [2, 2, 1, 1, 1, 1, 1, 1, 0]) (.agg c.cells) (.agg c.cells) = some (.bool false) := fun c => by rw [card_cmp]; simp
  have sm : aBin .neq .plain (.int .i64 (appsC l).length) (.int .i64 (appsC l).length) = some (.bool false) := by rw [bin_neq]; simp
  have cnt4 : rdL (cntV l) 0 4 = some (cntV l) := rfl
  rw [c7]
  by_cases h0 : (findC l app).length = 0
  · have d0 : decide (0 < (findC l app).length) = false := decide_eq_false (by omega)
    have g0 : decide (((findC l app).length : Int) > 0) = false := decide_eq_false (by omega)
    have hp : pickC (findC l app) turn = noCd := if_pos h0
    rw [hp, d0] at e2
    have cm0 := cm noCd
    simp only [S7, e1, Option.bind_some, e2, ext_0, ext_1, aCells_agg, List.length_cons, List.length_nil, Nat.zero_add, Nat.reduceAdd, if_true, ble_dec, Nat.le_refl, decide_true, cond_true, e3, e4, un_not, Bool.not_true, g_orF, ln1, bin_gtr, g0, bin_bool_neq, BEq.rfl, List.getD_cons_zero, pk_ff, cond_bool, cond_false, spl_c, spl_z, rdL_t, rdL_z, Option.map_some, from_agg, fill_nil]
    erw [cm0]
    simp only [Option.bind_some, cond_bool, cond_false, nat_beq11, cond_true, List.getD_cons_zero, List.getD_cons_succ, ln, e10, e5, ln5, aggCells_agg, e6, e7, lnA, lnB, sm, g_orF, e9, cnt4, from_agg, counts_same, ck, pk_ff, e8, show Nat.beq 1 0 = false from rfl, ans_one, rdL_t, rdL_z, Option.map_some]
  · obtain ⟨i, hi, hlt⟩ := turn_lt turn (findC l app).length (by omega) (by omega)
    have d0 : decide (0 < (findC l app).length) = true := decide_eq_true (by omega)
    have g0 : decide (((findC l app).length : Int) > 0) = true := decide_eq_true (by omega)
    have n0 : ¬ ((findC l app).length : Int) = 0 := by omega
    have hp : pickC (findC l app) turn = (findC l app)[i] := by
      unfold pickC
      rw [if_neg h0, hi, Int.toNat_natCast, List.getD_eq_getElem?_getD, List.getElem?_eq_getElem hlt]
      rfl
    rw [hp, d0] at e2
    obtain ⟨p, a1, a2⟩ := SrcC.card ((W2.trans W3).src S1) i hlt
    unfold turnOf at hi
    have cm0 := cm (findC l app)[i]
    generalize (findC l app)[i] = c at *
    simp only [Cd.cells] at e2 a2 cm0
    simp only [S7, e1, Option.bind_some, e2, ext_0, ext_1, aCells_agg, List.length_cons, List.length_nil, Nat.zero_add, Nat.reduceAdd, if_true, ble_dec, Nat.le_refl, decide_true, cond_true, e3, e4, un_not, Bool.not_true, g_orF, ln1, bin_gtr, g0, bin_bool_neq, BEq.rfl, List.getD_cons_zero, pk_ff, cond_bool, cond_false, spl_c, spl_z, rdL_t, rdL_z, Option.map_some, from_agg, bin_rem, n0, if_false, bin_add, hi, a1, a2, cm0]
    simp only [Option.bind_some, cond_bool, cond_false, nat_beq11, cond_true, List.getD_cons_zero, List.getD_cons_succ, ln, e10, e5, ln5, aggCells_agg, e6, e7, lnA, lnB, sm, g_orF, e9, cnt4, from_agg, counts_same, ck, pk_ff, e8, show Nat.beq 1 0 = false from rfl, ans_one, rdL_t, rdL_z, Option.map_some]
end Go.Proofs.Ytllogmedpmanoaa.Code
