/- What is seen; the document's own find. -/
import Derived.Test.YtllogmedpmanoaaRefSort
namespace Go.Proofs.Ytllogmedpmanoaa.Code
set_option linter.unusedSimpArgs false
set_option linter.unusedVariables false
open Go.Fw

def isHere (c : Cd) : Bool := !c.g
def seenC (l : List Cd) : List Cd := (sortI lessC noCd l).filter isHere
theorem seenLoop_ok {row : AVal} {G0 : Heap} {l : List Cd} (R : SrcC row G0 l) (hl : l.length ≤ 1000) :
    ∃ o G, loop (L19_0 (E tbl)) [.nilSlice, row, .int .i64 l.length, .int .i64 0] G0 = some (1, [o], G) ∧ OwnC o G G0.next (l.filter isHere) ∧ Went G0 G := by
  have key := loop_ok (f := L19_0 (E tbl)) (fun m xs G => ∃ (n : Nat) (o : AVal), m + n = l.length ∧ OwnC o G G0.next ((l.take n).filter isHere) ∧ Went G0 G ∧ xs = [o, row, .int .i64 l.length, .int .i64 n])
    (fun r => ∃ G o, r = (1, [o], G) ∧ OwnC o G G0.next (l.filter isHere) ∧ Went G0 G) ?_ l.length _ G0 ⟨0, .nilSlice, rfl, Fw.Own.nil _ _ _, Went.refl _, rfl⟩
  · obtain ⟨r, e, G, o, rfl, a, b⟩ := key
    simp only [Int.cast_ofNat_Int] at e
    exact ⟨o, G, e, a, b⟩
  · rintro m xs G ⟨n, o, m1, O, W, rfl⟩
    by_cases h1 : n < l.length
    · left
      have i1 : (n : Int) < (l.length : Int) := by omega
      obtain ⟨a, e1, e2⟩ := SrcC.card (W.src R) n h1
      have w1 : IntKind.i64.wrap ((n : Int) + 1) = ((n + 1 : Nat) : Int) := wrap_succ _ (by omega)
      have hf := filter_take l isHere n h1
      have h3 := List.length_filter_le isHere (l.take n)
      have h4 : (l.take n).length ≤ l.length := by rw [List.length_take]; omega
      obtain ⟨o', G2, e3, O2, K2⟩ := O.snoc l[n] (by have := W.next; omega) (by omega)
      generalize hc : l[n] = c at *
      have hu : isHere c = !c.g := rfl
      cases hq : c.g with
      | true =>
        rw [hq] at hu
        refine ⟨_, G, ?_, m - 1, by omega, n + 1, o, by omega, ?_, W, rfl⟩
        · simp only [Cd.cells, hq] at e2
          simp only [L19_0, List.getD_cons_zero, List.getD_cons_succ, bin_lss, i1, decide_true, Option.bind_some, cond_bool, cond_true, e1, e2, from_agg, aCells_agg, List.length_cons, List.length_nil, Nat.zero_add, Nat.reduceAdd, if_true, spl_s, spl_z, spl_c, ble_dec, Nat.le_refl, rdL_t, rdL_z, rdL_s, Option.map_some, from_one, un_not, Bool.not_true, cond_false, beq_dec, bin_add, w1]
        · rw [hf, hu]; simpa using O
      | false =>
        rw [hq] at hu
        refine ⟨_, G2, ?_, m - 1, by omega, n + 1, o', by omega, ?_, K2.went W fun b hb => (O.blk b hb).1, rfl⟩
        · simp only [Cd.cells, hq] at e2 e3
          simp only [L19_0, List.getD_cons_zero, List.getD_cons_succ, bin_lss, i1, decide_true, Option.bind_some, cond_bool, cond_true, e1, e2, from_agg, aCells_agg, List.length_cons, List.length_nil, Nat.zero_add, Nat.reduceAdd, if_true, spl_s, spl_z, spl_c, ble_dec, Nat.le_refl, rdL_t, rdL_z, rdL_s, Option.map_some, from_one, un_not, Bool.not_false, cond_false, beq_dec, bin_add, w1, reps_one, fill_cons, fill_nil, e3]
        · rw [hf, hu]; simpa using O2
    · right
      obtain rfl : n = l.length := by omega
      rw [List.take_length] at O
      exact ⟨0, _, G, by simp [L19_0], G, o, rfl, O, W⟩
theorem seen_ok {s : AVal} {h : Heap} {l : List Cd} (S : SrcC s h l) (hl : l.length ≤ 1000) :
    ∃ o H, E tbl 19 [s] h = some (o, H) ∧ SrcC o H (seenC l) ∧ Went h H := by
  obtain ⟨o1, h1, e1, O1, W1⟩ := refSort_ok S hl
  have ln : aLen false o1 = some (.int .i64 (sortI lessC noCd l).length) := O1.src.len
  obtain ⟨o, H, e2, O, W2⟩ := seenLoop_ok O1.src (by rw [sortI_len]; omega)
  refine ⟨o, H, ?_, O.src, W1.trans W2⟩
  rw [c19]
  simp only [S19, e1, Option.bind_some, ln, e2, nat_beq11, cond_true, List.getD_cons_zero, ans_one]

theorem rfindLoop_ok {row : AVal} {G0 : Heap} {l : List Cd} (R : SrcC row G0 l) (hl : l.length ≤ 1000) (app : Tx) :
    ∃ o G, loop (L17_0 (E tbl)) [.str app, .nilSlice, row, .int .i64 l.length, .int .i64 0] G0 = some (1, [o], G) ∧ OwnC o G G0.next (l.filter (isUp app)) ∧ Went G0 G := by
  have key := loop_ok (f := L17_0 (E tbl)) (fun m xs G => ∃ (n : Nat) (o : AVal), m + n = l.length ∧ OwnC o G G0.next ((l.take n).filter (isUp app)) ∧ Went G0 G ∧ xs = [.str app, o, row, .int .i64 l.length, .int .i64 n])
    (fun r => ∃ G o, r = (1, [o], G) ∧ OwnC o G G0.next (l.filter (isUp app)) ∧ Went G0 G) ?_ l.length _ G0 ⟨0, .nilSlice, rfl, Fw.Own.nil _ _ _, Went.refl _, rfl⟩
  · obtain ⟨r, e, G, o, rfl, a, b⟩ := key
    simp only [Int.cast_ofNat_Int] at e
    exact ⟨o, G, e, a, b⟩
  · rintro m xs G ⟨n, o, m1, O, W, rfl⟩
    by_cases h1 : n < l.length
    · left
      have i1 : (n : Int) < (l.length : Int) := by omega
      obtain ⟨a, e1, e2⟩ := SrcC.card (W.src R) n h1
      have w1 : IntKind.i64.wrap ((n : Int) + 1) = ((n + 1 : Nat) : Int) := wrap_succ _ (by omega)
      have hf := filter_take l (isUp app) n h1
      have k1 := shows12 l[n] G
      have k2 : aBin .eql .plain (.str l[n].a) (.str app) = some (.bool (l[n].a == app)) := bin_str_eql _ _
      have hu : isUp app l[n] = (l[n].a == app && l[n].shows == 1) := rfl
      have h3 := List.length_filter_le (isUp app) (l.take n)
      have h4 : (l.take n).length ≤ l.length := by rw [List.length_take]; omega
      obtain ⟨o', G2, e3, O2, K2⟩ := O.snoc l[n] (by have := W.next; omega) (by omega)
      generalize hc : l[n] = c at *
      have pre : ∀ x, isUp app c = x → ((if Nat.ble (0 + 9) (zCd).length then some () else none) = some ()) := fun _ _ => rfl
      cases hq : isUp app c with
      | false =>
        refine ⟨_, G, ?_, m - 1, by omega, n + 1, o, by omega, ?_, W, rfl⟩
        · rw [hq] at hu
          cases hx : (c.a == app) with
          | false =>
            rw [hx] at k2
            simp only [Cd.cells] at e2 k1
            simp only [L17_0, List.getD_cons_zero, List.getD_cons_succ, bin_lss, i1, decide_true, Option.bind_some, cond_bool, cond_true, e1, e2, from_agg, aCells_agg, List.length_cons, List.length_nil, Nat.zero_add, Nat.reduceAdd, if_true, spl_s, spl_z, spl_c, ble_dec, Nat.le_refl, rdL_t, rdL_z, rdL_s, Option.map_some, from_one, k2, guard_bool, BEq.rfl, cond_false, pick_bool, beq_dec, bin_add, w1, Bool.false_eq_true, decide_false]
            rfl
          | true =>
            rw [hx] at k2
            rw [hx, Bool.true_and] at hu
            simp only [Cd.cells] at e2 k1
            simp only [L17_0, List.getD_cons_zero, List.getD_cons_succ, bin_lss, i1, decide_true, Option.bind_some, cond_bool, cond_true, e1, e2, from_agg, aCells_agg, List.length_cons, List.length_nil, Nat.zero_add, Nat.reduceAdd, if_true, spl_s, spl_z, spl_c, ble_dec, Nat.le_refl, rdL_t, rdL_z, rdL_s, Option.map_some, from_one, k2, guard_bool, BEq.rfl, cond_false, pick_bool, beq_dec, bin_add, w1, k1, bin_eql, ← hu]
        · rw [hf, hq]; simpa using O
      | true =>
        rw [hq] at hu
        have hu' := hu.symm
        rw [Bool.and_eq_true] at hu'
        obtain ⟨hx, hy⟩ := hu'
        refine ⟨_, G2, ?_, m - 1, by omega, n + 1, o', by omega, ?_, K2.went W fun b hb => (O.blk b hb).1, rfl⟩
        · rw [hx] at k2
          simp only [Cd.cells] at e2 k1 e3
          simp only [L17_0, List.getD_cons_zero, List.getD_cons_succ, bin_lss, i1, decide_true, Option.bind_some, cond_bool, cond_true, e1, e2, from_agg, aCells_agg, List.length_cons, List.length_nil, Nat.zero_add, Nat.reduceAdd, if_true, spl_s, spl_z, spl_c, ble_dec, Nat.le_refl, rdL_t, rdL_z, rdL_s, Option.map_some, from_one, k2, guard_bool, BEq.rfl, cond_false, pick_bool, beq_dec, bin_add, w1, k1, bin_eql, hy, reps_one, fill_cons, fill_nil, e3]
        · rw [hf, hq]; simpa using O2
    · right
      obtain rfl : n = l.length := by omega
      rw [List.take_length] at O
      exact ⟨0, _, G, by simp [L17_0], G, o, rfl, O, W⟩

theorem isUp_here (app : Tx) (l : List Cd) : (l.filter isHere).filter (isUp app) = l.filter (isUp app) := by
  rw [List.filter_filter]
  refine List.filter_congr fun c _ => ?_
  unfold isUp isHere Cd.shows
  cases c.g <;> simp
theorem rfind_ok {s : AVal} {h : Heap} {l : List Cd} (S : SrcC s h l) (hl : l.length ≤ 1000) (app : Tx) :
    ∃ o H, E tbl 17 [s, .str app] h = some (o, H) ∧ SrcC o H (findC l app) ∧ Went h H := by
  obtain ⟨o1, h1, e1, S1, W1⟩ := seen_ok S hl
  have ln : aLen false o1 = some (.int .i64 (seenC l).length) := S1.len
  have hsl : (seenC l).length ≤ 1000 := by
    have := List.length_filter_le isHere (sortI lessC noCd l)
    rw [sortI_len] at this
    exact Nat.le_trans this hl
  obtain ⟨o, H, e2, O, W2⟩ := rfindLoop_ok S1 hsl app
  rw [seenC, isUp_here] at O
  refine ⟨o, H, ?_, O.src, W1.trans W2⟩
  rw [c17]
  simp only [S17, e1, Option.bind_some, ln, e2, nat_beq11, cond_true, List.getD_cons_zero, ans_one]
end Go.Proofs.Ytllogmedpmanoaa.Code
