/- card.Sort, look.Find, look.Pick. -/
import Derived.Test.YtllogmedpmanoaaBase
namespace Go.Proofs.Ytllogmedpmanoaa.Code
set_option linter.unusedSimpArgs false
set_option linter.unusedVariables false
open Go.Fw

theorem stable_ok {s : AVal} {h : Heap} {n0 : Nat} {l : List Cd} (B : BufC s h n0 l) (hn0 : n0 ≤ h.next) (hl : l.length ≤ 19) :
    ∃ H, E tbl 37 [s, .int .i64 l.length, .func 32 []] h = some (.tuple [], H) ∧ BufC s H n0 (sortI lessC noCd l) ∧ OnlyS s h H := by
  obtain ⟨H, e, BH, O⟩ := isort_ok B hn0 (by omega)
  refine ⟨H, ?_, BH, O⟩
  have i1 : ¬ (20 : Int) ≤ (l.length : Int) := by omega
  have i2 : ¬ (20 : Int) < (l.length : Int) := by omega
  have s0 : L37_0 (E tbl) [s, .int .i64 l.length, .func 32 [], .int .i64 20, .int .i64 0, .int .i64 20] h = some (1, [s, .int .i64 l.length, .func 32 [], .int .i64 20, .int .i64 0], h) := by
    simp only [L37_0, List.getD_cons_zero, List.getD_cons_succ, bin_leq, i1, decide_false, Option.bind_some, cond_bool, cond_false]
  have s1 : L37_1 (E tbl) [s, .int .i64 l.length, .func 32 [], .int .i64 20] H = some (1, [], H) := by
    simp only [L37_1, List.getD_cons_zero, List.getD_cons_succ, bin_lss, i2, decide_false, Option.bind_some, cond_bool, cond_false]
  rw [c37]
  simp only [S37, loop_done s0, Option.bind_some, Nat.zero_add, nat_beq11, cond_true, List.getD_cons_zero, List.getD_cons_succ, e, loop_done s1, ans_one]

/-- The sorted row. -/
theorem csort_ok {s : AVal} {h : Heap} {l : List Cd} (S : SrcC s h l) (hl : l.length ≤ 19) :
    ∃ o H, E tbl 21 [s] h = some (o, H) ∧ SrcC o H (sortI lessC noCd l) ∧ Went h H := by
  obtain ⟨o, h1, e1, O, W⟩ := cclone_eq S (by omega)
  have B : BufC o h1 h.next l := Own.buf O
  obtain ⟨H, e2, BH, OS⟩ := stable_ok B W.next hl
  have SH : SrcC o H (sortI lessC noCd l) := Fw.Buf.src BH
  obtain ⟨o', e3, S', R', hb⟩ := clip_of SH (Fw.Buf.room BH)
  rw [sortI_len] at e3
  have ln : aLen false o = some (.int .i64 l.length) := O.src.len
  have ln2 : aLen false o = some (.int .i64 (sortI lessC noCd l).length) := SH.len
  refine ⟨o', H, ?_, S', Nat.le_trans W.next OS.next, fun b hb => ?_⟩
  · rw [sortI_len] at ln2
    have q31 : E tbl 31 [o, .func 32 []] h1 = some (.tuple [], H) := by
      rw [c31]
      simp only [S31, ln, Option.bind_some, e2, ans_one]
    have q34 : E tbl 34 [o] H = some (o', H) := by
      rw [c34]
      simp only [S34, ln2, Option.bind_some, e3, ans_one]
    rw [c21]
    simp only [S21, e1, Option.bind_some, q31, q34, ans_one]
  · rw [OS.old b (Nat.lt_of_lt_of_le hb W.next) (fun e => by have := (Fw.Buf.blk B b e).1; omega), W.old b hb]

theorem filter_take {α : Type} (l : List α) (pr : α → Bool) (n : Nat) (h : n < l.length) : (l.take (n + 1)).filter pr = (l.take n).filter pr ++ (if pr l[n] then [l[n]] else []) := by
  rw [List.take_add_one, List.getElem?_eq_getElem h, List.filter_append]
  simp only [Option.toList_some, List.filter_cons, List.filter_nil]

def isUp (app : Tx) (c : Cd) : Bool := c.a == app && c.shows == 1
def findC (l : List Cd) (app : Tx) : List Cd := (sortI lessC noCd l).filter (isUp app)

theorem findLoop_ok {row : AVal} {G0 : Heap} {l : List Cd} (R : SrcC row G0 l) (hl : l.length ≤ 1000) (app : Tx) :
    ∃ o G, loop (L10_0 (E tbl)) [.str app, .nilSlice, row, .int .i64 l.length, .int .i64 0] G0 = some (1, [o], G) ∧ OwnC o G G0.next (l.filter (isUp app)) ∧ Went G0 G := by
  have key := loop_ok (f := L10_0 (E tbl)) (fun m xs G => ∃ (n : Nat) (o : AVal), m + n = l.length ∧ OwnC o G G0.next ((l.take n).filter (isUp app)) ∧ Went G0 G ∧ xs = [.str app, o, row, .int .i64 l.length, .int .i64 n])
    (fun r => ∃ G o, r = (1, [o], G) ∧ OwnC o G G0.next (l.filter (isUp app)) ∧ Went G0 G) ?_ l.length _ G0 ⟨0, .nilSlice, rfl, Fw.Own.nil _ _ _, Went.refl _, rfl⟩
  · obtain ⟨r, e, G, o, rfl, a, b⟩ := key
    simp only [Int.cast_ofNat_Int] at e
    exact ⟨o, G, e, a, b⟩
  · rintro m xs G ⟨n, o, m1, O, W, rfl⟩
    by_cases h1 : n < l.length
    · left
      have i1 : (n : Int) < (l.length : Int) := by omega
      obtain ⟨a, e1, e2⟩ := SrcC.card (W.src R) n h1
      have w1 : IntKind.i64.wrap ((n : Int) + 1) = ((n + 1 : Nat) : Int) := wrap_succ _ (by omega)
      have hf := filter_take l (isUp app) n h1
      have k1 := shows22 l[n] G
      have k2 : aBin .eql .plain (.str l[n].a) (.str app) = some (.bool (l[n].a == app)) := bin_str_eql _ _
      have hu : isUp app l[n] = (l[n].a == app && l[n].shows == 1) := rfl
      have h3 := List.length_filter_le (isUp app) (l.take n)
      have h4 : (l.take n).length ≤ l.length := by rw [List.length_take]; omega
      obtain ⟨o', G2, e3, O2, K2⟩ := O.snoc l[n] (by have := W.next; omega) (by omega)
      generalize hc : l[n] = c at *
      have pre : ∀ x, isUp app c = x → ((if Nat.ble (0 + 9) (zCd).length then some () else none) = some ()) := fun _ _ => rfl
      cases hq : isUp app c with
      | false =>
        refine ⟨_, G, ?_, m - 1, by omega, n + 1, o, by omega, ?_, W, rfl⟩
        · rw [hq] at hu
          cases hx : (c.a == app) with
          | false =>
            rw [hx] at k2
            simp only [Cd.cells] at e2 k1
            simp only [L10_0, List.getD_cons_zero, List.getD_cons_succ, bin_lss, i1, decide_true, Option.bind_some, cond_bool, cond_true, e1, e2, from_agg, aCells_agg, List.length_cons, List.length_nil, Nat.zero_add, Nat.reduceAdd, if_true, spl_s, spl_z, spl_c, ble_dec, Nat.le_refl, rdL_t, rdL_z, rdL_s, Option.map_some, from_one, k2, guard_bool, BEq.rfl, cond_false, pick_bool, beq_dec, bin_add, w1, Bool.false_eq_true, decide_false]
            rfl
          | true =>
            rw [hx] at k2
            rw [hx, Bool.true_and] at hu
            simp only [Cd.cells] at e2 k1
            simp only [L10_0, List.getD_cons_zero, List.getD_cons_succ, bin_lss, i1, decide_true, Option.bind_some, cond_bool, cond_true, e1, e2, from_agg, aCells_agg, List.length_cons, List.length_nil, Nat.zero_add, Nat.reduceAdd, if_true, spl_s, spl_z, spl_c, ble_dec, Nat.le_refl, rdL_t, rdL_z, rdL_s, Option.map_some, from_one, k2, guard_bool, BEq.rfl, cond_false, pick_bool, beq_dec, bin_add, w1, k1, bin_eql, ← hu]
        · rw [hf, hq]; simpa using O
      | true =>
        rw [hq] at hu
        have hu' := hu.symm
        rw [Bool.and_eq_true] at hu'
        obtain ⟨hx, hy⟩ := hu'
        refine ⟨_, G2, ?_, m - 1, by omega, n + 1, o', by omega, ?_, K2.went W fun b hb => (O.blk b hb).1, rfl⟩
        · rw [hx] at k2
          simp only [Cd.cells] at e2 k1 e3
          simp only [L10_0, List.getD_cons_zero, List.getD_cons_succ, bin_lss, i1, decide_true, Option.bind_some, cond_bool, cond_true, e1, e2, from_agg, aCells_agg, List.length_cons, List.length_nil, Nat.zero_add, Nat.reduceAdd, if_true, spl_s, spl_z, spl_c, ble_dec, Nat.le_refl, rdL_t, rdL_z, rdL_s, Option.map_some, from_one, k2, guard_bool, BEq.rfl, cond_false, pick_bool, beq_dec, bin_add, w1, k1, bin_eql, hy, reps_one, fill_cons, fill_nil, e3]
        · rw [hf, hq]; simpa using O2
    · right
      obtain rfl : n = l.length := by omega
      rw [List.take_length] at O
      exact ⟨0, _, G, by simp [L10_0], G, o, rfl, O, W⟩

theorem find_ok {s : AVal} {h : Heap} {l : List Cd} (S : SrcC s h l) (hl : l.length ≤ 19) (app : Tx) :
    ∃ o H, E tbl 10 [s, .str app] h = some (o, H) ∧ SrcC o H (findC l app) ∧ Went h H := by
  obtain ⟨o1, h1, e1, S1, W1⟩ := csort_ok S hl
  have ln : aLen false o1 = some (.int .i64 (sortI lessC noCd l).length) := S1.len
  obtain ⟨o, H, e2, O, W2⟩ := findLoop_ok S1 (by rw [sortI_len]; omega) app
  refine ⟨o, H, ?_, O.src, W1.trans W2⟩
  rw [c10]
  simp only [S10, e1, Option.bind_some, ln, e2, nat_beq11, cond_true, List.getD_cons_zero, ans_one]

/-- Whose turn it is. -/
def turnOf (turn : Int) (n : Nat) : Int := Int.tmod (IntKind.i64.wrap (Int.tmod turn n + n)) n
theorem turn_lt (turn : Int) (n : Nat) (hn : 0 < n) (hm : n ≤ 1000) : ∃ i : Nat, turnOf turn n = i ∧ i < n := by
  have h1 : Int.tmod turn n < n := Int.tmod_lt_of_pos _ (by omega)
  have h2 : -(n : Int) < Int.tmod turn n := by
    rcases Int.le_total 0 turn with h | h
    · have := Int.tmod_nonneg (n : Int) h
      omega
    · have e := Int.neg_tmod (-turn) n
      rw [Int.neg_neg] at e
      have := Int.tmod_lt_of_pos (-turn) (b := (n : Int)) (by omega)
      omega
  have e : IntKind.i64.wrap (Int.tmod turn n + n) = Int.tmod turn n + n := IntWalk.i64_in _ (by omega)
  refine ⟨(turnOf turn n).toNat, ?_, ?_⟩ <;> unfold turnOf <;> rw [e]
  · rw [Int.toNat_of_nonneg (Int.tmod_nonneg _ (by omega))]
  · have := Int.tmod_lt_of_pos (Int.tmod turn n + n) (b := (n : Int)) (by omega)
    have := Int.tmod_nonneg (a := Int.tmod turn n + n) n (by omega)
    omega
def pickC (f : List Cd) (turn : Int) : Cd := if f.length = 0 then noCd else f.getD (turnOf turn f.length).toNat noCd
theorem pick_ok {s : AVal} {h : Heap} {l : List Cd} (S : SrcC s h l) (hl : l.length ≤ 19) (app : Tx) (turn : Int) :
    ∃ H, E tbl 11 [s, .str app, .int .i64 turn] h = some (.tuple [.agg (pickC (findC l app) turn).cells, .bool (decide (0 < (findC l app).length))], H) ∧ Went h H := by
  obtain ⟨o, H, e1, F, W⟩ := find_ok S hl app
  refine ⟨H, ?_, W⟩
  have ln : aLen false o = some (.int .i64 (findC l app).length) := F.len
  have hfl : (findC l app).length ≤ 1000 := by
    have := List.length_filter_le (isUp app) (sortI lessC noCd l)
    rw [sortI_len] at this
    exact Nat.le_trans this (by omega)
  generalize hf : findC l app = f at *
  rw [c11]
  by_cases h0 : f.length = 0
  · have i0 : ((f.length : Int) == 0) = true := by rw [h0]; rfl
    have d0 : decide (0 < f.length) = false := decide_eq_false (by omega)
    have hp : pickC f turn = noCd := if_pos h0
    rw [hp, d0]
    simp only [S11, e1, Option.bind_some, ln, bin_eql, i0, cond_bool, cond_true, fill_nil, aCells_agg, List.length_cons, List.length_nil, Nat.zero_add, Nat.reduceAdd, if_true, ble_dec, Nat.le_refl, decide_true, spl_c, spl_z, rdL_t, rdL_z, Option.map_some, from_agg]
    rfl
  · obtain ⟨i, hi, hlt⟩ := turn_lt turn f.length (by omega) hfl
    have i0 : ((f.length : Int) == 0) = false := beq_eq_false_iff_ne.2 (by omega)
    have d0 : decide (0 < f.length) = true := decide_eq_true (by omega)
    have n0 : ¬ (f.length : Int) = 0 := by omega
    have hp : pickC f turn = f[i] := by
      unfold pickC
      rw [if_neg h0, hi, Int.toNat_natCast, List.getD_eq_getElem?_getD, List.getElem?_eq_getElem hlt]
      rfl
    obtain ⟨p, a1, a2⟩ := SrcC.card F i hlt
    unfold turnOf at hi
    rw [hp, d0]
    generalize f[i] = c at *
    simp only [Cd.cells] at a2
    simp only [S11, e1, Option.bind_some, ln, bin_eql, i0, cond_bool, cond_false, cond_true, bin_rem, n0, if_false, bin_add, hi, a1, a2, aCells_agg, List.length_cons, List.length_nil, Nat.zero_add, Nat.reduceAdd, if_true, ble_dec, Nat.le_refl, decide_true, spl_c, spl_z, rdL_t, rdL_z, Option.map_some, from_agg]
    rfl
end Go.Proofs.Ytllogmedpmanoaa.Code
