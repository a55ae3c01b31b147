/- YtjibfbphiemljaaGreatDoorRefB -/
import Derived.Test.YtjibfbphiemljaaGreatDoorRefA
set_option linter.unusedSimpArgs false
set_option linter.unusedVariables false
namespace Go.Proofs.YtjibfbphiemljaaGreatDoor.Code
open Go.Fw
structure Ms.Sz (m : Ms) : Prop where
  key : KySz (m.ka, m.ki)
  cards : ∀ c ∈ m.cards, c.Sz
  keys : ∀ k ∈ m.keys, KySz k
theorem cards_loop {s : AVal} {h : Heap} {l : List Cd} (S : SrcC s h l) (hl : l.length ≤ 1000000) (hs : ∀ c ∈ l, c.Sz) (cs : List AVal) :
    loop (L19_0 (E tbl)) [s, .int .i64 l.length, .int .i64 0, .agg cs] h = some (if l.all cardB then (1, [.agg cs], h) else (2, [.str tCard, .int .i64 1], h)) := by
  have key : ∃ res, loop (L19_0 (E tbl)) [s, .int .i64 l.length, .int .i64 0, .agg cs] h = some res ∧ ((res = (1, [.agg cs], h) ∧ l.all cardB = true) ∨ (res = (2, [.str tCard, .int .i64 1], h) ∧ l.all cardB = false)) := by
    refine loop_ok (fun m xs G => ∃ i : Nat, m + i = l.length ∧ G = h ∧ (l.take i).all cardB = true ∧ xs = [s, .int .i64 l.length, .int .i64 (i : Int), .agg cs]) _ ?_ l.length _ _ ⟨0, rfl, rfl, by simp, rfl⟩
    rintro m xs G ⟨i, hm, rfl, ha, rfl⟩
    by_cases hi : i < l.length
    · have i1 : decide ((i : Int) < (l.length : Int)) = true := by simp; omega
      obtain ⟨p, p1, p2⟩ := El.Src.el S i hi
      rw [cdE_f] at p2
      have ht : (l.take (i + 1)).all cardB = ((l.take i).all cardB && cardB l[i]) := by
        have : l.take (i + 1) = l.take i ++ [l[i]] := by rw [List.take_add_one, List.getElem?_eq_getElem hi]; rfl
        rw [this, List.all_append]
        simp
      have e1 := card5_ok l[i] (hs _ (List.getElem_mem hi)) G
      have w1 := wrap_succ i (by omega)
      have hmem := List.getElem_mem hi
      generalize l[i] = c at *
      simp only [Cd.cells] at p2 e1
      cases hk : cardB c with
      | true =>
        left
        rw [hk] at e1
        refine ⟨[s, .int .i64 l.length, .int .i64 ((i + 1 : Nat) : Int), .agg cs], G, ?_, m - 1, by omega, i + 1, by omega, rfl, by rw [ht, ha, hk]; rfl, rfl⟩
        simp only [L19_0, i1, p1, p2, e1, w1, bin_add, List.getD_cons_zero, List.getD_cons_succ, Option.bind_some, cond_bool, cond_true, cond_false, aCells_agg, ble_dec, decide_true, spl_z, spl_c, List.length_cons, List.length_nil, Nat.zero_add, Nat.reduceAdd, Nat.le_refl, rdL_z, rdL_t, Option.map_some, from_agg, bin_lss, aggCells_agg, un_not, Bool.not_true]
      | false =>
        right
        rw [hk] at e1
        refine ⟨1, _, G, ?_, .inr ⟨rfl, ?_⟩⟩
        · simp only [L19_0, i1, p1, p2, e1, w1, bin_add, List.getD_cons_zero, List.getD_cons_succ, Option.bind_some, cond_bool, cond_true, aCells_agg, ble_dec, decide_true, spl_z, spl_c, List.length_cons, List.length_nil, Nat.zero_add, Nat.reduceAdd, Nat.le_refl, rdL_z, rdL_t, Option.map_some, from_agg, bin_lss, aggCells_agg, un_not, Bool.not_false]
        · cases hh : l.all cardB with
          | false => rfl
          | true => rw [List.all_eq_true.1 hh _ hmem] at hk; cases hk
    · right
      have i1 : decide ((i : Int) < (l.length : Int)) = false := by simp; omega
      refine ⟨0, _, G, by simp only [L19_0, i1, List.getD_cons_zero, List.getD_cons_succ, Option.bind_some, cond_bool, cond_true, cond_false, ble_dec, decide_true, List.length_cons, List.length_nil, Nat.zero_add, Nat.reduceAdd, Nat.le_refl, from_agg, bin_lss, aggCells_agg], .inl ⟨rfl, ?_⟩⟩
      rw [List.take_of_length_le (by omega)] at ha
      exact ha
  obtain ⟨res, e1, ⟨rfl, ha⟩ | ⟨rfl, ha⟩⟩ := key
  · rw [e1, ha]; rfl
  · rw [e1, ha]; rfl
theorem keys_loop {s : AVal} {h : Heap} {l : List Ky} (S : SrcK s h l) (hl : l.length ≤ 1000000) (hs : ∀ c ∈ l, KySz c) :
    loop (L19_1 (E tbl)) [s, .int .i64 l.length, .int .i64 0] h = some (if l.all keyB then (1, [], h) else (2, [.str tCard, .int .i64 1], h)) := by
  have key : ∃ res, loop (L19_1 (E tbl)) [s, .int .i64 l.length, .int .i64 0] h = some res ∧ ((res = (1, [], h) ∧ l.all keyB = true) ∨ (res = (2, [.str tCard, .int .i64 1], h) ∧ l.all keyB = false)) := by
    refine loop_ok (fun m xs G => ∃ i : Nat, m + i = l.length ∧ G = h ∧ (l.take i).all keyB = true ∧ xs = [s, .int .i64 l.length, .int .i64 (i : Int)]) _ ?_ l.length _ _ ⟨0, rfl, rfl, by simp, rfl⟩
    rintro m xs G ⟨i, hm, rfl, ha, rfl⟩
    by_cases hi : i < l.length
    · have i1 : decide ((i : Int) < (l.length : Int)) = true := by simp; omega
      obtain ⟨p, p1, p2⟩ := El.Src.el S i hi
      rw [kyE_f] at p2
      have ht : (l.take (i + 1)).all keyB = ((l.take i).all keyB && keyB l[i]) := by
        have : l.take (i + 1) = l.take i ++ [l[i]] := by rw [List.take_add_one, List.getElem?_eq_getElem hi]; rfl
        rw [this, List.all_append]
        simp
      have e1 := key6_ok l[i] (hs _ (List.getElem_mem hi)) G
      have w1 := wrap_succ i (by omega)
      have hmem := List.getElem_mem hi
      generalize l[i] = c at *
      cases hk : keyB c with
      | true =>
        left
        rw [hk] at e1
        refine ⟨[s, .int .i64 l.length, .int .i64 ((i + 1 : Nat) : Int)], G, ?_, m - 1, by omega, i + 1, by omega, rfl, by rw [ht, ha, hk]; rfl, rfl⟩
        simp only [L19_1, i1, p1, p2, e1, w1, bin_add, List.getD_cons_zero, List.getD_cons_succ, Option.bind_some, cond_bool, cond_true, cond_false, aCells_agg, ble_dec, decide_true, spl_z, spl_c, List.length_cons, List.length_nil, Nat.zero_add, Nat.reduceAdd, Nat.le_refl, rdL_z, rdL_t, Option.map_some, from_agg, bin_lss, un_not, Bool.not_true]
      | false =>
        right
        rw [hk] at e1
        refine ⟨1, _, G, ?_, .inr ⟨rfl, ?_⟩⟩
        · simp only [L19_1, i1, p1, p2, e1, w1, bin_add, List.getD_cons_zero, List.getD_cons_succ, Option.bind_some, cond_bool, cond_true, aCells_agg, ble_dec, decide_true, spl_z, spl_c, List.length_cons, List.length_nil, Nat.zero_add, Nat.reduceAdd, Nat.le_refl, rdL_z, rdL_t, Option.map_some, from_agg, bin_lss, un_not, Bool.not_false]
        · cases hh : l.all keyB with
          | false => rfl
          | true => rw [List.all_eq_true.1 hh _ hmem] at hk; cases hk
    · right
      have i1 : decide ((i : Int) < (l.length : Int)) = false := by simp; omega
      refine ⟨0, _, G, by simp only [L19_1, i1, List.getD_cons_zero, List.getD_cons_succ, Option.bind_some, cond_bool, cond_true, cond_false, ble_dec, decide_true, List.length_cons, List.length_nil, Nat.zero_add, Nat.reduceAdd, Nat.le_refl, from_agg, bin_lss], .inl ⟨rfl, ?_⟩⟩
      rw [List.take_of_length_le (by omega)] at ha
      exact ha
  obtain ⟨res, e1, ⟨rfl, ha⟩ | ⟨rfl, ha⟩⟩ := key
  · rw [e1, ha]; rfl
  · rw [e1, ha]; rfl
theorem op6 (m : Ms) (hk : m.kind = 1 ∨ m.kind = 2) : (decide (m.op < 1) || decide (m.op > 5) || ((m.op == 5) && !((m.ka == []) && (m.ki == []))) || ((m.op != 5) && !keyB (m.ka, m.ki))) = !opB m := by
  rw [Bool.eq_iff_iff]
  unfold opB
  rw [if_pos hk]
  by_cases h5 : m.op = 5
  · simp [h5]
  · have : (m.op == 5) = false := by simpa using h5
    have d : (m.op != 5) = true := by simpa using h5
    rw [if_neg h5, this, d]
    cases keyB (m.ka, m.ki) <;> simp <;> omega
noncomputable def restW (call : Go.Fw.Call) (n : Nat) (a b : AVal) (h : Heap) : Option J :=
 bif Nat.beq n 0 then some (0, [.tuple [a, b]], h) else
 bif Nat.beq n 1 then (rdL (AVal.aggCells a) 3 1).bind fun c58 =>
 (fromCells false c58).bind fun v59 =>
 (aBin .lss .plain v59 (.int .i64 0)).bind fun v60 =>
 (guardV v60 false
 ((rdL (AVal.aggCells a) 3 1).bind fun c61 =>
 (fromCells false c61).bind fun v62 =>
 (aBin .gtr .plain v62 (.int .i64 255)).bind fun v63 =>
 some (0, [v63], h))
 (some (0, [skipV], h))).bind fun g64 =>
 (aPick v60 (.bool true) (g64.2.1.getD 0 .undef)).bind fun v65 =>
 (guardV v65 false
 ((rdL (AVal.aggCells a) 2 1).bind fun c66 =>
 (fromCells false c66).bind fun v67 =>
 (aBin .lss .plain v67 (.int .i64 0)).bind fun v68 =>
 some (0, [v68], g64.2.2))
 (some (0, [skipV], g64.2.2))).bind fun g69 =>
 (aPick v65 (.bool true) (g69.2.1.getD 0 .undef)).bind fun v70 =>
 (guardV v70 false
 ((rdL (AVal.aggCells a) 2 1).bind fun c71 =>
 (fromCells false c71).bind fun v72 =>
 (aBin .gtr .plain v72 (.int .i64 255)).bind fun v73 =>
 some (0, [v73], g69.2.2))
 (some (0, [skipV], g69.2.2))).bind fun g74 =>
 (aPick v70 (.bool true) (g74.2.1.getD 0 .undef)).bind fun v75 =>
 (guardV v75 false
 ((rdL (AVal.aggCells a) 6 1).bind fun c76 =>
 (fromCells false c76).bind fun v77 =>
 (aBin .lss .plain v77 (.int .i64 (-1))).bind fun v78 =>
 some (0, [v78], g74.2.2))
 (some (0, [skipV], g74.2.2))).bind fun g79 =>
 (aPick v75 (.bool true) (g79.2.1.getD 0 .undef)).bind fun v80 =>
 condV v80
 (some (0, [.tuple [(.str [110, 117, 109, 98, 101, 114]), (.int .i64 1)]], g79.2.2))
 ((rdL (AVal.aggCells a) 11 1).bind fun c81 =>
 (fromCells false c81).bind fun v82 =>
 (aLen false v82).bind fun v83 =>
 (aBin .gtr .plain v83 (.int .i64 64)).bind fun v84 =>
 (guardV v84 false
 ((rdL (AVal.aggCells a) 12 1).bind fun c85 =>
 (fromCells false c85).bind fun v86 =>
 (aLen false v86).bind fun v87 =>
 (aBin .gtr .plain v87 (.int .i64 64)).bind fun v88 =>
 some (0, [v88], g79.2.2))
 (some (0, [skipV], g79.2.2))).bind fun g89 =>
 (aPick v84 (.bool true) (g89.2.1.getD 0 .undef)).bind fun v90 =>
 condV v90
 (some (0, [.tuple [(.str [99, 97, 114, 100, 115]), (.int .i64 3)]], g89.2.2))
 ((rdL (AVal.aggCells a) 11 1).bind fun c91 =>
 (fromCells false c91).bind fun v92 =>
 (aLen false v92).bind fun v93 =>
 (loop (L19_0 call) [v92, v93, (.int .i64 0), (.agg (AVal.aggCells a))] g89.2.2).bind fun x104 =>
 bif Nat.beq x104.1 1 then (rdL (AVal.aggCells (x104.2.1.getD 0 .undef)) 12 1).bind fun c105 =>
 (fromCells false c105).bind fun v106 =>
 (aLen false v106).bind fun v107 =>
 (loop (L19_1 call) [v106, v107, (.int .i64 0)] x104.2.2).bind fun x118 =>
 bif Nat.beq x118.1 1 then some (0, [.tuple [(.str []), (.int .i64 0)]], x118.2.2) else
 bif Nat.beq x118.1 2 then some (0, [.tuple [(x118.2.1.getD 0 .undef), (x118.2.1.getD 1 .undef)]], x118.2.2) else
 none else
 bif Nat.beq x104.1 2 then some (0, [.tuple [(x104.2.1.getD 0 .undef), (x104.2.1.getD 1 .undef)]], x104.2.2) else
 none)) else
 none
theorem nat_beq10 : Nat.beq 1 0 = false := rfl
theorem nat_beq21 : Nat.beq 2 1 = false := rfl
theorem nat_beq22 : Nat.beq 2 2 = true := rfl
theorem restW_ok {h : Heap} {m : Ms} {sc sk : AVal} (A : MsAt h m sc sk) (Z : m.Sz) : restW (E tbl) 1 (.agg (m.cells sc sk)) .undef h = some (0, [if numB m = false then .tuple [.str tNumber, .int .i64 1] else if 64 < m.cards.length ∨ 64 < m.keys.length then .tuple [.str tCards, .int .i64 3] else if m.cards.all cardB = false ∨ m.keys.all keyB = false then .tuple [.str tCard, .int .i64 1] else .tuple [.str [], .int .i64 0]], h) := by
  have lc := Fw.Src.len A.cards
  have lk := Fw.Src.len A.keys
  have nb : (decide (m.code < 0) || decide (m.code > 255) || decide (m.st < 0) || decide (m.st > 255) || decide (m.seq < -1)) = !numB m := by
    have d : ∀ x : Int, decide (Byt x) = (!decide (x < 0) && !decide (x > 255)) := by
      intro x
      rw [Bool.eq_iff_iff]
      rw [decide_eq_true_eq]; simp [Byt]
    have e : decide (-1 ≤ m.seq) = !decide (m.seq < -1) := by rw [Bool.eq_iff_iff]; simp
    unfold numB
    rw [d, d, e]
    cases decide (m.code < 0) <;> cases decide (m.code > 255) <;> cases decide (m.st < 0) <;> cases decide (m.st > 255) <;> cases decide (m.seq < -1) <;> rfl
  by_cases h4 : numB m = false
  · rw [if_pos h4]
    rw [h4] at nb
    simp only [restW, Ms.cells, nat_beq10, nb, List.getD_cons_zero, Option.bind_some, cond_bool, cond_true, cond_false, from_one, rdL_z, rdL_t, rdL_s, Option.map_some, bin_lss, bin_gtr, aggCells_agg, nat_beq11, g_or, p_or, Bool.not_false]
  · rw [if_neg h4]
    have h4' : numB m = true := by simpa using h4
    rw [h4'] at nb
    by_cases h5 : 64 < m.cards.length ∨ 64 < m.keys.length
    · rw [if_pos h5]
      have q5 : (decide ((m.cards.length : Int) > 64) || decide ((m.keys.length : Int) > 64)) = true := by simp; omega
      simp only [restW, Ms.cells, nat_beq10, nb, lc, lk, q5, List.getD_cons_zero, Option.bind_some, cond_bool, cond_true, cond_false, from_one, rdL_z, rdL_t, rdL_s, Option.map_some, bin_lss, bin_gtr, aggCells_agg, nat_beq11, g_or, p_or, Bool.not_true]
    · rw [if_neg h5]
      have q5 : (decide ((m.cards.length : Int) > 64) || decide ((m.keys.length : Int) > 64)) = false := by simp; omega
      have c1 := cards_loop A.cards (by omega) Z.cards (m.cells sc sk)
      have c2 := keys_loop A.keys (by omega) Z.keys
      simp only [Ms.cells] at c1
      by_cases ha : m.cards.all cardB = false
      · rw [if_pos (.inl ha)]
        rw [ha] at c1
        simp only [Bool.false_eq_true, if_false] at c1
        simp only [restW, Ms.cells, nat_beq10, nat_beq21, nat_beq22, nb, lc, lk, q5, c1, List.getD_cons_zero, List.getD_cons_succ, Option.bind_some, cond_bool, cond_true, cond_false, from_one, rdL_z, rdL_t, rdL_s, Option.map_some, bin_lss, bin_gtr, aggCells_agg, nat_beq11, g_or, p_or, Bool.not_true]
      · have ha' : m.cards.all cardB = true := by simpa using ha
        rw [ha'] at c1
        simp only [if_true] at c1
        by_cases hb : m.keys.all keyB = false
        · rw [if_pos (.inr hb)]
          rw [hb] at c2
          simp only [Bool.false_eq_true, if_false] at c2
          simp only [restW, Ms.cells, nat_beq10, nat_beq21, nat_beq22, nb, lc, lk, q5, c1, c2, List.getD_cons_zero, List.getD_cons_succ, Option.bind_some, cond_bool, cond_true, cond_false, from_one, rdL_z, rdL_t, rdL_s, Option.map_some, bin_lss, bin_gtr, aggCells_agg, nat_beq11, g_or, p_or, Bool.not_true]
        · have hb' : m.keys.all keyB = true := by simpa using hb
          rw [if_neg (fun h => h.elim ha hb)]
          rw [hb'] at c2
          simp only [if_true] at c2
          simp only [restW, Ms.cells, nat_beq10, nb, lc, lk, q5, c1, c2, List.getD_cons_zero, List.getD_cons_succ, Option.bind_some, cond_bool, cond_true, cond_false, from_one, rdL_z, rdL_t, rdL_s, Option.map_some, bin_lss, bin_gtr, aggCells_agg, nat_beq11, g_or, p_or, Bool.not_true]
theorem why6_ok {h : Heap} {m : Ms} {sc sk : AVal} (A : MsAt h m sc sk) (Z : m.Sz) : E tbl 19 [.agg (m.cells sc sk)] h = some (.tuple [.str (whyM m).1, .int .i64 (whyM m).2], h) := by
  have fin : ∀ (t : List UInt8) (k : Int), whyM m = (t, k) → E tbl 19 [.agg (m.cells sc sk)] h = some (.tuple [.str t, .int .i64 k], h) → E tbl 19 [.agg (m.cells sc sk)] h = some (.tuple [.str (whyM m).1, .int .i64 (whyM m).2], h) := by
    intro t k hw he
    rw [hw]; exact he
  by_cases h1 : m.kind < 1 ∨ 5 < m.kind
  · refine fin tKind 12 (by unfold whyM; rw [if_pos h1]) ?_
    have q : (decide (m.kind < 1) || decide (m.kind > 5)) = true := by simpa using h1
    rw [c19]
    simp only [S19, Ms.cells, q, List.getD_cons_zero, Option.bind_some, cond_bool, cond_true, cellsQ_agg, from_one, rdL_z, rdL_t, rdL_s, Option.map_some, from_agg, bin_eql, bin_neq, bin_lss, bin_gtr, bin_str_eql, ans_one, un_not, g_and, p_and, g_or, p_or]
  · have hk : 1 ≤ m.kind ∧ m.kind ≤ 5 := by omega
    have q1 : (decide (m.kind < 1) || decide (m.kind > 5)) = false := by simp; omega
    have z1 := zero6_ok A hk
    simp only [Ms.cells] at z1
    by_cases h2 : zeroB m = false
    · refine fin tZero 12 (by unfold whyM; rw [if_neg h1, if_pos h2]) ?_
      rw [h2] at z1
      rw [c19]
      simp only [S19, Ms.cells, q1, z1, List.getD_cons_zero, Option.bind_some, cond_bool, cond_true, cond_false, cellsQ_agg, from_one, rdL_z, rdL_t, rdL_s, Option.map_some, from_agg, bin_eql, bin_neq, bin_lss, bin_gtr, bin_str_eql, ans_one, un_not, g_and, p_and, g_or, p_or, Bool.not_false]
    · have h2' : zeroB m = true := by simpa using h2
      rw [h2'] at z1
      have y1 := key6_ok (m.ka, m.ki) Z.key h
      by_cases h3 : opB m = false
      · refine fin tOp 12 (by unfold whyM; rw [if_neg h1, if_neg h2, if_pos h3]) ?_
        have hk12 : m.kind = 1 ∨ m.kind = 2 := by
          by_cases hh : m.kind = 1 ∨ m.kind = 2
          · exact hh
          · unfold opB at h3; rw [if_neg hh] at h3; cases h3
        have k12 : ((m.kind == 1) || (m.kind == 2)) = true := by simpa using hk12
        have o6 := op6 m hk12
        rw [h3] at o6
        rw [c19]
        simp only [S19, Ms.cells, q1, z1, k12, y1, o6, List.getD_cons_zero, List.getD_cons_succ, Option.bind_some, cond_bool, cond_true, cond_false, cellsQ_agg, from_one, rdL_z, rdL_t, rdL_s, Option.map_some, from_agg, bin_eql, bin_neq, bin_lss, bin_gtr, bin_str_eql, nat_beq0, ans_one, un_not, g_and, p_and, g_or, p_or, Bool.not_true, Bool.not_false]
      · have h3' : opB m = true := by simpa using h3
        have hd : S19 (E tbl) (.agg (m.cells sc sk)) h = restW (E tbl) 1 (.agg (m.cells sc sk)) .undef h := by
          by_cases k12 : m.kind = 1 ∨ m.kind = 2
          · have o6 := op6 m k12
            rw [h3'] at o6
            have b12 : ((m.kind == 1) || (m.kind == 2)) = true := by simpa using k12
            simp only [S19, restW, Ms.cells, q1, z1, b12, y1, o6, nat_beq10, List.getD_cons_zero, List.getD_cons_succ, Option.bind_some, cond_bool, cond_true, cond_false, cellsQ_agg, from_one, rdL_z, rdL_t, rdL_s, Option.map_some, from_agg, bin_eql, bin_neq, bin_lss, bin_gtr, bin_str_eql, aggCells_agg, nat_beq11, un_not, g_and, p_and, g_or, p_or, Bool.not_true]
          · have b12 : ((m.kind == 1) || (m.kind == 2)) = false := by simpa using k12
            simp only [S19, restW, Ms.cells, q1, z1, b12, nat_beq10, List.getD_cons_zero, List.getD_cons_succ, Option.bind_some, cond_bool, cond_true, cond_false, cellsQ_agg, from_one, rdL_z, rdL_t, rdL_s, Option.map_some, from_agg, bin_eql, bin_neq, bin_lss, bin_gtr, bin_str_eql, aggCells_agg, nat_beq11, un_not, g_and, p_and, g_or, p_or, Bool.not_true]
        rw [c19, hd, restW_ok A Z]
        unfold whyM
        rw [if_neg h1, if_neg h2, if_neg h3]
        by_cases h4 : numB m = false
        · rw [if_pos h4, if_pos h4]; rfl
        · rw [if_neg h4, if_neg h4]
          by_cases h5 : 64 < m.cards.length ∨ 64 < m.keys.length
          · rw [if_pos h5, if_pos h5]; rfl
          · rw [if_neg h5, if_neg h5]
            by_cases h6 : m.cards.all cardB = false ∨ m.keys.all keyB = false
            · rw [if_pos h6, if_pos h6]; rfl
            · rw [if_neg h6, if_neg h6]; rfl
theorem rbit_ok (b : Bool) (h : Heap) : E tbl 25 [.bool b] h = some (.int .i64 (bitI b), h) := by
  rw [c25]; cases b <;> rfl
theorem rwkey_ok {a : AVal} {h : Heap} {l : List UInt8} (S : Go.Fw.Bs a h l) (k : Ky) (hb : l.length + 1000 ≤ 140737488355328) : ∃ s h', E tbl 24 [a, .agg [.str k.1, .str k.2]] h = some (s, h') ∧ Fresh h s h' (l ++ keyBs k) := by
  obtain ⟨s1, h1, e1, F1⟩ := rtext_eq S k.1 (by omega)
  have := packText_len k.1
  obtain ⟨s2, h2, e2, F2⟩ := rtext_eq F1.bs k.2 (by simp; omega)
  refine ⟨s2, h2, ?_, ?_⟩
  · rw [c24]
    simp [S24, rdL_z, rdL_t, rdL_s, e1, e2, checkPairs]
  · have := F1.thenF F2
    rw [List.append_assoc] at this
    exact this
theorem rwcards_ok {a : AVal} {h : Heap} {l : List UInt8} (S : Go.Fw.Bs a h l) {sc : AVal} {cs : List Cd} (C : SrcC sc h cs) (hc : cs.length ≤ 255) (hb : l.length ≤ 100000) : ∃ s h', E tbl 26 [a, sc] h = some (s, h') ∧ Fresh h s h' (l ++ cardsBs cs) := by
  have lc := Fw.Src.len C
  obtain ⟨s1, h1, e1, F1⟩ := rbyte_eq S (by omega) (cs.length : Int)
  have fl : ∀ i, ((cs.take i).map cardBs).flatten.length ≤ 600 * i := by
    have : ∀ (l : List Cd), (l.map cardBs).flatten.length ≤ 600 * l.length := by
      intro l
      induction l with
      | nil => simp
      | cons x l ih => have := cardBs_len x; simp only [List.map_cons, List.flatten_cons, List.length_append, List.length_cons]; omega
    intro i
    have := this (cs.take i)
    simp only [List.length_take] at this
    omega
  obtain ⟨r, e2, s2, h2, hr, F2⟩ := loop_ok (f := L26_0 (E tbl)) (fun m xs G => ∃ (i : Nat) (s : AVal), i + m = cs.length ∧ Fresh h s G (l ++ [bU8 cs.length] ++ ((cs.take i).map cardBs).flatten) ∧ xs = [s, sc, .int .i64 cs.length, .int .i64 i])
      (fun r => ∃ (s : AVal) (G : Heap), r = (1, [s], G) ∧ Fresh h s G (l ++ cardsBs cs)) (by
    rintro m xs G ⟨i, s, hi, F, rfl⟩
    by_cases q : i < cs.length
    · left
      have i1 : (i : Int) < (cs.length : Int) := by omega
      obtain ⟨p, p1, p2⟩ := El.Src.el (F.went.src C) i q
      have ws := wrap_succ i (by omega)
      have hl := fl i
      have hsn : ((cs.take (i + 1)).map cardBs).flatten = ((cs.take i).map cardBs).flatten ++ cardBs cs[i] := by
        rw [List.take_add_one, List.getElem?_eq_getElem q, List.map_append, List.flatten_append]; simp
      generalize hx : cs[i] = c at *
      generalize hfr : ((cs.take i).map cardBs).flatten = fr at *
      obtain ⟨b1, g1, w1, W1⟩ := rwkey_ok F.bs (c.a, c.i) (by simp; omega)
      have k1 := keyBs_len (c.a, c.i)
      obtain ⟨b2, g2, w2, W2⟩ := rbyte_eq W1.bs (by simp; omega) c.s
      obtain ⟨b3, g3, w3, W3⟩ := rbyte_eq W2.bs (by simp; omega) c.o
      obtain ⟨b4, g4, w4, W4⟩ := rint_eq W3.bs c.l (by simp; omega)
      obtain ⟨b5, g5, w5, W5⟩ := rint_eq W4.bs c.t (by simp; omega)
      obtain ⟨b6, g6, w6, W6⟩ := rbyte_eq W5.bs (by simp; omega) c.k
      obtain ⟨b7, g7, w7, W7⟩ := rint_eq W6.bs c.n (by simp; omega)
      obtain ⟨b8, g8, w8, W8⟩ := rbyte_eq W7.bs (by simp; omega) (bitI c.g)
      have W := ((((((((F.thenF W1).thenF W2).thenF W3).thenF W4).thenF W5).thenF W6).thenF W7).thenF W8)
      refine ⟨[b8, sc, .int .i64 cs.length, .int .i64 ((i + 1 : Nat) : Int)], g8, ?_, m - 1, by omega, i + 1, b8, by omega, ?_, rfl⟩
      · have bt := rbit_ok c.g g7
        rw [cdE_f] at p2
        simp [L26_0, i1, p1, p2, aCells, AVal.cells?, splice, rdL_z, rdL_t, rdL_s, w1, w2, w3, w4, w5, w6, w7, bt, w8, ws, checkPairs]
      · rw [hsn]
        have : l ++ [bU8 cs.length] ++ (fr ++ cardBs c) = l ++ [bU8 cs.length] ++ fr ++ keyBs (c.a, c.i) ++ [bU8 c.s] ++ [bU8 c.o] ++ be8 c.l ++ be8 c.t ++ [bU8 c.k] ++ be8 c.n ++ [bU8 (bitI c.g)] := by simp [cardBs]
        rw [this]
        exact W
    · right
      have hi' : i = cs.length := by omega
      subst hi'
      refine ⟨0, [s], G, ?_, s, G, rfl, ?_⟩
      · simp [L26_0]
      · rw [List.take_length] at F
        unfold cardsBs
        rw [← List.append_assoc]
        exact F) cs.length _ h1 ⟨0, s1, by omega, by simpa using F1, rfl⟩
  subst hr
  refine ⟨s2, h2, ?_, F2⟩
  rw [c26]
  simp only [Int.cast_ofNat_Int] at e2
  simp [S26, lc, e1, e2]
theorem rwkeys_loop {a : AVal} {h : Heap} {l : List UInt8} (S : Go.Fw.Bs a h l) {sc : AVal} {cs : List Ky} (C : SrcK sc h cs) (hc : cs.length ≤ 255) (hb : l.length ≤ 100000) : ∃ s0 h0 s h', E tbl 23 [a, .int .i64 cs.length] h = some (s0, h0) ∧ loop (L9_0 (E tbl)) [s0, sc, .int .i64 cs.length, .int .i64 0] h0 = some (1, [s], h') ∧ Fresh h s h' (l ++ keysBs cs) := by
  have lc := Fw.Src.len C
  obtain ⟨s1, h1, e1, F1⟩ := rbyte_eq S (by omega) (cs.length : Int)
  have fl : ∀ i, ((cs.take i).map keyBs).flatten.length ≤ 600 * i := by
    have : ∀ (l : List Ky), (l.map keyBs).flatten.length ≤ 600 * l.length := by
      intro l
      induction l with
      | nil => simp
      | cons x l ih => have := keyBs_len x; simp only [List.map_cons, List.flatten_cons, List.length_append, List.length_cons]; omega
    intro i
    have := this (cs.take i)
    simp only [List.length_take] at this
    omega
  obtain ⟨r, e2, s2, h2, hr, F2⟩ := loop_ok (f := L9_0 (E tbl)) (fun m xs G => ∃ (i : Nat) (s : AVal), i + m = cs.length ∧ Fresh h s G (l ++ [bU8 cs.length] ++ ((cs.take i).map keyBs).flatten) ∧ xs = [s, sc, .int .i64 cs.length, .int .i64 i])
      (fun r => ∃ (s : AVal) (G : Heap), r = (1, [s], G) ∧ Fresh h s G (l ++ keysBs cs)) (by
    rintro m xs G ⟨i, s, hi, F, rfl⟩
    by_cases q : i < cs.length
    · left
      have i1 : (i : Int) < (cs.length : Int) := by omega
      obtain ⟨p, p1, p2⟩ := El.Src.el (F.went.src C) i q
      have ws := wrap_succ i (by omega)
      have hl := fl i
      have hsn : ((cs.take (i + 1)).map keyBs).flatten = ((cs.take i).map keyBs).flatten ++ keyBs cs[i] := by
        rw [List.take_add_one, List.getElem?_eq_getElem q, List.map_append, List.flatten_append]; simp
      generalize hx : cs[i] = c at *
      generalize hfr : ((cs.take i).map keyBs).flatten = fr at *
      obtain ⟨b1, g1, w1, W1⟩ := rwkey_ok F.bs c (by simp; omega)
      have W := F.thenF W1
      refine ⟨[b1, sc, .int .i64 cs.length, .int .i64 ((i + 1 : Nat) : Int)], g1, ?_, m - 1, by omega, i + 1, b1, by omega, ?_, rfl⟩
      · rw [kyE_f] at p2
        simp [L9_0, i1, p1, p2, aCells, AVal.cells?, splice, rdL_z, rdL_t, w1, ws]
      · rw [hsn, ← List.append_assoc]
        exact W
    · right
      have hi' : i = cs.length := by omega
      subst hi'
      refine ⟨0, [s], G, ?_, s, G, rfl, ?_⟩
      · simp [L9_0]
      · rw [List.take_length] at F
        unfold keysBs
        rw [← List.append_assoc]
        exact F) cs.length _ h1 ⟨0, s1, by omega, by simpa using F1, rfl⟩
  subst hr
  simp only [Int.cast_ofNat_Int] at e2
  exact ⟨s1, h1, s2, h2, e1, e2, F2⟩
end Go.Proofs.YtjibfbphiemljaaGreatDoor.Code
