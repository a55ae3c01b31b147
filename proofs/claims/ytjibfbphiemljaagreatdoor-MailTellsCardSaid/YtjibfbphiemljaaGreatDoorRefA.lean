/- YtjibfbphiemljaaGreatDoorRefA -/
import Derived.Test.YtjibfbphiemljaaGreatDoorHelp
set_option linter.unusedSimpArgs false
set_option linter.unusedVariables false
namespace Go.Proofs.YtjibfbphiemljaaGreatDoor.Code
open Go.Fw
theorem name5_ok (s : List UInt8) (hl : s.length ≤ 9223372036854775807) (h : Heap) : E tbl 64 [.str s] h = some (.bool (nameB s), h) := by
  have el : aLen true (.str s) = some (.int .i64 s.length) := rfl
  have key : ∃ res, loop (L64_0 (E tbl)) [.str s, .int .i64 0] h = some res ∧ ((res = (1, [.str s], h) ∧ s.all okB = true) ∨ (res = (2, [.bool false], h) ∧ s.all okB = false)) := by
    refine loop_ok (fun m xs G => ∃ i : Nat, m + i = s.length ∧ G = h ∧ (s.take i).all okB = true ∧ xs = [.str s, .int .i64 (i : Int)]) _ ?_ s.length _ _ ⟨0, rfl, rfl, by simp, rfl⟩
    rintro m xs G ⟨i, hm, rfl, ha, rfl⟩
    by_cases hi : i < s.length
    · have i1 : decide ((i : Int) < (s.length : Int)) = true := by simp; omega
      have ix : aIndexStr (.str s) (.int .i64 (i : Int)) = some (.int .u8 ((s[i].toNat : Nat) : Int)) := by
        simp [aIndexStr, aIdx, hi]
      have w1 : IntKind.i64.wrap ((i : Int) + 1) = ((i + 1 : Nat) : Int) := by rw [IntWalk.i64_in _ (by omega)]; omega
      have ht : (s.take (i + 1)).all okB = ((s.take i).all okB && okB s[i]) := by
        have : s.take (i + 1) = s.take i ++ [s[i]] := by rw [List.take_add_one, List.getElem?_eq_getElem hi]; rfl
        rw [this, List.all_append]
        simp
      have step : L64_0 (E tbl) [.str s, .int .i64 (i : Int)] G = some (bif okB s[i] then (0, [.str s, .int .i64 ((i + 1 : Nat) : Int)], G) else (2, [.bool false], G)) := by
        generalize hx : s[i] = x at ix
        have hk : okB x = !((decide ((x.toNat : Int) < 97) || decide ((x.toNat : Int) > 122)) && (decide ((x.toNat : Int) < 48) || decide ((x.toNat : Int) > 57))) := by
          rw [Bool.eq_iff_iff]
          simp only [okB, Bool.or_eq_true, Bool.and_eq_true, decide_eq_true_eq, Bool.not_eq_true', Bool.and_eq_false_iff, Bool.or_eq_false_iff, decide_eq_false_iff_not]
          omega
        rw [hk]
        simp only [L64_0, el, ix, i1, List.getD_cons_zero, List.getD_cons_succ, Option.bind_some, cond_bool, cond_true, bin_lss, bin_gtr, g_and, p_and, g_or, p_or, bin_add, w1]
        cases ((decide ((x.toNat : Int) < 97) || decide ((x.toNat : Int) > 122)) && (decide ((x.toNat : Int) < 48) || decide ((x.toNat : Int) > 57))) <;> rfl
      cases hk : okB s[i] with
      | true =>
        left
        rw [hk] at step
        exact ⟨_, G, step, m - 1, by omega, i + 1, by omega, rfl, by rw [ht, ha, hk]; rfl, rfl⟩
      | false =>
        right
        rw [hk] at step
        refine ⟨1, [.bool false], G, step, .inr ⟨rfl, ?_⟩⟩
        cases hh : s.all okB with
        | false => rfl
        | true => rw [List.all_eq_true.1 hh _ (List.getElem_mem hi)] at hk; cases hk
    · right
      have i1 : decide ((i : Int) < (s.length : Int)) = false := by simp; omega
      refine ⟨0, [.str s], G, by simp only [L64_0, el, i1, List.getD_cons_zero, List.getD_cons_succ, Option.bind_some, cond_bool, cond_false, Nat.zero_add, bin_lss], .inl ⟨rfl, ?_⟩⟩
      rw [List.take_of_length_le (by omega)] at ha
      exact ha
  obtain ⟨res, e1, ⟨rfl, ha⟩ | ⟨rfl, ha⟩⟩ := key
  · have hb : nameB s = (decide ((s.length : Int) ≥ 1) && decide ((s.length : Int) ≤ 16)) := by
      rw [Bool.eq_iff_iff]
      simp only [nameB, ha, Bool.and_true, Bool.and_eq_true, decide_eq_true_eq]
      omega
    rw [c64, hb]
    simp only [S64, e1, el, List.getD_cons_zero, Option.bind_some, cond_true, bin_geq, bin_leq, nat_beq11, ans_one, g_and, p_and]
  · have hb : nameB s = false := by simp [nameB, ha]
    rw [c64, hb]
    have q1 : Nat.beq 2 1 = false := rfl
    have q2 : Nat.beq 2 2 = true := rfl
    simp only [S64, e1, List.getD_cons_zero, Option.bind_some, cond_true, cond_false, ans_one, q1, q2]
theorem stamp5_ok (t k n : Int) (h : Heap) : E tbl 65 [.agg [.int .i64 t, .int .i64 k, .int .i64 n]] h = some (.bool (stampB t k n), h) := by
  have hb : stampB t k n = (decide (t ≥ 0) && decide (n ≥ 0) && decide (k ≥ 0) && decide (k < 6)) := rfl
  rw [c65, hb]
  simp only [S65, List.getD_cons_zero, Option.bind_some, cellsQ_agg, from_one, rdL_z, rdL_t, rdL_s, Option.map_some, bin_lss, bin_geq, ans_one, g_and, p_and]
def Cd.Sz (c : Cd) : Prop := c.a.length ≤ 9223372036854775807 ∧ c.i.length ≤ 9223372036854775807
def KySz (k : Ky) : Prop := k.1.length ≤ 9223372036854775807 ∧ k.2.length ≤ 9223372036854775807
theorem card5_ok (c : Cd) (hc : c.Sz) (h : Heap) : E tbl 36 [.agg c.cells] h = some (.bool (cardB c), h) := by
  have e1 := name5_ok c.a hc.1 h
  have e2 := name5_ok c.i hc.2 h
  have e3 := stamp5_ok c.t c.k c.n h
  have hb : cardB c = (nameB c.a && nameB c.i && ((c.s == 1) || (c.s == 2)) && decide (c.o ≥ 0) && decide (c.o ≤ 3) && decide (c.l ≥ 1) && decide (c.l ≤ 1048576) && stampB c.t c.k c.n) := rfl
  rw [c36, hb]
  simp only [S36, Cd.cells, e1, e2, e3, List.getD_cons_zero, Option.bind_some, cellsQ_agg, from_one, rdL_z, rdL_t, rdL_s, Option.map_some, from_agg, bin_eql, bin_geq, bin_leq, ans_one, g_and, p_and, g_or, p_or]
theorem key6_ok (k : Ky) (hk : KySz k) (h : Heap) : E tbl 35 [.agg [.str k.1, .str k.2]] h = some (.bool (keyB k), h) := by
  have e1 := name5_ok k.1 hk.1 h
  have e2 := name5_ok k.2 hk.2 h
  have hb : keyB k = (nameB k.1 && nameB k.2) := rfl
  rw [c35, hb]
  simp only [S35, e1, e2, List.getD_cons_zero, Option.bind_some, cellsQ_agg, from_one, rdL_z, rdL_t, rdL_s, Option.map_some, ans_one, g_and, p_and]
theorem len_zero {α : Type} (l : List α) : ((l.length : Int) == 0) = decide (l.length = 0) := by
  rw [Bool.eq_iff_iff, beq_iff_eq, decide_eq_true_eq]; omega
theorem zero6_ok {h : Heap} {m : Ms} {sc sk : AVal} (A : MsAt h m sc sk) (hk : 1 ≤ m.kind ∧ m.kind ≤ 5) : E tbl 34 [.agg (m.cells sc sk)] h = some (.bool (zeroB m), h) := by
  have lc := Fw.Src.len A.cards
  have lk := Fw.Src.len A.keys
  have hb : zeroB m = (bif (!(m.kind == 1) && !(m.kind == 2) && ((m.op != 0) || (m.tag != 0) || (m.seq != 0) || !(m.ka == []) || !(m.ki == []))) then false else
      bif ((!(m.kind == 1) && ((m.n != 0) || (m.st != 0))) || (!(m.kind == 2) && ((m.code != 0) || m.full || (m.sum != 0)))) then false else
      (((m.kind == 5) || decide (m.keys.length = 0)) && (((m.kind != 1) && (m.kind != 5)) || decide (m.cards.length = 0)))) := by
    obtain ⟨kind, op, st, code, tag, n, seq, ka, ki, full, sum, cards, keys⟩ := m
    have ek : kind = 1 ∨ kind = 2 ∨ kind = 3 ∨ kind = 4 ∨ kind = 5 := by simp only at hk; omega
    have dk : decide (keys.length = 0) = decide (keys = []) := by rw [Bool.eq_iff_iff]; simp
    have dc : decide (cards.length = 0) = decide (cards = []) := by rw [Bool.eq_iff_iff]; simp
    have d0 : ∀ x : Int, (x != 0) = !decide (x = 0) := fun x => rfl
    have dl : ∀ x : List UInt8, (x == []) = decide (x = []) := fun x => by rw [Bool.eq_iff_iff]; simp
    simp only [dk, dc, d0, dl]
    rcases ek with rfl | rfl | rfl | rfl | rfl <;> simp (decide := true) only [zeroB, if_true, if_false] <;>
      generalize decide (op = 0) = b1 <;> generalize decide (tag = 0) = b2 <;> generalize decide (seq = 0) = b3 <;> generalize decide (ka = []) = b4 <;> generalize decide (ki = []) = b5 <;>
      generalize decide (n = 0) = b6 <;> generalize decide (st = 0) = b7 <;> generalize decide (code = 0) = b8 <;> generalize decide (sum = 0) = b9 <;> generalize decide (keys = []) = b10 <;> generalize decide (cards = []) = b11 <;>
      cases b1 <;> cases b2 <;> cases b3 <;> cases b4 <;> cases b5 <;> simp <;> cases b6 <;> cases b7 <;> cases b8 <;> cases b9 <;> cases full <;> simp [Bool.and_comm]
  rw [c34, hb]
  simp only [S34, Ms.cells, lc, lk, List.getD_cons_zero, Option.bind_some, cond_bool, cellsQ_agg, from_one, rdL_z, rdL_t, rdL_s, Option.map_some, bin_eql, bin_neq, bin_str_neq, un_not, g_and, p_and, g_or, p_or, len_zero]
  generalize (!(m.kind == 1) && !(m.kind == 2) && ((m.op != 0) || (m.tag != 0) || (m.seq != 0) || !(m.ka == []) || !(m.ki == []))) = b1
  generalize ((!(m.kind == 1) && ((m.n != 0) || (m.st != 0))) || (!(m.kind == 2) && ((m.code != 0) || m.full || (m.sum != 0)))) = b2
  cases b1 <;> cases b2 <;> rfl
end Go.Proofs.YtjibfbphiemljaaGreatDoor.Code
