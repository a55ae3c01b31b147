/- YtjibfbphiemljaaGreatDoorName -/
import Derived.Test.YtjibfbphiemljaaGreatDoorRead
set_option linter.unusedSimpArgs false
set_option linter.unusedVariables false
namespace Go.Proofs.YtjibfbphiemljaaGreatDoor.Code
open Go.Fw
def okB (c : UInt8) : Bool := (decide (97 ≤ c.toNat) && decide (c.toNat ≤ 122)) || (decide (48 ≤ c.toNat) && decide (c.toNat ≤ 57))
def nameB (s : List UInt8) : Bool := decide (0 < s.length) && decide (s.length ≤ 16) && s.all okB
theorem name_ok (s : List UInt8) (h : Heap) : E tbl 71 [.str s] h = some (.bool (nameB s), h) := by
  have el : aLen true (.str s) = some (.int .i64 s.length) := rfl
  rw [c71]
  by_cases h0 : s.length = 0
  · simp [S71, el, h0, nameB]
  · have hb : ((s.length : Int) == 0) = false := by simp only [beq_eq_false_iff_ne, ne_eq]; omega
    by_cases h1 : s.length ≤ 16
    · have hg : decide ((s.length : Int) > 16) = false := by simp; omega
      have key : ∃ res, loop (L71_0 (E tbl)) [.str s, .int .i64 s.length, .int .i64 0] h = some res ∧ ((res = (1, [], h) ∧ s.all okB = true) ∨ (res = (2, [.bool false], h) ∧ s.all okB = false)) := by
        refine loop_ok (fun m xs G => ∃ i : Nat, m + i = s.length ∧ G = h ∧ (s.take i).all okB = true ∧ xs = [.str s, .int .i64 s.length, .int .i64 (i : Int)]) _ ?_ s.length _ _ ⟨0, rfl, rfl, by simp, rfl⟩
        rintro m xs G ⟨i, hm, rfl, ha, rfl⟩
        by_cases hi : i < s.length
        · have i1 : (i : Int) < (s.length : Int) := by omega
          have ix : aIndexStr (.str s) (.int .i64 (i : Int)) = some (.int .u8 ((s[i].toNat : Nat) : Int)) := by
            simp [aIndexStr, aIdx, hi]
          have w1 : IntKind.i64.wrap ((i : Int) + 1) = ((i + 1 : Nat) : Int) := by rw [IntWalk.i64_in _ (by omega)]; omega
          have ht : (s.take (i + 1)).all okB = ((s.take i).all okB && okB s[i]) := by
            have : s.take (i + 1) = s.take i ++ [s[i]] := by rw [List.take_add_one, List.getElem?_eq_getElem hi]; rfl
            rw [this, List.all_append]
            simp
          have step : L71_0 (E tbl) [.str s, .int .i64 s.length, .int .i64 (i : Int)] G = some (bif okB s[i] then (0, [.str s, .int .i64 s.length, .int .i64 ((i + 1 : Nat) : Int)], G) else (2, [.bool false], G)) := by
            generalize hx : s[i] = x at ix
            have hk : okB x = ((!decide ((x.toNat : Int) < 97) && !decide (122 < (x.toNat : Int))) || (!decide ((x.toNat : Int) < 48) && !decide (57 < (x.toNat : Int)))) := by
              rw [Bool.eq_iff_iff]
              simp only [okB, Bool.or_eq_true, Bool.and_eq_true, decide_eq_true_eq, Bool.not_eq_true', decide_eq_false_iff_not]
              omega
            rw [hk]
            cases q1 : decide ((x.toNat : Int) < 97) <;> cases q2 : decide (122 < (x.toNat : Int)) <;> cases q3 : decide ((x.toNat : Int) < 48) <;> cases q4 : decide (57 < (x.toNat : Int)) <;> simp [L71_0, i1, ix, q1, q2, q3, q4, w1]
          cases hk : okB s[i] with
          | true =>
            left
            rw [hk] at step
            refine ⟨[.str s, .int .i64 s.length, .int .i64 ((i + 1 : Nat) : Int)], G, step, m - 1, by omega, i + 1, by omega, rfl, by rw [ht, ha, hk]; rfl, rfl⟩
          | false =>
            right
            rw [hk] at step
            refine ⟨1, [.bool false], G, step, .inr ⟨rfl, ?_⟩⟩
            cases hh : s.all okB with
            | false => rfl
            | true => rw [List.all_eq_true.1 hh _ (List.getElem_mem hi)] at hk; cases hk
        · right
          have i1 : ¬ (i : Int) < (s.length : Int) := by omega
          refine ⟨0, [], G, by simp [L71_0, i1], .inl ⟨rfl, ?_⟩⟩
          rw [List.take_of_length_le (by omega)] at ha
          exact ha
      have hlt : 0 < s.length := by omega
      obtain ⟨res, e1, ⟨rfl, ha⟩ | ⟨rfl, ha⟩⟩ := key
      · simp [S71, el, hb, hg, e1, nameB, hlt, h1, ha, beq_dec]
      · simp [S71, el, hb, hg, e1, nameB, hlt, h1, ha, beq_dec]
    · have hg : decide ((s.length : Int) > 16) = true := by simp; omega
      simp [S71, el, hb, hg, nameB, h1]
theorem names_ok (a b : List UInt8) (h : Heap) : E tbl 57 [.agg [.str a, .str b]] h = some (.bool (nameB a && nameB b), h) := by
  rw [c57]
  cases ha : nameB a <;> simp [S57, name_ok, ha]
def stampB (t k n : Int) : Bool := decide (0 ≤ t) && decide (0 ≤ n) && decide (0 ≤ k) && decide (k < 6)
theorem stamp_ok (t k n : Int) (h : Heap) : E tbl 72 [.agg [.int .i64 t, .int .i64 k, .int .i64 n]] h = some (.bool (stampB t k n), h) := by
  rw [c72]
  unfold stampB
  cases q1 : decide (0 ≤ t) <;> cases q2 : decide (0 ≤ n) <;> cases q3 : decide (0 ≤ k) <;> cases q4 : decide (k < 6) <;> simp [S72, q1, q2, q3, q4]
structure Cd where
  a : List UInt8
  i : List UInt8
  s : Int
  o : Int
  l : Int
  t : Int
  k : Int
  n : Int
  g : Bool
  deriving DecidableEq
abbrev Cd.cells (c : Cd) : List AVal := [.str c.a, .str c.i, .int .i64 c.s, .int .i64 c.o, .int .i64 c.l, .int .i64 c.t, .int .i64 c.k, .int .i64 c.n, .bool c.g]
def cardB (c : Cd) : Bool := nameB c.a && nameB c.i && (decide (c.s = 1) || decide (c.s = 2)) && decide (0 ≤ c.o) && decide (c.o ≤ 3) && decide (1 ≤ c.l) && decide (c.l ≤ 1048576) && stampB c.t c.k c.n
theorem card_ok (c : Cd) (h : Heap) : E tbl 54 [.agg c.cells] h = some (.bool (cardB c), h) := by
  rw [c54]
  have e1 : ∀ G, E tbl 71 [.str c.a] G = some (.bool (nameB c.a), G) := fun G => name_ok c.a G
  have e2 : ∀ G, E tbl 71 [.str c.i] G = some (.bool (nameB c.i), G) := fun G => name_ok c.i G
  have e3 : ∀ G, E tbl 72 [.agg [.int .i64 c.t, .int .i64 c.k, .int .i64 c.n]] G = some (.bool (stampB c.t c.k c.n), G) := fun G => stamp_ok c.t c.k c.n G
  unfold cardB
  generalize nameB c.a = p at *
  generalize nameB c.i = q at *
  generalize stampB c.t c.k c.n = r at *
  have n1 : (c.s != 1) = !decide (c.s = 1) := rfl
  have n2 : (c.s != 2) = !decide (c.s = 2) := rfl
  have n3 : decide (c.o < 0) = !decide (0 ≤ c.o) := by by_cases h : 0 ≤ c.o <;> simp [h] <;> omega
  have n4 : decide (c.o > 3) = !decide (c.o ≤ 3) := by by_cases h : c.o ≤ 3 <;> simp [h] <;> omega
  have n5 : decide (c.l ≥ 1) = decide (1 ≤ c.l) := rfl
  simp only [S54, Cd.cells, cellsQ_agg, Option.bind_some, rdL_z, rdL_t, rdL_s, Option.map_some, from_one, from_agg, e1, e2, e3, bin_neq, bin_lss, bin_gtr, bin_geq, bin_leq, n1, n2, n3, n4, n5]
  generalize decide (c.s = 1) = b1
  generalize decide (c.s = 2) = b2
  generalize decide (0 ≤ c.o) = b3
  generalize decide (c.o ≤ 3) = b4
  generalize decide (1 ≤ c.l) = b5
  generalize decide (c.l ≤ 1048576) = b6
  cases p <;> cases q <;> cases r <;> cases b1 <;> cases b2 <;> cases b3 <;> cases b4 <;> cases b5 <;> cases b6 <;> rfl
end Go.Proofs.YtjibfbphiemljaaGreatDoor.Code
