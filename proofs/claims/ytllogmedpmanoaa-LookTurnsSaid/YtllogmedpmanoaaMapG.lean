/- LookTurns: the rounds. -/
import Derived.Test.YtllogmedpmanoaaMapF
import Derived.Test.YtllogmedpmanoaaOnce
namespace Go.Fw
set_option linter.unusedSimpArgs false
set_option linter.unusedVariables false
open Go.Proofs.Ytllogmedpmanoaa.Code

theorem ft_eq' : (false == false) = true := rfl
theorem piece9 {call : Fw.Call} {h : Heap} {b : Nat} {c : Cd} {v4 v5 v6 v7 v8 v9 : AVal} (hb : h.rd b 0 9 = some c.cells) (hg : c.g = false) (ha : c.a = [97, 112, 112]) (hs : call 12 [.agg c.cells] h = some (.int .i64 1, h)) :
    ∃ vs, (∀ k, runC call ac9 (env0 [(4, v4), (5, v5), (6, v6), (7, v7), (8, v8), (9, v9), (10, .ptr b 0), (11, .bool true)] [] 0) h k = k .normal (env0 vs [] 0) h) ∧
      [4, 5, 6, 7, 8, 9, 10].map (fun t => (t, look vs t)) = [(4, v4), (5, v5), (6, v6), (7, v7), (8, v8), (9, v9), (10, .ptr b 0)] := by
  obtain ⟨a, i, s, o, l, t, kk, n, g⟩ := c
  simp only at hg ha
  subst hg; subst ha
  have r8 : h.rd b (0 + 8) 1 = some [.bool false] := rd_part hb 8 1 (by omega)
  have r0 : h.rd b (0 + 0 + 0) 1 = some [.str [97, 112, 112]] := rd_part hb 0 1 (by omega)
  refine ⟨(55, .bool false) :: (54, .bool false) :: (52, .undef) :: (53, .undef) :: (54, .undef) :: (51, .bool false) :: (50, .bool false) :: (49, .bool false) :: (46, .undef) :: (47, .undef) :: (48, .undef) :: (49, .undef) :: (45, .bool false) :: (44, .bool false) ::
    (43, .bool false) :: (42, .undef) :: (43, .undef) :: (41, .bool false) :: (40, .bool false) :: (39, .bool true) :: [(4, v4), (5, v5), (6, v6), (7, v7), (8, v8), (9, v9), (10, .ptr b 0), (11, .bool true)], fun k => ?_, rfl⟩
  have q1 : ∀ (k : List AVal → Option J), ((h.rd b (0 + 8) 1).bind fun cs => k cs) = k [.bool false] := fun k => by rw [r8]; rfl
  have q2 : ∀ (k : List AVal → Option J), ((h.rd b (0 + 0 + 0) 1).bind fun cs => k cs) = k [.str [97, 112, 112]] := fun k => by rw [r0]; rfl
  have q3 : ∀ (k : List AVal → Option J), ((h.rd b 0 9).bind fun cs => k cs) = k [.str [97, 112, 112], .str i, .int .i64 s, .int .i64 o, .int .i64 l, .int .i64 t, .int .i64 kk, .int .i64 n, .bool false] := fun k => by rw [hb]; rfl
  have q4 : ∀ (k : AVal × Heap → Option J), ((call 12 [.agg [.str [97, 112, 112], .str i, .int .i64 s, .int .i64 o, .int .i64 l, .int .i64 t, .int .i64 kk, .int .i64 n, .bool false]] h).bind fun cs => k cs) = k (.int .i64 1, h) := fun k => by
    have : call 12 [.agg [.str [97, 112, 112], .str i, .int .i64 s, .int .i64 o, .int .i64 l, .int .i64 t, .int .i64 kk, .int .i64 n, .bool false]] h = some (.int .i64 1, h) := hs
    rw [this]; rfl
  have nq : aBin .neq .plain (.str [97, 112, 112]) (.str [97, 112, 112]) = some (.bool false) := by rw [bin_str_neq]; rfl
  have nq2 : ((1 : Int) != 1) = false := rfl
  refine Eq.trans (b := (guardV (.bool false) false ((h.rd b (0 + 8) 1).bind fun c43 => (fromCells false c43).bind fun v43 => some (0, [v43], h)) (some (0, [skipV], h))).bind fun g1 =>
    (aPick (.bool false) (.bool true) (g1.2.1.getD 0 .undef)).bind fun v44 =>
    (guardV v44 false ((g1.2.2.rd b (0 + 0 + 0) 1).bind fun c48 => (fromCells false c48).bind fun v48 => (aBin .neq .plain v48 (.str [97, 112, 112])).bind fun v49 => some (0, [v49], g1.2.2)) (some (0, [skipV], g1.2.2))).bind fun g2 =>
    (aPick v44 (.bool true) (g2.2.1.getD 0 .undef)).bind fun v50 =>
    (guardV v50 false ((g2.2.2.rd b 0 9).bind fun c52 => (fromCells true c52).bind fun v52 => (call 12 [v52] g2.2.2).bind fun r => (aBin .neq .plain r.1 (.int .i64 1)).bind fun v54 => some (0, [v54], r.2)) (some (0, [skipV], g2.2.2))).bind fun g3 =>
    (aPick v50 (.bool true) (g3.2.1.getD 0 .undef)).bind fun v55 => (fun vs : List (Nat × AVal) => condV v55 (k .ret (env0 ((4, .bool false) :: vs) [] 0) g3.2.2) (k .normal (env0 vs [] 0) g3.2.2))
      ((55, v55) :: (54, g3.2.1.getD 0 .undef) :: (52, .undef) :: (53, .undef) :: (54, .undef) :: (51, v50) :: (50, v50) :: (49, g2.2.1.getD 0 .undef) :: (46, .undef) :: (47, .undef) :: (48, .undef) :: (49, .undef) :: (45, v44) :: (44, v44) ::
    (43, g1.2.1.getD 0 .undef) :: (42, .undef) :: (43, .undef) :: (41, .bool false) :: (40, .bool false) :: (39, .bool true) :: [(4, v4), (5, v5), (6, v6), (7, v7), (8, v8), (9, v9), (10, .ptr b 0), (11, .bool true)])) ?_ ?_
  · kernel_rfl
  · simp only [guard_bool, ft_eq', cond_true, q1, q2, q3, q4, from_one, from_agg, Option.bind_some, pick_bool, cond_false, List.getD_cons_zero, nq, nq2, bin_neq, cond_bool]
end Go.Fw
