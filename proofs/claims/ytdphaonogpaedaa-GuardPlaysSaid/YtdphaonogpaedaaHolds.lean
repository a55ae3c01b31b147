/- Chapter 11: GuardHolds. -/
import Derived.Test.YtdphaonogpaedaaNeeds
namespace Go.Proofs.Ytdphaonogpaedaa.Code
open Go.Fw

theorem and_eq (a m : Int) (h0 : 0 ≤ m) (h1 : m ≤ 9223372036854775807) : ∃ r, aBin .and .plain (.int .i64 a) (.int .i64 m) = some (.int .i64 r) ∧ 0 ≤ r ∧ r ≤ m := by
  have hm : (BitVec.ofInt 64 m).toNat = m.toNat := by
    rw [BitVec.toNat_ofInt]
    omega
  have hle : (BitVec.ofInt 64 a &&& BitVec.ofInt 64 m).toNat ≤ m.toNat := by
    rw [BitVec.toNat_and, hm]
    exact Nat.and_le_right
  refine ⟨((BitVec.ofInt 64 a &&& BitVec.ofInt 64 m).toNat : Int), ?_, by omega, by omega⟩
  show some (AVal.int .i64 (IntKind.i64.wrap (((BitVec.ofInt 64 a &&& BitVec.ofInt 64 m).toNat : Nat) : Int))) = _
  rw [IntWalk.i64_in _ (by omega)]

theorem holds_inner (n at_ less : Int) (b : Nat) (f : Int) (hl : 0 ≤ less ∧ less ≤ 1) (hn : 1 ≤ n ∧ n ≤ 40) : ∀ (m : Nat) (i : Int) (h : Heap), i + m = need n - less → 0 ≤ i → Gd h b f 0 i →
    loop (L5_1 (E tbl)) [.int .i64 n, .int .i64 at_, .int .i64 less, .ptr b 0, .int .i64 i] h = some (1, [.int .i64 n, .int .i64 at_, .int .i64 less, .ptr b 0], h.setBlk b (gd f 0 (need n - less)))
  | 0, i, h, hi, h0, G => by
    have hneed : 5 ≤ need n ∧ need n ≤ 204 := by unfold need; omega
    have e : i = need n - less := by omega
    have w : IntKind.i64.wrap (need n - less) = need n - less := IntWalk.i64_in _ (by omega)
    refine (loop_done (i := 0) (ys := [.int .i64 n, .int .i64 at_, .int .i64 less, .ptr b 0]) (h' := h) ?_).trans ?_
    · have hlt : ¬ i < need n - less := by omega
      simp [L5_1, need_eq, w, hlt]
    · have e2 : h.setBlk b (gd f 0 (need n - less)) = h := setBlk_id (by rw [← e]; exact G)
      rw [e2]
  | m + 1, i, h, hi, h0, G => by
    have hneed : 5 ≤ need n ∧ need n ≤ 204 := by unfold need; omega
    have w : IntKind.i64.wrap (need n - less) = need n - less := IntWalk.i64_in _ (by omega)
    have w1 : IntKind.i64.wrap (i + 1) = i + 1 := IntWalk.i64_in _ (by omega)
    have w2 : min (i + 1) 1048576 = i + 1 := by omega
    have hlt : i < need n - less := by omega
    refine (loop_more (xs' := [.int .i64 n, .int .i64 at_, .int .i64 less, .ptr b 0, .int .i64 (i + 1)]) (h' := h.setBlk b (gd f 0 (i + 1))) ?_).trans ?_
    · simp [L5_1, need_eq, w, hlt, renew_eq G, w1, w2]
    · rw [holds_inner n at_ less b f hl hn m (i + 1) _ (by omega) (by omega) (Gd.set h b f 0 (i + 1)), setBlk_twice]

theorem holds_round (n at_ less : Int) (hl : 0 ≤ less ∧ less ≤ 1) (hn : 1 ≤ n ∧ n ≤ 40) (ha : 0 ≤ at_ ∧ at_ ≤ 65535) (h : Heap) : ∃ h', L5_0 (E tbl) [.int .i64 n, .int .i64 at_, .int .i64 less] h = some (0, [.int .i64 n, .int .i64 at_, .int .i64 (less + 1)], h') := by
  have hneed : 5 ≤ need n ∧ need n ≤ 204 := by unfold need; omega
  have G1 : Gd (h.alloc [.int .i64 at_, .int .i64 0, .int .i64 0]) h.next at_ 0 0 := alloc_same _ _
  have hin := holds_inner n at_ less h.next at_ hl hn (need n - less).toNat 0 _ (by omega) (by omega) G1
  have hnew := new_eq at_ h
  generalize h.alloc [.int .i64 at_, .int .i64 0, .int .i64 0] = h1 at *
  have G2 := Gd.set h1 h.next at_ 0 (need n - less)
  have t1 := tick_eq G2 (at_ + 60) (by omega) (by omega)
  have e1 : tickF at_ 0 (need n - less) (at_ + 60) = at_ + 60 := by unfold tickF; omega
  have e2 : tickL at_ 0 (need n - less) (at_ + 60) = need n - less := by unfold tickL; rw [if_pos (by omega)]
  rw [e1, e2, if_neg (by omega), setBlk_twice] at t1
  have G3 := Gd.set h1 h.next (at_ + 60) (need n - less) 0
  have t2 := tick_eq G3 (at_ + 120) (by omega) (by omega)
  have e3 : tickF (at_ + 60) (need n - less) 0 (at_ + 120) = at_ + 120 := by unfold tickF; omega
  have e4 : tickL (at_ + 60) (need n - less) 0 (at_ + 120) = 0 := by unfold tickL; rw [if_pos (by omega)]
  rw [e3, e4, if_neg (by omega), setBlk_twice] at t2
  have G4 := Gd.set h1 h.next (at_ + 120) 0 0
  have w1 : IntKind.i64.wrap (at_ + 60) = at_ + 60 := IntWalk.i64_in _ (by omega)
  have w2 : IntKind.i64.wrap (at_ + 120) = at_ + 120 := IntWalk.i64_in _ (by omega)
  have w3 : IntKind.i64.wrap (less + 1) = less + 1 := IntWalk.i64_in _ (by omega)
  have q1 : less < 2 := by omega
  have q2 : ¬ need n < 1 := by omega
  have q3 : (decide (need n - less < need n) == decide (0 < less)) = true := by
    by_cases h0 : less = 0
    · subst h0; simp
    · have : less = 1 := by omega
      subst this
      simp
      omega
  have q4 : 0 < need n := by omega
  refine ⟨h1.setBlk h.next (gd (at_ + 120) 0 0), ?_⟩
  simp [L5_0, q1, hnew, need_eq, q2, hin, w1, t1, protects_eq G3, q3, w2, t2, protects_eq G4, q4, last_eq G4, w3]

theorem holds_eq (a b : Int) (h : Heap) : ∃ h', E tbl 5 [.int .i64 a, .int .i64 b] h = some (.bool true, h') := by
  rw [c5]
  have hx := within_in a 1 40 (by omega)
  have e1 := within_eq a 1 40 (by omega) (by omega) (by omega) h
  obtain ⟨r, hr, hr0, hr1⟩ := and_eq b 65535 (by omega) (by omega)
  generalize within a 1 40 = n at *
  obtain ⟨h1, l1⟩ := holds_round n r 0 (by omega) (by omega) ⟨hr0, hr1⟩ h
  obtain ⟨h2, l2⟩ := holds_round n r 1 (by omega) (by omega) ⟨hr0, hr1⟩ h1
  have l3 : L5_0 (E tbl) [.int .i64 n, .int .i64 r, .int .i64 2] h2 = some (1, [], h2) := by simp [L5_0]
  have hl : loop (L5_0 (E tbl)) [.int .i64 n, .int .i64 r, .int .i64 0] h = some (1, [], h2) := by
    rw [loop_more l1]
    simp only [Int.zero_add]
    rw [loop_more l2]
    exact loop_done (i := 0) l3
  obtain ⟨h3, hk⟩ := known_eq h2
  refine ⟨h3, ?_⟩
  simp [S5, e1, hr, hl, hk]

end Go.Proofs.Ytdphaonogpaedaa.Code
