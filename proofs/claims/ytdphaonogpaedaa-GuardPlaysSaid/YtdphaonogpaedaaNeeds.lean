/- Chapter 11: the closed runs, and GuardNeeds. -/
import Derived.Test.YtdphaonogpaedaaLaw
namespace Go.Proofs.Ytdphaonogpaedaa.Code
open Go.Fw

def within (a lo hi : Int) : Int := if lo ≤ a ∧ a ≤ hi then a else lo + (if a.tmod (hi - lo + 1) < 0 then a.tmod (hi - lo + 1) + hi - lo + 1 else a.tmod (hi - lo + 1))

theorem tmod_bounds (a n : Int) (hn : 0 < n) : -n < a.tmod n ∧ a.tmod n < n := by
  have h1 := Int.tmod_lt_of_pos a hn
  have h2 := Int.lt_tmod_of_pos a hn
  omega

theorem within_in (a lo hi : Int) (h : lo ≤ hi) : lo ≤ within a lo hi ∧ within a lo hi ≤ hi := by
  unfold within
  obtain ⟨h1, h2⟩ := tmod_bounds a (hi - lo + 1) (by omega)
  split
  · assumption
  · split <;> omega

theorem within_eq (a lo hi : Int) (h0 : 0 ≤ lo) (h1 : lo ≤ hi) (h2 : hi ≤ 1000000) (h : Heap) : E tbl 14 [.int .i64 a, .int .i64 lo, .int .i64 hi] h = some (.int .i64 (within a lo hi), h) := by
  rw [c14]
  obtain ⟨m1, m2⟩ := tmod_bounds a (hi - lo + 1) (by omega)
  have hn : ¬ (hi - lo + 1 = 0) := by omega
  have w1 : IntKind.i64.wrap (hi - lo) = hi - lo := IntWalk.i64_in _ (by omega)
  have w2 : IntKind.i64.wrap (hi - lo + 1) = hi - lo + 1 := IntWalk.i64_in _ (by omega)
  unfold within
  by_cases ha : lo ≤ a
  · by_cases hb : a ≤ hi
    · simp [S14, ha, hb]
    · by_cases hm : a.tmod (hi - lo + 1) < 0
      · have w3 : IntKind.i64.wrap (a.tmod (hi - lo + 1) + hi) = a.tmod (hi - lo + 1) + hi := IntWalk.i64_in _ (by omega)
        have w4 : IntKind.i64.wrap (a.tmod (hi - lo + 1) + hi - lo) = a.tmod (hi - lo + 1) + hi - lo := IntWalk.i64_in _ (by omega)
        have w5 : IntKind.i64.wrap (a.tmod (hi - lo + 1) + hi - lo + 1) = a.tmod (hi - lo + 1) + hi - lo + 1 := IntWalk.i64_in _ (by omega)
        have w6 : IntKind.i64.wrap (lo + (a.tmod (hi - lo + 1) + hi - lo + 1)) = lo + (a.tmod (hi - lo + 1) + hi - lo + 1) := IntWalk.i64_in _ (by omega)
        simp [S14, ha, hb, bin_rem, w1, w2, hn, hm, w3, w4, w5, w6]
      · have w6 : IntKind.i64.wrap (lo + a.tmod (hi - lo + 1)) = lo + a.tmod (hi - lo + 1) := IntWalk.i64_in _ (by omega)
        simp [S14, ha, hb, bin_rem, w1, w2, hn, hm, w6]
  · by_cases hm : a.tmod (hi - lo + 1) < 0
    · have w3 : IntKind.i64.wrap (a.tmod (hi - lo + 1) + hi) = a.tmod (hi - lo + 1) + hi := IntWalk.i64_in _ (by omega)
      have w4 : IntKind.i64.wrap (a.tmod (hi - lo + 1) + hi - lo) = a.tmod (hi - lo + 1) + hi - lo := IntWalk.i64_in _ (by omega)
      have w5 : IntKind.i64.wrap (a.tmod (hi - lo + 1) + hi - lo + 1) = a.tmod (hi - lo + 1) + hi - lo + 1 := IntWalk.i64_in _ (by omega)
      have w6 : IntKind.i64.wrap (lo + (a.tmod (hi - lo + 1) + hi - lo + 1)) = lo + (a.tmod (hi - lo + 1) + hi - lo + 1) := IntWalk.i64_in _ (by omega)
      simp [S14, ha, bin_rem, w1, w2, hn, hm, w3, w4, w5, w6]
    · have w6 : IntKind.i64.wrap (lo + a.tmod (hi - lo + 1)) = lo + a.tmod (hi - lo + 1) := IntWalk.i64_in _ (by omega)
      simp [S14, ha, bin_rem, w1, w2, hn, hm, w6]

theorem setBlk_id {h : Heap} {b : Nat} {x : Option Blk} (e : h.blk b = x) : h.setBlk b x = h := by
  unfold Heap.setBlk
  obtain ⟨n, f⟩ := h
  simp only [Heap.mk.injEq, true_and]
  funext i
  cases hb : Nat.beq i b with
  | false => rfl
  | true => rw [Nat.eq_of_beq_eq_true hb]; exact e.symm

theorem known_loop (b : Nat) (v : AVal) : ∀ (n : Nat) (i : Int) (h : Heap), i + n = 10 → 0 ≤ i → Gd h b 0 0 i → loop (L13_0 (E tbl)) [.ptr b 0, v, .int .i64 i] h = some (1, [.ptr b 0, v], h.setBlk b (gd 0 0 10))
  | 0, i, h, hi, h0, G => by
    have e : i = 10 := by omega
    subst e
    refine (loop_done (i := 0) (ys := [.ptr b 0, v]) (h' := h) ?_).trans ?_
    · simp [L13_0]
    · have e : h.setBlk b (gd 0 0 10) = h := setBlk_id G
      rw [e]
  | n + 1, i, h, hi, h0, G => by
    have hlt : i < 10 := by omega
    have w1 : IntKind.i64.wrap (i + 1) = i + 1 := IntWalk.i64_in _ (by omega)
    have w2 : min (i + 1) 1048576 = i + 1 := by omega
    refine (loop_more (xs' := [.ptr b 0, v, .int .i64 (i + 1)]) (h' := h.setBlk b (gd 0 0 (i + 1))) ?_).trans ?_
    · simp [L13_0, hlt, renew_eq G, w1, w2]
    · rw [known_loop b v n (i + 1) _ (by omega) (by omega) (Gd.set h b 0 0 (i + 1)), setBlk_twice]

theorem known_eq (h : Heap) : ∃ h', E tbl 13 [] h = some (.bool true, h') := by
  have G1 : Gd (h.alloc [.int .i64 0, .int .i64 0, .int .i64 0]) h.next 0 0 0 := alloc_same _ _
  have hl := known_loop h.next (.bool true) 10 0 _ (by decide) (by decide) G1
  have n1 : need 1 = 5 := by decide
  have n2 : need 2 = 10 := by decide
  have n3 : need 3 = 15 := by decide
  have n0 : need 0 = 0 := by decide
  have n5 : need (-5) = 0 := by decide
  have G2 := Gd.set (h.alloc [.int .i64 0, .int .i64 0, .int .i64 0]) h.next 0 0 10
  have t1 := tick_eq G2 59 (by omega) (by omega)
  have t2 := tick_eq G2 60 (by omega) (by omega)
  have e1 : tickF 0 0 10 60 = 60 := by decide
  have e2 : tickL 0 0 10 60 = 10 := by decide
  simp only [e1, e2] at t2
  have G3 := Gd.set ((h.alloc [.int .i64 0, .int .i64 0, .int .i64 0]).setBlk h.next (gd 0 0 10)) h.next 60 10 0
  refine ⟨((h.alloc [.int .i64 0, .int .i64 0, .int .i64 0]).setBlk h.next (gd 0 0 10)).setBlk h.next (gd 60 10 0), ?_⟩
  rw [c13]
  simp [S13, new_eq, protects_eq G1, n1, hl, this_eq G2, t1, last_eq G2, t2, need_eq, n2, last_eq G3, this_eq G3, protects_eq G3, n3, n0, n5]

theorem needs_eq (a b : Int) (h : Heap) : ∃ h', E tbl 6 [.int .i64 a, .int .i64 b] h = some (.bool true, h') := by
  obtain ⟨h', hk⟩ := known_eq h
  have hx := within_in a 0 5000 (by omega)
  have hy := within_in b 0 5000 (by omega)
  refine ⟨h', ?_⟩
  rw [c6]
  have e1 := within_eq a 0 5000 (by omega) (by omega) (by omega) h
  have e2 := within_eq b 0 5000 (by omega) (by omega) (by omega) h
  generalize within a 0 5000 = x at *
  generalize within b 0 5000 = y at *
  have hnx : need x = x * 510 / 100 := by unfold need; omega
  have hny : need y = y * 510 / 100 := by unfold need; omega
  have hnxy : need (x + y) = (x + y) * 510 / 100 := by unfold need; omega
  have w1 : IntKind.i64.wrap (x + y) = x + y := IntWalk.i64_in _ (by omega)
  have w2 : IntKind.i64.wrap (need x + need y) = need x + need y := IntWalk.i64_in _ (by omega)
  have w3 : IntKind.i64.wrap (x * 6) = x * 6 := IntWalk.i64_in _ (by omega)
  have w4 : IntKind.i64.wrap (5 * x) = 5 * x := IntWalk.i64_in _ (by omega)
  have q1 : need x ≤ need (x + y) := by omega
  have q2 : need x + need y ≤ need (x + y) := by omega
  have q3 : need x ≤ x * 6 := by omega
  have q4 : 5 * x ≤ need x := by omega
  by_cases hz : x = 0
  · simp [S6, e1, e2, need_eq, w1, w2, w3, w4, q1, q2, q3, q4, hk, hz]
    subst hz
    simp_all [need_eq]
  · have hz' : (x == 0) = false := by simpa using hz
    simp [S6, e1, e2, need_eq, w1, w2, w3, w4, q1, q2, q3, q4, hk, hz']

end Go.Proofs.Ytdphaonogpaedaa.Code
