/- Chapter 11: the law GuardPlays. -/
import Derived.Test.YtdphaonogpaedaaPlay
import Derived.Test.YtdphaonogpaedaaFwZf
namespace Go.Proofs.Ytdphaonogpaedaa.Code
open Go.Fw

theorem wrap64_range (x : Int) : -9223372036854775808 ≤ IntKind.i64.wrap x ∧ IntKind.i64.wrap x ≤ 9223372036854775807 := by
  rw [IntKind.wrap_i64]; omega

theorem plays_loop (h0 : Heap) (a0 : Int) {s1 s2 : AVal} {l2 : List Int} (I2 : Ints .i64 s2 h0 l2) (b2 : ∀ b, slBlk s2 = some b → b < h0.next) (hb : l2.length * 8 ≤ 140737488355328) :
    ∀ (m i : Nat) (h : Heap) (s : AVal) (l : List Int) (at_ : Int), i + m = l2.length → Grow 1 s h h0.next i (l.map (.int .i64)) → h0.next ≤ h.next → (∀ b, b < h0.next → h.blk b = h0.blk b) → (∀ x ∈ l, -9223372036854775808 ≤ x ∧ x ≤ 9223372036854775807) →
      ∃ (h' : Heap) (s' : AVal) (l' : List Int), loop (L4_0 (E tbl)) [.int .i64 a0, s1, s2, s, .int .i64 at_, .int .i64 l2.length, .int .i64 i] h = some (1, [.int .i64 a0, s1, s2, s'], h') ∧ Grow 1 s' h' h0.next l2.length (l'.map (.int .i64)) ∧ h0.next ≤ h'.next ∧ (∀ b, b < h0.next → h'.blk b = h0.blk b) ∧ (∀ x ∈ l', -9223372036854775808 ≤ x ∧ x ≤ 9223372036854775807)
  | 0, i, h, s, l, at_, hi, G, hn, ho, wf => by
    have : i = l2.length := by omega
    subst this
    exact ⟨h, s, l, loop_done (i := 0) (by simp [L4_0]), G, hn, ho, wf⟩
  | m + 1, i, h, s, l, at_, hi, G, hn, ho, wf => by
    have I := I2.mono (h' := h) fun b hb => ho b (b2 b hb)
    obtain ⟨p, e1, e2⟩ := I.at i (by omega)
    generalize l2.getD i 0 = x at e2
    obtain ⟨r, e3, r0, r1⟩ := and_eq x 63 (by omega) (by omega)
    obtain ⟨s', h', e4, G', n', o'⟩ := G.one (bytes := 8) (zero := [.int .i64 0]) (news := [.int .i64 (IntKind.i64.wrap (at_ + r))]) hn rfl (by omega) (by omega)
    have q : (i : Int) < l2.length := by omega
    have w1 : IntKind.i64.wrap ((i : Int) + 1) = ((i + 1 : Nat) : Int) := by rw [IntWalk.i64_in _ (by omega)]; omega
    have hg : Grow 1 s' h' h0.next (i + 1) ((l ++ [IntKind.i64.wrap (at_ + r)]).map (.int .i64)) := by simpa using G'
    obtain ⟨h2, s2', l2', e5, G2, n2, o2, wf2⟩ := plays_loop h0 a0 (s1 := s1) I2 b2 hb m (i + 1) h' s' _ (IntKind.i64.wrap (at_ + r)) (by omega) hg (by omega) (fun b hb => (o' b hb).trans (ho b hb)) (by
      intro x hx
      rcases List.mem_append.1 hx with hx | hx
      · exact wf x hx
      · rw [List.mem_singleton] at hx; rw [hx]; exact wrap64_range _)
    refine ⟨h2, s2', l2', (loop_more ?_).trans e5, G2, n2, o2, wf2⟩
    have f1 : aFill (reps [AVal.int .i64 0] 1) [(0, 1, .int .i64 (IntKind.i64.wrap (at_ + r)))] = some [.int .i64 (IntKind.i64.wrap (at_ + r))] := rfl
    simp [L4_0, q, e1, e2, e3, f1, e4, w1]

theorem plays_eq (h0 : Heap) (a0 : Int) (w0 : -9223372036854775808 ≤ a0 ∧ a0 ≤ 9223372036854775807) {s1 s2 : AVal} {l1 l2 : List Int} (I1 : Ints .i64 s1 h0 l1) (I2 : Ints .i64 s2 h0 l2) (b1 : ∀ b, slBlk s1 = some b → b < h0.next) (b2 : ∀ b, slBlk s2 = some b → b < h0.next)
    (wf : ∀ x ∈ l2, -9223372036854775808 ≤ x ∧ x ≤ 9223372036854775807) (hb : l2.length * 8 ≤ 140737488355328) : ∃ h', E tbl 4 [.int .i64 a0, s1, s2] h0 = some (.bool true, h') := by
  obtain ⟨r, e3, r0, r1⟩ := and_eq a0 255 (by omega) (by omega)
  obtain ⟨h1, s', l', e5, G, n1, o1, wf1⟩ := plays_loop h0 a0 (s1 := s1) I2 b2 hb l2.length 0 h0 .nilSlice [] r (by omega) (Grow.nil 1 h0 h0.next) (Nat.le_refl _) (fun _ _ => rfl) (by simp)
  have J1 := I1.mono (h' := h1) fun b hb => o1 b (b1 b hb)
  obtain ⟨h2, p1, n2, o2⟩ := play_eq h1 r (by omega) J1 G.ints.1 (fun b hb => by have := b1 b hb; omega) (fun b hb => (G.blk_lt b hb).2) wf1
  have J2 := I1.mono (h' := h2) fun b hb => (o2 b (by have := b1 b hb; omega)).trans (o1 b (b1 b hb))
  have J3 := I2.mono (h' := h2) fun b hb => (o2 b (by have := b2 b hb; omega)).trans (o1 b (b2 b hb))
  obtain ⟨h3, p2, n3, o3⟩ := play_eq h2 a0 w0 J2 J3 (fun b hb => by have := b1 b hb; omega) (fun b hb => by have := b2 b hb; omega) wf
  obtain ⟨h4, kn⟩ := known_eq h3
  refine ⟨h4, ?_⟩
  rw [c4]
  have z : ((0 : Nat) : Int) = 0 := rfl
  rw [z] at e5
  simp [S4, e3, I2.len, e5, p1, p2, kn]

theorem guardPlays_law (h0 : Heap) (a0 : Int) (w0 : (Lit.int .i64 a0).wf = true) {s1 s2 : AVal} {l1 l2 : List Int} (I1 : Ints .i64 s1 h0 l1) (b1 : ∀ b, slBlk s1 = some b → b < h0.next) (_ : ∀ x ∈ l1, (Lit.int .i64 x).wf = true) (_ : l1.length * 8 ≤ 140737488355328)
    (I2 : Ints .i64 s2 h0 l2) (b2 : ∀ b, slBlk s2 = some b → b < h0.next) (wf : ∀ x ∈ l2, (Lit.int .i64 x).wf = true) (hb : l2.length * 8 ≤ 140737488355328) : ∃ h', E tbl 4 [.int .i64 a0, s1, s2] h0 = some (.bool true, h') :=
  plays_eq h0 a0 (wf64 w0) I1 I2 b1 b2 (fun x hx => wf64 (wf x hx)) hb

end Go.Proofs.Ytdphaonogpaedaa.Code
