/- Chapter 4: StampNexts. -/
import Derived.Test.YtbfemhpgiilimaaLaws
import Derived.Test.YtbfemhpgiilimaaFwZp
namespace Go.Proofs.Ytbfemhpgiilimaa.Code
set_option linter.unusedSimpArgs false
set_option linter.unusedVariables false
open Go.Fw

theorem nexts_loop {s : AVal} {l : List Int} {h : Heap} (I : Ints .i64 s h l) (lt : ∀ b, slBlk s = some b → b < h.next) (sz : l.length < 4611686018427387904) (k : Int) (hk : 0 ≤ k ∧ k < 6) :
    ∃ H, loop (L6_0 (E tbl)) [s, .int .i64 k, .int .i64 0, .agg [.int .i64 0, .int .i64 k, .int .i64 0]] h = some (1, [], H) := by
  have key : ∃ res, loop (L6_0 (E tbl)) [s, .int .i64 k, .int .i64 0, .agg [.int .i64 0, .int .i64 k, .int .i64 0]] h = some res ∧ ∃ H, res = (1, [], H) := by
    refine loop_ok (fun q xs G => ∃ (i : Nat) (t : Int), q + i = 30 ∧ 0 ≤ t ∧ Keeps h G ∧ xs = [s, .int .i64 k, .int .i64 i, .agg [.int .i64 t, .int .i64 k, .int .i64 i]]) _ ?_ 30 _ _ ⟨0, 0, rfl, by omega, Keeps.refl h, rfl⟩
    rintro q xs G ⟨i, t, hi, ht, W, rfl⟩
    have J := I.keeps lt W
    by_cases h1 : i < l.length
    · have i1 : ((i : Int) < (l.length : Int)) := by omega
      by_cases h2 : i < 30
      · left
        have i2 : ((i : Int) < 30) := by omega
        have J1 : Ints .i64 s (G.res 1) l := J
        obtain ⟨p, q1, q2⟩ := J1.at i h1
        obtain ⟨p', q1', _⟩ := J.at i h1
        generalize hx : l.getD i 0 = x at q2
        have en := next_eq ⟨t, k, i⟩ (by simp only; omega) x k (G.res 1)
        have hB : (⟨t, k, (i : Int)⟩ : St).next x k = ⟨max t x, k, (i : Int) + 1⟩ := by
          unfold St.next
          have : (i : Int) < 9223372036854775807 := by omega
          simp [this]
        rw [hB] at en
        generalize hm : max t x = m at en hB
        have hl : (⟨t, k, (i : Int)⟩ : St).less ⟨m, k, (i : Int) + 1⟩ = true := by
          rw [less_iff]; simp only; omega
        have hl' : (⟨m, k, (i : Int) + 1⟩ : St).less ⟨t, k, (i : Int)⟩ = false := by
          rw [less_no]; simp only; omega
        have hmax : (⟨t, k, (i : Int)⟩ : St).max ⟨m, k, (i : Int) + 1⟩ = ⟨m, k, (i : Int) + 1⟩ := by
          rw [max_spec, if_pos hl]
        have hr : (⟨m, k, (i : Int) + 1⟩ : St).right = true := by
          unfold St.right
          have a1 : 0 ≤ m := by omega
          have a2 : 0 ≤ (i : Int) + 1 := by omega
          simp only [a1, a2, hk.1, hk.2, decide_true, Bool.and_self]
        obtain ⟨G2, d2⟩ : ∃ G2, G2 = (G.res 1).setBlk G.next (some ⟨[.int .i64 m, .int .i64 k, .int .i64 ((i : Int) + 1)], true⟩) := ⟨_, rfl⟩
        have n2 : G2.next = G.next + 1 := by rw [d2]; rfl
        have b2 : G2.blk G.next = some ⟨[.int .i64 m, .int .i64 k, .int .i64 ((i : Int) + 1)], true⟩ := by rw [d2, setBlk_same]
        have K2 : Keeps G G2 := by
          rw [d2]; exact (Keeps.res G 1).set (Nat.le_refl _) _
        have e3 := less_eq ⟨t, k, i⟩ ⟨m, k, (i : Int) + 1⟩ G2
        obtain ⟨G3, d3⟩ : ∃ G3, G3 = lh ⟨t, k, i⟩ ⟨m, k, (i : Int) + 1⟩ G2 := ⟨_, rfl⟩
        rw [← d3, hl] at e3
        have b3 : G3.blk G.next = some ⟨[.int .i64 m, .int .i64 k, .int .i64 ((i : Int) + 1)], true⟩ := by
          rw [d3, lh_old _ _ _ (by omega), b2]
        have K3 : Keeps G G3 := by rw [d3]; exact K2.trans (Keeps.alloc _ _)
        have e4 := max_eq ⟨t, k, i⟩ ⟨m, k, (i : Int) + 1⟩ G3
        obtain ⟨G4, d4⟩ : ∃ G4, G4 = lh ⟨m, k, (i : Int) + 1⟩ ⟨t, k, i⟩ G3 := ⟨_, rfl⟩
        rw [← d4, hmax] at e4
        have n3 : G3.next = G.next + 2 := by rw [d3, lh_next, n2]
        have b4 : G4.blk G.next = some ⟨[.int .i64 m, .int .i64 k, .int .i64 ((i : Int) + 1)], true⟩ := by
          rw [d4, lh_old _ _ _ (by omega), b3]
        have K4 : Keeps G G4 := by rw [d4]; exact K3.trans (Keeps.alloc _ _)
        have e5 := right_eq ⟨m, k, (i : Int) + 1⟩ G4
        rw [hr] at e5
        have J4 : Ints .i64 s G4 l := J.keeps (fun b hb => by have := lt b hb; have := W.next; omega) K4
        obtain ⟨p4, q3, q4⟩ := J4.at i h1
        rw [q1] at q3
        cases q3
        rw [hx] at q4
        simp only [St.av, St.cells] at en e3 e4 e5
        have w1 : IntKind.i64.wrap ((i : Int) + 1) = (i : Int) + 1 := IntWalk.i64_in _ (by omega)
        have r3 : ∀ o n, G3.rd G.next o n = rdL [.int .i64 m, .int .i64 k, .int .i64 ((i : Int) + 1)] o n := fun o n => by rw [rd_bind, b3]; rfl
        have r4 : ∀ o n, G4.rd G.next o n = rdL [.int .i64 m, .int .i64 k, .int .i64 ((i : Int) + 1)] o n := fun o n => by rw [rd_bind, b4]; rfl
        have r2 : ∀ o n, G2.rd G.next o n = rdL [.int .i64 m, .int .i64 k, .int .i64 ((i : Int) + 1)] o n := fun o n => by rw [rd_bind, b2]; rfl
        have st : ((G.res 1).setBlk G.next (some ⟨[.int .i64 0, .int .i64 0, .int .i64 0], true⟩)).wr G.next 0 [.int .i64 m, .int .i64 k, .int .i64 ((i : Int) + 1)] = some G2 := by
          rw [wr_of (setBlk_same _ _ _) _ _ (by simp), d2, setBlk_twice]; rfl
        have c1 : ¬ m < x := by omega
        have c2 : ¬ m < t := by omega
        refine ⟨_, G4, ?_, q - 1, by omega, i + 1, m, by omega, by omega, W.trans K4, rfl⟩
        simp [L6_0, J.len, i1, i2, q1, q2, en, st, r2, e3, r3, e4, r4, e5, q4, w1, c1, c2, checkPairs]
      · right
        have i2 : ¬ ((i : Int) < 30) := by omega
        exact ⟨0, _, G, by simp [L6_0, J.len, i1, i2], G, rfl⟩
    · right
      have i1 : ¬ ((i : Int) < (l.length : Int)) := by omega
      exact ⟨0, _, G, by simp [L6_0, J.len, i1], G, rfl⟩
  obtain ⟨_, e, H, rfl⟩ := key
  exact ⟨H, e⟩

theorem stampNexts_law (h0 : Heap) {s : AVal} {l : List Int} (I : Ints .i64 s h0 l) (lt : ∀ b, slBlk s = some b → b < h0.next) (_ : ∀ x ∈ l, (Lit.int .i64 x).wf = true) (sz : l.length * 8 ≤ 140737488355328)
    (node : Int) (_ : (Lit.int .i64 node).wf = true) : ∃ h', E tbl 6 [s, .int .i64 node] h0 = some (.bool true, h') := by
  by_cases h1 : 0 < node
  · have hk : 0 ≤ node.tmod 6 ∧ node.tmod 6 < 6 := ⟨Int.tmod_nonneg 6 (by omega), Int.tmod_lt_of_pos node (by omega)⟩
    obtain ⟨H, e⟩ := nexts_loop I lt (by omega) (node.tmod 6) hk
    obtain ⟨H2, e2⟩ := known_eq H
    refine ⟨H2, ?_⟩
    rw [c6]
    simp [S6, h1, bin_rem, e, e2, beq_dec]
  · obtain ⟨H, e⟩ := nexts_loop I lt (by omega) 0 (by omega)
    obtain ⟨H2, e2⟩ := known_eq H
    refine ⟨H2, ?_⟩
    rw [c6]
    simp [S6, h1, e, e2, beq_dec]
end Go.Proofs.Ytbfemhpgiilimaa.Code
