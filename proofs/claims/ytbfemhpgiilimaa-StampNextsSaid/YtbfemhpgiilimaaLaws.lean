/- Chapter 4: the laws. -/
import Derived.Test.YtbfemhpgiilimaaLaw
namespace Go.Proofs.Ytbfemhpgiilimaa.Code
set_option linter.unusedSimpArgs false
set_option linter.unusedVariables false
open Go.Fw

theorem less_no (a b : St) : a.less b = false ↔ ¬ (a.t < b.t ∨ (a.t = b.t ∧ (a.n < b.n ∨ (a.n = b.n ∧ a.k < b.k)))) := by
  rw [← less_iff, Bool.not_eq_true]

theorem St.ext' {a b : St} (h1 : a.t = b.t) (h2 : a.k = b.k) (h3 : a.n = b.n) : a = b := by
  cases a; cases b; simp_all

theorem three (a b : St) : (a.less b = true ∧ b.less a = false ∧ ¬ a = b) ∨ (a.less b = false ∧ b.less a = false ∧ a = b) ∨ (a.less b = false ∧ b.less a = true ∧ ¬ a = b) := by
  rw [less_iff, less_no, less_no, less_iff]
  by_cases h : a = b
  · subst h
    exact .inr (.inl ⟨by omega, by omega, rfl⟩)
  · have : ¬ (a.t = b.t ∧ a.k = b.k ∧ a.n = b.n) := fun ⟨h1, h2, h3⟩ => h (St.ext' h1 h2 h3)
    by_cases h1 : a.t < b.t ∨ (a.t = b.t ∧ (a.n < b.n ∨ (a.n = b.n ∧ a.k < b.k)))
    · exact .inl ⟨h1, by omega, h⟩
    · exact .inr (.inr ⟨h1, by omega, h⟩)

theorem max_spec (a b : St) : a.max b = if a.less b then b else a := by
  unfold St.max
  rcases three a b with ⟨h1, h2, h3⟩ | ⟨h1, h2, h3⟩ | ⟨h1, h2, h3⟩ <;> simp [h1, h2, h3]

theorem less_trans {a b c : St} (h1 : a.less b = true) (h2 : b.less c = true) : a.less c = true := by
  rw [less_iff] at *; omega

theorem max_comm (a b : St) : a.max b = b.max a := by
  rw [max_spec, max_spec]
  rcases three a b with ⟨h1, h2, h3⟩ | ⟨h1, h2, h3⟩ | ⟨h1, h2, h3⟩ <;> simp [h1, h2, h3]

theorem max_assoc (a b c : St) : a.max (b.max c) = (a.max b).max c := by
  simp only [max_spec]
  cases hbc : b.less c <;> cases hab : a.less b <;> simp [hbc, hab]
  · intro hac
    rw [less_no] at *; rw [less_iff] at *
    exfalso; omega
  · have := less_trans hab hbc
    simp [this]

theorem next_less (a : St) (h : a.n < 9223372036854775807) (now node : Int) : a.less (a.next now node) = true ∧ (a.next now node).less a = false := by
  rw [less_iff, less_no]
  unfold St.next
  simp only [h, if_true]
  omega

theorem lh_next (a b : St) (h : Heap) : (lh a b h).next = h.next + 1 := rfl
theorem lh_old (a b : St) (h : Heap) {i : Nat} (hi : i < h.next) : (lh a b h).blk i = h.blk i := alloc_old _ _ (by omega)

/-- Grown: the heap went on; what was there stays. -/
structure Went (h h' : Heap) : Prop where
  next : h.next ≤ h'.next
  old : ∀ i, i < h.next → h'.blk i = h.blk i
theorem Went.refl (h : Heap) : Went h h := ⟨Nat.le_refl _, fun _ _ => rfl⟩
theorem Went.trans {a b c : Heap} (h : Went a b) (k : Went b c) : Went a c := ⟨Nat.le_trans h.next k.next, fun i hi => (k.old i (Nat.lt_of_lt_of_le hi h.next)).trans (h.old i hi)⟩
theorem went_lh (a b : St) (h : Heap) : Went h (lh a b h) := ⟨by rw [lh_next]; omega, fun _ hi => lh_old a b h hi⟩

theorem same_eq (a b : St) (ha : -9223372036854775808 ≤ a.n) (now node : Int) (h : Heap) :
    ∃ h', E tbl 8 [.agg [.int .i64 a.t, .int .i64 a.k, .int .i64 a.n], .agg [.int .i64 b.t, .int .i64 b.k, .int .i64 b.n], .int .i64 now, .int .i64 node] h = some (.bool true, h') ∧ Went h h' := by
  refine ⟨lh b a (lh a b h), ?_, (went_lh a b h).trans (went_lh b a _)⟩
  have hm := max_spec a b
  rw [c8]
  cases hl : a.less b with
  | true =>
    rw [hl] at hm
    simp only [if_true] at hm
    simp [S8, rd3, ble3, sp3, rless_eq, hl, less_eq, max_eq, hm, St.av, St.cells, eq_cells, next_eq a ha, rnext_eq a ha, right_eq, rright_eq, checkPairs]
  | false =>
    rw [hl] at hm
    simp only [Bool.false_eq_true, if_false] at hm
    simp [S8, rd3, ble3, sp3, rless_eq, hl, less_eq, max_eq, hm, St.av, St.cells, eq_cells, next_eq a ha, rnext_eq a ha, right_eq, rright_eq, checkPairs]

theorem known_eq (h : Heap) : ∃ h', E tbl 9 [] h = some (.bool true, h') := by
  have f1 : aFill [.int .i64 0, .int .i64 0, .int .i64 0] [(0, 1, .int .i64 5), (2, 1, .int .i64 3)] = some [AVal.int .i64 5, .int .i64 0, .int .i64 3] := rfl
  have f2 : aFill [.int .i64 0, .int .i64 0, .int .i64 0] [(1, 1, .int .i64 6)] = some [AVal.int .i64 0, .int .i64 6, .int .i64 0] := rfl
  have e1 : ∀ h, E tbl 10 [.agg [.int .i64 5, .int .i64 0, .int .i64 3], .int .i64 2, .int .i64 4] h = some (.agg [.int .i64 5, .int .i64 4, .int .i64 4], h) := fun h => next_eq ⟨5, 0, 3⟩ (by decide) 2 4 h
  have e2 : ∀ h, E tbl 11 [.agg [.int .i64 5, .int .i64 0, .int .i64 3], .agg [.int .i64 5, .int .i64 0, .int .i64 3]] h = some (.bool false, lh ⟨5, 0, 3⟩ ⟨5, 0, 3⟩ h) := fun h => less_eq ⟨5, 0, 3⟩ ⟨5, 0, 3⟩ h
  have e3 : ∀ h, E tbl 12 [.agg [.int .i64 5, .int .i64 0, .int .i64 3], .agg [.int .i64 5, .int .i64 4, .int .i64 4]] h = some (.agg [.int .i64 5, .int .i64 4, .int .i64 4], lh ⟨5, 4, 4⟩ ⟨5, 0, 3⟩ h) := fun h => max_eq ⟨5, 0, 3⟩ ⟨5, 4, 4⟩ h
  have e4 : ∀ h, E tbl 13 [.agg [.int .i64 5, .int .i64 0, .int .i64 3]] h = some (.bool true, h) := fun h => right_eq ⟨5, 0, 3⟩ h
  have e5 : ∀ h, E tbl 13 [.agg [.int .i64 0, .int .i64 6, .int .i64 0]] h = some (.bool false, h) := fun h => right_eq ⟨0, 6, 0⟩ h
  refine ⟨lh ⟨5, 4, 4⟩ ⟨5, 0, 3⟩ (lh ⟨5, 0, 3⟩ ⟨5, 0, 3⟩ h), ?_⟩
  rw [c9]
  simp [S9, f1, f2, rd3, ble3, sp3, e1, e2, e3, e4, e5, eq_cells, checkPairs]

theorem stampTells_law (h0 : Heap) (at_ : Int) (_ : (Lit.int .i64 at_).wf = true) (ak : Int) (_ : (Lit.int .i64 ak).wf = true) (an : Int) (wan : (Lit.int .i64 an).wf = true)
    (bt : Int) (_ : (Lit.int .i64 bt).wf = true) (bk : Int) (_ : (Lit.int .i64 bk).wf = true) (bn : Int) (_ : (Lit.int .i64 bn).wf = true) (now : Int) (_ : (Lit.int .i64 now).wf = true) (node : Int) (_ : (Lit.int .i64 node).wf = true) :
    ∃ h', E tbl 4 [.agg [.int .i64 at_, .int .i64 ak, .int .i64 an], .agg [.int .i64 bt, .int .i64 bk, .int .i64 bn], .int .i64 now, .int .i64 node] h0 = some (.bool true, h') := by
  obtain ⟨x1, f1, _, _⟩ := and_eq at_ 3 (by omega) (by omega)
  obtain ⟨x2, f2, g2, _⟩ := and_eq bn 3 (by omega) (by omega)
  obtain ⟨x3, f3, _, _⟩ := and_eq ak 1 (by omega) (by omega)
  obtain ⟨x4, f4, _, _⟩ := and_eq bt 3 (by omega) (by omega)
  obtain ⟨x5, f5, _, _⟩ := and_eq an 3 (by omega) (by omega)
  obtain ⟨x6, f6, _, _⟩ := and_eq bk 1 (by omega) (by omega)
  obtain ⟨x7, f7, _, _⟩ := and_eq now 7 (by omega) (by omega)
  obtain ⟨x8, f8, _, _⟩ := and_eq node 7 (by omega) (by omega)
  obtain ⟨h1, e1, _⟩ := same_eq ⟨at_, ak, an⟩ ⟨bt, bk, bn⟩ (wf64 wan).1 now node h0
  obtain ⟨h2, e2, _⟩ := same_eq ⟨x1, x3, x2⟩ ⟨x4, x6, x5⟩ (by simp only; omega) x7 x8 h1
  obtain ⟨h3, kn⟩ := known_eq h2
  refine ⟨h3, ?_⟩
  have l1 : ∀ x y z : Int, aFill [.int .i64 0, .int .i64 0, .int .i64 0] [(0, 1, .int .i64 x), (2, 1, .int .i64 y), (1, 1, .int .i64 z)] = some [AVal.int .i64 x, .int .i64 z, .int .i64 y] := fun _ _ _ => rfl
  rw [c4]
  simp only at e1 e2
  simp [S4, rd3, ble3, sp3, f1, f2, f3, f4, f5, f6, f7, f8, l1, e1, e2, kn, checkPairs]

end Go.Proofs.Ytbfemhpgiilimaa.Code
