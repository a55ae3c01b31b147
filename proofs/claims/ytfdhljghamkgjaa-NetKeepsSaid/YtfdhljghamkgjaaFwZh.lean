/- Arguments that are structures of plain cells, strings, bools. -/
import Derived.Test.YtfdhljghamkgjaaFwZg
namespace Go.Fw
set_option linter.unusedSimpArgs false
set_option linter.unusedVariables false
open Go.WideShapes

def FlatRel (P : Program) (w : World) (r : Reach) (base : Nat) : List TypeId → List Value → Prop
  | [], [] => True
  | u :: us, x :: xs => Cell.okWide P w r base u x ∧ FlatRel P w r base us xs
  | _, _ => False

section
variable {P : Program} {w : World} {r : Reach} {base : Nat}

theorem FlatRel.cons {u : TypeId} {us : List TypeId} {xs : List Value} (F : FlatRel P w r base (u :: us) xs) : ∃ x ys, xs = x :: ys ∧ Cell.okWide P w r base u x ∧ FlatRel P w r base us ys := by
  cases xs with
  | nil => exact F.elim
  | cons x ys => exact ⟨x, ys, rfl, F.1, F.2⟩
theorem FlatRel.nil {xs : List Value} (F : FlatRel P w r base [] xs) : xs = [] := by
  cases xs with
  | nil => rfl
  | cons x ys => exact F.elim

theorem FlatRel.of : ∀ {ts : List TypeId} {cs : List Value}, cs.length = ts.length → (∀ (i : Nat) (v : Value), cs[i]? = some v → ∃ u, ts[i]? = some u ∧ Cell.okWide P w r base u v) → FlatRel P w r base ts cs
  | [], [], _, _ => trivial
  | [], _ :: _, h, _ => by simp at h
  | _ :: _, [], h, _ => by simp at h
  | t :: ts, c :: cs, hl, h => by
    refine ⟨?_, FlatRel.of (by simpa using hl) fun i v hv => ?_⟩
    · obtain ⟨u, h1, h2⟩ := h 0 c rfl
      simp at h1
      subst h1
      exact h2
    · obtain ⟨u, h1, h2⟩ := h (i + 1) v (by simpa using hv)
      exact ⟨u, by simpa using h1, h2⟩

theorem open_flat {t : TypeId} {fs : Array Field} {ts : List TypeId} {v : Value} (ht : P.underlying t = some (.struct fs)) (hc : P.cellTypes P.depth t = some ts) (hn : P.cellsOf t = ts.length) (hv : Value.okWide P w r base t v) : ∃ cs : List Value, v = .agg ⟨cs⟩ ∧ FlatRel P w r base ts cs := by
  simp only [Value.okWide, ht] at hv
  obtain ⟨cs, rfl, hs, ts', h1, _, h3⟩ := hv
  rw [hc] at h1
  cases h1
  refine ⟨cs.toList, rfl, FlatRel.of (by simpa [hn] using hs) fun i v hv => ?_⟩
  have hv' : cs[i]? = some v := by simpa using hv
  obtain ⟨u, h4, h5⟩ := h3 i v hv'
  have hi : i < ts.length := by
    rw [← hn, ← hs]
    exact (Array.getElem?_eq_some_iff.1 hv').1
  rw [Nat.mod_eq_of_lt hi] at h4
  exact ⟨u, h4, h5⟩

theorem cell_int {u : TypeId} {k : IntKind} {x : Value} (hu : P.underlying u = some (.int k)) (h : Cell.okWide P w r base u x) : ∃ n, x = .int k n ∧ (Lit.int k n).wf = true := by
  unfold Cell.okWide at h
  rw [hu] at h
  simp only [Cell.ok, hu] at h
  cases x <;> simp only at h
  obtain ⟨rfl, h⟩ := h
  exact ⟨_, rfl, by simpa [Lit.wf, IntKind.has] using h⟩

theorem cell_bool {u : TypeId} {x : Value} (hu : P.underlying u = some .bool) (h : Cell.okWide P w r base u x) : ∃ b, x = .bool b := by
  unfold Cell.okWide at h
  rw [hu] at h
  simp only [Cell.ok, hu] at h
  cases x <;> simp only at h
  exact ⟨_, rfl⟩

theorem cell_str {u : TypeId} {x : Value} (hu : P.underlying u = some .string) (h : Cell.okWide P w r base u x) : ∃ l : List UInt8, x = .string ⟨l.toArray⟩ ∧ (l.length : Int) ≤ 9223372036854775807 := by
  unfold Cell.okWide at h
  rw [hu] at h
  simp only [Cell.ok, hu] at h
  cases x <;> simp only at h
  rename_i s
  refine ⟨s.data.toList, rfl, ?_⟩
  have h2 : IntKind.i64.max = 9223372036854775807 := by decide
  rw [h2] at h
  have h3 : s.data.toList.length = s.size := Array.length_toList
  rw [h3]
  exact h

theorem okWide_cell {t : TypeId} {v : Value} (hn : (match P.underlying t with | some (.struct _) | some (.array _ _) => false | _ => true) = true) (hv : Value.okWide P w r base t v) : Cell.okWide P w r base t v := by
  unfold Value.okWide at hv
  split at hv
  · rename_i h; rw [h] at hn; simp at hn
  · rename_i h; rw [h] at hn; simp at hn
  · exact hv
end

@[simp] theorem oneOr_one (v : AVal) : oneOr [v] = v := rfl
theorem vrel_flat {φ : Phi} {as : List AVal} {vs : List Value} (h : VRels φ as vs) (ho : ∀ u ∈ vs, u.oneCell' = true) : VRel φ (.agg as) (.agg ⟨vs⟩) := by
  unfold VRel
  exact ⟨⟨vs⟩, rfl, h, ho⟩

end Go.Fw
