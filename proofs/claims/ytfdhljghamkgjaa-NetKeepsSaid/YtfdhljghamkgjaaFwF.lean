/- What the other operations do that only compute: structs, fields, addresses, slices of slices. -/
import Derived.Test.YtfdhljghamkgjaaFwE
import Derived.Laws.Slices
import Derived.Laws.Strings2
import Derived.Laws.Build
namespace Go.Fw
set_option linter.unusedSimpArgs false
set_option linter.unusedVariables false

section
variable {P : Program} (w : World)

theorem run_sizeOf' {t : TypeId} {n : Nat} (h : (P.info? t).map (·.size) = some n) : (sizeOf t).run P w = .ok n w := by
  cases hi : P.info? t with
  | none => rw [hi] at h; cases h
  | some i =>
    rw [hi] at h
    rw [run_sizeOf w hi]
    simp only [Program.cellsOf, hi]
    simp only [Option.map_some, Option.some.injEq] at h
    simp [h]

theorem cellsOf_of {t : TypeId} {n : Nat} (h : (P.info? t).map (·.size) = some n) : P.cellsOf t = n := by
  simp [Program.cellsOf, h]

/-- Laying values one by one is laying them at once. -/
theorem foldl_set (off : Nat) : ∀ (vs : List Value) (k : Nat) (cs : Array Value), off + k + vs.length ≤ cs.size →
    ((vs.zipIdx k).foldl (fun cs p => cs.setIfInBounds (off + p.2) p.1) cs).toList = cs.toList.take (off + k) ++ vs ++ cs.toList.drop (off + k + vs.length)
  | [], k, cs, _ => by simp
  | v :: vs, k, cs, h => by
    simp only [List.zipIdx_cons, List.foldl_cons, List.length_cons] at *
    have hlt : off + k < cs.size := by omega
    rw [foldl_set off vs (k + 1) _ (by simp; omega)]
    have ht : (cs.setIfInBounds (off + k) v).toList = cs.toList.take (off + k) ++ v :: cs.toList.drop (off + k + 1) := by
      rw [Array.toList_setIfInBounds, List.set_eq_take_append_cons_drop]
      rw [if_pos (by simpa using hlt)]
    rw [ht]
    have hlen : (cs.toList.take (off + k)).length = off + k := by simp; omega
    have e1 : off + (k + 1) = (cs.toList.take (off + k)).length + 1 := by omega
    rw [show off + (k + 1) + vs.length = (cs.toList.take (off + k)).length + (1 + vs.length) by omega, e1]
    rw [List.take_append, List.drop_append]
    simp only [Nat.add_sub_cancel_left, List.take_of_length_le (show (cs.toList.take (off + k)).length ≤ (cs.toList.take (off + k)).length + 1 by omega)]
    rw [List.drop_eq_nil_of_le (show (cs.toList.take (off + k)).length ≤ (cs.toList.take (off + k)).length + (1 + vs.length) by omega)]
    simp only [List.take_succ_cons, List.take_zero, List.append_assoc, List.cons_append, List.nil_append, List.singleton_append]
    rw [show 1 + vs.length = vs.length + 1 by omega, List.drop_succ_cons, List.drop_drop]
    rw [show off + k + 1 + vs.length = off + k + (vs.length + 1) by omega]

theorem aCells_rel {φ : Phi} {x : AVal} {v : Value} {n : Nat} {cs : List AVal} (h : VRel φ x v) (e : aCells n x = some cs) :
    VRels φ cs v.cells.toList ∧ (∀ u ∈ v.cells.toList, u.oneCell' = true) ∧ v.cells.size = n ∧ cs.length = n := by
  unfold aCells at e
  split at e
  · rename_i ds hd
    obtain ⟨h1, h2⟩ := cells_rel h hd
    cases hb : Nat.beq ds.length n with
    | false => rw [hb] at e; cases e
    | true =>
      rw [hb] at e
      cases e
      have hn := Nat.eq_of_beq_eq_true hb
      refine ⟨h1, h2, ?_, hn⟩
      have := VRels.length h1
      simp at this
      omega
  · cases e

theorem splice_rel {φ : Phi} {cs ds : List AVal} {vs us : List Value} (off : Nat) (h : VRels φ cs vs) (k : VRels φ ds us) : VRels φ (splice cs off ds) (vs.take off ++ us ++ vs.drop (off + us.length)) := by
  unfold splice
  rw [VRels.length k]
  exact VRels.append (VRels.append (VRels.take _ h) k) (VRels.drop _ h)

theorem splice_ones {vs us : List Value} (off n : Nat) (h : ∀ u ∈ vs, u.oneCell' = true) (k : ∀ u ∈ us, u.oneCell' = true) : ∀ u ∈ vs.take off ++ us ++ vs.drop n, u.oneCell' = true := by
  intro u hu
  rcases List.mem_append.1 hu with hu | hu
  · rcases List.mem_append.1 hu with hu | hu
    · exact h u (List.mem_of_mem_take hu)
    · exact k u hu
  · exact h u (List.mem_of_mem_drop hu)

theorem fill_rel {φ : Phi} (place : Nat → Option (Nat × Nat)) : ∀ (parts : List (Nat × Value)) (aparts : List (Nat × Nat × AVal)) (cs : List AVal) (cells : Array Value) (out : List AVal),
    aparts.length = parts.length → (∀ (j : Nat) i v off n x, parts[j]? = some (i, v) → aparts[j]? = some (off, n, x) → place i = some (off, n) ∧ VRel φ x v) →
    VRels φ cs cells.toList → (∀ u ∈ cells.toList, u.oneCell' = true) → aFill cs aparts = some out →
    ∃ o, Instr.fill place cells parts = some o ∧ VRels φ out o.toList ∧ ∀ u ∈ o.toList, u.oneCell' = true
  | [], [], cs, cells, out, _, _, hr, ho, he => by
    simp only [aFill, Option.some.injEq] at he
    subst he
    exact ⟨cells, by simp [Instr.fill], hr, ho⟩
  | [], _ :: _, _, _, _, hl, _, _, _, _ => by simp at hl
  | _ :: _, [], _, _, _, hl, _, _, _, _ => by simp at hl
  | (i, v) :: parts, (off, n, x) :: aparts, cs, cells, out, hl, hp, hr, ho, he => by
    obtain ⟨hpl, hx⟩ := hp 0 i v off n x rfl rfl
    simp only [aFill, Option.bind_eq_some_iff] at he
    obtain ⟨vs, hvs, he⟩ := he
    obtain ⟨h1, h2, h3, h4⟩ := aCells_rel hx hvs
    cases hb : Nat.ble (off + n) cs.length with
    | false => rw [hb] at he; cases he
    | true =>
      rw [hb] at he
      have hle := Nat.le_of_ble_eq_true hb
      have hcl := VRels.length hr
      simp only [Array.length_toList] at hcl
      have hfold : (v.cells.zipIdx.foldl (fun cs p => cs.setIfInBounds (off + p.2) p.1) cells).toList = cells.toList.take off ++ v.cells.toList ++ cells.toList.drop (off + v.cells.toList.length) := by
        rw [← Array.foldl_toList, Array.toList_zipIdx]
        have := foldl_set off v.cells.toList 0 cells (by simp; omega)
        simpa using this
      obtain ⟨o, hf, hro, hoo⟩ := fill_rel place parts aparts (splice cs off vs) (v.cells.zipIdx.foldl (fun cs p => cs.setIfInBounds (off + p.2) p.1) cells) out (by simpa using hl)
        (fun j i v off n x h1 h2 => hp (j + 1) i v off n x (by simpa using h1) (by simpa using h2)) (by rw [hfold]; exact splice_rel off hr h1) (by rw [hfold]; exact splice_ones off _ ho h2) he
      refine ⟨o, ?_, hro, hoo⟩
      unfold Instr.fill
      simp only [hpl]
      rw [if_neg]
      · exact hf
      · simp only [ne_eq, bne_iff_ne, Bool.or_eq_true, decide_eq_true_eq, not_or]
        omega

theorem mapM_places : ∀ (fs : List Field), (∀ f ∈ fs, ((P.info? f.type).map (·.size)).isSome = true) →
    (fs.mapM (fun f => (do pure (f.offset, ← sizeOf f.type) : Sem (Nat × Nat)))).run P w = .ok (fs.map fun f => (f.offset, P.cellsOf f.type)) w
  | [], _ => by simp
  | f :: fs, h => by
    have h0 := h f (by simp)
    cases hi : P.info? f.type with
    | none => rw [hi] at h0; cases h0
    | some i =>
      simp only [List.mapM_cons, Sem.run_bind, run_sizeOf w hi, Result.andThen_ok, Sem.run_pure, List.map_cons]
      rw [mapM_places fs fun g hg => h g (by simp [hg])]
      rfl

end
end Go.Fw
