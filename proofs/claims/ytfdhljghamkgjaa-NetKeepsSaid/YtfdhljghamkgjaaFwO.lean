/- One operation, in a frame. -/
import Derived.Test.YtfdhljghamkgjaaFwN
namespace Go.Fw
set_option linter.unusedSimpArgs false
set_option linter.unusedVariables false

section
variable {P : Program}

theorem look_cons (d t : Nat) (v : AVal) (l : List (Nat × AVal)) : look ((d, v) :: l) t = if t = d then v else look l t := by
  rw [show look ((d, v) :: l) t = bif Nat.beq d t then v else look l t from rfl]
  cases hb : Nat.beq d t with
  | true => have := Nat.eq_of_beq_eq_true hb; subst this; simp
  | false => have := Nat.ne_of_beq_eq_false hb; rw [if_neg (Ne.symm this)]; rfl
theorem lookA_cons (d t : Nat) (v : Nat × Nat) (l : List (Nat × Nat × Nat)) : lookA ((d, v) :: l) t = if t = d then some v else lookA l t := by
  rw [show lookA ((d, v) :: l) t = bif Nat.beq d t then some v else lookA l t from rfl]
  cases hb : Nat.beq d t with
  | true => have := Nat.eq_of_beq_eq_true hb; subst this; simp
  | false => have := Nat.ne_of_beq_eq_false hb; rw [if_neg (Ne.symm this)]; rfl
theorem lookA_drop (d t : Nat) : ∀ l : List (Nat × Nat × Nat), lookA (dropA l d) t = if t = d then none else lookA l t
  | [] => by simp [dropA, lookA]
  | (u, v) :: r => by
    rw [show dropA ((u, v) :: r) d = bif Nat.beq u d then dropA r d else (u, v) :: dropA r d from rfl]
    cases hb : Nat.beq u d with
    | true =>
      simp only [cond_true]
      rw [lookA_drop d t r, lookA_cons]
      have := Nat.eq_of_beq_eq_true hb
      subst this
      by_cases h : t = u
      · simp [h]
      · simp [h]
    | false =>
      have hne := Nat.ne_of_beq_eq_false hb
      simp only [cond_false]
      rw [lookA_cons, lookA_cons, lookA_drop d t r]
      by_cases h : t = u
      · subst h; simp [hne]
      · simp [h]

theorem lookB_cons (d t : Nat) (v : List AVal) (l : List (Nat × List AVal)) : lookB ((d, v) :: l) t = if t = d then some v else lookB l t := by
  rw [show lookB ((d, v) :: l) t = bif Nat.beq d t then some v else lookB l t from rfl]
  cases hb : Nat.beq d t with
  | true => have := Nat.eq_of_beq_eq_true hb; subst this; simp
  | false => have := Nat.ne_of_beq_eq_false hb; rw [if_neg (Ne.symm this)]; rfl
theorem lookB_set (d t : Nat) (c : List AVal) : ∀ (l : List (Nat × List AVal)), lookB (setB l d c) t = if t = d then (lookB l d).map (fun _ => c) else lookB l t
  | [] => by simp [setB, lookB]
  | (u, v) :: r => by
    unfold setB
    cases hb : Nat.beq u d with
    | true =>
      have := Nat.eq_of_beq_eq_true hb
      subst this
      simp only [cond_true, lookB_cons]
      split
      · subst_vars; simp
      · rename_i hne; rfl
    | false =>
      have hne := Nat.ne_of_beq_eq_false hb
      simp only [cond_false, lookB_cons, lookB_set d t c r]
      by_cases h1 : t = u
      · subst h1
        rw [if_pos rfl, if_neg hne, if_pos rfl]
      · rw [if_neg h1, if_neg h1, if_neg (Ne.symm hne)]

theorem put_get (a : Act) (d t : Nat) (u : Value) (hd : d < a.tmps.size) : (a.put (some d) u).tmps.getD t undef = if t = d then u else a.tmps.getD t undef := by
  simp only [Act.put, Array.getD_eq_getD_getElem?, Array.getElem?_setIfInBounds]
  by_cases h : d = t
  · subst h; simp [hd]
  · simp [h, Ne.symm h]

variable {B n : Nat} {φ : Phi} {L : Nat → Nat} {s : Env} {h : Heap} {a : Act} {w : World}

theorem CRel.set (c : CRel B n φ L s h a w) {d : Nat} (hd : d < n) {v : AVal} {u : Value} (hv : VRel φ v u) : CRel B n φ L (s.set d v) h (a.put (some d) u) w where
  heap := c.heap
  size := by simp [Act.put, c.size]
  defers := c.defers
  vals := fun t ht => by
    simp only [Env.set, lookA_drop, look_cons] at ht ⊢
    rw [put_get a d t u (by rw [c.size]; exact hd)]
    split
    · exact hv
    · rename_i hne; rw [if_neg hne] at ht; exact c.vals t ht
  lads := fun t l off ht => by
    simp only [Env.set, lookA_drop] at ht ⊢
    split at ht
    · cases ht
    · rename_i hne
      rw [put_get a d t u (by rw [c.size]; exact hd), if_neg hne]
      exact c.lads t l off ht
  locs := c.locs
  inj := c.inj

theorem CRel.setL (c : CRel B n φ L s h a w) {d : Nat} (hd : d < n) {l off : Nat} {cs : List AVal} (hl : lookB s.locs l = some cs) : CRel B n φ L (s.setL d l off) h (a.put (some d) (.pointer (some ⟨L l, off, none⟩))) w where
  heap := c.heap
  size := by simp [Act.put, c.size]
  defers := c.defers
  vals := fun t ht => by
    simp only [Env.setL, lookA_cons] at ht ⊢
    split at ht
    · cases ht
    · rename_i hne
      rw [put_get a d t _ (by rw [c.size]; exact hd), if_neg hne]
      exact c.vals t ht
  lads := fun t l' off' ht => by
    simp only [Env.setL, lookA_cons] at ht ⊢
    rw [put_get a d t _ (by rw [c.size]; exact hd)]
    split at ht
    · rename_i he
      simp only [Option.some.injEq, Prod.mk.injEq] at ht
      obtain ⟨rfl, rfl⟩ := ht
      rw [if_pos he]
      exact ⟨⟨cs, hl⟩, rfl⟩
    · rename_i hne
      rw [if_neg hne]
      exact c.lads t l' off' ht
  locs := c.locs
  inj := c.inj

theorem CRel.step (c : CRel B n φ L s h a w) {φ' : Phi} {h' : Heap} {w' : World} (S : Step φ h w φ' h' w') (H : HRel φ' h' w') : CRel B n φ' L s h' a w' where
  heap := H
  size := c.size
  defers := c.defers
  vals := fun t ht => VRel.ext S.ext _ (c.vals t ht)
  lads := c.lads
  locs := fun l cs hl => by
    obtain ⟨h1, h2, h3, cc, e, h4, h5, h6⟩ := c.locs l cs hl
    refine ⟨h1, Nat.lt_of_lt_of_le h2 S.size, ?_, cc, e, ?_, VRels.ext S.ext _ h5, h6⟩
    · intro b loc hb
      cases hb0 : φ b with
      | some loc0 =>
        have := S.ext b loc0 hb0
        rw [hb] at this
        cases this
        exact h3 b loc hb0
      | none =>
        rcases (S.new b loc hb0 hb).2 with hh | ⟨b0, x0, L0, _, _, p0, e0⟩
        · omega
        · rw [← e0]; exact h3 b0 L0 p0
    · rw [S.frame (L l) h2 fun b x loc _ _ p => h3 b loc p]
      exact h4
  inj := c.inj

/-- A new local block. -/
theorem CRel.newLoc (c : CRel B n φ L s h a w) (hB : B ≤ w.heap.size) {d : Nat} (hd : d < n) (hf : s.fresh d = true) {cs : List AVal} {vs : Array Value} (hr : VRels φ cs vs.toList) (ho : ∀ u ∈ vs.toList, u.oneCell' = true) (t : TypeId) :
    CRel B n φ (fun i => if i = d then w.heap.size else L i) (s.newLoc d cs) h (a.put (some d) (.pointer (some ⟨w.heap.size, 0, none⟩))) (w.alloc (.cells vs t)) ∧ Step φ h w φ h (w.alloc (.cells vs t)) := by
  have hfresh : lookB s.locs d = none := by
    unfold Env.fresh at hf
    split at hf
    · cases hf
    · assumption
  have hold : ∀ k, k < w.heap.size → (w.alloc (.cells vs t)).heap[k]? = w.heap[k]? := fun k hk => Go.RowKit.Below.heap_alloc w _ k hk
  have S : Step φ h w φ h (w.alloc (.cells vs t)) := ⟨Ext.refl _, Nat.le_refl _, fun b x _ hx => ⟨x, hx, rfl⟩, fun _ _ h1 h2 => (by rw [h1] at h2; cases h2), by simp, fun _ _ _ => rfl, fun k hk _ => hold k hk, rfl, rfl, rfl⟩
  have H : HRel φ h (w.alloc (.cells vs t)) := ⟨fun b l hb => ⟨(c.heap.dom b l hb).1, by have := (c.heap.dom b l hb).2; simp; omega⟩, c.heap.live, fun b x l hx hb => by
      obtain ⟨c1, t1, fz1, hg1, r⟩ := c.heap.blk b x l hx hb
      exact ⟨c1, t1, fz1, by rw [hold _ (c.heap.dom b l hb).2]; exact hg1, r⟩, c.heap.apart⟩
  refine ⟨⟨H, by simp [Act.put, c.size], c.defers, ?_, ?_, ?_, ?_⟩, S⟩
  · intro q hq
    simp only [Env.newLoc, lookA_cons] at hq ⊢
    split at hq
    · cases hq
    · rename_i hne
      rw [put_get a d q _ (by rw [c.size]; exact hd), if_neg hne]
      exact c.vals q hq
  · intro q l off hq
    simp only [Env.newLoc, lookA_cons, lookB_cons] at hq ⊢
    rw [put_get a d q _ (by rw [c.size]; exact hd)]
    split at hq
    · rename_i he
      simp only [Option.some.injEq, Prod.mk.injEq] at hq
      obtain ⟨rfl, rfl⟩ := hq
      rw [if_pos he]
      exact ⟨⟨cs, by simp⟩, by simp⟩
    · rename_i hne
      rw [if_neg hne]
      obtain ⟨⟨cs', hcs'⟩, hv⟩ := c.lads q l off hq
      have hld : l ≠ d := fun e => by subst e; rw [hfresh] at hcs'; cases hcs'
      simp only [if_neg hld]
      exact ⟨⟨cs', hcs'⟩, hv⟩
  · intro l cs' hl
    simp only [Env.newLoc, lookB_cons] at hl
    split at hl
    · rename_i he
      subst he
      cases hl
      simp only [if_true]
      refine ⟨hB, by simp, fun b loc hb => ?_, vs, t, heap_alloc_new w _, hr, ho⟩
      have := (c.heap.dom b loc hb).2
      omega
    · rename_i hne
      simp only [if_neg hne]
      obtain ⟨h1, h2, h3, cc, e, h4, h5, h6⟩ := c.locs l cs' hl
      exact ⟨h1, by simp; omega, h3, cc, e, by rw [hold _ h2]; exact h4, h5, h6⟩
  · intro l l' c1 c2 e1 e2 e3
    simp only [Env.newLoc, lookB_cons] at e1 e2
    split at e1
    · split at e2
      · subst_vars; rfl
      · rename_i he hne
        simp only [if_pos he, if_neg hne] at e3
        have := (c.locs l' c2 e2).2.1
        omega
    · rename_i hne
      split at e2
      · rename_i he
        simp only [if_pos he, if_neg hne] at e3
        have := (c.locs l c1 e1).2.1
        omega
      · rename_i hne'
        simp only [if_neg hne, if_neg hne'] at e3
        exact c.inj l l' c1 c2 e1 e2 e3

/-- A store into a local block. -/
theorem CRel.locWr (c : CRel B n φ L s h a w) {l off : Nat} {old cs : List AVal} (hl : lookB s.locs l = some old) {us : List Value} (hr : VRels φ cs us) (ho : ∀ u ∈ us, u.oneCell' = true) (hle : off + cs.length ≤ old.length) :
    ∃ w', (storeCells ⟨L l, off, none⟩ us).run P w = .ok () w' ∧ CRel B n φ L { s with locs := setB s.locs l (splice old off cs) } h a w' ∧ (∀ k, k ≠ L l → w'.heap[k]? = w.heap[k]?) ∧ ∀ (W : World), W.heap.size = B → (∀ k, k < B → w'.heap[k]? = w.heap[k]?) ∧ w.heap.size ≤ w'.heap.size ∧ w'.os = w.os ∧ w'.tape = w.tape ∧ w'.output = w.output := by
  obtain ⟨h1, h2, h3, cc, e, h4, h5, h6⟩ := c.locs l old hl
  have hlen := VRels.length hr
  have hl5 := VRels.length h5
  simp only [Array.length_toList] at hl5
  have hrun := run_storeCells_free (P := P) (L l) off e (0, 0) us 0 cc w h4 (by intro j _ hh; simp at hh) (by omega) ho
  generalize hnew : (cc.toList.take (off + 0) ++ us ++ cc.toList.drop (off + 0 + us.length)).toArray = cc' at hrun
  have hother : ∀ k, k ≠ L l → (w.setRow (L l) cc').heap[k]? = w.heap[k]? := fun k hk => setRow_other w (L l) k cc' hk
  have hsize : (w.setRow (L l) cc').heap.size = w.heap.size := by simp
  refine ⟨w.setRow (L l) cc', hrun, ⟨⟨fun b loc hb => by rw [hsize]; exact c.heap.dom b loc hb, c.heap.live, fun b x loc hx hb => ?_, c.heap.apart⟩, c.size, c.defers, c.vals, ?_, ?_, ?_⟩, hother, ?_⟩
  · obtain ⟨c1, t1, fz1, hg1, r⟩ := c.heap.blk b x loc hx hb
    exact ⟨c1, t1, fz1, by rw [hother _ (h3 b loc hb)]; exact hg1, r⟩
  · intro q l' off' hq
    obtain ⟨⟨cs', hcs'⟩, hv⟩ := c.lads q l' off' hq
    refine ⟨?_, hv⟩
    simp only [lookB_set]
    split
    · exact ⟨_, by rw [hl]; rfl⟩
    · exact ⟨cs', hcs'⟩
  · intro l' cs' hl'
    simp only [lookB_set] at hl'
    split at hl'
    · rename_i he
      subst he
      rw [hl] at hl'
      simp only [Option.map_some, Option.some.injEq] at hl'
      subst hl'
      refine ⟨h1, by rw [hsize]; exact h2, h3, cc', e, setRow_heap w _ cc cc' e (0, 0) h4, ?_, ?_⟩
      · rw [← hnew]
        simp only [Nat.add_zero]
        exact splice_rel off h5 hr
      · rw [← hnew]
        simp only [Nat.add_zero]
        exact splice_ones off _ h6 ho
    · rename_i hne
      obtain ⟨g1, g2, g3, c2, e2, g4, g5, g6⟩ := c.locs l' cs' hl'
      have hne' : L l' ≠ L l := fun hh => hne (c.inj l' l cs' old hl' hl hh)
      exact ⟨g1, by rw [hsize]; exact g2, g3, c2, e2, by rw [hother _ hne']; exact g4, g5, g6⟩
  · intro l1 l2 c1 c2 e1 e2 e3
    simp only [lookB_set] at e1 e2
    have f1 : ∃ c, lookB s.locs l1 = some c := by
      split at e1
      · subst_vars; exact ⟨_, hl⟩
      · exact ⟨_, e1⟩
    have f2 : ∃ c, lookB s.locs l2 = some c := by
      split at e2
      · subst_vars; exact ⟨_, hl⟩
      · exact ⟨_, e2⟩
    obtain ⟨d1, f1⟩ := f1
    obtain ⟨d2, f2⟩ := f2
    exact c.inj l1 l2 d1 d2 f1 f2 e3
  · intro W hW
    refine ⟨fun k hk => hother k (by omega), by rw [hsize]; exact Nat.le_refl _, rfl, rfl, rfl⟩

end
end Go.Fw
