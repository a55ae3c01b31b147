/- Memory: reading, writing and making blocks keeps what the abstract heap says. -/
import Derived.Test.YtfdhljghamkgjaaFwI
namespace Go.Fw
set_option linter.unusedSimpArgs false
set_option linter.unusedVariables false

section
variable {P : Program}

theorem frozen_free {w : World} {g : Nat} {c : Array Value} {e : TypeId} {fz : Nat × Nat} (hg : w.heap[g]? = some (.cells c e fz)) {j : Nat} (h : ¬ (fz.1 ≤ j ∧ j < fz.2)) : w.frozen? ⟨g, j, none⟩ = false := by
  obtain ⟨lo, hi⟩ := fz
  simp only [World.frozen?, hg]
  simp only [Bool.and_eq_false_imp, decide_eq_true_eq, decide_eq_false_iff_not]
  intro h1 h2
  exact h ⟨h1, h2⟩

theorem run_storeCells_free (g o : Nat) (t : TypeId) (fz : Nat × Nat) : ∀ (vs : List Value) (i : Nat) (cur : Array Value) (w : World), w.heap[g]? = some (.cells cur t fz) → (∀ j, j < cur.size → ¬ (fz.1 ≤ j ∧ j < fz.2)) → o + i + vs.length ≤ cur.size → (∀ v ∈ vs, v.oneCell' = true) →
    (storeCells ⟨g, o, none⟩ vs i).run P w = .ok () (w.setRow g (cur.toList.take (o + i) ++ vs ++ cur.toList.drop (o + i + vs.length)).toArray)
  | [], i, cur, w, hg, _, _, _ => by
    simp only [storeCells, List.append_nil, List.length_nil, Nat.add_zero, List.take_append_drop, Array.toArray_toList]
    rw [setRow_self w g cur t fz hg]
    rfl
  | v :: rest, i, cur, w, hg, hf, hl, h1 => by
    have hi : o + i < cur.size := by simp at hl; omega
    have hadd : (⟨g, o, none⟩ : Addr).add i = ⟨g, o + i, none⟩ := by unfold Addr.add; split <;> simp_all
    have hcell : w.cell? ⟨g, o + i, none⟩ = some cur[o + i] := by simp [World.cell?, hg, hi]
    have hfro : w.frozen? ⟨g, o + i, none⟩ = false := frozen_free hg (hf _ hi)
    have hst : (store ((⟨g, o, none⟩ : Addr).add i) v).run P w = .ok () (w.setRow g (cur.setIfInBounds (o + i) v)) := by
      rw [hadd, run_store P w _ v _ (h1 v (by simp)), hcell]
      simp [hfro, setCell_eq_setRow w g (o + i) cur t fz v hg]
    have ih := run_storeCells_free g o t fz rest (i + 1) (cur.setIfInBounds (o + i) v) (w.setRow g (cur.setIfInBounds (o + i) v)) (setRow_heap w g cur _ t _ hg) (by simpa using hf) (by simp at hl ⊢; omega) (fun x hx => h1 x (by simp [hx]))
    simp only [storeCells, Sem.run_bind, hst, Result.andThen_ok, ih, setRow_setRow]
    congr 3
    have e := list_seg_step cur.toList (o + i) v rest (by simp at hl ⊢; omega)
    simpa [Array.toList_setIfInBounds, Nat.add_assoc] using e

theorem HRel.world {φ : Phi} {h : Heap} {w w' : World} (H : HRel φ h w) (e : w'.heap = w.heap) : HRel φ h w' where
  dom := fun b L hb => by rw [e]; exact H.dom b L hb
  live := H.live
  blk := fun b x L h1 h2 => by
    obtain ⟨c, t, fz, hg, r⟩ := H.blk b x L h1 h2
    exact ⟨c, t, fz, by rw [e]; exact hg, r⟩
  apart := H.apart

/-- Reading. -/
theorem HRel.rd {φ : Phi} {h : Heap} {w : World} (H : HRel φ h w) {b off n : Nat} {cs : List AVal} (e : h.rd b off n = some cs) {L : Loc} (hb : φ b = some L) :
    ∃ us : List Value, VRels φ cs us ∧ (∀ u ∈ us, u.oneCell' = true) ∧ us.length = n ∧ ∀ (j : Nat) (u : Value), us[j]? = some u → w.cell? ⟨L.blk, L.base + off + j, none⟩ = some u := by
  unfold Heap.rd at e
  split at e
  · rename_i x hx
    cases hle : Nat.ble (off + n) x.cells.length with
    | false => rw [hle] at e; cases e
    | true =>
      rw [hle] at e
      cases e
      have hle := Nat.le_of_ble_eq_true hle
      obtain ⟨c, t, fz, hg, hsz, hfit, hfree, hcells⟩ := H.blk b x L hx hb
      refine ⟨(c.toList.drop (L.base + off)).take n, ?_, ?_, ?_, ?_⟩
      · refine VRels.of_get ?_ ?_
        · simp only [List.length_take, List.length_drop, Array.length_toList]; omega
        · intro i a v ha hv
          rw [List.getElem?_take] at ha hv
          split at ha
          · rw [List.getElem?_drop] at ha
            rw [if_pos ‹_›, List.getElem?_drop] at hv
            obtain ⟨u, hu, hr, _⟩ := hcells (off + i) a ha
            rw [Array.getElem?_toList, Nat.add_assoc, hu] at hv
            cases hv
            exact hr
          · cases ha
      · intro u hu
        obtain ⟨i, hi⟩ := List.mem_iff_getElem?.1 hu
        rw [List.getElem?_take] at hi
        split at hi
        · rename_i hin
          rw [List.getElem?_drop, Array.getElem?_toList] at hi
          have hlt : off + i < x.cells.length := by omega
          obtain ⟨u', hu', _, ho⟩ := hcells (off + i) _ (List.getElem?_eq_getElem hlt)
          rw [Nat.add_assoc, hu'] at hi
          cases hi
          exact ho
        · cases hi
      · simp only [List.length_take, List.length_drop, Array.length_toList]; omega
      · intro j u hj
        rw [List.getElem?_take] at hj
        split at hj
        · rw [List.getElem?_drop, Array.getElem?_toList] at hj
          simp only [World.cell?, hg]
          simpa using hj
        · cases hj
  · cases e

theorem loadCells_of {w : World} {g o : Nat} {us : List Value} (h : ∀ (j : Nat) (u : Value), us[j]? = some u → w.cell? ⟨g, o + j, none⟩ = some u) : (loadCells ⟨g, o, none⟩ us.length).run P w = .ok us.toArray w :=
  run_loadCells_list w _ us fun j v hj => by rw [addr_add]; exact h j v hj

/-- Setting one block's row. -/
theorem HRel.setRow {φ : Phi} {h : Heap} {w : World} (H : HRel φ h w) {b : Nat} {x : Blk} {L : Loc} (hx : h.blk b = some x) (hrw : x.rw = true) (hb : φ b = some L)
    {cs : List AVal} {c : Array Value} (hc : c.size = L.size) (hfit : L.base + cs.length ≤ L.size) (hcells : ∀ i v, cs[i]? = some v → ∃ u, c[L.base + i]? = some u ∧ VRel φ v u ∧ u.oneCell' = true) :
    HRel φ (h.setBlk b (some ⟨cs, true⟩)) (w.setRow L.blk c) ∧ Step φ h w φ (h.setBlk b (some ⟨cs, true⟩)) (w.setRow L.blk c) := by
  obtain ⟨c0, t, fz, hg, hsz, _, hfree, _⟩ := H.blk b x L hx hb
  have hcase : ∀ b' x', (h.setBlk b (some ⟨cs, true⟩)).blk b' = some x' → (b' = b ∧ x' = ⟨cs, true⟩) ∨ (b' ≠ b ∧ h.blk b' = some x') := by
    intro b' x' e
    simp only [Heap.setBlk] at e
    cases hbe : Nat.beq b' b with
    | true =>
      rw [hbe] at e
      cases e
      exact .inl ⟨Nat.eq_of_beq_eq_true hbe, rfl⟩
    | false =>
      rw [hbe] at e
      exact .inr ⟨Nat.ne_of_beq_eq_false hbe, e⟩
  refine ⟨⟨?_, ?_, ?_, ?_⟩, ⟨Ext.refl _, Nat.le_refl _, ?_, ?_, ?_, fun b' _ hn => h.setBlk_other _ fun e => (by rw [e, hb] at hn; cases hn), ?_, rfl, rfl, rfl⟩⟩
  · intro b' L' hb'
    have := H.dom b' L' hb'
    exact ⟨this.1, by simpa using this.2⟩
  · intro b' x' hx'
    rcases hcase b' x' hx' with ⟨rfl, rfl⟩ | ⟨_, h2⟩
    · exact H.live b' x hx
    · exact H.live b' x' h2
  · intro b' x' L' hx' hb'
    rcases hcase b' x' hx' with ⟨rfl, rfl⟩ | ⟨hne, h2⟩
    · rw [hb] at hb'
      cases hb'
      exact ⟨c, t, fz, setRow_heap w L.blk c0 c t fz hg, hc, hfit, fun _ => by have := hfree hrw; omega, hcells⟩
    · obtain ⟨c1, t1, fz1, hg1, r⟩ := H.blk b' x' L' h2 hb'
      have hne' : L'.blk ≠ L.blk := fun e => H.apart b b' x x' L L' (Ne.symm hne) hx h2 hrw hb hb' e.symm
      exact ⟨c1, t1, fz1, by rw [setRow_other w L.blk L'.blk c hne']; exact hg1, r⟩
  · intro b1 b2 x1 x2 L1 L2 hne h1 h2 hr p1 p2
    rcases hcase b1 x1 h1 with ⟨e1, e1'⟩ | ⟨hn1, h1'⟩
    · rcases hcase b2 x2 h2 with ⟨e2, e2'⟩ | ⟨hn2, h2'⟩
      · exact absurd (e1.trans e2.symm) hne
      · rw [e1] at hne p1
        exact H.apart b b2 x x2 L1 L2 hne hx h2' hrw p1 p2
    · rcases hcase b2 x2 h2 with ⟨e2, e2'⟩ | ⟨hn2, h2'⟩
      · rw [e2] at hne p2
        exact H.apart b1 b x1 x L1 L2 hne h1' hx hr p1 p2
      · exact H.apart b1 b2 x1 x2 L1 L2 hne h1' h2' hr p1 p2
  · intro b' x' _ hx'
    rcases hcase b' x' hx' with ⟨rfl, rfl⟩ | ⟨_, h2⟩
    · exact ⟨x, hx, hrw⟩
    · exact ⟨x', h2, rfl⟩
  · intro b' L' h1 h2
    rw [h1] at h2
    cases h2
  · simp
  · intro k hk hfree'
    exact setRow_other w L.blk k c fun e => hfree' b x L hx hrw hb e.symm

/-- Writing. -/
theorem HRel.wr {φ : Phi} {h h' : Heap} {w : World} (H : HRel φ h w) {b off : Nat} {cs : List AVal} (e : h.wr b off cs = some h') {L : Loc} (hb : φ b = some L)
    {us : List Value} (hr : VRels φ cs us) (ho : ∀ u ∈ us, u.oneCell' = true) :
    ∃ w', (storeCells ⟨L.blk, L.base + off, none⟩ us).run P w = .ok () w' ∧ HRel φ h' w' ∧ Step φ h w φ h' w' := by
  unfold Heap.wr at e
  split at e
  · rename_i x hx
    cases hc : (x.rw && Nat.ble (off + cs.length) x.cells.length) with
    | false => rw [hc] at e; cases e
    | true =>
      rw [hc] at e
      simp only [cond_true, Option.some.injEq] at e
      subst e
      simp only [Bool.and_eq_true] at hc
      obtain ⟨hrw, hle⟩ := hc
      have hle := Nat.le_of_ble_eq_true hle
      obtain ⟨c, t, fz, hg, hsz, hfit, hfree, hcells⟩ := H.blk b x L hx hb
      have hlen := VRels.length hr
      refine ⟨_, run_storeCells_free L.blk (L.base + off) t fz us 0 c w hg (fz_free (hfree hrw)) (by omega) ho, ?_⟩
      refine H.setRow hx hrw hb ?_ ?_ ?_
      · simp only [List.size_toArray, List.length_append, List.length_take, List.length_drop, Array.length_toList]; omega
      · simp only [splice, List.length_append, List.length_take, List.length_drop]; omega
      · intro i v hv
        simp only [splice, List.getElem?_append, List.length_take, List.length_append, List.getElem?_take, List.getElem?_drop] at hv
        simp only [List.getElem?_toArray, List.getElem?_append, List.length_take, List.length_append, Array.length_toList, List.getElem?_take, List.getElem?_drop, Array.getElem?_toList]
        by_cases h1 : i < off
        · rw [if_pos (by omega), if_pos (by omega), if_pos h1] at hv
          rw [if_pos (by omega), if_pos (by omega), if_pos (by omega)]
          exact hcells i v hv
        · by_cases h2 : i < off + cs.length
          · rw [if_pos (by omega), if_neg (by omega)] at hv
            rw [if_pos (by omega), if_neg (by omega)]
            obtain ⟨u, hu, hru⟩ := VRels.get hr _ _ hv
            refine ⟨u, ?_, hru, ho u (List.mem_of_getElem? hu)⟩
            rw [← hu]
            congr 1
            omega
          · rw [if_neg (by omega)] at hv
            rw [if_neg (by omega)]
            have : off + cs.length + (i - (min off x.cells.length + cs.length)) = i := by omega
            rw [this] at hv
            have h3 := hcells i v hv
            have : L.base + off + 0 + us.length + (L.base + i - (min (L.base + off + 0) c.size + us.length)) = L.base + i := by omega
            rw [this]
            exact h3
  · cases e

def Phi.set (φ : Phi) (b : Nat) (L : Loc) : Phi := fun i => if i = b then some L else φ i

theorem Phi.set_ext {φ : Phi} {b : Nat} {L : Loc} (h : φ b = none) : Ext φ (φ.set b L) := by
  intro i L' e
  unfold Phi.set
  split
  · rename_i hi; subst hi; rw [h] at e; cases e
  · exact e

/-- A new block. -/
theorem HRel.alloc {φ : Phi} {h : Heap} {w : World} (H : HRel φ h w) {cs : List AVal} {c : Array Value} (t : TypeId) (fz : Nat × Nat) (hfz : fz.1 = fz.2 ∨ c.size ≤ fz.1) (hfit : cs.length ≤ c.size)
    (hcells : ∀ (i : Nat) (v : AVal), cs[i]? = some v → ∃ u : Value, c[i]? = some u ∧ VRel φ v u ∧ u.oneCell' = true) {w' : World} (hw : w'.heap = w.heap.push (.cells c t fz)) (hos : w'.os = w.os) (htape : w'.tape = w.tape) (hout : w'.output = w.output) :
    HRel (φ.set h.next ⟨w.heap.size, 0, c.size⟩) (h.alloc cs) w' ∧ Step φ h w (φ.set h.next ⟨w.heap.size, 0, c.size⟩) (h.alloc cs) w' := by
  have hnone : φ h.next = none := by
    cases hn : φ h.next with
    | none => rfl
    | some L => have := (H.dom _ _ hn).1; omega
  have hext : Ext φ (φ.set h.next ⟨w.heap.size, 0, c.size⟩) := Phi.set_ext hnone
  have hcase : ∀ b' x', (h.alloc cs).blk b' = some x' → (b' = h.next ∧ x' = ⟨cs, true⟩) ∨ (b' < h.next ∧ h.blk b' = some x') := by
    intro b' x' e
    simp only [Heap.alloc] at e
    cases hbe : Nat.beq b' h.next with
    | true =>
      rw [hbe] at e
      cases e
      exact .inl ⟨Nat.eq_of_beq_eq_true hbe, rfl⟩
    | false =>
      rw [hbe] at e
      exact .inr ⟨H.live b' x' e, e⟩
  have hphi : ∀ b' L', (φ.set h.next ⟨w.heap.size, 0, c.size⟩) b' = some L' → (b' = h.next ∧ L' = ⟨w.heap.size, 0, c.size⟩) ∨ (b' ≠ h.next ∧ φ b' = some L') := by
    intro b' L' e
    unfold Phi.set at e
    split at e
    · cases e; exact .inl ⟨‹_›, rfl⟩
    · exact .inr ⟨‹_›, e⟩
  have hold : ∀ k, k < w.heap.size → w'.heap[k]? = w.heap[k]? := by
    intro k hk
    rw [hw, Array.getElem?_push, if_neg (by omega)]
  have hnew : w'.heap[w.heap.size]? = some (.cells c t fz) := by
    rw [hw, Array.getElem?_push, if_pos rfl]
  have hsize : w'.heap.size = w.heap.size + 1 := by rw [hw]; simp
  refine ⟨⟨?_, ?_, ?_, ?_⟩, ⟨hext, by simp [Heap.alloc], ?_, ?_, by omega, fun b' hb' _ => h.alloc_other _ (by omega), fun k hk _ => hold k hk, hos, htape, hout⟩⟩
  · intro b' L' hb'
    rcases hphi b' L' hb' with ⟨rfl, rfl⟩ | ⟨_, hb'⟩
    · exact ⟨Nat.lt_succ_self _, by rw [hsize]; exact Nat.lt_succ_self _⟩
    · have := H.dom b' L' hb'
      exact ⟨Nat.lt_succ_of_lt this.1, by omega⟩
  · intro b' x' hx'
    rcases hcase b' x' hx' with ⟨rfl, rfl⟩ | ⟨hlt, h2⟩
    · exact Nat.lt_succ_self _
    · exact Nat.lt_succ_of_lt hlt
  · intro b' x' L' hx' hb'
    rcases hcase b' x' hx' with ⟨rfl, rfl⟩ | ⟨hlt, h2⟩
    · rcases hphi _ L' hb' with ⟨_, rfl⟩ | ⟨hne, _⟩
      · refine ⟨c, t, fz, hnew, rfl, by simpa using hfit, fun _ => hfz, ?_⟩
        intro i v hv
        obtain ⟨u, hu, hr, ho⟩ := hcells i v hv
        exact ⟨u, by simpa using hu, VRel.ext hext v hr, ho⟩
      · exact absurd rfl hne
    · rcases hphi b' L' hb' with ⟨rfl, _⟩ | ⟨_, hb'⟩
      · omega
      · obtain ⟨c1, t1, fz1, hg1, h1, h2', h3, h4⟩ := H.blk b' x' L' h2 hb'
        refine ⟨c1, t1, fz1, by rw [hold _ (H.dom b' L' hb').2]; exact hg1, h1, h2', h3, ?_⟩
        intro i v hv
        obtain ⟨u, hu, hr, ho⟩ := h4 i v hv
        exact ⟨u, hu, VRel.ext hext v hr, ho⟩
  · intro b1 b2 x1 x2 L1 L2 hne h1 h2 hr p1 p2
    rcases hcase b1 x1 h1 with ⟨rfl, rfl⟩ | ⟨hn1, h1⟩
    · rcases hcase b2 x2 h2 with ⟨rfl, rfl⟩ | ⟨hn2, h2⟩
      · exact absurd rfl hne
      · rcases hphi _ L1 p1 with ⟨_, rfl⟩ | ⟨hq, _⟩
        · rcases hphi b2 L2 p2 with ⟨rfl, _⟩ | ⟨_, p2⟩
          · omega
          · have := (H.dom b2 L2 p2).2; simp; omega
        · exact absurd rfl hq
    · rcases hphi b1 L1 p1 with ⟨rfl, _⟩ | ⟨_, p1⟩
      · omega
      · rcases hcase b2 x2 h2 with ⟨rfl, rfl⟩ | ⟨hn2, h2⟩
        · rcases hphi _ L2 p2 with ⟨_, rfl⟩ | ⟨hq, _⟩
          · have := (H.dom b1 L1 p1).2; simp; omega
          · exact absurd rfl hq
        · rcases hphi b2 L2 p2 with ⟨rfl, _⟩ | ⟨_, p2⟩
          · omega
          · exact H.apart b1 b2 x1 x2 L1 L2 hne h1 h2 hr p1 p2
  · intro b' x' hlt hx'
    rcases hcase b' x' hx' with ⟨rfl, rfl⟩ | ⟨_, h2⟩
    · omega
    · exact ⟨x', h2, rfl⟩
  · intro b' L' h1 h2
    rcases hphi b' L' h2 with ⟨rfl, rfl⟩ | ⟨_, h2⟩
    · exact ⟨Nat.le_refl _, .inl (Nat.le_refl _)⟩
    · rw [h1] at h2; cases h2

/-- A new block under a name that was held ready. -/
theorem HRel.allocAt {φ : Phi} {h : Heap} {w : World} (H : HRel φ h w) {b : Nat} (hnone : φ b = none) (hlt : b < h.next) {cs : List AVal} {c : Array Value} (t : TypeId) (fz : Nat × Nat) (hfz : fz.1 = fz.2 ∨ c.size ≤ fz.1) (hfit : cs.length ≤ c.size)
    (hcells : ∀ (i : Nat) (v : AVal), cs[i]? = some v → ∃ u : Value, c[i]? = some u ∧ VRel φ v u ∧ u.oneCell' = true) {w' : World} (hw : w'.heap = w.heap.push (.cells c t fz)) :
    HRel (φ.set b ⟨w.heap.size, 0, c.size⟩) (h.setBlk b (some ⟨cs, true⟩)) w' := by
  have hext : Ext φ (φ.set b ⟨w.heap.size, 0, c.size⟩) := Phi.set_ext hnone
  have hcase : ∀ b' x', (h.setBlk b (some ⟨cs, true⟩)).blk b' = some x' → (b' = b ∧ x' = ⟨cs, true⟩) ∨ (b' ≠ b ∧ h.blk b' = some x') := by
    intro b' x' e
    by_cases hb : b' = b
    · subst hb
      rw [h.setBlk_at] at e
      cases e
      exact .inl ⟨rfl, rfl⟩
    · rw [h.setBlk_other _ hb] at e
      exact .inr ⟨hb, e⟩
  have hphi : ∀ b' L', (φ.set b ⟨w.heap.size, 0, c.size⟩) b' = some L' → (b' = b ∧ L' = ⟨w.heap.size, 0, c.size⟩) ∨ (b' ≠ b ∧ φ b' = some L') := by
    intro b' L' e
    unfold Phi.set at e
    split at e
    · cases e; exact .inl ⟨‹_›, rfl⟩
    · exact .inr ⟨‹_›, e⟩
  have hold : ∀ k, k < w.heap.size → w'.heap[k]? = w.heap[k]? := by
    intro k hk
    rw [hw, Array.getElem?_push, if_neg (by omega)]
  have hnew : w'.heap[w.heap.size]? = some (.cells c t fz) := by
    rw [hw, Array.getElem?_push, if_pos rfl]
  have hsize : w'.heap.size = w.heap.size + 1 := by rw [hw]; simp
  refine ⟨?_, ?_, ?_, ?_⟩
  · intro b' L' hb'
    rcases hphi b' L' hb' with ⟨rfl, rfl⟩ | ⟨_, hb'⟩
    · exact ⟨hlt, by rw [hsize]; exact Nat.lt_succ_self _⟩
    · have := H.dom b' L' hb'
      exact ⟨this.1, by omega⟩
  · intro b' x' hx'
    rcases hcase b' x' hx' with ⟨rfl, rfl⟩ | ⟨_, h2⟩
    · exact hlt
    · exact H.live b' x' h2
  · intro b' x' L' hx' hb'
    rcases hcase b' x' hx' with ⟨rfl, rfl⟩ | ⟨hne, h2⟩
    · rcases hphi _ L' hb' with ⟨_, rfl⟩ | ⟨hne, _⟩
      · refine ⟨c, t, fz, hnew, rfl, by simpa using hfit, fun _ => hfz, ?_⟩
        intro i v hv
        obtain ⟨u, hu, hr, ho⟩ := hcells i v hv
        exact ⟨u, by simpa using hu, VRel.ext hext v hr, ho⟩
      · exact absurd rfl hne
    · rcases hphi b' L' hb' with ⟨rfl, _⟩ | ⟨_, hb'⟩
      · exact absurd rfl hne
      · obtain ⟨c1, t1, fz1, hg1, h1, h2', h3, h4⟩ := H.blk b' x' L' h2 hb'
        refine ⟨c1, t1, fz1, by rw [hold _ (H.dom b' L' hb').2]; exact hg1, h1, h2', h3, ?_⟩
        intro i v hv
        obtain ⟨u, hu, hr, ho⟩ := h4 i v hv
        exact ⟨u, hu, VRel.ext hext v hr, ho⟩
  · intro b1 b2 x1 x2 L1 L2 hne h1 h2 hr p1 p2
    rcases hcase b1 x1 h1 with ⟨e1, e1'⟩ | ⟨hn1, h1'⟩
    · rcases hcase b2 x2 h2 with ⟨e2, e2'⟩ | ⟨hn2, h2'⟩
      · exact absurd (e1.trans e2.symm) hne
      · rcases hphi _ L1 p1 with ⟨_, rfl⟩ | ⟨hq, _⟩
        · rcases hphi b2 L2 p2 with ⟨e, _⟩ | ⟨_, q2⟩
          · exact absurd e hn2
          · have := (H.dom b2 L2 q2).2; simp; omega
        · exact absurd e1 hq
    · rcases hphi b1 L1 p1 with ⟨e, _⟩ | ⟨_, q1⟩
      · exact absurd e hn1
      · rcases hcase b2 x2 h2 with ⟨e2, e2'⟩ | ⟨hn2, h2'⟩
        · rcases hphi _ L2 p2 with ⟨_, rfl⟩ | ⟨hq, _⟩
          · have := (H.dom b1 L1 q1).2; simp; omega
          · exact absurd e2 hq
        · rcases hphi b2 L2 p2 with ⟨e, _⟩ | ⟨_, q2⟩
          · exact absurd e hn2
          · exact H.apart b1 b2 x1 x2 L1 L2 hne h1' h2' hr q1 q2

/-- A block let go. -/
theorem HRel.drop {φ : Phi} {h : Heap} {w : World} (H : HRel φ h w) (b : Nat) : HRel φ (h.setBlk b none) w := by
  have hcase : ∀ b' x', (h.setBlk b none).blk b' = some x' → h.blk b' = some x' := by
    intro b' x' e
    simp only [Heap.setBlk] at e
    cases hbe : Nat.beq b' b with
    | true => rw [hbe] at e; cases e
    | false => rw [hbe] at e; exact e
  exact ⟨H.dom, fun b' x' hx' => H.live b' x' (hcase b' x' hx'), fun b' x' L' h1 h2 => H.blk b' x' L' (hcase _ _ h1) h2,
    fun b1 b2 x1 x2 L1 L2 hne h1 h2 => H.apart b1 b2 x1 x2 L1 L2 hne (hcase _ _ h1) (hcase _ _ h2)⟩

theorem Step.drop {φ : Phi} (h : Heap) (w : World) (b : Nat) (hb : φ b ≠ none) : Step φ h w φ (h.setBlk b none) w := by
  have hcase : ∀ b' x', (h.setBlk b none).blk b' = some x' → h.blk b' = some x' := by
    intro b' x' e
    simp only [Heap.setBlk] at e
    cases hbe : Nat.beq b' b with
    | true => rw [hbe] at e; cases e
    | false => rw [hbe] at e; exact e
  exact ⟨Ext.refl _, Nat.le_refl _, fun b' x' _ hx => ⟨x', hcase _ _ hx, rfl⟩, fun _ _ h1 h2 => (by rw [h1] at h2; cases h2), Nat.le_refl _, fun b' _ hn => h.setBlk_other _ fun e => hb (by rw [← e, hn]), fun _ _ _ => rfl, rfl, rfl, rfl⟩

end
end Go.Fw
