import Derived.Test.YtllogmedpmanoaaFwE
import Derived.Laws.Append
import Derived.Laws.MakeOwn
import Derived.Laws.BytesString
/- Memory: reading, writing and making blocks keeps what the abstract heap says. -/
namespace Go.Fw
set_option linter.unusedSimpArgs false
set_option linter.unusedVariables false

section
variable {P : Program}

theorem frozen_free {w : World} {g : Nat} {c : Array Value} {e : TypeId} {fz : Nat × Nat} (hg : w.heap[g]? = some (.cells c e fz)) {j : Nat} (h : ¬ (fz.1 ≤ j ∧ j < fz.2)) : w.frozen? ⟨g, j, none⟩ = false := by
  obtain ⟨lo, hi⟩ := fz
  simp only [World.frozen?, hg]
  simp only [Bool.and_eq_false_imp, decide_eq_true_eq, decide_eq_false_iff_not]
  intro h1 h2
  exact h ⟨h1, h2⟩

theorem run_storeCells_free (g o : Nat) (t : TypeId) (fz : Nat × Nat) : ∀ (vs : List Value) (i : Nat) (cur : Array Value) (w : World), w.heap[g]? = some (.cells cur t fz) → (∀ j, j < cur.size → ¬ (fz.1 ≤ j ∧ j < fz.2)) → o + i + vs.length ≤ cur.size → (∀ v ∈ vs, v.oneCell' = true) →
    (storeCells ⟨g, o, none⟩ vs i).run P w = .ok () (w.setRow g (cur.toList.take (o + i) ++ vs ++ cur.toList.drop (o + i + vs.length)).toArray)
  | [], i, cur, w, hg, _, _, _ => by
    simp only [storeCells, List.append_nil, List.length_nil, Nat.add_zero, List.take_append_drop, Array.toArray_toList]
    rw [setRow_self w g cur t fz hg]
    rfl
  | v :: rest, i, cur, w, hg, hf, hl, h1 => by
    have hi : o + i < cur.size := by simp at hl; omega
    have hadd : (⟨g, o, none⟩ : Addr).add i = ⟨g, o + i, none⟩ := by unfold Addr.add; split <;> simp_all
    have hcell : w.cell? ⟨g, o + i, none⟩ = some cur[o + i] := by simp [World.cell?, hg, hi]
    have hfro : w.frozen? ⟨g, o + i, none⟩ = false := frozen_free hg (hf _ hi)
    have hst : (store ((⟨g, o, none⟩ : Addr).add i) v).run P w = .ok () (w.setRow g (cur.setIfInBounds (o + i) v)) := by
      rw [hadd, run_store P w _ v _ (h1 v (by simp)), hcell]
      simp [hfro, setCell_eq_setRow w g (o + i) cur t fz v hg]
    have ih := run_storeCells_free g o t fz rest (i + 1) (cur.setIfInBounds (o + i) v) (w.setRow g (cur.setIfInBounds (o + i) v)) (setRow_heap w g cur _ t _ hg) (by simpa using hf) (by simp at hl ⊢; omega) (fun x hx => h1 x (by simp [hx]))
    simp only [storeCells, Sem.run_bind, hst, Result.andThen_ok, ih, setRow_setRow]
    congr 3
    have e := list_seg_step cur.toList (o + i) v rest (by simp at hl ⊢; omega)
    simpa [Array.toList_setIfInBounds, Nat.add_assoc] using e

theorem HRel.world {φ : Phi} {h : Heap} {w w' : World} (H : HRel φ h w) (e : w'.heap = w.heap) : HRel φ h w' where
  dom := fun b L hb => by rw [e]; exact H.dom b L hb
  live := H.live
  blk := fun b x L h1 h2 => by
    obtain ⟨c, t, fz, hg, r⟩ := H.blk b x L h1 h2
    exact ⟨c, t, fz, by rw [e]; exact hg, r⟩
  apart := H.apart
  pin := H.pin

/-- Reading. -/
theorem HRel.rd {φ : Phi} {h : Heap} {w : World} (H : HRel φ h w) {b off n : Nat} {cs : List AVal} (e : h.rd b off n = some cs) {L : Loc} (hb : φ b = some L) :
    ∃ us : List Value, VRels φ cs us ∧ (∀ u ∈ us, u.oneCell' = true) ∧ us.length = n ∧ ∀ (j : Nat) (u : Value), us[j]? = some u → w.cell? ⟨L.blk, L.base + off + j, none⟩ = some u := by
  unfold Heap.rd at e
  split at e
  · rename_i x hx
    cases hle : Nat.ble (off + n) x.cells.length with
    | false => rw [hle] at e; cases e
    | true =>
      rw [hle] at e
      cases e
      have hle := Nat.le_of_ble_eq_true hle
      obtain ⟨c, t, fz, hg, hsz, hfit, hfree, hcells⟩ := H.blk b x L hx hb
      refine ⟨(c.toList.drop (L.base + off)).take n, ?_, ?_, ?_, ?_⟩
      · refine VRels.of_get ?_ ?_
        · simp only [List.length_take, List.length_drop, Array.length_toList]; omega
        · intro i a v ha hv
          rw [List.getElem?_take] at ha hv
          split at ha
          · rw [List.getElem?_drop] at ha
            rw [if_pos ‹_›, List.getElem?_drop] at hv
            obtain ⟨u, hu, hr, _⟩ := hcells (off + i) a ha
            rw [Array.getElem?_toList, Nat.add_assoc, hu] at hv
            cases hv
            exact hr
          · cases ha
      · intro u hu
        obtain ⟨i, hi⟩ := List.mem_iff_getElem?.1 hu
        rw [List.getElem?_take] at hi
        split at hi
        · rename_i hin
          rw [List.getElem?_drop, Array.getElem?_toList] at hi
          have hlt : off + i < x.cells.length := by omega
          obtain ⟨u', hu', _, ho⟩ := hcells (off + i) _ (List.getElem?_eq_getElem hlt)
          rw [Nat.add_assoc, hu'] at hi
          cases hi
          exact ho
        · cases hi
      · simp only [List.length_take, List.length_drop, Array.length_toList]; omega
      · intro j u hj
        rw [List.getElem?_take] at hj
        split at hj
        · rw [List.getElem?_drop, Array.getElem?_toList] at hj
          simp only [World.cell?, hg]
          simpa using hj
        · cases hj
  · cases e

theorem loadCells_of {w : World} {g o : Nat} {us : List Value} (h : ∀ (j : Nat) (u : Value), us[j]? = some u → w.cell? ⟨g, o + j, none⟩ = some u) : (loadCells ⟨g, o, none⟩ us.length).run P w = .ok us.toArray w :=
  run_loadCells_list w _ us fun j v hj => by rw [addr_add]; exact h j v hj

/-- Setting one block's row. -/
theorem HRel.setRow {φ : Phi} {h : Heap} {w : World} (H : HRel φ h w) {b : Nat} {x : Blk} {L : Loc} (hx : h.blk b = some x) (hrw : x.rw = true) (hb : φ b = some L)
    {cs : List AVal} {c : Array Value} (hc : c.size = L.size) (hfit : L.base + cs.length ≤ L.size) (hcells : ∀ i v, cs[i]? = some v → ∃ u, c[L.base + i]? = some u ∧ VRel φ v u ∧ u.oneCell' = true) :
    HRel φ (h.setBlk b (some ⟨cs, true⟩)) (w.setRow L.blk c) ∧ Step φ h w φ (h.setBlk b (some ⟨cs, true⟩)) (w.setRow L.blk c) := by
  obtain ⟨c0, t, fz, hg, hsz, _, hfree, _⟩ := H.blk b x L hx hb
  have hcase : ∀ b' x', (h.setBlk b (some ⟨cs, true⟩)).blk b' = some x' → (b' = b ∧ x' = ⟨cs, true⟩) ∨ (b' ≠ b ∧ h.blk b' = some x') := by
    intro b' x' e
    simp only [Heap.setBlk] at e
    cases hbe : Nat.beq b' b with
    | true =>
      rw [hbe] at e
      cases e
      exact .inl ⟨Nat.eq_of_beq_eq_true hbe, rfl⟩
    | false =>
      rw [hbe] at e
      exact .inr ⟨Nat.ne_of_beq_eq_false hbe, e⟩
  refine ⟨⟨?_, ?_, ?_, ?_, H.pin⟩, ⟨Ext.refl _, Nat.le_refl _, ?_, ?_, ?_, fun b' _ hn => h.setBlk_other _ fun e => (by rw [e, hb] at hn; cases hn), ?_, rfl, rfl, rfl⟩⟩
  · intro b' L' hb'
    have := H.dom b' L' hb'
    exact ⟨this.1, by simpa using this.2⟩
  · intro b' x' hx'
    rcases hcase b' x' hx' with ⟨rfl, rfl⟩ | ⟨_, h2⟩
    · exact H.live b' x hx
    · exact H.live b' x' h2
  · intro b' x' L' hx' hb'
    rcases hcase b' x' hx' with ⟨rfl, rfl⟩ | ⟨hne, h2⟩
    · rw [hb] at hb'
      cases hb'
      exact ⟨c, t, fz, setRow_heap w L.blk c0 c t fz hg, hc, hfit, fun _ => by have := hfree hrw; omega, hcells⟩
    · obtain ⟨c1, t1, fz1, hg1, r⟩ := H.blk b' x' L' h2 hb'
      have hne' : L'.blk ≠ L.blk := fun e => H.apart b b' x x' L L' (Ne.symm hne) hx h2 hrw hb hb' e.symm
      exact ⟨c1, t1, fz1, by rw [setRow_other w L.blk L'.blk c hne']; exact hg1, r⟩
  · intro b1 b2 x1 x2 L1 L2 hne h1 h2 hr p1 p2
    rcases hcase b1 x1 h1 with ⟨e1, e1'⟩ | ⟨hn1, h1'⟩
    · rcases hcase b2 x2 h2 with ⟨e2, e2'⟩ | ⟨hn2, h2'⟩
      · exact absurd (e1.trans e2.symm) hne
      · rw [e1] at hne p1
        exact H.apart b b2 x x2 L1 L2 hne hx h2' hrw p1 p2
    · rcases hcase b2 x2 h2 with ⟨e2, e2'⟩ | ⟨hn2, h2'⟩
      · rw [e2] at hne p2
        exact H.apart b1 b x1 x L1 L2 hne h1' hx hr p1 p2
      · exact H.apart b1 b2 x1 x2 L1 L2 hne h1' h2' hr p1 p2
  · intro b' x' _ hx'
    rcases hcase b' x' hx' with ⟨rfl, rfl⟩ | ⟨_, h2⟩
    · exact ⟨x, hx, hrw⟩
    · exact ⟨x', h2, rfl⟩
  · intro b' L' h1 h2
    rw [h1] at h2
    cases h2
  · simp
  · intro k hk hfree'
    exact setRow_other w L.blk k c fun e => hfree' b x L hx hrw hb e.symm

/-- Writing. -/
theorem HRel.wr {φ : Phi} {h h' : Heap} {w : World} (H : HRel φ h w) {b off : Nat} {cs : List AVal} (e : h.wr b off cs = some h') {L : Loc} (hb : φ b = some L)
    {us : List Value} (hr : VRels φ cs us) (ho : ∀ u ∈ us, u.oneCell' = true) :
    ∃ w', (storeCells ⟨L.blk, L.base + off, none⟩ us).run P w = .ok () w' ∧ HRel φ h' w' ∧ Step φ h w φ h' w' := by
  unfold Heap.wr at e
  split at e
  · rename_i x hx
    cases hc : (x.rw && Nat.ble (off + cs.length) x.cells.length) with
    | false => rw [hc] at e; cases e
    | true =>
      rw [hc] at e
      simp only [cond_true, Option.some.injEq] at e
      subst e
      simp only [Bool.and_eq_true] at hc
      obtain ⟨hrw, hle⟩ := hc
      have hle := Nat.le_of_ble_eq_true hle
      obtain ⟨c, t, fz, hg, hsz, hfit, hfree, hcells⟩ := H.blk b x L hx hb
      have hlen := VRels.length hr
      refine ⟨_, run_storeCells_free L.blk (L.base + off) t fz us 0 c w hg (fz_free (hfree hrw)) (by omega) ho, ?_⟩
      refine H.setRow hx hrw hb ?_ ?_ ?_
      · simp only [List.size_toArray, List.length_append, List.length_take, List.length_drop, Array.length_toList]; omega
      · simp only [splice, List.length_append, List.length_take, List.length_drop]; omega
      · intro i v hv
        simp only [splice, List.getElem?_append, List.length_take, List.length_append, List.getElem?_take, List.getElem?_drop] at hv
        simp only [List.getElem?_toArray, List.getElem?_append, List.length_take, List.length_append, Array.length_toList, List.getElem?_take, List.getElem?_drop, Array.getElem?_toList]
        by_cases h1 : i < off
        · rw [if_pos (by omega), if_pos (by omega), if_pos h1] at hv
          rw [if_pos (by omega), if_pos (by omega), if_pos (by omega)]
          exact hcells i v hv
        · by_cases h2 : i < off + cs.length
          · rw [if_pos (by omega), if_neg (by omega)] at hv
            rw [if_pos (by omega), if_neg (by omega)]
            obtain ⟨u, hu, hru⟩ := VRels.get hr _ _ hv
            refine ⟨u, ?_, hru, ho u (List.mem_of_getElem? hu)⟩
            rw [← hu]
            congr 1
            omega
          · rw [if_neg (by omega)] at hv
            rw [if_neg (by omega)]
            have : off + cs.length + (i - (min off x.cells.length + cs.length)) = i := by omega
            rw [this] at hv
            have h3 := hcells i v hv
            have : L.base + off + 0 + us.length + (L.base + i - (min (L.base + off + 0) c.size + us.length)) = L.base + i := by omega
            rw [this]
            exact h3
  · cases e

def Phi.set (φ : Phi) (b : Nat) (L : Loc) : Phi := fun i => if i = b then some L else φ i

theorem Phi.set_ext {φ : Phi} {b : Nat} {L : Loc} (h : φ b = none) : Ext φ (φ.set b L) := by
  intro i L' e
  unfold Phi.set
  split
  · rename_i hi; subst hi; rw [h] at e; cases e
  · exact e

/-- A new block. -/
theorem HRel.alloc {φ : Phi} {h : Heap} {w : World} (H : HRel φ h w) {cs : List AVal} {c : Array Value} (t : TypeId) (fz : Nat × Nat) (hfz : fz.1 = fz.2 ∨ c.size ≤ fz.1) (hfit : cs.length ≤ c.size)
    (hcells : ∀ (i : Nat) (v : AVal), cs[i]? = some v → ∃ u : Value, c[i]? = some u ∧ VRel φ v u ∧ u.oneCell' = true) {w' : World} (hw : w'.heap = w.heap.push (.cells c t fz)) (hos : w'.os = w.os) (htape : w'.tape = w.tape) (hout : w'.output = w.output) :
    HRel (φ.set h.next ⟨w.heap.size, 0, c.size⟩) (h.alloc cs) w' ∧ Step φ h w (φ.set h.next ⟨w.heap.size, 0, c.size⟩) (h.alloc cs) w' := by
  have hnone : φ h.next = none := by
    cases hn : φ h.next with
    | none => rfl
    | some L => have := (H.dom _ _ hn).1; omega
  have hext : Ext φ (φ.set h.next ⟨w.heap.size, 0, c.size⟩) := Phi.set_ext hnone
  have hcase : ∀ b' x', (h.alloc cs).blk b' = some x' → (b' = h.next ∧ x' = ⟨cs, true⟩) ∨ (b' < h.next ∧ h.blk b' = some x') := by
    intro b' x' e
    simp only [Heap.alloc] at e
    cases hbe : Nat.beq b' h.next with
    | true =>
      rw [hbe] at e
      cases e
      exact .inl ⟨Nat.eq_of_beq_eq_true hbe, rfl⟩
    | false =>
      rw [hbe] at e
      exact .inr ⟨H.live b' x' e, e⟩
  have hphi : ∀ b' L', (φ.set h.next ⟨w.heap.size, 0, c.size⟩) b' = some L' → (b' = h.next ∧ L' = ⟨w.heap.size, 0, c.size⟩) ∨ (b' ≠ h.next ∧ φ b' = some L') := by
    intro b' L' e
    unfold Phi.set at e
    split at e
    · cases e; exact .inl ⟨‹_›, rfl⟩
    · exact .inr ⟨‹_›, e⟩
  have hold : ∀ k, k < w.heap.size → w'.heap[k]? = w.heap[k]? := by
    intro k hk
    rw [hw, Array.getElem?_push, if_neg (by omega)]
  have hnew : w'.heap[w.heap.size]? = some (.cells c t fz) := by
    rw [hw, Array.getElem?_push, if_pos rfl]
  have hsize : w'.heap.size = w.heap.size + 1 := by rw [hw]; simp
  refine ⟨⟨?_, ?_, ?_, ?_, (fun b' hb' => by obtain ⟨m, hm⟩ := H.pin b' hb'; exact ⟨m, hext _ _ hm⟩)⟩, ⟨hext, by simp [Heap.alloc], ?_, ?_, by omega, fun b' hb' _ => h.alloc_other _ (by omega), fun k hk _ => hold k hk, hos, htape, hout⟩⟩
  · intro b' L' hb'
    rcases hphi b' L' hb' with ⟨rfl, rfl⟩ | ⟨_, hb'⟩
    · exact ⟨Nat.lt_succ_self _, by rw [hsize]; exact Nat.lt_succ_self _⟩
    · have := H.dom b' L' hb'
      exact ⟨Nat.lt_succ_of_lt this.1, by omega⟩
  · intro b' x' hx'
    rcases hcase b' x' hx' with ⟨rfl, rfl⟩ | ⟨hlt, h2⟩
    · exact Nat.lt_succ_self _
    · exact Nat.lt_succ_of_lt hlt
  · intro b' x' L' hx' hb'
    rcases hcase b' x' hx' with ⟨rfl, rfl⟩ | ⟨hlt, h2⟩
    · rcases hphi _ L' hb' with ⟨_, rfl⟩ | ⟨hne, _⟩
      · refine ⟨c, t, fz, hnew, rfl, by simpa using hfit, fun _ => hfz, ?_⟩
        intro i v hv
        obtain ⟨u, hu, hr, ho⟩ := hcells i v hv
        exact ⟨u, by simpa using hu, VRel.ext hext v hr, ho⟩
      · exact absurd rfl hne
    · rcases hphi b' L' hb' with ⟨rfl, _⟩ | ⟨_, hb'⟩
      · omega
      · obtain ⟨c1, t1, fz1, hg1, h1, h2', h3, h4⟩ := H.blk b' x' L' h2 hb'
        refine ⟨c1, t1, fz1, by rw [hold _ (H.dom b' L' hb').2]; exact hg1, h1, h2', h3, ?_⟩
        intro i v hv
        obtain ⟨u, hu, hr, ho⟩ := h4 i v hv
        exact ⟨u, hu, VRel.ext hext v hr, ho⟩
  · intro b1 b2 x1 x2 L1 L2 hne h1 h2 hr p1 p2
    rcases hcase b1 x1 h1 with ⟨rfl, rfl⟩ | ⟨hn1, h1⟩
    · rcases hcase b2 x2 h2 with ⟨rfl, rfl⟩ | ⟨hn2, h2⟩
      · exact absurd rfl hne
      · rcases hphi _ L1 p1 with ⟨_, rfl⟩ | ⟨hq, _⟩
        · rcases hphi b2 L2 p2 with ⟨rfl, _⟩ | ⟨_, p2⟩
          · omega
          · have := (H.dom b2 L2 p2).2; simp; omega
        · exact absurd rfl hq
    · rcases hphi b1 L1 p1 with ⟨rfl, _⟩ | ⟨_, p1⟩
      · omega
      · rcases hcase b2 x2 h2 with ⟨rfl, rfl⟩ | ⟨hn2, h2⟩
        · rcases hphi _ L2 p2 with ⟨_, rfl⟩ | ⟨hq, _⟩
          · have := (H.dom b1 L1 p1).2; simp; omega
          · exact absurd rfl hq
        · rcases hphi b2 L2 p2 with ⟨rfl, _⟩ | ⟨_, p2⟩
          · omega
          · exact H.apart b1 b2 x1 x2 L1 L2 hne h1 h2 hr p1 p2
  · intro b' x' hlt hx'
    rcases hcase b' x' hx' with ⟨rfl, rfl⟩ | ⟨_, h2⟩
    · omega
    · exact ⟨x', h2, rfl⟩
  · intro b' L' h1 h2
    rcases hphi b' L' h2 with ⟨rfl, rfl⟩ | ⟨_, h2⟩
    · exact ⟨Nat.le_refl _, .inl (Nat.le_refl _)⟩
    · rw [h1] at h2; cases h2

/-- A new block under a name that was held ready. -/
theorem HRel.allocAt {φ : Phi} {h : Heap} {w : World} (H : HRel φ h w) {b : Nat} (hnone : φ b = none) (hlt : b < h.next) {cs : List AVal} {c : Array Value} (t : TypeId) (fz : Nat × Nat) (hfz : fz.1 = fz.2 ∨ c.size ≤ fz.1) (hfit : cs.length ≤ c.size)
    (hcells : ∀ (i : Nat) (v : AVal), cs[i]? = some v → ∃ u : Value, c[i]? = some u ∧ VRel φ v u ∧ u.oneCell' = true) {w' : World} (hw : w'.heap = w.heap.push (.cells c t fz)) :
    HRel (φ.set b ⟨w.heap.size, 0, c.size⟩) (h.setBlk b (some ⟨cs, true⟩)) w' := by
  have hext : Ext φ (φ.set b ⟨w.heap.size, 0, c.size⟩) := Phi.set_ext hnone
  have hcase : ∀ b' x', (h.setBlk b (some ⟨cs, true⟩)).blk b' = some x' → (b' = b ∧ x' = ⟨cs, true⟩) ∨ (b' ≠ b ∧ h.blk b' = some x') := by
    intro b' x' e
    by_cases hb : b' = b
    · subst hb
      rw [h.setBlk_at] at e
      cases e
      exact .inl ⟨rfl, rfl⟩
    · rw [h.setBlk_other _ hb] at e
      exact .inr ⟨hb, e⟩
  have hphi : ∀ b' L', (φ.set b ⟨w.heap.size, 0, c.size⟩) b' = some L' → (b' = b ∧ L' = ⟨w.heap.size, 0, c.size⟩) ∨ (b' ≠ b ∧ φ b' = some L') := by
    intro b' L' e
    unfold Phi.set at e
    split at e
    · cases e; exact .inl ⟨‹_›, rfl⟩
    · exact .inr ⟨‹_›, e⟩
  have hold : ∀ k, k < w.heap.size → w'.heap[k]? = w.heap[k]? := by
    intro k hk
    rw [hw, Array.getElem?_push, if_neg (by omega)]
  have hnew : w'.heap[w.heap.size]? = some (.cells c t fz) := by
    rw [hw, Array.getElem?_push, if_pos rfl]
  have hsize : w'.heap.size = w.heap.size + 1 := by rw [hw]; simp
  refine ⟨?_, ?_, ?_, ?_, (fun b' hb' => by obtain ⟨m, hm⟩ := H.pin b' hb'; exact ⟨m, hext _ _ hm⟩)⟩
  · intro b' L' hb'
    rcases hphi b' L' hb' with ⟨rfl, rfl⟩ | ⟨_, hb'⟩
    · exact ⟨hlt, by rw [hsize]; exact Nat.lt_succ_self _⟩
    · have := H.dom b' L' hb'
      exact ⟨this.1, by omega⟩
  · intro b' x' hx'
    rcases hcase b' x' hx' with ⟨rfl, rfl⟩ | ⟨_, h2⟩
    · exact hlt
    · exact H.live b' x' h2
  · intro b' x' L' hx' hb'
    rcases hcase b' x' hx' with ⟨rfl, rfl⟩ | ⟨hne, h2⟩
    · rcases hphi _ L' hb' with ⟨_, rfl⟩ | ⟨hne, _⟩
      · refine ⟨c, t, fz, hnew, rfl, by simpa using hfit, fun _ => hfz, ?_⟩
        intro i v hv
        obtain ⟨u, hu, hr, ho⟩ := hcells i v hv
        exact ⟨u, by simpa using hu, VRel.ext hext v hr, ho⟩
      · exact absurd rfl hne
    · rcases hphi b' L' hb' with ⟨rfl, _⟩ | ⟨_, hb'⟩
      · exact absurd rfl hne
      · obtain ⟨c1, t1, fz1, hg1, h1, h2', h3, h4⟩ := H.blk b' x' L' h2 hb'
        refine ⟨c1, t1, fz1, by rw [hold _ (H.dom b' L' hb').2]; exact hg1, h1, h2', h3, ?_⟩
        intro i v hv
        obtain ⟨u, hu, hr, ho⟩ := h4 i v hv
        exact ⟨u, hu, VRel.ext hext v hr, ho⟩
  · intro b1 b2 x1 x2 L1 L2 hne h1 h2 hr p1 p2
    rcases hcase b1 x1 h1 with ⟨e1, e1'⟩ | ⟨hn1, h1'⟩
    · rcases hcase b2 x2 h2 with ⟨e2, e2'⟩ | ⟨hn2, h2'⟩
      · exact absurd (e1.trans e2.symm) hne
      · rcases hphi _ L1 p1 with ⟨_, rfl⟩ | ⟨hq, _⟩
        · rcases hphi b2 L2 p2 with ⟨e, _⟩ | ⟨_, q2⟩
          · exact absurd e hn2
          · have := (H.dom b2 L2 q2).2; simp; omega
        · exact absurd e1 hq
    · rcases hphi b1 L1 p1 with ⟨e, _⟩ | ⟨_, q1⟩
      · exact absurd e hn1
      · rcases hcase b2 x2 h2 with ⟨e2, e2'⟩ | ⟨hn2, h2'⟩
        · rcases hphi _ L2 p2 with ⟨_, rfl⟩ | ⟨hq, _⟩
          · have := (H.dom b1 L1 q1).2; simp; omega
          · exact absurd e2 hq
        · rcases hphi b2 L2 p2 with ⟨e, _⟩ | ⟨_, q2⟩
          · exact absurd e hn2
          · exact H.apart b1 b2 x1 x2 L1 L2 hne h1' h2' hr q1 q2

/-- A block let go. -/
theorem HRel.drop {φ : Phi} {h : Heap} {w : World} (H : HRel φ h w) (b : Nat) : HRel φ (h.setBlk b none) w := by
  have hcase : ∀ b' x', (h.setBlk b none).blk b' = some x' → h.blk b' = some x' := by
    intro b' x' e
    simp only [Heap.setBlk] at e
    cases hbe : Nat.beq b' b with
    | true => rw [hbe] at e; cases e
    | false => rw [hbe] at e; exact e
  exact ⟨H.dom, fun b' x' hx' => H.live b' x' (hcase b' x' hx'), fun b' x' L' h1 h2 => H.blk b' x' L' (hcase _ _ h1) h2,
    fun b1 b2 x1 x2 L1 L2 hne h1 h2 => H.apart b1 b2 x1 x2 L1 L2 hne (hcase _ _ h1) (hcase _ _ h2), H.pin⟩

theorem Step.drop {φ : Phi} (h : Heap) (w : World) (b : Nat) (hb : φ b ≠ none) : Step φ h w φ (h.setBlk b none) w := by
  have hcase : ∀ b' x', (h.setBlk b none).blk b' = some x' → h.blk b' = some x' := by
    intro b' x' e
    simp only [Heap.setBlk] at e
    cases hbe : Nat.beq b' b with
    | true => rw [hbe] at e; cases e
    | false => rw [hbe] at e; exact e
  exact ⟨Ext.refl _, Nat.le_refl _, fun b' x' _ hx => ⟨x', hcase _ _ hx, rfl⟩, fun _ _ h1 h2 => (by rw [h1] at h2; cases h2), Nat.le_refl _, fun b' _ hn => h.setBlk_other _ fun e => hb (by rw [← e, hn]), fun _ _ _ => rfl, rfl, rfl, rfl⟩

end
end Go.Fw

/- What appending, copying, making of slices does in the model. -/
namespace Go.Fw
set_option linter.unusedSimpArgs false
set_option linter.unusedVariables false

section
variable {P : Program}

def OkTo (P : Program) (φ : Phi) (h : Heap) (w : World) (sem : Sem Value) (r : AVal) (h' : Heap) : Prop :=
  ∃ u w' φ', sem.run P w = .ok u w' ∧ VRel φ' r u ∧ HRel φ' h' w' ∧ Step φ h w φ' h' w'

theorem reps_length (z : List AVal) : ∀ n, (reps z n).length = n * z.length
  | 0 => by simp [reps]
  | n + 1 => by simp [reps, reps_length z n, Nat.add_mul, Nat.add_comm]

def repsV (z : List Value) : Nat → List Value
  | 0 => []
  | n + 1 => z ++ repsV z n
theorem repsV_length (z : List Value) : ∀ n, (repsV z n).length = n * z.length
  | 0 => by simp [repsV]
  | n + 1 => by simp [repsV, repsV_length z n, Nat.add_mul, Nat.add_comm]
theorem reps_rel {φ : Phi} {z : List AVal} {v : List Value} (h : VRels φ z v) : ∀ n, VRels φ (reps z n) (repsV v n)
  | 0 => by simp [reps, repsV, VRels]
  | n + 1 => VRels.append h (reps_rel h n)
theorem repsV_ones {v : List Value} (h : ∀ u ∈ v, u.oneCell' = true) : ∀ n, ∀ u ∈ repsV v n, u.oneCell' = true
  | 0, u, hu => by simp [repsV] at hu
  | n + 1, u, hu => by
    rcases List.mem_append.1 hu with hu | hu
    · exact h u hu
    · exact repsV_ones h n u hu

theorem repsV_get (v : List Value) : ∀ (n i : Nat), i < n * v.length → (repsV v n)[i]? = v[i % v.length]?
  | 0, i, h => by simp at h
  | n + 1, i, h => by
    rw [repsV, List.getElem?_append]
    split
    · rename_i hlt; rw [Nat.mod_eq_of_lt hlt]
    · rename_i hge
      have hge : v.length ≤ i := by omega
      rw [repsV_get v n (i - v.length) (by rw [Nat.add_mul] at h; omega)]
      rw [← Nat.mod_eq_sub_mod hge]

theorem zeroCells_eq (z : Array Value) (n : Nat) : (Builtin.zeroCells z n).toList = repsV z.toList n := by
  apply List.ext_getElem?
  intro i
  unfold Builtin.zeroCells
  rw [Array.toList_map, Array.toList_range, List.getElem?_map]
  by_cases h : i < n * z.size
  · rw [List.getElem?_range h, repsV_get _ _ _ (by simpa using h)]
    have hpos : 0 < z.size := by
      rcases Nat.eq_zero_or_pos z.size with h0 | h0
      · rw [h0] at h; simp at h
      · exact h0
    have hm : i % z.size < z.size := Nat.mod_lt _ hpos
    simp [hm]
  · rw [List.getElem?_eq_none (by simpa using h), List.getElem?_eq_none (by rw [repsV_length]; simpa using h)]
    rfl

theorem range_map_eq (z : Array Value) (n : Nat) : ((Array.range (n * z.size)).map (z[· % z.size]!)).toList = repsV z.toList n := zeroCells_eq z n

theorem bytes_rel {φ : Phi} : ∀ (l : List UInt8), VRels φ (byteCells l) (l.map fun b => .int .u8 b.toNat)
  | [] => by simp [byteCells, VRels]
  | b :: l => by
    simp only [byteCells, List.map_cons, VRels]
    exact ⟨vrel_int.2 rfl, bytes_rel l⟩
theorem bytes_ones (l : List UInt8) : ∀ u ∈ (l.map fun b => (.int .u8 b.toNat : Value)), u.oneCell' = true := by
  intro u hu
  obtain ⟨b, _, rfl⟩ := List.mem_map.1 hu
  rfl

/-- What is appended. -/
theorem news_rel {φ : Phi} {h : Heap} {w : World} (H : HRel φ h w) {es bytes : Nat} {zero : List AVal} {x : AVal} {v : Value} (hx : VRel φ x v) {n : Nat} {news : List AVal} (e : aNews es bytes zero false x h = some (n, news)) :
    (Builtin.lenOf v).run P w = .ok n w ∧ ∃ us : List Value, (Builtin.firstCells es n v).run P w = .ok us.toArray w ∧ VRels φ news us ∧ (∀ u ∈ us, u.oneCell' = true) ∧ us.length = n * es := by
  unfold aNews at e
  split at e
  · exact absurd ‹false = true› (by simp)
  · cases e
    rw [vrel_nilSlice.1 hx]
    exact ⟨rfl, [], by simp [Builtin.firstCells], by simp [VRels], by simp, by simp⟩
  · rename_i l _
    cases hb : Nat.beq es 1 with
    | false => rw [hb] at e; cases e
    | true =>
      rw [hb] at e
      have := Nat.eq_of_beq_eq_true hb
      subst this
      cases e
      rw [vrel_str.1 hx]
      have hsz : (ByteArray.mk l.toArray).size = l.length := by show l.toArray.size = _; simp
      refine ⟨by simp [Builtin.lenOf, hsz], l.map (fun b => .int .u8 b.toNat), ?_, bytes_rel l, bytes_ones l, by simp⟩
      simp only [Builtin.firstCells]
      rw [ByteArray.extract_mk]
      simp
  · rename_i b off len cap es' ex _
    obtain ⟨L, a, c, hb, rfl, hl1, hl2, hex, hpos⟩ := vrel_slice.1 hx
    cases h0 : Nat.beq len 0 with
    | true =>
      rw [h0] at e
      cases e
      have := Nat.eq_of_beq_eq_true h0
      subst this
      exact ⟨rfl, [], by simp [Builtin.firstCells, loadCells, loadCellsFrom], by simp [VRels], by simp, by simp⟩
    | false =>
      rw [h0] at e
      have hne : len ≠ 0 := Nat.ne_of_beq_eq_false h0
      cases hbe : Nat.beq es es' with
      | false => rw [hbe] at e; cases e
      | true =>
        rw [hbe] at e
        simp only [cond_true, cond_false, Option.bind_eq_some_iff, Option.some.injEq, Prod.mk.injEq] at e
        obtain ⟨cs, hcs, rfl, rfl⟩ := e
        obtain ⟨ha, _⟩ := hpos (by omega)
        obtain ⟨us, h1, h2, h3, h4⟩ := H.rd hcs hb
        refine ⟨rfl, us, ?_, h1, h2, h3⟩
        subst ha
        simp only [Builtin.firstCells]
        rw [← h3]
        exact loadCells_of h4
  · cases e

theorem wrap64_small {n : Int} (h0 : 0 ≤ n) (h1 : n ≤ 140737488355328) : IntKind.i64.wrap n = n := by
  have h2 : n % (2 ^ 64 : Int) = n := Int.emod_eq_of_lt h0 (by omega)
  show (if (true && decide (n % (2 ^ 64 : Int) ≥ (2 ^ 63 : Int))) = true then n % (2 ^ 64 : Int) - 2 ^ 64 else n % (2 ^ 64 : Int)) = n
  simp only [h2, Bool.true_and, decide_eq_true_eq]
  rw [if_neg (by omega)]

theorem nextcap_fits {need old bytes : Nat} (h : old < need) (hb : need * bytes ≤ 140737488355328) (hn : need ≤ 4611686018427387904) : ¬ (Builtin.nextslicecap need old * bytes > 2 ^ 48) := by
  have := growslice_fits h hb
  omega

/-- Append, where there is room. -/
theorem append_room {w : World} {t : TypeId} {ts : Array TypeId} {ty e : TypeId} {es : Nat} (ht : P.underlying t = some (.slice e)) (hs : (P.info? e).map (·.size) = some es)
    {base : Option Addr} {len c : Nat} {v : Value} {n : Nat} {us : List Value} (hts : ts[0]? = some t)
    (hz : (ts[1]? = none) ∨ ∃ u d, ts[1]? = some u ∧ P.underlying u = some d ∧ (∀ k, d ≠ .int k))
    (hlen : (Builtin.lenOf v).run P w = .ok n w) (hnews : (Builtin.firstCells es n v).run P w = .ok us.toArray w) (hroom : len + n ≤ c) :
    (Builtin.append_ ts ty #[.slice base len c, v]).run P w = (match base with | some a => (storeCells (a.add (len * es)) us).run P w | none => .ok () w).andThen fun _ w' => .ok (.slice base (len + n) c) w' := by
  have hs' := run_sizeOf' w hs
  rcases hz with hz | ⟨u, d, hz, hu, hd⟩
  · cases base <;> simp [Builtin.append_, hts, hz, run_underlying ht, hs', hlen, hroom, hnews]
  · have hm : (match d with | .int _ => true | _ => false) = false := by cases d <;> first | rfl | exact (hd _ rfl).elim
    cases base <;> simp [Builtin.append_, hts, hz, run_underlying ht, run_underlying hu, hm, hs', hlen, hroom, hnews]

/-- Append, where there is no room. -/
theorem append_grow {w : World} {t : TypeId} {ts : Array TypeId} {ty e : TypeId} {es bytes : Nat} {z : Value} (ht : P.underlying t = some (.slice e)) (hs : (P.info? e).map (·.size) = some es) (hby : (P.info? e).map (·.bytes) = some bytes)
    (hzv : ∀ w, (zeroValue e).run P w = .ok z w)
    {base : Option Addr} {len c : Nat} {v : Value} {n : Nat} {us old : List Value} (hts : ts[0]? = some t)
    (hz : (ts[1]? = none) ∨ ∃ u d, ts[1]? = some u ∧ P.underlying u = some d ∧ (∀ k, d ≠ .int k))
    (hlen : (Builtin.lenOf v).run P w = .ok n w) (hold : (Builtin.firstCells es len (.slice base len c)).run P w.drew = .ok old.toArray w.drew) (hnews : (Builtin.firstCells es n v).run P w.drew = .ok us.toArray w.drew) (hroom : ¬ len + n ≤ c)
    (hfit : (len + n) * bytes ≤ 140737488355328) (hmost : len + n ≤ 4611686018427387904) :
    ∃ cap, len + n ≤ cap ∧ (Builtin.append_ ts ty #[.slice base len c, v]).run P w =
      .ok (.slice (some ⟨w.heap.size, 0, none⟩) (len + n) cap) (w.drew.alloc (.cells (old.toArray ++ us.toArray ++ Builtin.zeroCells z.cells (cap - (len + n))) e)) := by
  have hs' : ∀ w, (sizeOf e).run P w = .ok es w := fun w => run_sizeOf' w hs
  obtain ⟨i, hi, hib⟩ : ∃ i, P.info? e = some i ∧ i.bytes = bytes := by
    cases hi : P.info? e with
    | none => rw [hi] at hby; cases hby
    | some i => rw [hi] at hby; exact ⟨i, rfl, by simpa using hby⟩
  have hti : ∀ w, (typeInfo e).run P w = .ok i w := fun w => run_typeInfo w hi
  have h2 := nextcap_fits (old := c) (by omega) hfit hmost
  refine ⟨(Question.appendCap (len + n) c e).cut (w.tape w.drawn (.appendCap (len + n) c e)), by simp [Question.cut], ?_⟩
  have hq : (choose (.appendCap (len + n) c e)).run P w = .ok ((Question.appendCap (len + n) c e).cut (w.tape w.drawn (.appendCap (len + n) c e))) w.drew := by
    rw [run_choose]; simp [Question.forced]
  have h64 : ¬ (((len + n : Nat) : Int) > IntKind.i64.max ∧ (False ∨ bytes = 0)) := by
    intro h3
    have : ((len + n : Nat) : Int) > 9223372036854775807 := h3.1
    omega
  rcases hz with hz | ⟨u, d, hz, hu, hd⟩
  · simp only [Builtin.append_, List.getElem?_toArray, List.getElem?_cons_zero, List.getElem?_cons_succ, hts, hz, Sem.run_bind, run_underlying ht, hs', Result.andThen_ok, Sem.run_pure, hlen, Bool.false_eq_true, if_false, hroom, hti, hib]
    rw [if_neg h64]
    simp only [Sem.run_bind, hti, Result.andThen_ok, hib]
    rw [if_neg h2]
    simp only [Sem.run_bind, hti, Result.andThen_ok, hq, run_askRoom, hold, Bool.not_false, if_true, hnews, hzv, newRow, run_newObj, Sem.run_pure]
    rfl
  · have hm : (match d with | .int _ => true | _ => false) = false := by cases d <;> first | rfl | exact (hd _ rfl).elim
    simp only [Builtin.append_, List.getElem?_toArray, List.getElem?_cons_zero, List.getElem?_cons_succ, hts, hz, Sem.run_bind, run_underlying ht, run_underlying hu, hm, hs', Result.andThen_ok, Sem.run_pure, hlen, Bool.false_eq_true, if_false, hroom, hti, hib]
    rw [if_neg h64]
    simp only [Sem.run_bind, hti, Result.andThen_ok, hib]
    rw [if_neg h2]
    simp only [Sem.run_bind, hti, Result.andThen_ok, hq, run_askRoom, hold, Bool.not_false, if_true, hnews, hzv, newRow, run_newObj, Sem.run_pure]
    rfl

/-- The zeros that 'append(s, make(..)..)' lays. -/
theorem zeros_room {w : World} {t u : TypeId} {ik : IntKind} {ts : Array TypeId} {ty e : TypeId} {es bytes : Nat} {z : Value} (ht : P.underlying t = some (.slice e)) (hs : (P.info? e).map (·.size) = some es) (hby : (P.info? e).map (·.bytes) = some bytes)
    (hzv : ∀ w, (zeroValue e).run P w = .ok z w) (hzs : z.cells.size = es)
    {base : Option Addr} {len c : Nat} {k : Int} (hts : ts[0]? = some t) (hz : ts[1]? = some u) (hu : P.underlying u = some (.int ik))
    (h0 : 0 ≤ k) (h1 : k ≤ 140737488355328) (hkb : k * bytes ≤ 140737488355328) (hroom : len + k.toNat ≤ c) :
    (Builtin.append_ ts ty #[.slice base len c, .int .i64 k]).run P w = (match base with | some a => (storeCells (a.add (len * es)) (repsV z.cells.toList k.toNat)).run P w | none => .ok () w).andThen fun _ w' => .ok (.slice base (len + k.toNat) c) w' := by
  have hs' : ∀ w, (sizeOf e).run P w = .ok es w := fun w => run_sizeOf' w hs
  obtain ⟨i, hi, hib⟩ : ∃ i, P.info? e = some i ∧ i.bytes = bytes := by
    cases hi : P.info? e with
    | none => rw [hi] at hby; cases hby
    | some i => rw [hi] at hby; exact ⟨i, rfl, by simpa using hby⟩
  have hti : ∀ w, (typeInfo e).run P w = .ok i w := fun w => run_typeInfo w hi
  have hw := wrap64_small h0 h1
  have hz0 : ¬ k < 0 := by omega
  have hb0 : ¬ k * (bytes : Int) > 2 ^ 48 := by omega
  have happ : ∀ w, (if k.toNat * es = 0 then (pure #[] : Sem (Array Value)) else do pure (Builtin.zeroCells (← zeroValue e).cells k.toNat)).run P w = .ok (repsV z.cells.toList k.toNat).toArray w := by
    intro w
    split
    · rename_i hh
      have : repsV z.cells.toList k.toNat = [] := List.eq_nil_of_length_eq_zero (by rw [repsV_length]; simpa [hzs] using hh)
      rw [this]; rfl
    · simp only [Sem.run_bind, hzv, Result.andThen_ok, Sem.run_pure]
      congr 1
      apply Array.ext'
      rw [zeroCells_eq]
  simp only [Builtin.append_, List.getElem?_toArray, List.getElem?_cons_zero, List.getElem?_cons_succ, hts, hz, Sem.run_bind, run_underlying ht, run_underlying hu, hs', Result.andThen_ok, Sem.run_pure, asInt, asIntOf, hw, if_true, hz0, if_false, hti, hib]
  rw [if_neg hb0]
  simp only [Sem.run_bind, Sem.run_pure, Result.andThen_ok]
  rw [if_pos hroom]
  cases base <;> simp only [Sem.run_bind, Bool.not_true, Bool.false_eq_true, if_false, happ, Result.andThen_ok, Sem.run_pure, List.toList_toArray]

theorem zeros_grow {w : World} {t u : TypeId} {ik : IntKind} {ts : Array TypeId} {ty e : TypeId} {es bytes : Nat} {z : Value} (ht : P.underlying t = some (.slice e)) (hs : (P.info? e).map (·.size) = some es) (hby : (P.info? e).map (·.bytes) = some bytes)
    (hzv : ∀ w, (zeroValue e).run P w = .ok z w) (hzs : z.cells.size = es)
    {base : Option Addr} {len c : Nat} {k : Int} {old : List Value} (hts : ts[0]? = some t) (hz : ts[1]? = some u) (hu : P.underlying u = some (.int ik))
    (h0 : 0 ≤ k) (h1 : k ≤ 140737488355328) (hkb : k * bytes ≤ 140737488355328) (hroom : ¬ len + k.toNat ≤ c)
    (hold : (Builtin.firstCells es len (.slice base len c)).run P w.drew = .ok old.toArray w.drew)
    (hfit : (len + k.toNat) * bytes ≤ 140737488355328) (hmost : len + k.toNat ≤ 4611686018427387904) :
    ∃ cap, len + k.toNat ≤ cap ∧ (Builtin.append_ ts ty #[.slice base len c, .int .i64 k]).run P w =
      .ok (.slice (some ⟨w.heap.size, 0, none⟩) (len + k.toNat) cap) (w.drew.alloc (.cells (old.toArray ++ (repsV z.cells.toList k.toNat).toArray ++ Builtin.zeroCells z.cells (cap - (len + k.toNat))) e)) := by
  have hs' : ∀ w, (sizeOf e).run P w = .ok es w := fun w => run_sizeOf' w hs
  obtain ⟨i, hi, hib⟩ : ∃ i, P.info? e = some i ∧ i.bytes = bytes := by
    cases hi : P.info? e with
    | none => rw [hi] at hby; cases hby
    | some i => rw [hi] at hby; exact ⟨i, rfl, by simpa using hby⟩
  have hti : ∀ w, (typeInfo e).run P w = .ok i w := fun w => run_typeInfo w hi
  have hw := wrap64_small h0 h1
  have hz0 : ¬ k < 0 := by omega
  have hb0 : ¬ k * (bytes : Int) > 2 ^ 48 := by omega
  have happ : ∀ w, (if k.toNat * es = 0 then (pure #[] : Sem (Array Value)) else do pure (Builtin.zeroCells (← zeroValue e).cells k.toNat)).run P w = .ok (repsV z.cells.toList k.toNat).toArray w := by
    intro w
    split
    · rename_i hh
      have : repsV z.cells.toList k.toNat = [] := List.eq_nil_of_length_eq_zero (by rw [repsV_length]; simpa [hzs] using hh)
      rw [this]; rfl
    · simp only [Sem.run_bind, hzv, Result.andThen_ok, Sem.run_pure]
      congr 1
      apply Array.ext'
      rw [zeroCells_eq]
  have h2 := nextcap_fits (old := c) (by omega) hfit hmost
  refine ⟨(Question.appendCap (len + k.toNat) c e).cut (w.tape w.drawn (.appendCap (len + k.toNat) c e)), by simp [Question.cut], ?_⟩
  have hq : (choose (.appendCap (len + k.toNat) c e)).run P w = .ok ((Question.appendCap (len + k.toNat) c e).cut (w.tape w.drawn (.appendCap (len + k.toNat) c e))) w.drew := by
    rw [run_choose]; simp [Question.forced]
  have h64 : ¬ (((len + k.toNat : Nat) : Int) > IntKind.i64.max ∧ (True ∨ bytes = 0)) := by
    intro h3
    have : ((len + k.toNat : Nat) : Int) > 9223372036854775807 := h3.1
    omega
  simp only [Builtin.append_, List.getElem?_toArray, List.getElem?_cons_zero, List.getElem?_cons_succ, hts, hz, Sem.run_bind, run_underlying ht, run_underlying hu, hs', Result.andThen_ok, Sem.run_pure, asInt, asIntOf, hw, if_true, hz0, if_false, hti, hib]
  rw [if_neg hb0]
  simp only [Sem.run_bind, Sem.run_pure, Result.andThen_ok]
  rw [if_neg hroom]
  simp only [Sem.run_bind, hti, Result.andThen_ok, hib]
  rw [if_neg h64]
  simp only [Sem.run_bind, hti, Result.andThen_ok, hib]
  rw [if_neg h2]
  simp only [Sem.run_bind, hti, Result.andThen_ok, hq, run_askRoom, hold, Bool.not_true, Bool.false_eq_true, if_false, happ, hzv, newRow, run_newObj, Sem.run_pure]
  rfl

end
end Go.Fw

/- Append, copy, clear, make and their like keep what the abstract heap says. -/
namespace Go.Fw
set_option linter.unusedSimpArgs false
set_option linter.unusedVariables false

section
variable {P : Program}

/-- How 'append' runs with a second operand: where there is room; where there is none. -/
structure AppRun (P : Program) (φ : Phi) (w : World) (e : TypeId) (es bytes : Nat) (z : Value) (ts : Array TypeId) (ty : TypeId) (xv : Value) (n : Nat) (news : List AVal) : Prop where
  room : ∃ us : List Value, VRels φ news us ∧ (∀ u ∈ us, u.oneCell' = true) ∧ us.length = n * es ∧ ∀ (base : Option Addr) (len c : Nat), len + n ≤ c →
    (Builtin.append_ ts ty #[.slice base len c, xv]).run P w = (match base with | some a => (storeCells (a.add (len * es)) us).run P w | none => .ok () w).andThen fun _ w' => .ok (.slice base (len + n) c) w'
  grow : ∃ us : List Value, VRels φ news us ∧ (∀ u ∈ us, u.oneCell' = true) ∧ us.length = n * es ∧ ∀ (base : Option Addr) (len c : Nat) (old : List Value), ¬ len + n ≤ c →
    (Builtin.firstCells es len (.slice base len c)).run P w.drew = .ok old.toArray w.drew → (len + n) * bytes ≤ 140737488355328 → len + n ≤ 4611686018427387904 →
    ∃ cap, len + n ≤ cap ∧ (Builtin.append_ ts ty #[.slice base len c, xv]).run P w =
      .ok (.slice (some ⟨w.heap.size, 0, none⟩) (len + n) cap) (w.drew.alloc (.cells (old.toArray ++ us.toArray ++ Builtin.zeroCells z.cells (cap - (len + n))) e))

theorem appRun {φ : Phi} {h : Heap} {w : World} (H : HRel φ h w) {t e : TypeId} {ts : Array TypeId} {ty : TypeId} {es bytes : Nat} {zero : List AVal} {zeros : Bool} {z : Value} (ht : P.underlying t = some (.slice e)) (hs : (P.info? e).map (·.size) = some es)
    (hby : (P.info? e).map (·.bytes) = some bytes) (hzv : ∀ w, (zeroValue e).run P w = .ok z w) (hzr : VRels φ zero z.cells.toList) (hzo : ∀ u ∈ z.cells.toList, u.oneCell' = true) (hzl : zero.length = es) (hts : ts[0]? = some t)
    (hk : (zeros = false ∧ (ts[1]? = none ∨ ∃ u d, ts[1]? = some u ∧ P.underlying u = some d ∧ (∀ k, d ≠ .int k))) ∨ (zeros = true ∧ ∃ u ik, ts[1]? = some u ∧ P.underlying u = some (.int ik)))
    {x : AVal} {xv : Value} (hx : VRel φ x xv) {n : Nat} {news : List AVal} (en : aNews es bytes zero zeros x h = some (n, news)) : AppRun P φ w e es bytes z ts ty xv n news := by
  have hzs : z.cells.size = es := by have := VRels.length hzr; simp at this; omega
  rcases hk with ⟨rfl, hk⟩ | ⟨rfl, u, ik, h1, h2⟩
  · obtain ⟨a1, us, a2, a3, a4, a5⟩ := news_rel (P := P) H hx en
    obtain ⟨b1, us', b2, b3, b4, b5⟩ := news_rel (P := P) (w := w.drew) (H.world rfl) hx en
    exact ⟨⟨us, a3, a4, a5, fun base len c hr => append_room ht hs hts hk a1 a2 hr⟩,
      ⟨us', b3, b4, b5, fun base len c old hr ho hf hm => append_grow ht hs hby hzv hts hk a1 ho b2 hr hf hm⟩⟩
  · unfold aNews at en
    split at en
    · rename_i k _
      split at en
      · rename_i hc
        cases en
        have r1 := reps_rel hzr k.toNat
        have r2 := repsV_ones hzo k.toNat
        have r3 : (repsV z.cells.toList k.toNat).length = k.toNat * es := by rw [repsV_length]; simp [hzs]
        rw [vrel_int.1 hx]
        exact ⟨⟨_, r1, r2, r3, fun base len c hr => zeros_room ht hs hby hzv hzs hts h1 h2 hc.1 hc.2.1 hc.2.2 hr⟩,
          ⟨_, r1, r2, r3, fun base len c old hr ho hf hm => zeros_grow ht hs hby hzv hzs hts h1 h2 hc.1 hc.2.1 hc.2.2 hr ho hf hm⟩⟩
      · cases en
    all_goals first | (cases en; done) | exact absurd ‹true = false› (by simp)

/-- A new row for a slice. -/
theorem new_slice {φ : Phi} {h : Heap} {w : World} (H : HRel φ h w) {cs : List AVal} {us : List Value} (hr : VRels φ cs us) (ho : ∀ u ∈ us, u.oneCell' = true) {e : TypeId} {es n cap : Nat} (hl : us.length = n * es) (hcap : n ≤ cap) {rest : Array Value} (hrest : rest.size = (cap - n) * es)
    {w' : World} {fz : Nat × Nat} (hw : w'.heap = w.heap.push (.cells (us.toArray ++ rest) e fz)) (hfz : fz.1 = fz.2 ∨ cap * es ≤ fz.1) (hos : w'.os = w.os) (htape : w'.tape = w.tape) (hout : w'.output = w.output) (lb : Nat) (hlb1 : n ≤ lb) (hlb2 : lb ≤ cap) (ex : Bool) (hex : ex = true → cap = lb) :
    ∃ φ', VRel φ' (.slice h.next 0 n lb es ex) (.slice (some ⟨w.heap.size, 0, none⟩) n cap) ∧ HRel φ' (h.alloc cs) w' ∧ Step φ h w φ' (h.alloc cs) w' := by
  have hsz : (us.toArray ++ rest).size = cap * es := by
    simp only [Array.size_append, List.size_toArray, hl, hrest, ← Nat.add_mul]
    congr 1
    omega
  obtain ⟨h1, h2⟩ := H.alloc (cs := cs) (c := us.toArray ++ rest) e fz (by rw [hsz]; exact hfz) (by rw [VRels.length hr]; simp) (by
    intro i v hv
    obtain ⟨u, hu, hru⟩ := VRels.get hr i v hv
    refine ⟨u, ?_, hru, ho u (List.mem_of_getElem? hu)⟩
    have hlt : i < us.length := (List.getElem?_eq_some_iff.1 hu).1
    rw [Array.getElem?_append, if_pos (by simpa using hlt)]
    simpa using hu) hw hos htape hout
  refine ⟨_, vrel_slice.2 ⟨⟨w.heap.size, 0, (us.toArray ++ rest).size⟩, _, cap, by simp [Phi.set], rfl, hlb1, hlb2, hex, fun _ => ⟨rfl, ?_⟩⟩, h1, h2⟩
  simp only [hsz]
  omega

/-- An append in place onto a block whose room is not known: the block goes on under a new name. -/
theorem HRel.move {φ : Phi} {h : Heap} {w : World} (H : HRel φ h w) {b : Nat} {cs0 : List AVal} {L : Loc} (hx : h.blk b = some ⟨cs0, true⟩) (hb : φ b = some L) {off k : Nat} {old news : List AVal} (hold : h.rd b off k = some old)
    {us : List Value} (hr : VRels φ news us) (ho : ∀ u ∈ us, u.oneCell' = true) (hfit : L.base + off + k + us.length ≤ L.size) :
    ∃ w', (storeCells ⟨L.blk, L.base + off + k, none⟩ us).run P w = .ok () w' ∧ HRel (φ.set h.next ⟨L.blk, L.base + off, L.size⟩) ((h.alloc (old ++ news)).setBlk b none) w' ∧
      Step φ h w (φ.set h.next ⟨L.blk, L.base + off, L.size⟩) ((h.alloc (old ++ news)).setBlk b none) w' := by
  obtain ⟨c, t, fz, hg, hsz, hcf, hfree, hcells⟩ := H.blk b _ L hx hb
  have hfree := hfree rfl
  have hbn : b < h.next := H.live b _ hx
  have hnone : φ h.next = none := by
    cases hn : φ h.next with
    | none => rfl
    | some L => have := (H.dom _ _ hn).1; omega
  have hext : Ext φ (φ.set h.next ⟨L.blk, L.base + off, L.size⟩) := Phi.set_ext hnone
  have hk : off + k ≤ cs0.length ∧ old = (cs0.drop off).take k := by
    unfold Heap.rd at hold
    rw [hx] at hold
    simp only at hold
    cases hle : Nat.ble (off + k) cs0.length with
    | false => rw [hle] at hold; cases hold
    | true => rw [hle] at hold; cases hold; exact ⟨Nat.le_of_ble_eq_true hle, rfl⟩
  obtain ⟨hk, rfl⟩ := hk
  have holdlen : ((cs0.drop off).take k).length = k := by simp; omega
  have hlen := VRels.length hr
  generalize hc' : (c.toList.take (L.base + off + k + 0) ++ us ++ c.toList.drop (L.base + off + k + 0 + us.length)).toArray = c'
  have hsz' : c'.size = L.size := by
    rw [← hc']
    simp only [List.size_toArray, List.length_append, List.length_take, List.length_drop, Array.length_toList]; omega
  have hget : ∀ i v, ((cs0.drop off).take k ++ news)[i]? = some v → ∃ u, c'[L.base + off + i]? = some u ∧ VRel φ v u ∧ u.oneCell' = true := by
    intro i v hv
    rw [← hc']
    simp only [List.getElem?_toArray, List.getElem?_append, List.length_take, List.length_append, Array.length_toList, List.getElem?_take, List.getElem?_drop, Array.getElem?_toList]
    rw [List.getElem?_append, holdlen] at hv
    by_cases h1 : i < k
    · rw [if_pos h1, List.getElem?_take, if_pos h1, List.getElem?_drop] at hv
      rw [if_pos (by omega), if_pos (by omega), if_pos (by omega)]
      have := hcells _ _ hv
      rwa [← Nat.add_assoc] at this
    · rw [if_neg h1] at hv
      obtain ⟨u, hu, hru⟩ := VRels.get hr _ _ hv
      have hlt : i - k < us.length := (List.getElem?_eq_some_iff.1 hu).1
      rw [if_pos (by omega), if_neg (by omega)]
      refine ⟨u, ?_, hru, ho u (List.mem_of_getElem? hu)⟩
      rw [← hu]
      congr 1
      omega
  have hcase : ∀ b' x', ((h.alloc ((cs0.drop off).take k ++ news)).setBlk b none).blk b' = some x' → (b' = h.next ∧ x' = ⟨(cs0.drop off).take k ++ news, true⟩) ∨ (b' < h.next ∧ b' ≠ b ∧ h.blk b' = some x') := by
    intro b' x' e
    simp only [Heap.setBlk, Heap.alloc] at e
    cases hbe0 : Nat.beq b' b with
    | true => rw [hbe0] at e; cases e
    | false =>
      rw [hbe0] at e
      simp only [cond_false] at e
      cases hbe : Nat.beq b' h.next with
      | true =>
        rw [hbe] at e
        cases e
        exact .inl ⟨Nat.eq_of_beq_eq_true hbe, rfl⟩
      | false =>
        rw [hbe] at e
        exact .inr ⟨H.live b' x' e, Nat.ne_of_beq_eq_false hbe0, e⟩
  have hphi : ∀ b' L', (φ.set h.next ⟨L.blk, L.base + off, L.size⟩) b' = some L' → (b' = h.next ∧ L' = ⟨L.blk, L.base + off, L.size⟩) ∨ (b' ≠ h.next ∧ φ b' = some L') := by
    intro b' L' e
    unfold Phi.set at e
    split at e
    · cases e; exact .inl ⟨‹_›, rfl⟩
    · exact .inr ⟨‹_›, e⟩
  have hLlt := (H.dom b L hb).2
  refine ⟨w.setRow L.blk c', ?_, ⟨?_, ?_, ?_, ?_, (fun b' hb' => by obtain ⟨m, hm⟩ := H.pin b' hb'; exact ⟨m, hext _ _ hm⟩)⟩, ⟨hext, by simp [Heap.alloc, Heap.setBlk], ?_, ?_, by simp, fun b' hb' hn => by rw [Heap.setBlk_other _ _ (fun e => by rw [e, hb] at hn; cases hn), h.alloc_other _ (by omega)], ?_, rfl, rfl, rfl⟩⟩
  · rw [← hc']
    exact run_storeCells_free L.blk (L.base + off + k) t fz us 0 c w hg (fz_free hfree) (by omega) ho
  · intro b' L' hb'
    rcases hphi b' L' hb' with ⟨rfl, rfl⟩ | ⟨_, hb'⟩
    · exact ⟨Nat.lt_succ_self _, by simpa using hLlt⟩
    · have := H.dom b' L' hb'
      exact ⟨Nat.lt_succ_of_lt this.1, by simpa using this.2⟩
  · intro b' x' hx'
    rcases hcase b' x' hx' with ⟨rfl, rfl⟩ | ⟨hlt, _, h2⟩
    · exact Nat.lt_succ_self _
    · exact Nat.lt_succ_of_lt hlt
  · intro b' x' L' hx' hb'
    rcases hcase b' x' hx' with ⟨rfl, rfl⟩ | ⟨hlt, hne, h2⟩
    · rcases hphi _ L' hb' with ⟨_, rfl⟩ | ⟨hne, _⟩
      · refine ⟨c', t, fz, setRow_heap w L.blk c c' t fz hg, hsz', ?_, fun _ => by have := hfree; omega, ?_⟩
        · simp only [List.length_append, holdlen]; omega
        · intro i v hv
          obtain ⟨u, hu, hru, hou⟩ := hget i v hv
          exact ⟨u, hu, VRel.ext hext v hru, hou⟩
      · exact absurd rfl hne
    · rcases hphi b' L' hb' with ⟨rfl, _⟩ | ⟨_, hb'⟩
      · omega
      · obtain ⟨c1, t1, fz1, hg1, h1, h2', h3, h4⟩ := H.blk b' x' L' h2 hb'
        have hne' : L'.blk ≠ L.blk := fun e => H.apart b b' _ x' L L' (Ne.symm hne) hx h2 rfl hb hb' e.symm
        refine ⟨c1, t1, fz1, by rw [setRow_other w L.blk L'.blk c' hne']; exact hg1, h1, h2', h3, ?_⟩
        intro i v hv
        obtain ⟨u, hu, hr, ho⟩ := h4 i v hv
        exact ⟨u, hu, VRel.ext hext v hr, ho⟩
  · intro b1 b2 x1 x2 L1 L2 hne h1 h2 hr p1 p2
    rcases hcase b1 x1 h1 with ⟨e1, e1'⟩ | ⟨hn1, hnb1, h1'⟩
    · rcases hcase b2 x2 h2 with ⟨e2, _⟩ | ⟨hn2, hnb2, h2'⟩
      · exact absurd (e1.trans e2.symm) hne
      · rcases hphi _ L1 p1 with ⟨_, rfl⟩ | ⟨hq, _⟩
        · rcases hphi b2 L2 p2 with ⟨e, _⟩ | ⟨_, p2⟩
          · omega
          · exact H.apart b b2 _ x2 L L2 (Ne.symm hnb2) hx h2' rfl hb p2
        · exact absurd e1 hq
    · rcases hphi b1 L1 p1 with ⟨e, _⟩ | ⟨_, p1⟩
      · omega
      · rcases hcase b2 x2 h2 with ⟨e2, _⟩ | ⟨hn2, hnb2, h2'⟩
        · rcases hphi _ L2 p2 with ⟨_, rfl⟩ | ⟨hq, _⟩
          · exact H.apart b1 b x1 _ L1 L hnb1 h1' hx hr p1 hb
          · exact absurd e2 hq
        · rcases hphi b2 L2 p2 with ⟨e, _⟩ | ⟨_, p2⟩
          · omega
          · exact H.apart b1 b2 x1 x2 L1 L2 hne h1' h2' hr p1 p2
  · intro b' x' hlt hx'
    rcases hcase b' x' hx' with ⟨rfl, rfl⟩ | ⟨_, _, h2⟩
    · omega
    · exact ⟨x', h2, rfl⟩
  · intro b' L' h1 h2
    rcases hphi b' L' h2 with ⟨rfl, rfl⟩ | ⟨_, h2⟩
    · exact ⟨Nat.le_refl _, .inr ⟨b, _, L, hx, rfl, hb, rfl⟩⟩
    · rw [h1] at h2; cases h2
  · intro q hq hfree'
    exact setRow_other w L.blk q c' fun e => hfree' b _ L hx rfl hb e.symm

theorem append_rel {φ : Phi} {h : Heap} {w : World} (H : HRel φ h w) {e : TypeId} {ts : Array TypeId} {ty : TypeId} {es bytes : Nat} {zero : List AVal} {zeros : Bool} {z : Value}
    (hzl : z.cells.size = es)
    {x s : AVal} {xv sv : Value} {r : AVal} {h' : Heap}
    (hs : VRel φ s sv) (hrun : ∀ n news, aNews es bytes zero zeros x h = some (n, news) → AppRun P φ w e es bytes z ts ty xv n news) (ea : aAppend es bytes zero zeros s x h = some (r, h')) :
    OkTo P φ h w (Builtin.append_ ts ty #[sv, xv]) r h' := by
  unfold aAppend at ea
  simp only [Option.bind_eq_some_iff] at ea
  obtain ⟨⟨n, news⟩, en, ea⟩ := ea
  have R := hrun n news en
  simp only at ea
  split at ea
  -- nil
  · rw [vrel_nilSlice.1 hs]
    cases hb : Nat.beq n 0 with
    | true =>
      rw [hb] at ea
      cases ea
      have := Nat.eq_of_beq_eq_true hb
      subst this
      obtain ⟨us, _, _, _, hr⟩ := R.room
      exact ⟨_, w, φ, by rw [hr none 0 0 (by omega)]; rfl, vrel_nilSlice.2 rfl, H, Step.refl _ _ _⟩
    | false =>
      rw [hb] at ea
      have hn := Nat.ne_of_beq_eq_false hb
      simp only [cond_false] at ea
      split at ea
      · rename_i hc
        cases ea
        obtain ⟨us, hur, huo, hul, hg⟩ := R.grow
        obtain ⟨cap, hcap, hrun⟩ := hg none 0 0 [] (by omega) (by simp [Builtin.firstCells]) (by simpa using hc.1) (by simpa using hc.2)
        simp only [Nat.zero_add] at hrun hcap
        obtain ⟨φ', v1, v2, v3⟩ := new_slice H hur huo (e := e) hul hcap (rest := Builtin.zeroCells z.cells (cap - n)) (w' := w.drew.alloc (.cells (us.toArray ++ Builtin.zeroCells z.cells (cap - n)) e)) (fz := (0, 0))
          (by simp [Builtin.zeroCells, hzl]) rfl (.inl rfl) rfl rfl rfl n (Nat.le_refl _) hcap false (by simp)
        refine ⟨_, _, φ', by rw [hrun]; simp, v1, v2, v3⟩
      · cases ea
  -- a slice
  · rename_i b off len cap0 es' ex
    cases hbe : Nat.beq es es' with
    | false => rw [hbe] at ea; cases ea
    | true =>
      have := Nat.eq_of_beq_eq_true hbe
      subst this
      rw [hbe] at ea
      simp only [cond_true] at ea
      obtain ⟨L, a, c, hbl, rfl, hl1, hl2, hex, hpos⟩ := vrel_slice.1 hs
      cases hb : Nat.beq n 0 with
      | true =>
        rw [hb] at ea
        cases ea
        have := Nat.eq_of_beq_eq_true hb
        subst this
        obtain ⟨us, _, _, hul, hr⟩ := R.room
        have hus : us = [] := List.eq_nil_of_length_eq_zero (by simpa using hul)
        subst hus
        exact ⟨_, w, φ, by rw [hr (some a) len c (by omega)]; rfl, hs, H, Step.refl _ _ _⟩
      | false =>
        rw [hb] at ea
        have hn := Nat.ne_of_beq_eq_false hb
        simp only [cond_false] at ea
        cases hle : Nat.ble (len + n) cap0 with
        | true =>
          rw [hle] at ea
          have hle := Nat.le_of_ble_eq_true hle
          simp only [cond_true, Option.bind_eq_some_iff, Option.some.injEq, Prod.mk.injEq] at ea
          obtain ⟨h1, hwr, rfl, rfl⟩ := ea
          obtain ⟨us, hur, huo, hul, hr⟩ := R.room
          obtain ⟨ha, hsz⟩ := hpos (by omega)
          obtain ⟨w', hst, H', S'⟩ := HRel.wr (P := P) H hwr hbl hur huo
          refine ⟨.slice (some a) (len + n) c, w', φ, ?_, ?_, H', S'⟩
          · rw [hr (some a) len c (by omega)]
            subst ha
            simp only [addr_add]
            rw [Nat.add_assoc, hst]
            rfl
          · exact vrel_slice.2 ⟨L, a, c, hbl, rfl, by omega, hl2, hex, hpos⟩
        | false =>
          rw [hle] at ea
          have hle : ¬ len + n ≤ cap0 := fun hh => by rw [Nat.ble_eq_true_of_le hh] at hle; cases hle
          simp only [cond_false] at ea
          split at ea
          · rename_i hfit
            cases ex with
            | true =>
              simp only [cond_true] at ea
              have hcc := hex rfl
              subst hcc
              obtain ⟨us, hur, huo, hul, hg⟩ := R.grow
              cases h0 : Nat.beq len 0 with
              | true =>
                rw [h0] at ea
                cases ea
                have := Nat.eq_of_beq_eq_true h0
                subst this
                obtain ⟨cap, hcap, hrun⟩ := hg (some a) 0 c [] (by omega) (by simp [Builtin.firstCells, loadCells, loadCellsFrom]) hfit.1 hfit.2
                simp only [Nat.zero_add] at hrun hcap
                obtain ⟨φ', v1, v2, v3⟩ := new_slice H hur huo (e := e) hul hcap (rest := Builtin.zeroCells z.cells (cap - n)) (w' := w.drew.alloc (.cells (us.toArray ++ Builtin.zeroCells z.cells (cap - n)) e)) (fz := (0, 0))
                  (by simp [Builtin.zeroCells, hzl]) rfl (.inl rfl) rfl rfl rfl n (Nat.le_refl _) hcap false (by simp)
                exact ⟨_, _, φ', by rw [hrun]; simp, v1, v2, v3⟩
              | false =>
                rw [h0] at ea
                have hlen0 := Nat.ne_of_beq_eq_false h0
                simp only [cond_false, Option.bind_eq_some_iff, Option.some.injEq, Prod.mk.injEq] at ea
                obtain ⟨old, hold, rfl, rfl⟩ := ea
                obtain ⟨ha, hsz⟩ := hpos (by omega)
                obtain ⟨os, o1, o2, o3, o4⟩ := HRel.rd (H.world (w' := w.drew) rfl) hold hbl
                subst ha
                obtain ⟨cap, hcap, hrun⟩ := hg (some ⟨L.blk, L.base + off, none⟩) len c os hle (by
                  simp only [Builtin.firstCells]
                  rw [← o3]
                  exact loadCells_of o4) hfit.1 hfit.2
                obtain ⟨φ', v1, v2, v3⟩ := new_slice H (VRels.append o1 hur) (by intro u hu; rcases List.mem_append.1 hu with hu | hu; exact o2 u hu; exact huo u hu) (e := e) (es := es) (n := len + n) (by simp [o3, hul, Nat.add_mul]) hcap (rest := Builtin.zeroCells z.cells (cap - (len + n)))
                  (w' := w.drew.alloc (.cells ((os ++ us).toArray ++ Builtin.zeroCells z.cells (cap - (len + n))) e)) (fz := (0, 0))
                  (by simp [Builtin.zeroCells, hzl]) rfl (.inl rfl) rfl rfl rfl (len + n) (Nat.le_refl _) hcap false (by simp)
                refine ⟨_, _, φ', by rw [hrun]; simp only [List.append_toArray], v1, v2, v3⟩
            | false =>
              simp only [cond_false] at ea
              split at ea
              · rename_i cs hblk
                simp only [Option.bind_eq_some_iff, Option.some.injEq, Prod.mk.injEq] at ea
                obtain ⟨old, hold, rfl, rfl⟩ := ea
                by_cases hroom : len + n ≤ c
                · -- in place
                  obtain ⟨us, hur, huo, hul, hr⟩ := R.room
                  obtain ⟨ha, hsz⟩ := hpos (by omega)
                  subst ha
                  have hes : (len + n) * es ≤ c * es := Nat.mul_le_mul_right _ hroom
                  rw [Nat.add_mul] at hes
                  obtain ⟨w', hst, H', S'⟩ := HRel.move (P := P) H hblk hbl hold hur huo (by omega)
                  refine ⟨.slice (some ⟨L.blk, L.base + off, none⟩) (len + n) c, w', _, ?_, ?_, H', S'⟩
                  · rw [hr _ len c hroom]
                    simp only [addr_add]
                    rw [hst]
                    rfl
                  · exact vrel_slice.2 ⟨⟨L.blk, L.base + off, L.size⟩, _, c, by simp [Phi.set], rfl, Nat.le_refl _, hroom, by simp, fun _ => ⟨rfl, by simp only [Nat.add_zero]; omega⟩⟩
                · obtain ⟨us, hur, huo, hul, hg⟩ := R.grow
                  by_cases h0 : len = 0
                  · subst h0
                    have hold0 : old = [] := by
                      unfold Heap.rd at hold
                      rw [hblk] at hold
                      simp only [Nat.zero_mul, List.take_zero] at hold
                      cases hq : Nat.ble (off + 0) cs.length with
                      | false => rw [hq] at hold; cases hold
                      | true => rw [hq] at hold; cases hold; rfl
                    subst hold0
                    obtain ⟨cap, hcap, hrun⟩ := hg (some a) 0 c [] (by omega) (by simp [Builtin.firstCells, loadCells, loadCellsFrom]) hfit.1 hfit.2
                    simp only [Nat.zero_add, List.nil_append] at hrun hcap ⊢
                    obtain ⟨φ', v1, v2, v3⟩ := new_slice H hur huo (e := e) hul hcap (rest := Builtin.zeroCells z.cells (cap - n)) (w' := w.drew.alloc (.cells (us.toArray ++ Builtin.zeroCells z.cells (cap - n)) e)) (fz := (0, 0))
                      (by simp [Builtin.zeroCells, hzl]) rfl (.inl rfl) rfl rfl rfl n (Nat.le_refl _) hcap false (by simp)
                    exact ⟨_, _, φ', by rw [hrun]; simp, v1, v2.drop b, v3.trans (fun b L e => (H.dom b L e).1) (Step.drop _ _ b (by rw [v3.ext b _ hbl]; simp))⟩
                  · obtain ⟨ha, hsz⟩ := hpos (by omega)
                    obtain ⟨os, o1, o2, o3, o4⟩ := HRel.rd (H.world (w' := w.drew) rfl) hold hbl
                    subst ha
                    obtain ⟨cap, hcap, hrun⟩ := hg (some ⟨L.blk, L.base + off, none⟩) len c os hroom (by
                      simp only [Builtin.firstCells]
                      rw [← o3]
                      exact loadCells_of o4) hfit.1 hfit.2
                    obtain ⟨φ', v1, v2, v3⟩ := new_slice H (VRels.append o1 hur) (by intro u hu; rcases List.mem_append.1 hu with hu | hu; exact o2 u hu; exact huo u hu) (e := e) (es := es) (n := len + n) (by simp [o3, hul, Nat.add_mul]) hcap (rest := Builtin.zeroCells z.cells (cap - (len + n)))
                      (w' := w.drew.alloc (.cells ((os ++ us).toArray ++ Builtin.zeroCells z.cells (cap - (len + n))) e)) (fz := (0, 0))
                      (by simp [Builtin.zeroCells, hzl]) rfl (.inl rfl) rfl rfl rfl (len + n) (Nat.le_refl _) hcap false (by simp)
                    exact ⟨_, _, φ', by rw [hrun]; simp only [List.append_toArray], v1, v2.drop b, v3.trans (fun b L e => (H.dom b L e).1) (Step.drop _ _ b (by rw [v3.ext b _ hbl]; simp))⟩
              · cases ea
          · cases ea
  · cases ea

end
end Go.Fw

/- Copy, clear, make, conversions between texts and bytes, loads and stores. -/
namespace Go.Fw
set_option linter.unusedSimpArgs false
set_option linter.unusedVariables false

section
variable {P : Program}

theorem OkTo.same {φ : Phi} {h : Heap} {w : World} (H : HRel φ h w) {sem : Sem Value} {r : AVal} {u : Value} (e : sem.run P w = .ok u w) (hr : VRel φ r u) : OkTo P φ h w sem r h :=
  ⟨u, w, φ, e, hr, H, Step.refl _ _ _⟩

theorem copy_rel {φ : Phi} {h : Heap} {w : World} (H : HRel φ h w) {t e : TypeId} {ts : Array TypeId} {ty : TypeId} {es : Nat} (hts : ts[0]? = some t) (ht : P.underlying t = some (.slice e)) (hs : (P.info? e).map (·.size) = some es)
    {d s : AVal} {dv sv : Value} (hd : VRel φ d dv) (hsv : VRel φ s sv) {r : AVal} {h' : Heap} (ea : aCopy es d s h = some (r, h')) : OkTo P φ h w (Builtin.copy_ ts ty #[dv, sv]) r h' := by
  have hs' := fun w => run_sizeOf' (P := P) w hs
  have hrun : ∀ (base : Option Addr) (dl dc n : Nat) (us : List Value), (Builtin.lenOf sv).run P w = .ok n w → (Builtin.firstCells es (Nat.min n dl) sv).run P w = .ok us.toArray w →
      (Builtin.copy_ ts ty #[.slice base dl dc, sv]).run P w = (match base with | some a => (storeCells a us).run P w | none => .ok () w).andThen fun _ w' => .ok (.int .i64 (Nat.min n dl : Nat)) w' := by
    intro base dl dc n us h1 h2
    cases base <;> simp [Builtin.copy_, hts, run_underlying ht, h1, h2, hs', goInt]
  unfold aCopy at ea
  split at ea
  · rw [vrel_nilSlice.1 hd]
    have hlen : ∃ n, (Builtin.lenOf sv).run P w = .ok n w ∧ ((Builtin.firstCells es 0 sv).run P w = .ok #[] w) ∧ r = .int .i64 0 ∧ h' = h := by
      split at ea
      · cases ea
        obtain ⟨_, _, _, _, rfl, _⟩ := vrel_slice.1 hsv
        exact ⟨_, rfl, by simp [Builtin.firstCells, loadCells, loadCellsFrom], rfl, rfl⟩
      · cases ea
        rw [vrel_nilSlice.1 hsv]
        exact ⟨_, rfl, by simp [Builtin.firstCells], rfl, rfl⟩
      · cases ea
        rw [vrel_str.1 hsv]
        refine ⟨_, rfl, ?_, rfl, rfl⟩
        simp only [Builtin.firstCells]
        rw [ByteArray.extract_mk]
        simp
      · cases ea
    obtain ⟨n, h1, h2, rfl, rfl⟩ := hlen
    have := hrun none 0 0 n [] h1 (by simpa using h2)
    exact OkTo.same H this (vrel_int.2 (by simp))
  · rename_i b off len cap es' ex
    cases hbe : Nat.beq es es' with
    | false => rw [hbe] at ea; cases ea
    | true =>
      have := Nat.eq_of_beq_eq_true hbe
      subst this
      rw [hbe] at ea
      simp only [cond_true] at ea
      obtain ⟨L, a, c, hbl, rfl, hl1, hl2, hex, hpos⟩ := vrel_slice.1 hd
      split at ea
      · cases ea
        rw [vrel_nilSlice.1 hsv] at hrun ⊢
        have := hrun (some a) len c 0 [] rfl (by simp [Builtin.firstCells])
        exact OkTo.same H (u := .int .i64 0) (by rw [this]; simp [storeCells]) (vrel_int.2 rfl)
      · rename_i b2 off2 len2 cap2 es2 ex2
        cases hbe2 : Nat.beq es es2 with
        | false => rw [hbe2] at ea; cases ea
        | true =>
          have := Nat.eq_of_beq_eq_true hbe2
          subst this
          rw [hbe2] at ea
          simp only [cond_true] at ea
          obtain ⟨L2, a2, c2, hbl2, rfl, hl3, hl4, hex2, hpos2⟩ := vrel_slice.1 hsv
          cases h0 : Nat.beq (Nat.min len2 len) 0 with
          | true =>
            rw [h0] at ea
            cases ea
            have h0 := Nat.eq_of_beq_eq_true h0
            have := hrun (some a) len c len2 [] rfl (by rw [h0]; simp [Builtin.firstCells, loadCells, loadCellsFrom])
            exact OkTo.same H (u := .int .i64 0) (by rw [this, h0]; simp [storeCells]) (vrel_int.2 rfl)
          | false =>
            rw [h0] at ea
            have h0 := Nat.ne_of_beq_eq_false h0
            simp only [cond_false, Option.bind_eq_some_iff, Option.some.injEq, Prod.mk.injEq] at ea
            obtain ⟨cs, hcs, h1, hwr, rfl, rfl⟩ := ea
            have hm1 : Nat.min len2 len ≤ len2 := Nat.min_le_left _ _
            have hm2 : Nat.min len2 len ≤ len := Nat.min_le_right _ _
            obtain ⟨ha2, _⟩ := hpos2 (by omega)
            obtain ⟨ha, _⟩ := hpos (by omega)
            obtain ⟨us, u1, u2, u3, u4⟩ := H.rd hcs hbl2
            subst ha2; subst ha
            have := hrun (some ⟨L.blk, L.base + off, none⟩) len c len2 us rfl (by simp only [Builtin.firstCells]; rw [← u3]; exact loadCells_of u4)
            obtain ⟨w', hst, H', S'⟩ := HRel.wr (P := P) H hwr hbl u1 u2
            exact ⟨_, w', φ, by rw [this]; simp only []; rw [hst]; rfl, vrel_int.2 rfl, H', S'⟩
      · rename_i l
        cases hbe2 : Nat.beq es 1 with
        | false => rw [hbe2] at ea; cases ea
        | true =>
          have := Nat.eq_of_beq_eq_true hbe2
          subst this
          rw [hbe2] at ea
          simp only [cond_true] at ea
          have hsz : (ByteArray.mk l.toArray).size = l.length := by show l.toArray.size = _; simp
          rw [vrel_str.1 hsv] at hrun ⊢
          have hlen : (Builtin.lenOf (.string ⟨l.toArray⟩)).run P w = .ok l.length w := by simp [Builtin.lenOf, hsz]
          have hfc : (Builtin.firstCells 1 (Nat.min l.length len) (.string ⟨l.toArray⟩)).run P w = .ok ((l.take (Nat.min l.length len)).map fun b => .int .u8 b.toNat).toArray w := by
            simp only [Builtin.firstCells]
            rw [ByteArray.extract_mk]
            simp
          cases h0 : Nat.beq (Nat.min l.length len) 0 with
          | true =>
            rw [h0] at ea
            cases ea
            have h0 := Nat.eq_of_beq_eq_true h0
            have := hrun (some a) len c l.length [] hlen (by rw [hfc, h0]; simp)
            exact OkTo.same H (u := .int .i64 0) (by rw [this, h0]; simp [storeCells]) (vrel_int.2 rfl)
          | false =>
            rw [h0] at ea
            have h0 := Nat.ne_of_beq_eq_false h0
            simp only [cond_false, Option.bind_eq_some_iff, Option.some.injEq, Prod.mk.injEq] at ea
            obtain ⟨h1, hwr, rfl, rfl⟩ := ea
            have hm2 : Nat.min l.length len ≤ len := Nat.min_le_right _ _
            obtain ⟨ha, _⟩ := hpos (by omega)
            subst ha
            have := hrun (some ⟨L.blk, L.base + off, none⟩) len c l.length _ hlen hfc
            obtain ⟨w', hst, H', S'⟩ := HRel.wr (P := P) H hwr hbl (bytes_rel _) (bytes_ones _)
            exact ⟨_, w', φ, by rw [this]; simp only []; rw [hst]; rfl, vrel_int.2 rfl, H', S'⟩
      · cases ea
  · cases ea

theorem clear_rel {φ : Phi} {h : Heap} {w : World} (H : HRel φ h w) {t e : TypeId} {ts : Array TypeId} {ty : TypeId} {zero : List AVal} (hts : ts[0]? = some t) (ht : P.underlying t = some (.slice e)) (hz : zeroOk P e zero = true)
    {s : AVal} {sv : Value} (hsv : VRel φ s sv) {r : AVal} {h' : Heap} (ea : aClear zero s h = some (r, h')) : OkTo P φ h w (Builtin.clear_ ts ty #[sv]) r h' := by
  obtain ⟨z, hz1, hz2, hz3⟩ := zero_rel w hz φ
  unfold aClear at ea
  split at ea
  · cases ea
    rw [vrel_nilSlice.1 hsv]
    exact OkTo.same H (u := .tuple #[]) (by simp [Builtin.clear_, hts, run_underlying ht]) (vrel_tuple.2 ⟨_, rfl, by simp [VRels]⟩)
  · rename_i b off len cap es ex
    obtain ⟨L, a, c, hbl, rfl, hl1, hl2, hex, hpos⟩ := vrel_slice.1 hsv
    cases h0 : Nat.beq len 0 with
    | true =>
      rw [h0] at ea
      cases ea
      have := Nat.eq_of_beq_eq_true h0
      subst this
      exact OkTo.same H (u := .tuple #[]) (by simp [Builtin.clear_, hts, run_underlying ht]) (vrel_tuple.2 ⟨_, rfl, by simp [VRels]⟩)
    | false =>
      rw [h0] at ea
      have h0 := Nat.ne_of_beq_eq_false h0
      simp only [cond_false] at ea
      cases hbe : Nat.beq es zero.length with
      | false => rw [hbe] at ea; cases ea
      | true =>
        rw [hbe] at ea
        simp only [cond_true, Option.bind_eq_some_iff, Option.some.injEq, Prod.mk.injEq] at ea
        obtain ⟨h1, hwr, rfl, rfl⟩ := ea
        obtain ⟨ha, _⟩ := hpos (by omega)
        subst ha
        obtain ⟨w', hst, H', S'⟩ := HRel.wr (P := P) H hwr hbl (reps_rel hz2 len) (repsV_ones hz3 len)
        refine ⟨.tuple #[], w', φ, ?_, vrel_tuple.2 ⟨_, rfl, by simp [VRels]⟩, H', S'⟩
        have hzc : (Builtin.zeroCells z.cells len).toList = repsV z.cells.toList len := zeroCells_eq _ _
        cases len with
        | zero => exact absurd rfl h0
        | succ m => simp [Builtin.clear_, hts, run_underlying ht, hz1, hzc, hst]
  · cases ea

theorem make_rel {φ : Phi} {h : Heap} {w : World} (H : HRel φ h w) {t e : TypeId} {es bytes : Nat} {zero : List AVal} (ht : P.underlying t = some (.slice e)) (hs : (P.info? e).map (·.size) = some es) (hby : (P.info? e).map (·.bytes) = some bytes) (hz : zeroOk P e zero = true) (hzl : zero.length = es)
    {l c : AVal} {lv cv : Value} (hl : VRel φ l lv) (hc : VRel φ c cv) {r : AVal} {h' : Heap} (ea : aMkSlice es bytes zero l c h = some (r, h')) : OkTo P φ h w (Instr.makeSlice t lv cv) r h' := by
  have hs' := fun w => run_sizeOf' (P := P) w hs
  obtain ⟨i, hi, hib⟩ : ∃ i, P.info? e = some i ∧ i.bytes = bytes := by
    cases hi : P.info? e with
    | none => rw [hi] at hby; cases hby
    | some i => rw [hi] at hby; exact ⟨i, rfl, by simpa using hby⟩
  have hti : ∀ w, (typeInfo e).run P w = .ok i w := fun w => run_typeInfo w hi
  have hzz := fun w => zero_rel (P := P) w hz φ
  obtain ⟨z, hz1, hz2, hz3⟩ := hzz w
  have hzs : z.cells.size = es := by have := VRels.length hz2; simp at this; omega
  unfold aMkSlice at ea
  split at ea
  · rename_i lk ck
    split at ea
    · rename_i hcond
      obtain ⟨c1, c2, c3, c4⟩ := hcond
      cases ea
      rw [vrel_int.1 hl, vrel_int.1 hc]
      have hw1 : IntKind.i64.wrap ck = ck := by
        have h2 : ck % (2 ^ 64 : Int) = ck := Int.emod_eq_of_lt (by omega) (by omega)
        show (if (true && decide (ck % (2 ^ 64 : Int) ≥ (2 ^ 63 : Int))) = true then ck % (2 ^ 64 : Int) - 2 ^ 64 else ck % (2 ^ 64 : Int)) = ck
        simp only [h2, Bool.true_and, decide_eq_true_eq]
        rw [if_neg (by omega)]
      have hw2 : IntKind.i64.wrap lk = lk := by
        have h2 : lk % (2 ^ 64 : Int) = lk := Int.emod_eq_of_lt (by omega) (by omega)
        show (if (true && decide (lk % (2 ^ 64 : Int) ≥ (2 ^ 63 : Int))) = true then lk % (2 ^ 64 : Int) - 2 ^ 64 else lk % (2 ^ 64 : Int)) = lk
        simp only [h2, Bool.true_and, decide_eq_true_eq]
        rw [if_neg (by omega)]
      have hcond : ¬ ((decide (ck < 0) || decide ((bytes : Int) * ck > 2 ^ 48) || decide (lk < 0) || decide (lk > ck)) = true) := by
        have : (bytes : Int) * ck ≤ 140737488355328 := by rw [Int.mul_comm]; exact c3
        simp only [Bool.or_eq_true, decide_eq_true_eq]
        omega
      have hrow : ∀ zc : Array Value, zc = (if ck.toNat * es = 0 then #[] else z.cells) → ((Array.range (ck.toNat * es)).map (zc[· % zc.size]!)) = (repsV z.cells.toList ck.toNat).toArray := by
        intro zc hzc
        apply Array.ext'
        split at hzc
        · rename_i h0
          rw [h0]
          have : repsV z.cells.toList ck.toNat = [] := List.eq_nil_of_length_eq_zero (by rw [repsV_length]; simpa [hzs] using h0)
          simp [this]
        · subst hzc
          rw [← range_map_eq, hzs]
      have hrun : (Instr.makeSlice t (.int .i64 lk) (.int .i64 ck)).run P w = .ok (.slice (some ⟨w.heap.size, 0, none⟩) lk.toNat ck.toNat) (w.alloc (.cells (repsV z.cells.toList ck.toNat).toArray e)) := by
        simp only [Instr.makeSlice, Sem.run_bind, run_underlying ht, Result.andThen_ok, asInt, asIntOf, Sem.run_pure, hti, hib, hw1, hw2]
        rw [if_neg hcond]
        simp only [Sem.run_bind, run_askRoom, Result.andThen_ok, hs', Sem.run_pure]
        split
        · rename_i h0
          simp only [Sem.run_bind, Sem.run_pure, Result.andThen_ok, newRow, run_newObj]
          rw [hrow #[] (by rw [if_pos h0])]
          rfl
        · rename_i h0
          simp only [Sem.run_bind, Sem.run_pure, Result.andThen_ok, hz1, newRow, run_newObj]
          rw [hrow z.cells (by rw [if_neg h0])]
          rfl
      have hlc : (repsV z.cells.toList ck.toNat).length = ck.toNat * es := by rw [repsV_length]; simp [hzs]
      obtain ⟨h1, h2⟩ := H.alloc (cs := reps zero ck.toNat) (c := (repsV z.cells.toList ck.toNat).toArray) e (0, 0) (.inl rfl) (by rw [reps_length, hzl]; simp [hlc]) (by
        intro i v hv
        obtain ⟨u, hu, hru⟩ := VRels.get (reps_rel hz2 ck.toNat) i v hv
        exact ⟨u, by simpa using hu, hru, repsV_ones hz3 _ u (List.mem_of_getElem? hu)⟩) (w' := w.alloc (.cells (repsV z.cells.toList ck.toNat).toArray e)) rfl rfl rfl rfl
      refine ⟨_, _, _, hrun, vrel_slice.2 ⟨⟨w.heap.size, 0, (repsV z.cells.toList ck.toNat).toArray.size⟩, _, ck.toNat, by simp [Phi.set], rfl, by omega, Nat.le_refl _, fun _ => rfl, fun _ => ⟨rfl, ?_⟩⟩, h1, h2⟩
      simp [hlc]
    · cases ea
  · cases ea

end
end Go.Fw

/- Conversions between texts and bytes, literals of slices, loads and stores, boxes. -/
namespace Go.Fw
set_option linter.unusedSimpArgs false
set_option linter.unusedVariables false

section
variable {P : Program}

theorem cellBytes_rel {φ : Phi} : ∀ {cs : List AVal} {l : List UInt8} {us : List Value}, cellBytes cs = some l → VRels φ cs us → ∃ ns : List Int, us = ns.map (Value.int .u8) ∧ l = ns.map fun n => UInt8.ofNat n.toNat
  | [], l, us, h, hr => by
    simp only [cellBytes, Option.some.injEq] at h
    subst h
    match us, hr with
    | [], _ => exact ⟨[], rfl, rfl⟩
    | _ :: _, hr => simp [VRels] at hr
  | c :: cs, l, us, h, hr => by
    unfold cellBytes at h
    split at h
    · rename_i heq; cases heq
    · rename_i n r heq
      injection heq with e1 e2
      subst e1; subst e2
      simp only [Option.bind_eq_some_iff, Option.some.injEq] at h
      obtain ⟨l', hl', rfl⟩ := h
      match us, hr with
      | [], hr => simp [VRels] at hr
      | u :: us, hr =>
        simp only [VRels] at hr
        obtain ⟨ns, rfl, rfl⟩ := cellBytes_rel hl' hr.2
        rw [vrel_int.1 hr.1]
        exact ⟨n :: ns, rfl, rfl⟩
    · cases h

theorem foldl_push : ∀ (ns : List Int) (b : ByteArray), ns.foldl (fun r n => r.push (UInt8.ofNat n.toNat)) b = ⟨b.data ++ (ns.map fun n => UInt8.ofNat n.toNat).toArray⟩
  | [], b => by apply ByteArray.ext; simp
  | n :: ns, b => by
    rw [List.foldl_cons, foldl_push ns]
    apply ByteArray.ext
    simp [ByteArray.push]

/-- A mark behind the end of a block that may be written. -/
theorem freeze_rel {φ : Phi} {h : Heap} {w : World} (H : HRel φ h w) {b : Nat} {x : Blk} {L : Loc} (hx : h.blk b = some x) (hrw : x.rw = true) (hφ : φ b = some L) {c : Array Value} {e : TypeId} {fz : Nat × Nat} (hg : w.heap[L.blk]? = some (.cells c e fz)) :
    HRel φ h (w.freeze ⟨L.blk, c.size, none⟩ 1) ∧ Step φ h w φ h (w.freeze ⟨L.blk, c.size, none⟩ 1) := by
  have hfw : ∀ k, (w.freeze ⟨L.blk, c.size, none⟩ 1).heap[k]? = if L.blk = k then some (.cells c e (if fz.1 == fz.2 then (c.size, c.size + 1) else (min fz.1 c.size, max fz.2 (c.size + 1)))) else w.heap[k]? := by
    intro k
    obtain ⟨lo, hi⟩ := fz
    simp only [World.freeze, Nat.one_ne_zero, if_false, Array.getElem?_modify]
    by_cases hk : L.blk = k
    · subst hk
      rw [if_pos rfl, if_pos rfl, hg]
      rfl
    · rw [if_neg hk, if_neg hk]
  have hsz : (w.freeze ⟨L.blk, c.size, none⟩ 1).heap.size = w.heap.size := by
    simp [World.freeze]
  refine ⟨⟨fun b' L' hb' => by rw [hsz]; exact H.dom b' L' hb', H.live, fun b' x' L' hx' hb' => ?_, H.apart, H.pin⟩, ⟨Ext.refl _, Nat.le_refl _, fun _ x hx => fun h => ⟨x, h, rfl⟩, fun _ _ h1 h2 => (by rw [h1] at h2; cases h2), by rw [hsz]; exact Nat.le_refl _, fun _ _ _ => rfl, fun k _ hf => by rw [hfw, if_neg (hf b x L hx hrw hφ)], rfl, rfl, rfl⟩⟩
  by_cases hbb : b' = b
  · subst hbb
    rw [hx] at hx'
    cases hx'
    rw [hφ] at hb'
    cases hb'
    obtain ⟨c1, e1, fz1, hg1, k1, k2, k3, k4⟩ := H.blk b' x L hx hφ
    rw [hg] at hg1
    cases hg1
    refine ⟨c, e, _, by rw [hfw, if_pos rfl], k1, k2, fun _ => ?_, k4⟩
    have := k3 hrw
    by_cases hz : fz.1 = fz.2
    · rw [if_pos (by simpa using hz)]
      exact .inr (Nat.le_refl _)
    · rw [if_neg (by simpa using hz)]
      refine .inr ?_
      show c.size ≤ min fz.1 c.size
      omega
  · obtain ⟨c1, e1, fz1, hg1, k⟩ := H.blk b' x' L' hx' hb'
    have := H.apart b b' x x' L L' (Ne.symm hbb) hx hx' hrw hφ hb'
    exact ⟨c1, e1, fz1, by rw [hfw, if_neg this]; exact hg1, k⟩

/-- Conversions that read or make memory. -/
theorem conv_rel {φ : Phi} {h : Heap} {w : World} (H : HRel φ h w) {src dst : TypeId} {c : AConv} (hc : convOk P src dst c = true) {x : AVal} {v : Value} (hx : VRel φ x v) {r : AVal} {h' : Heap} (ea : aConv c x h = some (r, h')) :
    OkTo P φ h w (convert src dst v) r h' := by
  unfold aConv at ea
  split at ea
  · rename_i k k' n
    cases ea
    rw [vrel_int.1 hx]
    simp only [convOk] at hc
    split at hc
    · rename_i u d hu hd
      simp only [decide_eq_true_eq] at hc
      subst hc
      exact OkTo.same H (u := .int k (k.wrap n)) (by cases u <;> simp [convert, run_underlying hu, run_underlying hd, Conv.intToInt]) (vrel_int.2 rfl)
    · cases hc
  · rename_i l
    cases ea
    rw [vrel_str.1 hx]
    simp only [convOk] at hc
    split at hc
    · rename_i u e hu hd
      split at hc
      · rename_i he
        simp only [sizeIs, decide_eq_true_eq] at hc
        have hs' := fun w => run_sizeOf' (P := P) w hc
        have hsz : (ByteArray.mk l.toArray).size = l.length := by show l.toArray.size = _; simp
        generalize hcap : (Question.appendCap l.length 0 e).cut (w.tape w.drawn (.appendCap l.length 0 e)) = cap
        have hle : l.length ≤ cap := by rw [← hcap]; simp [Question.cut]
        have hq : (choose (.appendCap l.length 0 e)).run P w = .ok cap w.drew := by
          rw [run_choose]; simp [Question.forced, hcap]
        have hconv : (convert src dst (.string ⟨l.toArray⟩)).run P w = (Conv.stringToBytes e ⟨l.toArray⟩).run P w := by
          cases u <;> simp [convert, run_underlying hu, run_underlying hd, run_underlying he]
        let us : List Value := l.map fun b => .int .u8 b.toNat
        let rest : Array Value := Array.replicate (cap - l.length) (.int .u8 0)
        let w1 := w.drew.alloc (.cells (us.toArray ++ rest) e)
        have hcsz : (us.toArray ++ rest).size = cap := by simp [us, rest]; omega
        have hw1 : w1.heap[w.heap.size]? = some (.cells (us.toArray ++ rest) e (0, 0)) := heap_alloc_new w.drew _
        have hrun : (Conv.stringToBytes e ⟨l.toArray⟩).run P w = .ok (.slice (some ⟨w.heap.size, 0, none⟩) l.length cap) (w1.freeze ⟨w.heap.size, cap, none⟩ 1) := by
          have hdata : (ByteArray.mk l.toArray).data.map (fun b => Value.int .u8 b.toNat) = us.toArray := by
            apply Array.ext'; simp [us]
          have hshape : w1.shape? w.heap.size = some (e, cap) := by simp [World.shape?, hw1, hcsz]
          simp only [Conv.stringToBytes, hsz, Sem.run_bind, hq, Result.andThen_ok, hdata, newRow, run_newObj, Sem.run_pure, markStringish]
          rw [World.alloc_eq]
          have hsh : (Sem.run P (shape w.drew.heap.size) (w.drew.alloc (Obj.cells (us.toArray ++ Array.replicate (cap - l.length) (Value.int IntKind.u8 0)) e))) = .ok (some (e, cap)) w1 := by
            show Result.ok (w1.shape? w.heap.size) w1 = _
            rw [hshape]
          rw [hsh]
          rfl
        have hfw : (w1.freeze ⟨w.heap.size, cap, none⟩ 1).heap = w.heap.push (.cells (us.toArray ++ rest) e (cap, cap + 1)) := by
          apply Array.ext_getElem?
          intro i
          simp only [World.freeze, Nat.one_ne_zero, if_false, Array.getElem?_modify]
          by_cases hi : i = w.heap.size
          · subst hi
            rw [if_pos rfl, hw1, Array.getElem?_push, if_pos rfl]
            rfl
          · rw [if_neg (Ne.symm hi)]
            show (w.heap.push _)[i]? = _
            rw [Array.getElem?_push, Array.getElem?_push, if_neg hi, if_neg hi]
        obtain ⟨φ', v1, v2, v3⟩ := new_slice H (bytes_rel (φ := φ) l) (bytes_ones l) (e := e) (es := 1) (n := l.length) (cap := cap) (by simp) hle (rest := rest) (by simp [rest])
          (w' := w1.freeze ⟨w.heap.size, cap, none⟩ 1) (fz := (cap, cap + 1)) hfw (by first | exact .inl rfl | exact .inr (by simp; try omega)) rfl rfl rfl l.length (Nat.le_refl _) hle false (by simp)
        exact ⟨_, _, φ', by rw [hconv, hrun], v1, v2, v3⟩
      · cases hc
    · cases hc
  · cases ea
    rw [vrel_nilSlice.1 hx]
    simp only [convOk] at hc
    split at hc
    · rename_i e hu hd
      split at hc
      · rename_i he
        exact OkTo.same H (u := .string .empty) (by rw [run_convert_bytes_string w src dst e none 0 0 hu he hd]; rfl) (vrel_str.2 rfl)
      · cases hc
    · cases hc
  · rename_i b off len cap es ex
    cases hbe : Nat.beq es 1 with
    | false => rw [hbe] at ea; cases ea
    | true =>
      have := Nat.eq_of_beq_eq_true hbe
      subst this
      rw [hbe] at ea
      simp only [cond_true, Option.bind_eq_some_iff, Option.some.injEq, Prod.mk.injEq] at ea
      obtain ⟨cs, hcs, l, hl, rfl, rfl⟩ := ea
      obtain ⟨L, a, c, hbl, rfl, hl1, hl2, hex, hpos⟩ := vrel_slice.1 hx
      simp only [convOk] at hc
      split at hc
      · rename_i e hu hd
        split at hc
        · rename_i he
          obtain ⟨us, u1, u2, u3, u4⟩ := H.rd hcs hbl
          obtain ⟨ns, rfl, rfl⟩ := cellBytes_rel hl u1
          have hld : (loadCells a len).run P w = .ok (ns.map (Value.int .u8)).toArray w := by
            rcases Nat.eq_zero_or_pos c with h0 | h0
            · have : len = 0 := by omega
              subst this
              have : ns = [] := by simpa using u3
              subst this
              simp [loadCells, loadCellsFrom]
            · obtain ⟨ha, _⟩ := hpos h0
              subst ha
              rw [← u3]
              exact loadCells_of u4
          refine OkTo.same H (u := .string ⟨(ns.map fun n => UInt8.ofNat n.toNat).toArray⟩) ?_ (vrel_str.2 rfl)
          rw [run_convert_bytes_string w src dst e _ _ _ hu he hd, run_bytesToString w a len c ns hld, foldl_push]
          simp
        · cases hc
      · cases hc
  · rename_i l
    cases ea
    rw [vrel_str.1 hx]
    simp only [convOk] at hc
    split at hc
    · rename_i u hu hd
      exact OkTo.same H (u := .string ⟨l.toArray⟩) (by cases u <;> simp [convert, run_underlying hu, run_underlying hd]) (vrel_str.2 rfl)
    · cases hc
  · rename_i b off len cap es ex
    cases hz : Nat.beq len 0 with
    | true => rw [hz] at ea; cases ea
    | false =>
      rw [hz] at ea
      simp only [cond_false] at ea
      split at ea
      · rename_i cells hb
        cases ea
        obtain ⟨L, a, c, hbl, rfl, hl1, hl2, hex, hpos⟩ := vrel_slice.1 hx
        have hln : len ≠ 0 := by
          intro e0
          subst e0
          cases hz
        obtain ⟨rfl, hfit⟩ := hpos (by omega)
        obtain ⟨c1, e1, fz1, hg1, k1, _⟩ := H.blk b _ L hb hbl
        simp only [convOk, Bool.and_eq_true, decide_eq_true_eq] at hc
        obtain ⟨rfl, hc⟩ := hc
        split at hc
        · rename_i e hd
          split at hc
          · rename_i he
            obtain ⟨HH, S⟩ := freeze_rel H hb rfl hbl hg1
            refine ⟨_, _, φ, ?_, hx, HH, S⟩
            have hsh : (shape L.blk).run P w = .ok (some (e1, c1.size)) w := by
              show Result.ok (w.shape? L.blk) w = _
              simp [World.shape?, hg1]
            simp only [convert, Sem.run_bind, run_underlying hd, Result.andThen_ok, beq_self_eq_true, run_underlying he, markStringish, hsh]
            rfl
          · cases hc
        · cases hc
      · cases ea
  · rename_i k n
    cases ea
    rw [vrel_int.1 hx]
    simp only [convOk] at hc
    split at hc
    · rename_i j hu hd
      exact OkTo.same H (u := .string (Utf8.encode n)) (by simp [convert, run_underlying hu, run_underlying hd, Conv.intToString]) (vrel_str.2 rfl)
    · cases hc
  · cases ea

theorem slParts_rel {φ : Phi} {ev : AOpd → AVal} {ρ : Operand → Value} (hrel : ∀ x y, opdOk x y = true → VRel φ (ev y) (ρ x)) (es : Nat) :
    ∀ (ps : List (Nat × Operand)) (as : List (Nat × AOpd)), slPartsOk ps as = true →
      as.length = ps.length ∧ ∀ (j : Nat) i v off n x, (ps.map fun p => (p.1, ρ p.2))[j]? = some (i, v) → (as.map fun p => (p.1 * es, es, ev p.2))[j]? = some (off, n, x) → (fun i => some (i * es, es)) i = some (off, n) ∧ VRel φ x v
  | [], [], _ => ⟨rfl, by simp⟩
  | [], _ :: _, h => by simp [slPartsOk] at h
  | _ :: _, [], h => by simp [slPartsOk] at h
  | (i, x) :: ps, (i2, y) :: as, h => by
    simp only [slPartsOk, Bool.and_eq_true] at h
    obtain ⟨⟨h1, h2⟩, h3⟩ := h
    have h1 := Nat.eq_of_beq_eq_true h1
    subst h1
    obtain ⟨hl, hr⟩ := slParts_rel hrel es ps as h3
    refine ⟨by simp [hl], ?_⟩
    intro j i' v off' n' x' e1 e2
    cases j with
    | zero =>
      simp only [List.map_cons, List.getElem?_cons_zero, Option.some.injEq, Prod.mk.injEq] at e1 e2
      obtain ⟨rfl, rfl⟩ := e1
      obtain ⟨rfl, rfl, rfl⟩ := e2
      exact ⟨rfl, hrel _ _ h2⟩
    | succ j => exact hr j i' v off' n' x' (by simpa using e1) (by simpa using e2)

theorem buildSl_run {φ : Phi} {w : World} {ev : AOpd → AVal} {ρ : Operand → Value} (hrel : ∀ x y, opdOk x y = true → VRel φ (ev y) (ρ x)) {t e : TypeId} {len es : Nat} {parts : Array (Nat × Operand)} {zero : List AVal} {as : List (Nat × AOpd)}
    (ht : P.underlying t = some (.slice e)) (hs : (P.info? e).map (·.size) = some es) (hz : zeroOk P e zero = true) (hzl : zero.length = es) (hmost : len * es ≤ 16777216) (hp : slPartsOk parts.toList as = true)
    {cs : List AVal} (hf : aFill (reps zero len) (as.map fun p => (p.1 * es, es, ev p.2)) = some cs) :
    ∃ o : Array Value, (Instr.buildSlice t len (parts.map fun (i, x) => (i, ρ x))).run P w = .ok (.slice (some ⟨w.heap.size, 0, none⟩) len len) (w.alloc (.cells o e)) ∧ VRels φ cs o.toList ∧ (∀ u ∈ o.toList, u.oneCell' = true) ∧ cs.length = len * es := by
  have hs' := fun w => run_sizeOf' (P := P) w hs
  obtain ⟨z, hz1, hz2, hz3⟩ := zero_rel (P := P) w hz φ
  have hzs : z.cells.size = es := by have := VRels.length hz2; simp at this; omega
  have hmap : (parts.map fun (i, x) => (i, ρ x)).toList = parts.toList.map fun p => (p.1, ρ p.2) := by simp
  obtain ⟨hl, hpp⟩ := slParts_rel hrel es _ _ hp
  have hrow : ∀ zc : Array Value, zc = (if len * es = 0 then #[] else z.cells) → ((Array.range (len * es)).map (zc[· % zc.size]!)) = (repsV z.cells.toList len).toArray := by
    intro zc hzc
    apply Array.ext'
    split at hzc
    · rename_i h0
      rw [h0]
      have : repsV z.cells.toList len = [] := List.eq_nil_of_length_eq_zero (by rw [repsV_length]; simpa [hzs] using h0)
      simp [this]
    · subst hzc
      rw [← range_map_eq, hzs]
  obtain ⟨o, ho1, ho2, ho3⟩ := fill_rel (φ := φ) (fun i => some (i * es, es)) (parts.toList.map fun p => (p.1, ρ p.2)) _ (reps zero len) (repsV z.cells.toList len).toArray cs (by simpa using hl) hpp (by simpa using reps_rel hz2 len) (by simpa using repsV_ones hz3 len) hf
  have hrun : (Instr.buildSlice t len (parts.map fun (i, x) => (i, ρ x))).run P w = .ok (.slice (some ⟨w.heap.size, 0, none⟩) len len) (w.alloc (.cells o e)) := by
    simp only [Instr.buildSlice, Sem.run_bind, run_underlying ht, Result.andThen_ok, hs']
    rw [if_neg (by omega)]
    split
    · rename_i h0
      simp only [Sem.run_bind, Sem.run_pure, Result.andThen_ok]
      rw [hrow #[] (by rw [if_pos h0]), hmap, ho1]
      simp only [newRow, Sem.run_bind, run_newObj, Result.andThen_ok, Sem.run_pure]
      rfl
    · rename_i h0
      simp only [Sem.run_bind, Sem.run_pure, Result.andThen_ok, hz1]
      rw [hrow z.cells (by rw [if_neg h0]), hmap, ho1]
      simp only [newRow, Sem.run_bind, run_newObj, Result.andThen_ok, Sem.run_pure]
      rfl
  have hlen : cs.length = len * es := by
    have hlf : ∀ (ps : List (Nat × Nat × AVal)) (c0 out : List AVal), aFill c0 ps = some out → out.length = c0.length := by
      intro ps
      induction ps with
      | nil => intro c0 out hh; simp only [aFill, Option.some.injEq] at hh; rw [hh]
      | cons p ps ih =>
        intro c0 out hh
        obtain ⟨off, n, x⟩ := p
        simp only [aFill, Option.bind_eq_some_iff] at hh
        obtain ⟨vs, hvs, hh⟩ := hh
        cases hb : Nat.ble (off + n) c0.length with
        | false => rw [hb] at hh; cases hh
        | true =>
          rw [hb] at hh
          have hle := Nat.le_of_ble_eq_true hb
          have hvl : vs.length = n := by
            unfold aCells at hvs
            split at hvs
            · cases hq : Nat.beq _ n with
              | false => rw [hq] at hvs; cases hvs
              | true => rw [hq] at hvs; cases hvs; exact Nat.eq_of_beq_eq_true hq
            · cases hvs
          rw [ih _ _ hh]
          simp only [splice, List.length_append, List.length_take, List.length_drop]
          omega
    rw [hlf _ _ _ hf, reps_length, hzl]
  exact ⟨o, hrun, ho2, ho3, hlen⟩

theorem buildSl_rel {φ : Phi} {h : Heap} {w : World} (H : HRel φ h w) {ev : AOpd → AVal} {ρ : Operand → Value} (hrel : ∀ x y, opdOk x y = true → VRel φ (ev y) (ρ x)) {t e : TypeId} {len es : Nat} {parts : Array (Nat × Operand)} {zero : List AVal} {as : List (Nat × AOpd)}
    (ht : P.underlying t = some (.slice e)) (hs : (P.info? e).map (·.size) = some es) (hz : zeroOk P e zero = true) (hzl : zero.length = es) (hmost : len * es ≤ 16777216) (hp : slPartsOk parts.toList as = true)
    {cs : List AVal} (hf : aFill (reps zero len) (as.map fun p => (p.1 * es, es, ev p.2)) = some cs) :
    OkTo P φ h w (Instr.buildSlice t len (parts.map fun (i, x) => (i, ρ x))) (.slice h.next 0 len len es true) (h.alloc cs) := by
  obtain ⟨o, hrun, ho2, ho3, hlen⟩ := buildSl_run hrel ht hs hz hzl hmost hp (w := w) hf
  have ho4 := VRels.length ho2
  simp only [Array.length_toList] at ho4
  obtain ⟨h1, h2⟩ := H.alloc (cs := cs) (c := o) e (0, 0) (.inl rfl) (by omega) (by
    intro i v hv
    obtain ⟨u, hu, hru⟩ := VRels.get ho2 i v hv
    exact ⟨u, by simpa using hu, hru, ho3 u (List.mem_of_getElem? hu)⟩) (w' := w.alloc (.cells o e)) rfl rfl rfl rfl
  refine ⟨_, _, _, hrun, vrel_slice.2 ⟨⟨w.heap.size, 0, o.size⟩, _, len, by simp [Phi.set], rfl, Nat.le_refl _, Nat.le_refl _, fun _ => rfl, fun _ => ⟨rfl, ?_⟩⟩, h1, h2⟩
  simp only
  omega

/-- A load. -/
theorem load_rel {φ : Phi} {h : Heap} {w : World} (H : HRel φ h w) {t : TypeId} {agg : Bool} {n : Nat} (ht : aggOk P t agg n = true) {x : AVal} {v : Value} (hx : VRel φ x v) {cs : List AVal} (e : aLoad h n x = some cs) {r : AVal} (hf : fromCells agg cs = some r) :
    ∃ u, (Instr.loadAt t v).run P w = .ok u w ∧ VRel φ r u := by
  obtain ⟨h1, h2, h3⟩ := run_aggOk w ht
  unfold aLoad at e
  split at e
  · rename_i b off
    obtain ⟨L, hbl, rfl⟩ := vrel_ptr.1 hx
    obtain ⟨us, u1, u2, u3, u4⟩ := H.rd e hbl
    have hld : (loadCells ⟨L.blk, L.base + off, none⟩ n).run P w = .ok us.toArray w := by rw [← u3]; exact loadCells_of u4
    cases agg with
    | true =>
      simp only [fromCells, Option.some.injEq] at hf
      subst hf
      exact ⟨.agg us.toArray, by simp [Instr.loadAt, Instr.sureAddr, loadVar, h1, h2, hld], vrel_agg.2 ⟨_, rfl, by simpa using u1, by simpa using u2⟩⟩
    | false =>
      have hn := h3 rfl
      subst hn
      match us, u3 with
      | [u], _ =>
        match cs, u1 with
        | [c], u1 =>
          simp only [fromCells, Option.some.injEq] at hf
          subst hf
          simp only [VRels, and_true] at u1
          have hc := u4 0 u rfl
          simp only [Nat.add_zero] at hc
          exact ⟨u, by simp [Instr.loadAt, Instr.sureAddr, loadVar, h1, hc], u1⟩
        | [], u1 => simp [VRels] at u1
        | _ :: _ :: _, u1 => simp [VRels] at u1
  · cases e

/-- A store. -/
theorem store_rel {φ : Phi} {h h' : Heap} {w : World} (H : HRel φ h w) {t : TypeId} {agg : Bool} {n : Nat} (ht : aggOk P t agg n = true) {x y : AVal} {v u : Value} (hx : VRel φ x v) (hy : VRel φ y u) {cs : List AVal} (hc : aCells n y = some cs) (e : aStore h x cs = some h') :
    ∃ w', (Instr.storeAt t v u).run P w = .ok () w' ∧ HRel φ h' w' ∧ Step φ h w φ h' w' := by
  obtain ⟨h1, h2, h3⟩ := run_aggOk w ht
  obtain ⟨c1, c2, c3, c4⟩ := aCells_rel hy hc
  unfold aStore at e
  split at e
  · rename_i b off
    obtain ⟨L, hbl, rfl⟩ := vrel_ptr.1 hx
    obtain ⟨w', hst, H', S'⟩ := HRel.wr (P := P) H e hbl c1 c2
    refine ⟨w', ?_, H', S'⟩
    simp [Instr.storeAt, Instr.sureAddr, storeVar, h2, c3, hst]
  · cases e

/-- A box. -/
theorem box_rel {φ : Phi} {h : Heap} {w : World} (H : HRel φ h w) (t : TypeId) {x : AVal} {v : Value} (hx : VRel φ x v) {cs : List AVal} (hc : x.cells? = some cs) : OkTo P φ h w (Instr.box t v) (.ptr h.next 0) (h.alloc cs) := by
  obtain ⟨c1, c2⟩ := cells_rel hx hc
  obtain ⟨h1, h2⟩ := H.alloc (cs := cs) (c := v.cells) t (0, 0) (.inl rfl) (by rw [VRels.length c1]; simp) (by
    intro i a ha
    obtain ⟨u, hu, hru⟩ := VRels.get c1 i a ha
    exact ⟨u, by simpa using hu, hru, c2 u (List.mem_of_getElem? hu)⟩) (w' := w.alloc (.cells v.cells t)) rfl rfl rfl rfl
  exact ⟨.pointer (some ⟨w.heap.size, 0, none⟩), _, _, by simp [Instr.box, newVar, newRow], vrel_ptr.2 ⟨_, by simp [Phi.set]; rfl, rfl⟩, h1, h2⟩

theorem alloc_rel {φ : Phi} {h : Heap} {w : World} (H : HRel φ h w) {t : TypeId} {zero : List AVal} (hz : zeroOk P t zero = true) : OkTo P φ h w (Instr.alloc t true (.tuple #[])) (.ptr h.next 0) (h.alloc zero) := by
  obtain ⟨z, hz1, c1, c2⟩ := zero_rel (P := P) w hz φ
  obtain ⟨h1, h2⟩ := H.alloc (cs := zero) (c := z.cells) t (0, 0) (.inl rfl) (by rw [VRels.length c1]; simp) (by
    intro i a ha
    obtain ⟨u, hu, hru⟩ := VRels.get c1 i a ha
    exact ⟨u, by simpa using hu, hru, c2 u (List.mem_of_getElem? hu)⟩) (w' := w.alloc (.cells z.cells t)) rfl rfl rfl rfl
  exact ⟨.pointer (some ⟨w.heap.size, 0, none⟩), _, _, by simp [Instr.alloc, hz1, newVar, newRow], vrel_ptr.2 ⟨_, by simp [Phi.set]; rfl, rfl⟩, h1, h2⟩

/-- The same under names that were held ready. -/
theorem buildSl_at {φ : Phi} {h : Heap} {w : World} (H : HRel φ h w) {b : Nat} (hnone : φ b = none) (hlt : b < h.next) {ev : AOpd → AVal} {ρ : Operand → Value} (hrel : ∀ x y, opdOk x y = true → VRel φ (ev y) (ρ x)) {t e : TypeId} {len es : Nat} {parts : Array (Nat × Operand)} {zero : List AVal} {as : List (Nat × AOpd)}
    (ht : P.underlying t = some (.slice e)) (hs : (P.info? e).map (·.size) = some es) (hz : zeroOk P e zero = true) (hzl : zero.length = es) (hmost : len * es ≤ 16777216) (hp : slPartsOk parts.toList as = true)
    {cs : List AVal} (hf : aFill (reps zero len) (as.map fun p => (p.1 * es, es, ev p.2)) = some cs) :
    ∃ (c : Array Value) (u : Value), (Instr.buildSlice t len (parts.map fun (i, x) => (i, ρ x))).run P w = .ok u (w.alloc (.cells c e)) ∧ VRel (φ.set b ⟨w.heap.size, 0, c.size⟩) (.slice b 0 len len es true) u ∧ HRel (φ.set b ⟨w.heap.size, 0, c.size⟩) (h.setBlk b (some ⟨cs, true⟩)) (w.alloc (.cells c e)) := by
  obtain ⟨o, hrun, ho2, ho3, hlen⟩ := buildSl_run hrel ht hs hz hzl hmost hp (w := w) hf
  have ho4 := VRels.length ho2
  simp only [Array.length_toList] at ho4
  have h1 := H.allocAt hnone hlt (cs := cs) (c := o) e (0, 0) (.inl rfl) (by omega) (by
    intro i v hv
    obtain ⟨u, hu, hru⟩ := VRels.get ho2 i v hv
    exact ⟨u, by simpa using hu, hru, ho3 u (List.mem_of_getElem? hu)⟩) (w' := w.alloc (.cells o e)) rfl
  refine ⟨o, _, hrun, vrel_slice.2 ⟨⟨w.heap.size, 0, o.size⟩, _, len, by simp [Phi.set], rfl, Nat.le_refl _, Nat.le_refl _, fun _ => rfl, fun _ => ⟨rfl, ?_⟩⟩, h1⟩
  simp only
  omega

theorem alloc_at {φ : Phi} {h : Heap} {w : World} (H : HRel φ h w) {b : Nat} (hnone : φ b = none) (hlt : b < h.next) {t : TypeId} {zero : List AVal} (hz : zeroOk P t zero = true) :
    ∃ (c : Array Value) (u : Value), (Instr.alloc t true (.tuple #[])).run P w = .ok u (w.alloc (.cells c t)) ∧ VRel (φ.set b ⟨w.heap.size, 0, c.size⟩) (.ptr b 0) u ∧ HRel (φ.set b ⟨w.heap.size, 0, c.size⟩) (h.setBlk b (some ⟨zero, true⟩)) (w.alloc (.cells c t)) := by
  obtain ⟨z, hz1, c1, c2⟩ := zero_rel (P := P) w hz φ
  have h1 := H.allocAt hnone hlt (cs := zero) (c := z.cells) t (0, 0) (.inl rfl) (by rw [VRels.length c1]; simp) (by
    intro i a ha
    obtain ⟨u, hu, hru⟩ := VRels.get c1 i a ha
    exact ⟨u, by simpa using hu, hru, c2 u (List.mem_of_getElem? hu)⟩) (w' := w.alloc (.cells z.cells t)) rfl
  exact ⟨z.cells, .pointer (some ⟨w.heap.size, 0, none⟩), by simp [Instr.alloc, hz1, newVar, newRow], vrel_ptr.2 ⟨_, by simp [Phi.set]; rfl, rfl⟩, h1⟩

end
end Go.Fw

/- One operation, in a frame. -/
namespace Go.Fw
set_option linter.unusedSimpArgs false
set_option linter.unusedVariables false

section
variable {P : Program}

theorem look_cons (d t : Nat) (v : AVal) (l : List (Nat × AVal)) : look ((d, v) :: l) t = if t = d then v else look l t := by
  rw [show look ((d, v) :: l) t = bif Nat.beq d t then v else look l t from rfl]
  cases hb : Nat.beq d t with
  | true => have := Nat.eq_of_beq_eq_true hb; subst this; simp
  | false => have := Nat.ne_of_beq_eq_false hb; rw [if_neg (Ne.symm this)]; rfl
theorem lookA_cons (d t : Nat) (v : Nat × Nat) (l : List (Nat × Nat × Nat)) : lookA ((d, v) :: l) t = if t = d then some v else lookA l t := by
  rw [show lookA ((d, v) :: l) t = bif Nat.beq d t then some v else lookA l t from rfl]
  cases hb : Nat.beq d t with
  | true => have := Nat.eq_of_beq_eq_true hb; subst this; simp
  | false => have := Nat.ne_of_beq_eq_false hb; rw [if_neg (Ne.symm this)]; rfl
theorem lookA_drop (d t : Nat) : ∀ l : List (Nat × Nat × Nat), lookA (dropA l d) t = if t = d then none else lookA l t
  | [] => by simp [dropA, lookA]
  | (u, v) :: r => by
    rw [show dropA ((u, v) :: r) d = bif Nat.beq u d then dropA r d else (u, v) :: dropA r d from rfl]
    cases hb : Nat.beq u d with
    | true =>
      simp only [cond_true]
      rw [lookA_drop d t r, lookA_cons]
      have := Nat.eq_of_beq_eq_true hb
      subst this
      by_cases h : t = u
      · simp [h]
      · simp [h]
    | false =>
      have hne := Nat.ne_of_beq_eq_false hb
      simp only [cond_false]
      rw [lookA_cons, lookA_cons, lookA_drop d t r]
      by_cases h : t = u
      · subst h; simp [hne]
      · simp [h]

theorem lookB_cons (d t : Nat) (v : List AVal) (l : List (Nat × List AVal)) : lookB ((d, v) :: l) t = if t = d then some v else lookB l t := by
  rw [show lookB ((d, v) :: l) t = bif Nat.beq d t then some v else lookB l t from rfl]
  cases hb : Nat.beq d t with
  | true => have := Nat.eq_of_beq_eq_true hb; subst this; simp
  | false => have := Nat.ne_of_beq_eq_false hb; rw [if_neg (Ne.symm this)]; rfl
theorem lookB_set (d t : Nat) (c : List AVal) : ∀ (l : List (Nat × List AVal)), lookB (setB l d c) t = if t = d then (lookB l d).map (fun _ => c) else lookB l t
  | [] => by simp [setB, lookB]
  | (u, v) :: r => by
    unfold setB
    cases hb : Nat.beq u d with
    | true =>
      have := Nat.eq_of_beq_eq_true hb
      subst this
      simp only [cond_true, lookB_cons]
      split
      · subst_vars; simp
      · rename_i hne; rfl
    | false =>
      have hne := Nat.ne_of_beq_eq_false hb
      simp only [cond_false, lookB_cons, lookB_set d t c r]
      by_cases h1 : t = u
      · subst h1
        rw [if_pos rfl, if_neg hne, if_pos rfl]
      · rw [if_neg h1, if_neg h1, if_neg (Ne.symm hne)]

theorem put_get (a : Act) (d t : Nat) (u : Value) (hd : d < a.tmps.size) : (a.put (some d) u).tmps.getD t undef = if t = d then u else a.tmps.getD t undef := by
  simp only [Act.put, Array.getD_eq_getD_getElem?, Array.getElem?_setIfInBounds]
  by_cases h : d = t
  · subst h; simp [hd]
  · simp [h, Ne.symm h]

variable {B n : Nat} {φ : Phi} {L : Nat → Nat} {s : Env} {h : Heap} {a : Act} {w : World}

theorem CRel.set (c : CRel B n φ L s h a w) {d : Nat} (hd : d < n) {v : AVal} {u : Value} (hv : VRel φ v u) : CRel B n φ L (s.set d v) h (a.put (some d) u) w where
  heap := c.heap
  size := by simp [Act.put, c.size]
  defers := c.defers
  vals := fun t ht => by
    simp only [Env.set, lookA_drop, look_cons] at ht ⊢
    rw [put_get a d t u (by rw [c.size]; exact hd)]
    split
    · exact hv
    · rename_i hne; rw [if_neg hne] at ht; exact c.vals t ht
  lads := fun t l off ht => by
    simp only [Env.set, lookA_drop] at ht ⊢
    split at ht
    · cases ht
    · rename_i hne
      rw [put_get a d t u (by rw [c.size]; exact hd), if_neg hne]
      exact c.lads t l off ht
  locs := c.locs
  inj := c.inj

theorem CRel.setL (c : CRel B n φ L s h a w) {d : Nat} (hd : d < n) {l off : Nat} {cs : List AVal} (hl : lookB s.locs l = some cs) : CRel B n φ L (s.setL d l off) h (a.put (some d) (.pointer (some ⟨L l, off, none⟩))) w where
  heap := c.heap
  size := by simp [Act.put, c.size]
  defers := c.defers
  vals := fun t ht => by
    simp only [Env.setL, lookA_cons] at ht ⊢
    split at ht
    · cases ht
    · rename_i hne
      rw [put_get a d t _ (by rw [c.size]; exact hd), if_neg hne]
      exact c.vals t ht
  lads := fun t l' off' ht => by
    simp only [Env.setL, lookA_cons] at ht ⊢
    rw [put_get a d t _ (by rw [c.size]; exact hd)]
    split at ht
    · rename_i he
      simp only [Option.some.injEq, Prod.mk.injEq] at ht
      obtain ⟨rfl, rfl⟩ := ht
      rw [if_pos he]
      exact ⟨⟨cs, hl⟩, rfl⟩
    · rename_i hne
      rw [if_neg hne]
      exact c.lads t l' off' ht
  locs := c.locs
  inj := c.inj

theorem CRel.step (c : CRel B n φ L s h a w) {φ' : Phi} {h' : Heap} {w' : World} (S : Step φ h w φ' h' w') (H : HRel φ' h' w') : CRel B n φ' L s h' a w' where
  heap := H
  size := c.size
  defers := c.defers
  vals := fun t ht => VRel.ext S.ext _ (c.vals t ht)
  lads := c.lads
  locs := fun l cs hl => by
    obtain ⟨h1, h2, h3, cc, e, h4, h5, h6⟩ := c.locs l cs hl
    refine ⟨h1, Nat.lt_of_lt_of_le h2 S.size, ?_, cc, e, ?_, VRels.ext S.ext _ h5, h6⟩
    · intro b loc hb
      cases hb0 : φ b with
      | some loc0 =>
        have := S.ext b loc0 hb0
        rw [hb] at this
        cases this
        exact h3 b loc hb0
      | none =>
        rcases (S.new b loc hb0 hb).2 with hh | ⟨b0, x0, L0, _, _, p0, e0⟩
        · omega
        · rw [← e0]; exact h3 b0 L0 p0
    · rw [S.frame (L l) h2 fun b x loc _ _ p => h3 b loc p]
      exact h4
  inj := c.inj

/-- A new local block. -/
theorem CRel.newLoc (c : CRel B n φ L s h a w) (hB : B ≤ w.heap.size) {d : Nat} (hd : d < n) (hf : s.fresh d = true) {cs : List AVal} {vs : Array Value} (hr : VRels φ cs vs.toList) (ho : ∀ u ∈ vs.toList, u.oneCell' = true) (t : TypeId) :
    CRel B n φ (fun i => if i = d then w.heap.size else L i) (s.newLoc d cs) h (a.put (some d) (.pointer (some ⟨w.heap.size, 0, none⟩))) (w.alloc (.cells vs t)) ∧ Step φ h w φ h (w.alloc (.cells vs t)) := by
  have hfresh : lookB s.locs d = none := by
    unfold Env.fresh at hf
    split at hf
    · cases hf
    · assumption
  have hold : ∀ k, k < w.heap.size → (w.alloc (.cells vs t)).heap[k]? = w.heap[k]? := fun k hk => Go.RowKit.Below.heap_alloc w _ k hk
  have S : Step φ h w φ h (w.alloc (.cells vs t)) := ⟨Ext.refl _, Nat.le_refl _, fun b x _ hx => ⟨x, hx, rfl⟩, fun _ _ h1 h2 => (by rw [h1] at h2; cases h2), by simp, fun _ _ _ => rfl, fun k hk _ => hold k hk, rfl, rfl, rfl⟩
  have H : HRel φ h (w.alloc (.cells vs t)) := ⟨fun b l hb => ⟨(c.heap.dom b l hb).1, by have := (c.heap.dom b l hb).2; simp; omega⟩, c.heap.live, fun b x l hx hb => by
      obtain ⟨c1, t1, fz1, hg1, r⟩ := c.heap.blk b x l hx hb
      exact ⟨c1, t1, fz1, by rw [hold _ (c.heap.dom b l hb).2]; exact hg1, r⟩, c.heap.apart, c.heap.pin⟩
  refine ⟨⟨H, by simp [Act.put, c.size], c.defers, ?_, ?_, ?_, ?_⟩, S⟩
  · intro q hq
    simp only [Env.newLoc, lookA_cons] at hq ⊢
    split at hq
    · cases hq
    · rename_i hne
      rw [put_get a d q _ (by rw [c.size]; exact hd), if_neg hne]
      exact c.vals q hq
  · intro q l off hq
    simp only [Env.newLoc, lookA_cons, lookB_cons] at hq ⊢
    rw [put_get a d q _ (by rw [c.size]; exact hd)]
    split at hq
    · rename_i he
      simp only [Option.some.injEq, Prod.mk.injEq] at hq
      obtain ⟨rfl, rfl⟩ := hq
      rw [if_pos he]
      exact ⟨⟨cs, by simp⟩, by simp⟩
    · rename_i hne
      rw [if_neg hne]
      obtain ⟨⟨cs', hcs'⟩, hv⟩ := c.lads q l off hq
      have hld : l ≠ d := fun e => by subst e; rw [hfresh] at hcs'; cases hcs'
      simp only [if_neg hld]
      exact ⟨⟨cs', hcs'⟩, hv⟩
  · intro l cs' hl
    simp only [Env.newLoc, lookB_cons] at hl
    split at hl
    · rename_i he
      subst he
      cases hl
      simp only [if_true]
      refine ⟨hB, by simp, fun b loc hb => ?_, vs, t, heap_alloc_new w _, hr, ho⟩
      have := (c.heap.dom b loc hb).2
      omega
    · rename_i hne
      simp only [if_neg hne]
      obtain ⟨h1, h2, h3, cc, e, h4, h5, h6⟩ := c.locs l cs' hl
      exact ⟨h1, by simp; omega, h3, cc, e, by rw [hold _ h2]; exact h4, h5, h6⟩
  · intro l l' c1 c2 e1 e2 e3
    simp only [Env.newLoc, lookB_cons] at e1 e2
    split at e1
    · split at e2
      · subst_vars; rfl
      · rename_i he hne
        simp only [if_pos he, if_neg hne] at e3
        have := (c.locs l' c2 e2).2.1
        omega
    · rename_i hne
      split at e2
      · rename_i he
        simp only [if_pos he, if_neg hne] at e3
        have := (c.locs l c1 e1).2.1
        omega
      · rename_i hne'
        simp only [if_neg hne, if_neg hne'] at e3
        exact c.inj l l' c1 c2 e1 e2 e3

/-- A store into a local block. -/
theorem CRel.locWr (c : CRel B n φ L s h a w) {l off : Nat} {old cs : List AVal} (hl : lookB s.locs l = some old) {us : List Value} (hr : VRels φ cs us) (ho : ∀ u ∈ us, u.oneCell' = true) (hle : off + cs.length ≤ old.length) :
    ∃ w', (storeCells ⟨L l, off, none⟩ us).run P w = .ok () w' ∧ CRel B n φ L { s with locs := setB s.locs l (splice old off cs) } h a w' ∧ (∀ k, k ≠ L l → w'.heap[k]? = w.heap[k]?) ∧ ∀ (W : World), W.heap.size = B → (∀ k, k < B → w'.heap[k]? = w.heap[k]?) ∧ w.heap.size ≤ w'.heap.size ∧ w'.os = w.os ∧ w'.tape = w.tape ∧ w'.output = w.output := by
  obtain ⟨h1, h2, h3, cc, e, h4, h5, h6⟩ := c.locs l old hl
  have hlen := VRels.length hr
  have hl5 := VRels.length h5
  simp only [Array.length_toList] at hl5
  have hrun := run_storeCells_free (P := P) (L l) off e (0, 0) us 0 cc w h4 (by intro j _ hh; simp at hh) (by omega) ho
  generalize hnew : (cc.toList.take (off + 0) ++ us ++ cc.toList.drop (off + 0 + us.length)).toArray = cc' at hrun
  have hother : ∀ k, k ≠ L l → (w.setRow (L l) cc').heap[k]? = w.heap[k]? := fun k hk => setRow_other w (L l) k cc' hk
  have hsize : (w.setRow (L l) cc').heap.size = w.heap.size := by simp
  refine ⟨w.setRow (L l) cc', hrun, ⟨⟨fun b loc hb => by rw [hsize]; exact c.heap.dom b loc hb, c.heap.live, fun b x loc hx hb => ?_, c.heap.apart, c.heap.pin⟩, c.size, c.defers, c.vals, ?_, ?_, ?_⟩, hother, ?_⟩
  · obtain ⟨c1, t1, fz1, hg1, r⟩ := c.heap.blk b x loc hx hb
    exact ⟨c1, t1, fz1, by rw [hother _ (h3 b loc hb)]; exact hg1, r⟩
  · intro q l' off' hq
    obtain ⟨⟨cs', hcs'⟩, hv⟩ := c.lads q l' off' hq
    refine ⟨?_, hv⟩
    simp only [lookB_set]
    split
    · exact ⟨_, by rw [hl]; rfl⟩
    · exact ⟨cs', hcs'⟩
  · intro l' cs' hl'
    simp only [lookB_set] at hl'
    split at hl'
    · rename_i he
      subst he
      rw [hl] at hl'
      simp only [Option.map_some, Option.some.injEq] at hl'
      subst hl'
      refine ⟨h1, by rw [hsize]; exact h2, h3, cc', e, setRow_heap w _ cc cc' e (0, 0) h4, ?_, ?_⟩
      · rw [← hnew]
        simp only [Nat.add_zero]
        exact splice_rel off h5 hr
      · rw [← hnew]
        simp only [Nat.add_zero]
        exact splice_ones off _ h6 ho
    · rename_i hne
      obtain ⟨g1, g2, g3, c2, e2, g4, g5, g6⟩ := c.locs l' cs' hl'
      have hne' : L l' ≠ L l := fun hh => hne (c.inj l' l cs' old hl' hl hh)
      exact ⟨g1, by rw [hsize]; exact g2, g3, c2, e2, by rw [hother _ hne']; exact g4, g5, g6⟩
  · intro l1 l2 c1 c2 e1 e2 e3
    simp only [lookB_set] at e1 e2
    have f1 : ∃ c, lookB s.locs l1 = some c := by
      split at e1
      · subst_vars; exact ⟨_, hl⟩
      · exact ⟨_, e1⟩
    have f2 : ∃ c, lookB s.locs l2 = some c := by
      split at e2
      · subst_vars; exact ⟨_, hl⟩
      · exact ⟨_, e2⟩
    obtain ⟨d1, f1⟩ := f1
    obtain ⟨d2, f2⟩ := f2
    exact c.inj l1 l2 d1 d2 f1 f2 e3
  · intro W hW
    refine ⟨fun k hk => hother k (by omega), by rw [hsize]; exact Nat.le_refl _, rfl, rfl, rfl⟩

end
end Go.Fw
