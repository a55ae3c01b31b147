/- Arguments that are slices of slices of numbers. -/
import Derived.Test.YtfdhljghamkgjaaFwZs
namespace Go.Fw
set_option linter.unusedSimpArgs false
set_option linter.unusedVariables false
open Go.RowKit Go.WideShapes Go.ChangeShapes

section
variable {H : Type} {enc : TypeId × Value → H} {P : Program} {w : World}

/-- What an inner slice brings. -/
structure Inner (k : IntKind) (P : Program) (e : TypeId) (w : World) (v : Value) (d : DataW H) (L : Loc) (mk : Nat → AVal) (l : List Int) : Prop where
  rel : ∀ φ i, φ i = some L → VRel φ (mk i) v
  ro : ∀ φ, RoOk φ w (L, l.map (.int k))
  src : ∀ (h : Heap) i, i < h.next → h.blk i = some ⟨l.map (.int k), false⟩ → Src 1 (mk i) h l.length (l.map (.int k))
  one : v.oneCell' = true
  wf : ∀ x ∈ l, (Lit.int k x).wf = true
  sz : ∀ f, P.underlying e = some (.slice f) → (∀ x ∈ d.weights P e, x ≤ reachBytes) → l.length * P.bytesOf f ≤ reachBytes

theorem inner_ints {e f : TypeId} {k : IntKind} (he : P.underlying e = some (.slice f)) (hf : P.underlying f = some (.int k)) (hc : P.cellsOf f = 1) {v : Value} {n : Nat} {d : DataW H} {q : List MemPlace}
    (h : DataW.trod enc P w 0 (fun _ => true) true n e [v] = some (d, q)) {b0 : Nat} {c0 : Array Value} {t0 : TypeId} {fz0 : Nat × Nat} (h0 : w.heap[b0]? = some (.cells c0 t0 fz0)) :
    ∃ L mk l, Inner k P e w v d L mk l := by
  have ro0 : ∀ φ, RoOk φ w ((⟨b0, 0, c0.size⟩ : Loc), ([] : List Int).map (.int k)) := fun φ => ⟨c0, t0, fz0, h0, rfl, by simp, by simp⟩
  rcases open_ints he hf hc h with ⟨h1, hd⟩ | ⟨a, len, cap, zs, h1, _, hl, hm, hz, hd, hcell, hwf⟩
  · simp only [List.cons.injEq, and_true] at h1
    subst h1
    refine ⟨⟨b0, 0, c0.size⟩, fun _ => .nilSlice, [], ⟨fun φ i _ => by unfold VRel; rfl, ro0, fun h i _ _ => ⟨rfl, .inl ⟨rfl, rfl⟩⟩, rfl, by simp, fun _ _ _ => by simp⟩⟩
  · simp only [List.cons.injEq, and_true] at h1
    subst h1
    simp only [Prod.mk.injEq] at hd
    simp only [if_true] at hz
    have hsz : ∀ g, P.underlying e = some (.slice g) → (∀ x ∈ d.weights P e, x ≤ reachBytes) → (zs.take len).length * P.bytesOf g ≤ reachBytes := by
      intro g hg hw
      rw [hd.1] at hw
      have h2 := hw (((lits (H := H) k (zs.take len)).length + (lits (H := H) k (zs.drop len)).length) * P.bytesOf g) (by simp [DataW.weights, hg])
      have h3 : (lits (H := H) k (zs.take len)).length = (zs.take len).length := by simp [lits]
      rw [Nat.add_mul, h3] at h2
      omega
    by_cases hcap : cap = 0
    · have hl0 : len = 0 := by omega
      subst hcap hl0
      refine ⟨⟨b0, 0, c0.size⟩, fun i => .slice i 0 0 0 1 false, [], ⟨fun φ i hi => vrel_slice.2 ⟨_, a, 0, hi, rfl, Nat.le_refl _, Nat.le_refl _, (fun h => by cases h), (fun h => by omega)⟩, ro0, fun h i hi hb => ⟨rfl, .inr ⟨i, 0, 0, false, rfl, hi, by rw [rd_of hb 0 _ (by simp)]; simp⟩⟩, rfl, by simp, fun _ _ _ => by simp⟩⟩
    · have hc0 := hcell 0 (by omega)
      have hs : a.spot = none := by
        cases hsp : a.spot with
        | none => rfl
        | some s =>
          exfalso
          have : (a.add 0).spot.isSome = true := by
            unfold Addr.add
            split
            · simp_all
            · rename_i h2; simp_all
          unfold World.cell? at hc0
          split at hc0
          · rw [this] at hc0; cases hc0
          · cases hc0
      have hadd : ∀ i, (a.add i) = ⟨a.block, a.off + i, none⟩ := by
        intro i
        obtain ⟨b, off, sp⟩ := a
        simp only at hs
        subst hs
        exact add_plain b off i
      obtain ⟨c, el, fz, hcb⟩ : ∃ c el fz, w.heap[a.block]? = some (.cells c el fz) := by
        rw [hadd] at hc0
        unfold World.cell? at hc0
        split at hc0
        · rename_i c el fz hcb
          exact ⟨c, el, fz, hcb⟩
        · cases hc0
      have hcell' : ∀ i, i < cap → c[a.off + i]? = some (.int k (zs.getD i 0)) := by
        intro i hi
        have := hcell i (by omega)
        rw [hadd] at this
        simp only [World.cell?, hcb] at this
        simpa using this
      have hszc : a.off + cap ≤ c.size := by
        have := hcell' (cap - 1) (by omega)
        have := (Array.getElem?_eq_some_iff.1 this).1
        omega
      have hlen : (zs.take len).length = len := by simp; omega
      refine ⟨⟨a.block, a.off, c.size⟩, fun i => .slice i 0 len len 1 false, zs.take len, ⟨fun φ i hi => ?_, fun φ => ⟨c, el, fz, hcb, rfl, by simp only [List.length_map, hlen]; omega, ?_⟩, fun h i hi hb => ⟨by simp, .inr ⟨i, 0, len, false, by rw [hlen], hi, ?_⟩⟩, rfl, fun x hx => hwf x (List.mem_of_mem_take hx), hsz⟩⟩
      · refine vrel_slice.2 ⟨_, a, cap, hi, rfl, Nat.le_refl _, hl, (fun h => by cases h), fun _ => ⟨?_, by simp only; omega⟩⟩
        obtain ⟨b, off, sp⟩ := a
        simp only at hs
        subst hs
        simp
      · intro i v hi
        rw [List.getElem?_map] at hi
        simp only [Option.map_eq_some_iff] at hi
        obtain ⟨x, hx, rfl⟩ := hi
        have hil : i < len := by
          have := (List.getElem?_eq_some_iff.1 hx).1
          omega
        rw [List.getElem?_take, if_pos hil] at hx
        refine ⟨_, hcell' i (by omega), ?_, rfl⟩
        unfold VRel
        rw [List.getD_eq_getElem?_getD, hx]
        rfl
      · rw [rd_of hb 0 _ (by simp)]
        simp only [List.drop_zero, Nat.mul_one]
        rw [List.take_of_length_le (by simp)]

structure NestIt where
  loc : Loc
  av : Nat → AVal
  nums : List Int

/-- The blocks of a nested row: the outer one, then each inner one. -/
def nestBs (k : IntKind) (L : Loc) (its : List NestIt) (i : Nat) : List (Loc × List AVal) :=
  (L, (List.range its.length).map fun j => ((its[j]?).map fun x => x.av (i + 1 + j)).getD .undef) :: its.map fun x => (x.loc, x.nums.map (.int k))

theorem exists_items {P : Nat → NestIt → Prop} : ∀ (n : Nat), (∀ i, i < n → ∃ a, P i a) → ∃ l : List NestIt, l.length = n ∧ ∀ i a, l[i]? = some a → P i a
  | 0, _ => ⟨[], rfl, fun i a h => by simp at h⟩
  | n + 1, h => by
    obtain ⟨l, hl, hp⟩ := exists_items n fun i hi => h i (by omega)
    obtain ⟨a, ha⟩ := h n (by omega)
    refine ⟨l ++ [a], by simp [hl], fun i b hb => ?_⟩
    by_cases hi : i < n
    · rw [List.getElem?_append_left (by omega)] at hb
      exact hp i b hb
    · have : i < (l ++ [a]).length := (List.getElem?_eq_some_iff.1 hb).1
      simp only [List.length_append, List.length_singleton] at this
      obtain rfl : i = n := by omega
      rw [List.getElem?_append_right (by omega), hl, Nat.sub_self] at hb
      simp only [List.getElem?_cons_zero, Option.some.injEq] at hb
      rw [← hb]
      exact ha

/-- A row of rows as it can be read. -/
def Rows (k : IntKind) (s : AVal) (h : Heap) (L : List (AVal × List Int)) : Prop :=
  Src 1 s h L.length (L.map (·.1)) ∧ ∀ x ∈ L, Src 1 x.1 h x.2.length (x.2.map (.int k)) ∧ ∀ y ∈ x.2, (Lit.int k y).wf = true

theorem nest_arg {t e f : TypeId} {k : IntKind} (ht : P.underlying t = some (.slice e)) (he : P.underlying e = some (.slice f)) (hf : P.underlying f = some (.int k)) (hce : P.cellsOf e = 1) (hcf : P.cellsOf f = 1) {v : Value} {d : DataW H} {ps : List MemPlace}
    (hv : Value.okWide P w .any 0 t v) (h : DataW.Trod enc P w 0 (fun _ => true) true t v d ps) :
    ∃ (bs : Nat → List (Loc × List AVal)) (mk : Nat → AVal), ∀ (B pre post : List (Loc × List AVal)), B = pre ++ (bs pre.length ++ post) → VRel (roPhi B) (mk pre.length) v ∧ (∀ p ∈ bs pre.length, RoOk (roPhi B) w p) ∧
      ∃ R, Rows k (mk pre.length) (roHeap B) R ∧ ((∀ x ∈ d.weights P t, x ≤ reachBytes) → R.length * P.bytesOf e ≤ reachBytes ∧ ∀ x ∈ R, x.2.length * P.bytesOf f ≤ reachBytes) := by
  obtain ⟨a0, len, cap, rfl⟩ := okWide_slice ht hv
  obtain ⟨fuel, hfu⟩ := h
  have hf' : DataW.trod enc P w 0 (fun _ => true) true fuel t [.slice a0 len cap] = some (d, ps) := hfu
  rcases DataW.trod_slice ht hf' with ⟨h1, hd⟩ | ⟨a, len', cap', elems, rest, n, _, h1, hd, _, hl, hm, hlen, hel, hsp, _⟩
  · simp only [List.cons.injEq, and_true] at h1
    rw [h1]
    exact ⟨fun _ => [], fun _ => .nilSlice, fun B pre post _ => ⟨by unfold VRel; rfl, fun p hp => (by cases hp), [], ⟨⟨rfl, .inl ⟨rfl, rfl⟩⟩, fun x hx => by cases hx⟩, fun _ => ⟨by simp, fun x hx => by cases hx⟩⟩⟩
  · simp only [List.cons.injEq, Value.slice.injEq, and_true] at h1
    obtain ⟨rfl, rfl, rfl⟩ := h1
    simp only [Prod.mk.injEq] at hd
    obtain ⟨hs, c, el, fz, hcb⟩ := okWide_has ht hv
    have hadd : ∀ i, (a.add i) = ⟨a.block, a.off + i, none⟩ := by
      intro i
      obtain ⟨b, off, sp⟩ := a
      simp only at hs
      subst hs
      exact add_plain b off i
    obtain ⟨hrl, hr⟩ := hsp rfl
    rw [hce] at hel hr
    have hcell : ∀ i cs, w.cells? 0 (a.add (i * 1)) 1 = some cs → ∃ u, cs = [u] ∧ c[a.off + i]? = some u := by
      intro i cs hcs
      obtain ⟨_, h1, h2⟩ := World.cells?_some hcs
      have := h2 0 (by omega)
      rw [hadd, add_plain, Nat.mul_one, Nat.add_zero] at this
      simp only [World.cell?, hcb] at this
      match cs, h1 with
      | [u], _ => exact ⟨u, rfl, by simpa using this⟩
    obtain ⟨its, hil, hits⟩ := exists_items (P := fun i x => ∃ u, c[a.off + i]? = some u ∧ ∃ y ∈ elems, Inner k P e w u y.1 x.loc x.av x.nums) len fun i hi => by
      have h1 := hel i hi
      rw [List.getElem?_eq_getElem (by omega), Option.bind_eq_some_iff] at h1
      obtain ⟨cs, hcs, ht'⟩ := h1
      obtain ⟨u, rfl, hu⟩ := hcell i cs hcs
      obtain ⟨L, mk, l, hin⟩ := inner_ints he hf hcf (d := (elems[i]'(by omega)).1) (q := (elems[i]'(by omega)).2) ht' hcb
      exact ⟨⟨L, mk, l⟩, u, hu, _, List.getElem_mem (by omega), hin⟩
    have hszc : 0 < cap → a.off + cap ≤ c.size := by
      intro h0
      have hlast : ∃ cs, w.cells? 0 (a.add ((cap - 1) * 1)) 1 = some cs := by
        by_cases hi : cap - 1 < len
        · have h1 := hel (cap - 1) hi
          rw [List.getElem?_eq_getElem (by omega), Option.bind_eq_some_iff] at h1
          obtain ⟨cs, hcs, _⟩ := h1
          exact ⟨cs, hcs⟩
        · have h1 := hr (cap - 1 - len) (by omega)
          rw [List.getElem?_eq_getElem (by omega), Option.bind_eq_some_iff, show len + (cap - 1 - len) = cap - 1 by omega] at h1
          obtain ⟨cs, hcs, _⟩ := h1
          exact ⟨cs, hcs⟩
      obtain ⟨cs, hcs⟩ := hlast
      obtain ⟨u, _, hu⟩ := hcell _ _ hcs
      have := (Array.getElem?_eq_some_iff.1 hu).1
      omega
    have hweights : (∀ x ∈ d.weights P t, x ≤ reachBytes) → len * P.bytesOf e ≤ reachBytes ∧ ∀ y ∈ elems, ∀ x ∈ y.1.weights P e, x ≤ reachBytes := by
      intro hw
      rw [hd.1] at hw
      have hall : ∀ (ys : List (DataW H)) y, y ∈ ys → ∀ x ∈ y.weights P e, x ∈ DataW.weightsAll P e ys := by
        intro ys
        induction ys with
        | nil => intro y hy; cases hy
        | cons z zs ih =>
          intro y hy x hx
          rw [DataW.weightsAll]
          rcases List.mem_cons.1 hy with rfl | hy
          · exact List.mem_append_left _ hx
          · exact List.mem_append_right _ (ih y hy x hx)
      refine ⟨?_, fun y hy x hx => ?_⟩
      · have h1 := hw (((elems.map (·.1)).length + (rest.map (·.1)).length) * P.bytesOf e) (by simp [DataW.weights, ht])
        rw [List.length_map, List.length_map, Nat.add_mul, hlen] at h1
        omega
      · refine hw x ?_
        have := hall (elems.map (·.1)) y.1 (List.mem_map_of_mem hy) x hx
        simp only [DataW.weights, ht]
        exact List.mem_cons_of_mem _ (List.mem_append_left _ this)
    refine ⟨nestBs k ⟨a.block, if cap = 0 then 0 else a.off, c.size⟩ its, fun i => .slice i 0 len len 1 false, fun B pre post hB => ?_⟩
    have hB0 : roPhi B pre.length = some (⟨a.block, if cap = 0 then 0 else a.off, c.size⟩ : Loc) := by
      simp only [roPhi]
      rw [hB, List.getElem?_append_right (Nat.le_refl _), Nat.sub_self]
      rfl
    have hBj : ∀ (j : Nat) (x : NestIt), its[j]? = some x → B[pre.length + 1 + j]? = some (x.loc, x.nums.map (.int k)) := by
      intro j x hx
      have hj : j < its.length := (List.getElem?_eq_some_iff.1 hx).1
      rw [hB, List.getElem?_append_right (by omega), show pre.length + 1 + j - pre.length = j + 1 by omega, List.getElem?_append_left (by simp [nestBs]; omega)]
      simp only [nestBs, List.getElem?_cons_succ, List.getElem?_map, hx, Option.map_some]
    have hnext : (roHeap B).next = B.length := rfl
    have hBl : pre.length + 1 + its.length ≤ B.length := by rw [hB]; simp [nestBs]; omega
    have hcells : ∀ (j : Nat) (x : NestIt), its[j]? = some x → ((List.range its.length).map fun j => ((its[j]?).map fun x => x.av (pre.length + 1 + j)).getD .undef)[j]? = some (x.av (pre.length + 1 + j)) := by
      intro j x hx
      have hj : j < its.length := (List.getElem?_eq_some_iff.1 hx).1
      rw [List.getElem?_map, List.getElem?_range hj]
      simp only [Option.map_some, hx, Option.getD_some]
    refine ⟨?_, ?_, its.zipIdx.map (fun x => (x.1.av (pre.length + 1 + x.2), x.1.nums)), ⟨⟨by simp, .inr ⟨pre.length, 0, len, false, by simp [hil], by rw [hnext]; omega, ?_⟩⟩, ?_⟩, ?_⟩
    · refine vrel_slice.2 ⟨_, a, cap, hB0, rfl, Nat.le_refl _, hl, (fun h => by cases h), fun h0 => ⟨?_, ?_⟩⟩
      · rw [if_neg (by omega)]
        obtain ⟨b, off, sp⟩ := a
        simp only at hs
        subst hs
        simp
      · have := hszc h0
        rw [if_neg (by omega)]
        simp only
        omega
    · intro p hp
      simp only [nestBs, List.mem_cons] at hp
      rcases hp with rfl | hp
      · refine ⟨c, el, fz, hcb, rfl, ?_, ?_⟩
        · simp only [List.length_map, List.length_range, hil]
          split
          · omega
          · have := hszc (by omega); omega
        · intro j x hx
          have hj : j < its.length := by
            have := (List.getElem?_eq_some_iff.1 hx).1
            simpa using this
          have hx2 := hcells j _ (List.getElem?_eq_getElem hj)
          rw [hx2] at hx
          cases hx
          obtain ⟨u, hu, y, _, hin⟩ := hits j _ (List.getElem?_eq_getElem hj)
          refine ⟨u, ?_, hin.rel _ _ ?_, hin.one⟩
          · simp only
            rw [if_neg (by omega)]
            exact hu
          · simp only [roPhi, hBj j _ (List.getElem?_eq_getElem hj), Option.map_some]
      · obtain ⟨x, hx, rfl⟩ := List.mem_map.1 hp
        obtain ⟨j, hj⟩ := List.getElem?_of_mem hx
        obtain ⟨u, hu, y, _, hin⟩ := hits j x hj
        exact hin.ro _
    · have hb : (roHeap B).blk pre.length = some ⟨(List.range its.length).map fun j => ((its[j]?).map fun x => x.av (pre.length + 1 + j)).getD .undef, false⟩ := by
        simp only [roHeap]
        rw [hB, List.getElem?_append_right (Nat.le_refl _), Nat.sub_self]
        rfl
      rw [rd_of hb 0 _ (by simp)]
      simp only [List.drop_zero, Option.some.injEq]
      rw [List.take_of_length_le (by simp)]
      apply List.ext_getElem?
      intro j
      by_cases hj : j < its.length
      · rw [hcells j _ (List.getElem?_eq_getElem hj)]
        simp [List.getElem?_map, List.getElem?_zipIdx, List.getElem?_eq_getElem hj]
      · rw [List.getElem?_eq_none (by simp; omega), List.getElem?_eq_none (by simp; omega)]
    · intro x hx
      obtain ⟨z, hz, rfl⟩ := List.mem_map.1 hx
      obtain ⟨j, hj⟩ := List.getElem?_of_mem hz
      rw [List.getElem?_zipIdx] at hj
      simp only [Nat.zero_add, Option.map_eq_some_iff] at hj
      obtain ⟨it, hit, rfl⟩ := hj
      obtain ⟨u, hu, y, _, hin⟩ := hits j it hit
      have hj' : j < its.length := (List.getElem?_eq_some_iff.1 hit).1
      refine ⟨hin.src _ _ (by rw [hnext]; omega) ?_, hin.wf⟩
      simp only [roHeap, hBj j it hit, Option.map_some]
    · intro hw
      obtain ⟨w1, w2⟩ := hweights hw
      refine ⟨by simpa [hil] using w1, fun x hx => ?_⟩
      obtain ⟨z, hz, rfl⟩ := List.mem_map.1 hx
      obtain ⟨j, hj⟩ := List.getElem?_of_mem hz
      rw [List.getElem?_zipIdx] at hj
      simp only [Nat.zero_add, Option.map_eq_some_iff] at hj
      obtain ⟨it, hit, rfl⟩ := hj
      obtain ⟨u, hu, y, hy, hin⟩ := hits j it hit
      exact hin.sz f he (w2 y hy)
end
end Go.Fw
