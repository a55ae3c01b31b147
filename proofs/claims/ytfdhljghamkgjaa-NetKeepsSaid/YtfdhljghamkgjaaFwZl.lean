/- Arguments that are slices of texts. -/
import Derived.Test.YtfdhljghamkgjaaFwZk
import Derived.SliceStrings
namespace Go.Fw
set_option linter.unusedSimpArgs false
set_option linter.unusedVariables false
open Go.RowKit Go.WideShapes Go.ChangeShapes

/-- An argument whose memory is read only: the blocks that it brings, and the value over the first of their numbers. -/
structure RowArg (es : Nat) (w : World) (v : Value) (bs : List (Loc × List AVal)) (mk : Nat → AVal) (m : Nat) (cells : List AVal) : Prop where
  rel : ∀ (φ : Phi) (i : Nat), (∀ j p, bs[j]? = some p → φ (i + j) = some p.1) → VRel φ (mk i) v
  ro : ∀ φ, ∀ p ∈ bs, RoOk φ w p
  src : ∀ (h : Heap) (i : Nat), i + bs.length ≤ h.next → (∀ j p, bs[j]? = some p → h.blk (i + j) = some ⟨p.2, false⟩) → Src es (mk i) h m cells

theorem RowArg.here {es : Nat} {w : World} {v : Value} {bs : List (Loc × List AVal)} {mk : Nat → AVal} {m : Nat} {cells : List AVal} (A : RowArg es w v bs mk m cells) {B pre post : List (Loc × List AVal)} (hB : B = pre ++ (bs ++ post)) :
    VRel (roPhi B) (mk pre.length) v ∧ Src es (mk pre.length) (roHeap B) m cells ∧ ∀ p ∈ bs, RoOk (roPhi B) w p := by
  refine ⟨A.rel _ _ fun j p hp => ?_, A.src _ _ ?_ fun j p hp => ?_, A.ro _⟩
  · simp only [roPhi, ro_at hB hp, Option.map_some]
  · show pre.length + bs.length ≤ B.length
    rw [hB]
    simp
  · simp only [roHeap, ro_at hB hp, Option.map_some]

theorem strs_arg {H : Type} {enc : TypeId × Value → H} {P : Program} {w : World} {t e : TypeId} (ht : P.underlying t = some (.slice e)) (he : P.underlying e = some .string) (hc : P.cellsOf e = 1) {v : Value} {d : DataW H} {ps : List MemPlace}
    (hv : Value.okWide P w .any 0 t v) (h : DataW.Trod enc P w 0 (fun _ => true) true t v d ps) :
    ∃ bs mk, ∃ L : List (List UInt8), RowArg 1 w v bs mk L.length (L.map .str) ∧ ((∀ x ∈ d.weights P t, x ≤ reachBytes) → L.length * P.bytesOf e ≤ reachBytes) ∧ ∀ s ∈ L, s.length ≤ maxLen := by
  obtain ⟨a0, len, cap, rfl⟩ := okWide_slice ht hv
  obtain ⟨fuel, hf⟩ := h
  have hf' : DataW.trod enc P w 0 (fun _ => true) true fuel t [.slice a0 len cap] = some (d, ps) := hf
  rcases open_strings ht he hc hf' with ⟨h1, hd⟩ | ⟨a, len', cap', zs, h1, _, hl, hm, hz, hd, hcell, hwf⟩
  · simp only [List.cons.injEq, and_true] at h1
    rw [h1]
    exact ⟨[], fun _ => .nilSlice, [], ⟨fun φ i _ => (by unfold VRel; rfl), fun φ p hp => (by cases hp), fun h i _ _ => ⟨rfl, .inl ⟨rfl, rfl⟩⟩⟩, fun _ => by simp, fun s hs => by cases hs⟩
  · simp only [List.cons.injEq, Value.slice.injEq, and_true] at h1
    obtain ⟨rfl, rfl, rfl⟩ := h1
    simp only [Prod.mk.injEq] at hd
    obtain ⟨hs, c, el, fz, hcb⟩ := okWide_has ht hv
    simp only [if_true] at hz
    have hadd : ∀ i, (a.add i) = ⟨a.block, a.off + i, none⟩ := by
      intro i
      obtain ⟨b, off, sp⟩ := a
      simp only at hs
      subst hs
      exact add_plain b off i
    have hcell' : ∀ i, i < cap → c[a.off + i]? = some (.string (zs.getD i ByteArray.empty)) := by
      intro i hi
      have := hcell i (by omega)
      rw [hadd] at this
      simp only [World.cell?, hcb] at this
      simpa using this
    obtain ⟨L, hL⟩ : ∃ L : List (List UInt8), L = (zs.take len).map fun s => s.data.toList := ⟨_, rfl⟩
    have hlen : L.length = len := by rw [hL]; simp; omega
    have hat : ∀ i, i < len → (L.map AVal.str)[i]? = some (.str (zs.getD i ByteArray.empty).data.toList) := by
      intro i hi
      rw [hL]
      simp only [List.map_map, List.getElem?_map, List.getElem?_take, if_pos hi]
      rw [List.getD_eq_getElem?_getD, List.getElem?_eq_getElem (by omega)]
      rfl
    have hsz : (∀ x ∈ d.weights P t, x ≤ reachBytes) → L.length * P.bytesOf e ≤ reachBytes := by
      intro hw
      rw [hd.1] at hw
      have h1 := hw (((strs (H := H) (zs.take len)).length + (strs (H := H) (zs.drop len)).length) * P.bytesOf e) (by simp [DataW.weights, ht])
      have h2 : (strs (H := H) (zs.take len)).length = len := by simp [strs]; omega
      rw [Nat.add_mul, h2] at h1
      rw [hlen]
      omega
    have hms : ∀ s ∈ L, s.length ≤ maxLen := by
      intro s hs
      rw [hL] at hs
      obtain ⟨z, hz, rfl⟩ := List.mem_map.1 hs
      have := hwf z (List.mem_of_mem_take hz)
      have h3 : z.data.toList.length = z.size := Array.length_toList
      rw [h3]
      exact this
    by_cases h0 : cap = 0
    · have hl0 : len = 0 := by omega
      have hLn : L = [] := List.length_eq_zero_iff.1 (by omega)
      subst h0 hl0
      refine ⟨[(⟨a.block, 0, c.size⟩, [])], fun i => .slice i 0 0 0 1 false, [], ⟨fun φ i hi => ?_, fun φ p hp => ?_, fun h i hn hi => ⟨rfl, .inr ⟨i, 0, 0, false, rfl, by simp at hn; omega, ?_⟩⟩⟩, fun _ => by simp, fun s hs => by cases hs⟩
      · exact vrel_slice.2 ⟨_, a, 0, hi 0 _ rfl, rfl, Nat.le_refl _, Nat.le_refl _, (fun h => by cases h), (fun h => by omega)⟩
      · rw [List.mem_singleton] at hp
        subst hp
        exact ⟨c, el, fz, hcb, rfl, by simp, by simp⟩
      · have : h.blk i = some ⟨[], false⟩ := hi 0 _ rfl
        exact rd_of this 0 _ (by simp)
    · have hszc : a.off + cap ≤ c.size := by
        have := hcell' (cap - 1) (by omega)
        have := (Array.getElem?_eq_some_iff.1 this).1
        omega
      refine ⟨[(⟨a.block, a.off, c.size⟩, L.map .str)], fun i => .slice i 0 L.length L.length 1 false, L, ⟨fun φ i hi => ?_, fun φ p hp => ?_, fun h i hn hi => ⟨by simp, .inr ⟨i, 0, L.length, false, rfl, by simp at hn; omega, ?_⟩⟩⟩, hsz, hms⟩
      · have hi0 : φ i = some (⟨a.block, a.off, c.size⟩ : Loc) := hi 0 _ rfl
        rw [hlen]
        refine vrel_slice.2 ⟨_, a, cap, hi0, rfl, Nat.le_refl _, hl, (fun h => by cases h), fun _ => ⟨?_, by simp only; omega⟩⟩
        obtain ⟨b, off, sp⟩ := a
        simp only at hs
        subst hs
        simp
      · rw [List.mem_singleton] at hp
        subst hp
        refine ⟨c, el, fz, hcb, rfl, by simp only [List.length_map, hlen]; omega, ?_⟩
        intro i v hi
        have hil : i < len := by
          have := (List.getElem?_eq_some_iff.1 hi).1
          simp at this
          omega
        rw [hat i hil] at hi
        cases hi
        refine ⟨_, hcell' i (by omega), ?_, rfl⟩
        unfold VRel
        rfl
      · have : h.blk i = some ⟨L.map .str, false⟩ := hi 0 _ rfl
        rw [rd_of this 0 _ (by simp)]
        simp only [List.drop_zero, Nat.mul_one]
        rw [List.take_of_length_le (by simp)]

theorem Src.str {s : AVal} {h : Heap} {L : List (List UInt8)} (S : Src 1 s h L.length (L.map .str)) (i : Nat) (hi : i < L.length) : ∃ p, aIaddr 1 s (.int .i64 i) = some p ∧ aLoad h 1 p = some [.str (L.getD i [])] := by
  obtain ⟨p, e1, e2⟩ := S.at i hi
  refine ⟨p, e1, ?_⟩
  rw [e2, Nat.mul_one]
  have : i < (L.map AVal.str).length := by simpa using hi
  rw [List.drop_eq_getElem_cons this]
  simp [List.getD_eq_getElem?_getD, List.getElem?_eq_getElem hi]

end Go.Fw
