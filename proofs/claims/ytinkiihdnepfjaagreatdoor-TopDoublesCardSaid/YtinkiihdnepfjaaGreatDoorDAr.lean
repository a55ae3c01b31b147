/- the arguments of a law -/
import Derived.Test.YtinkiihdnepfjaaGreatDoorDFwZm
import Derived.Carry
import Derived.OpenShut
import Derived.SizedLaws
set_option linter.unusedSimpArgs false
set_option linter.unusedVariables false
namespace Go.Fw
open Go.RowKit Go.WideShapes Go.ChangeShapes
section
variable {H : Type} {enc : TypeId × Value → H} {P : Program}
end
theorem call_with {P : Program} {call : Call} (hc : CallOk P call) {f : Nat} (hbody : hasBody P f = true) {args : List AVal} {vs : Array Value} {φ : Phi} {h : Heap} {w : World} (H : HRel φ h w) (hno : ∀ b x, h.blk b = some x → x.rw = true → False)
    (hargs : VRels φ args vs.toList) {v : AVal} {u : Value} {h' : Heap} (hr : call f args h = some (v, h')) (hv : ∀ φ x, VRel φ v x → x = u) :
    Calls P f vs w fun e w' => e = .returned u ∧ Go.RowKit.Below w.heap.size w w' := by
  refine (hc.enter hbody hr H hargs).mono ?_
  rintro e w' ⟨φ', x, rfl, hx, _, S⟩
  exact ⟨by rw [hv φ' x hx], below_of_step S hno⟩
theorem okWide_has {P : Program} {w : World} {base : Nat} {t e : TypeId} {a : Addr} {len cap : Nat} (ht : P.underlying t = some (.slice e)) (h : Value.okWide P w .any base t (.slice (some a) len cap)) :
    a.spot = none ∧ ∃ c el fz, w.heap[a.block]? = some (.cells c el fz) := by
  simp only [Value.okWide, ht, Cell.okWide, Cell.ok, World.has] at h
  obtain ⟨_, _, _, h1, row, cells, h2, _⟩ := h
  refine ⟨h1, ?_⟩
  unfold World.shape? at h2
  split at h2
  · rename_i c el fz hc
    exact ⟨c, el, fz, hc⟩
  · cases h2
def roHeap (bs : List (Loc × List AVal)) : Heap := ⟨bs.length, fun i => (bs[i]?).map fun p => ⟨p.2, false⟩⟩
def roPhi (bs : List (Loc × List AVal)) : Phi := fun i => (bs[i]?).map (·.1)
theorem arg_ints {H : Type} {enc : TypeId × Value → H} {P : Program} {w : World} {t e : TypeId} {k : IntKind} (ht : P.underlying t = some (.slice e)) (he : P.underlying e = some (.int k)) (hc : P.cellsOf e = 1) {v : Value} {d : DataW H} {ps : List MemPlace}
    (hv : Value.okWide P w .any 0 t v) (h : DataW.Trod enc P w 0 (fun _ => true) true t v d ps) :
    (v = .slice none 0 0 ∧ d = .nil) ∨ ∃ (L : Loc) (l : List Int) (rest : List (DataW H)), d = .slice (lits k l) rest ∧ (∀ x ∈ l, (Lit.int k x).wf = true) ∧ (∀ (φ : Phi) (i : Nat), φ i = some L → VRel φ (.slice i 0 l.length l.length 1 false) v) ∧ ∀ φ, RoOk φ w (L, l.map (.int k)) := by
  obtain ⟨a0, len, cap, rfl⟩ := okWide_slice ht hv
  obtain ⟨fuel, hf⟩ := h
  have hf' : DataW.trod enc P w 0 (fun _ => true) true fuel t [.slice a0 len cap] = some (d, ps) := hf
  rcases open_ints ht he hc hf' with ⟨h1, hd⟩ | ⟨a, len', cap', zs, h1, _, hl, hm, hz, hd, hcell, hwf⟩
  · left
    simp only [List.cons.injEq, and_true] at h1
    simp only [Prod.mk.injEq] at hd
    exact ⟨h1, hd.1⟩
  · right
    simp only [List.cons.injEq, Value.slice.injEq, and_true] at h1
    obtain ⟨rfl, rfl, rfl⟩ := h1
    simp only [Prod.mk.injEq] at hd
    obtain ⟨hs, c, el, fz, hcb⟩ := okWide_has ht hv
    simp only [if_true] at hz
    have hadd : ∀ i, (a.add i) = ⟨a.block, a.off + i, none⟩ := by
      intro i
      obtain ⟨b, off, sp⟩ := a
      simp only at hs
      subst hs
      exact add_plain b off i
    have hcell' : ∀ i, i < cap → c[a.off + i]? = some (.int k (zs.getD i 0)) := by
      intro i hi
      have := hcell i (by omega)
      rw [hadd] at this
      simp only [World.cell?, hcb] at this
      simpa using this
    by_cases h0 : cap = 0
    · have hl0 : len = 0 := by omega
      subst h0 hl0
      refine ⟨⟨a.block, 0, c.size⟩, [], _, by rw [hd.1, List.take_zero], by simp, fun φ i hi => ?_, fun φ => ⟨c, el, fz, hcb, rfl, by simp, by simp⟩⟩
      exact vrel_slice.2 ⟨_, a, 0, hi, rfl, Nat.le_refl _, Nat.le_refl _, (fun h => by cases h), (fun h => by omega)⟩
    · have hsz : a.off + cap ≤ c.size := by
        have := hcell' (cap - 1) (by omega)
        have := (Array.getElem?_eq_some_iff.1 this).1
        omega
      have hlen : (zs.take len).length = len := by simp; omega
      refine ⟨⟨a.block, a.off, c.size⟩, zs.take len, _, hd.1, fun x hx => hwf x (List.mem_of_mem_take hx), fun φ i hi => ?_, fun φ => ⟨c, el, fz, hcb, rfl, by simp only [List.length_map, hlen]; omega, ?_⟩⟩
      · rw [hlen]
        refine vrel_slice.2 ⟨_, a, cap, hi, rfl, Nat.le_refl _, hl, (fun h => by cases h), fun _ => ⟨?_, by simp only; omega⟩⟩
        obtain ⟨b, off, sp⟩ := a
        simp only at hs
        subst hs
        simp
      · intro i v hi
        rw [List.getElem?_map] at hi
        simp only [Option.map_eq_some_iff] at hi
        obtain ⟨x, hx, rfl⟩ := hi
        have hil : i < len := by
          have := (List.getElem?_eq_some_iff.1 hx).1
          omega
        rw [List.getElem?_take, if_pos hil] at hx
        refine ⟨_, hcell' i (by omega), ?_, rfl⟩
        unfold VRel
        rw [List.getD_eq_getElem?_getD, hx]
        rfl
theorem ints_arg {H : Type} {enc : TypeId × Value → H} {P : Program} {w : World} {t e : TypeId} {k : IntKind} (ht : P.underlying t = some (.slice e)) (he : P.underlying e = some (.int k)) (hc : P.cellsOf e = 1) {v : Value} {d : DataW H} {ps : List MemPlace}
    (hv : Value.okWide P w .any 0 t v) (h : DataW.Trod enc P w 0 (fun _ => true) true t v d ps) :
    ∃ bs mk l, IntsArg k w v bs mk l ∧ ((∀ x ∈ d.weights P t, x ≤ reachBytes) → l.length * P.bytesOf e ≤ reachBytes) := by
  rcases arg_ints ht he hc hv h with ⟨rfl, rfl⟩ | ⟨L, l, rest, rfl, wf, r, o⟩
  · exact ⟨[], fun _ => .nilSlice, [], ⟨fun φ i _ => (by unfold VRel; rfl), fun φ p hp => (by cases hp), fun h i _ => .inl ⟨rfl, rfl⟩, fun i b hb => (by cases hb), fun x hx => (by cases hx), fun _ _ _ _ _ _ _ e => (by cases e)⟩, fun _ => by simp⟩
  · refine ⟨[(L, l.map (.int k))], fun i => .slice i 0 l.length l.length 1 false, l, ⟨fun φ i hi => r φ i (hi 0 _ rfl), fun φ p hp => ?_, fun h i hi => .inr ⟨i, 0, l.length, false, rfl, ?_⟩, fun i b hb => ?_, wf, fun _ _ _ _ _ _ _ e => (by cases e; exact Nat.le_refl _)⟩, fun hw => ?_⟩
    · rw [List.mem_singleton] at hp
      subst hp
      exact o φ
    · have this : h.blk i = some ⟨l.map (.int k), false⟩ := hi 0 _ rfl
      rw [rd_of this 0 l.length (by simp)]
      simp only [List.drop_zero]
      rw [← List.map_take, List.take_length]
    · cases hb; simp
    · have h1 := hw ((lits (H := H) k l).length * P.bytesOf e + rest.length * P.bytesOf e) (by
        simp only [DataW.weights, ht]
        rw [← Nat.add_mul]
        exact List.mem_cons_self)
      have h2 : (lits (H := H) k l).length = l.length := by simp [lits]
      rw [h2] at h1
      omega
theorem roHeap_no (bs : List (Loc × List AVal)) : ∀ b x, (roHeap bs).blk b = some x → x.rw = true → False := by
  intro b x hb hrw
  simp only [roHeap, Option.map_eq_some_iff] at hb
  obtain ⟨p, _, rfl⟩ := hb
  cases hrw
theorem roHeap_rel {bs : List (Loc × List AVal)} {w : World} (hp : ∀ b, b < pinsN → ∃ m, roPhi bs b = some ⟨b, 0, m⟩) (h : ∀ p ∈ bs, RoOk (roPhi bs) w p) : HRel (roPhi bs) (roHeap bs) w where
  pin := hp
  dom := fun b L hb => by
    simp only [roPhi, Option.map_eq_some_iff] at hb
    obtain ⟨p, hp, rfl⟩ := hb
    obtain ⟨c, e, fz, h1, _⟩ := (h p (List.mem_of_getElem? hp)).blk
    exact ⟨(List.getElem?_eq_some_iff.1 hp).1, (Array.getElem?_eq_some_iff.1 h1).1⟩
  live := fun b x hb => by
    simp only [roHeap, Option.map_eq_some_iff] at hb
    obtain ⟨p, hp, rfl⟩ := hb
    exact (List.getElem?_eq_some_iff.1 hp).1
  blk := fun b x L hb hL => by
    simp only [roHeap, Option.map_eq_some_iff] at hb
    obtain ⟨p, hp, rfl⟩ := hb
    simp only [roPhi, hp, Option.map_some, Option.some.injEq] at hL
    subst hL
    obtain ⟨c, e, fz, h1, h2, h3, h4⟩ := (h p (List.mem_of_getElem? hp)).blk
    exact ⟨c, e, fz, h1, h2, h3, fun hh => absurd hh Bool.false_ne_true, h4⟩
  apart := fun b b' x x' L L' _ hb _ hrw _ _ => (roHeap_no bs b x hb hrw).elim
theorem ro_at {B pre bs post : List (Loc × List AVal)} (hB : B = pre ++ (bs ++ post)) {j : Nat} {p : Loc × List AVal} (h : bs[j]? = some p) : B[pre.length + j]? = some p := by
  have hj : j < bs.length := (List.getElem?_eq_some_iff.1 h).1
  rw [hB, List.getElem?_append_right (by omega), show pre.length + j - pre.length = j by omega, List.getElem?_append_left hj, h]
theorem IntsArg.here {k : IntKind} {w : World} {v : Value} {bs : List (Loc × List AVal)} {mk : Nat → AVal} {l : List Int} (A : IntsArg k w v bs mk l) {B pre post : List (Loc × List AVal)} (hB : B = pre ++ (bs ++ post)) :
    VRel (roPhi B) (mk pre.length) v ∧ Ints k (mk pre.length) (roHeap B) l ∧ (∀ b, slBlk (mk pre.length) = some b → b < (roHeap B).next) ∧ ∀ p ∈ bs, RoOk (roPhi B) w p := by
  refine ⟨A.rel _ _ fun j p hp => ?_, A.ints _ _ fun j p hp => ?_, fun b hb => ?_, A.ro _⟩
  · simp only [roPhi, ro_at hB hp, Option.map_some]
  · simp only [roHeap, ro_at hB hp, Option.map_some]
  · have h1 := A.lt _ _ hb
    have h2 : B.length = pre.length + (bs.length + post.length) := by rw [hB]; simp
    show b < B.length
    omega
theorem weights_of {H : Type} {P : Program} {ts : List TypeId} {ds : List (DataW H)} (h : (DataW.weightsEach P ts ds).all (· ≤ reachBytes) = true) {j : Nat} {t : TypeId} {d : DataW H} (ht : ts[j]? = some t) (hd : ds[j]? = some d) : ∀ x ∈ d.weights P t, x ≤ reachBytes := by
  intro x hx
  simpa using List.all_eq_true.1 h _ (DataW.weights_mem_each ht hd x hx)
end Go.Fw
