/- The row's last step, whatever the shapes of the arguments. -/
import Derived.Test.YtfdhljghamkgjaaFwZd
import Derived.Carry
import Derived.OpenShut
namespace Go.Fw
set_option linter.unusedSimpArgs false
set_option linter.unusedVariables false
open Go.RowKit Go.WideShapes Go.ChangeShapes

section
variable {H : Type} {enc : TypeId × Value → H} {P : Program}

theorem trodAll_keeps (hl : laidOutB P = true) {W W' : World} (hb : Below W.heap.size W W') : ∀ (ts : List TypeId) (vs : List Value) (ds : List (DataW H)) (ps : List MemPlace), (∀ t ∈ ts, P.readableRec t = true ∧ t < P.types.size) →
    DataW.TrodAll enc P W 0 (fun _ => true) true ts vs ds ps → (∀ x ∈ ps, x.block < W.heap.size) → ∀ sp : Nat → Bool, (∀ x ∈ ps, sp x.block = true) → DataW.TrodAll enc P W' 0 sp true ts vs ds ps
  | [], [], [], ps, _, h, _, _, _ => h
  | [], [], _ :: _, _, _, h, _, _, _ => h.elim
  | [], _ :: _, _, _, _, h, _, _, _ => h.elim
  | _ :: _, [], _, _, _, h, _, _, _ => h.elim
  | _ :: _, _ :: _, [], _, _, h, _, _, _ => h.elim
  | t :: ts, v :: vs, d :: ds, ps, hr, h, hlt, sp, hsp => by
    obtain ⟨p, q, h1, h2, rfl⟩ := h
    refine ⟨p, q, ?_, trodAll_keeps hl hb ts vs ds q (fun t ht => hr t (List.mem_cons_of_mem _ ht)) h2 (fun x hx => hlt x (List.mem_append_right _ hx)) sp (fun x hx => hsp x (List.mem_append_right _ hx)), rfl⟩
    exact WideElems.Trod_stays hl (hr t List.mem_cons_self).1 (hr t List.mem_cons_self).2 h1 (fun x hx => hb.same (hlt x (List.mem_append_left _ hx))) (fun x hx => hsp x (List.mem_append_left _ hx))

/-- A law's row: it answered true; what was there has not changed. -/
theorem law_post (hl : laidOutB P = true) {f : Func} {s : ChangeSpec} {apart fresh handsOn again : Bool} {W W' : World} {args : Array Value} {ds gs : List (DataW H)} {before : List MemPlace} {tb : TypeId}
    (hr : ∀ t ∈ f.params.toList, P.readableRec t = true ∧ t < P.types.size) (hres : f.resultTypes = #[tb]) (htb : P.underlying tb = some .bool) (hvars : s.vars = [])
    (hfn : s.fn H ds = { results := [.lit (.bool true)], args := ds })
    (hW : DataW.Whole enc P f.params.toList s.vars apart W args.toList ds gs before) (hb : Below W.heap.size W W') :
    s.post enc P f apart fresh handsOn again W args (.bool true) W' := by
  have hW0 := hW
  obtain ⟨p, q, hA, hV, rfl, hfz, hnd⟩ := hW
  rw [hvars] at hV
  obtain ⟨rfl, rfl⟩ := trodVars_none hV
  have hlt : ∀ x ∈ p, x.block < W.heap.size := fun x hx => hW0.lt x (by simpa using hx)
  refine post_below (pa := p) (pv := []) hW0 (fun b sp hd => ?_) (fun sp hsp => ?_) (fun sp hsp => ?_) rfl hb ?_
  · rw [List.append_nil, hfn, hres]
    exact trodAll_cons_mk (shut_bool htb _) trodAll_mk0
  · rw [List.append_nil, hfn]
    exact trodAll_keeps hl hb _ _ _ _ hr hA hlt sp (fun x hx => hsp x (by simpa using hx))
  · rw [List.append_nil, hfn, hvars]
    rfl
  · exact ok_one hres rfl (okWide_bool_mk htb _)
end

/-- From the abstract answer to the call, the arguments' memory being read only. -/
theorem call_with {P : Program} {call : Call} (hc : CallOk P call) {f : Nat} {args : List AVal} {vs : Array Value} {φ : Phi} {h : Heap} {w : World} (H : HRel φ h w) (hno : ∀ b x, h.blk b = some x → x.rw = true → False)
    (hargs : VRels φ args vs.toList) {v : AVal} {u : Value} {h' : Heap} (hr : call f args h = some (v, h')) (hv : ∀ φ x, VRel φ v x → x = u) :
    Calls P f vs w fun e w' => e = .returned u ∧ Go.RowKit.Below w.heap.size w w' := by
  obtain ⟨_, h2⟩ := hc f args h v h' hr φ w vs H hargs
  refine h2.mono ?_
  rintro e w' ⟨φ', x, rfl, hx, _, S⟩
  exact ⟨by rw [hv φ' x hx], below_of_step S hno⟩

theorem okWide_has {P : Program} {w : World} {base : Nat} {t e : TypeId} {a : Addr} {len cap : Nat} (ht : P.underlying t = some (.slice e)) (h : Value.okWide P w .any base t (.slice (some a) len cap)) :
    a.spot = none ∧ ∃ c el fz, w.heap[a.block]? = some (.cells c el fz) := by
  simp only [Value.okWide, ht, Cell.okWide, Cell.ok, World.has] at h
  obtain ⟨_, _, _, h1, row, cells, h2, _⟩ := h
  refine ⟨h1, ?_⟩
  unfold World.shape? at h2
  split at h2
  · rename_i c el fz hc
    exact ⟨c, el, fz, hc⟩
  · cases h2

/-- Blocks that are read only. -/
def roHeap (bs : List (Loc × List AVal)) : Heap := ⟨bs.length, fun i => (bs[i]?).map fun p => ⟨p.2, false⟩⟩
def roPhi (bs : List (Loc × List AVal)) : Phi := fun i => (bs[i]?).map (·.1)

structure RoOk (φ : Phi) (w : World) (p : Loc × List AVal) : Prop where
  blk : ∃ c e fz, w.heap[p.1.blk]? = some (.cells c e fz) ∧ c.size = p.1.size ∧ p.1.base + p.2.length ≤ p.1.size ∧ ∀ i v, p.2[i]? = some v → ∃ u, c[p.1.base + i]? = some u ∧ VRel φ v u ∧ u.oneCell' = true

/-- An argument that is a slice of numbers. -/
theorem arg_ints {H : Type} {enc : TypeId × Value → H} {P : Program} {w : World} {t e : TypeId} {k : IntKind} (ht : P.underlying t = some (.slice e)) (he : P.underlying e = some (.int k)) (hc : P.cellsOf e = 1) {v : Value} {d : DataW H} {ps : List MemPlace}
    (hv : Value.okWide P w .any 0 t v) (h : DataW.Trod enc P w 0 (fun _ => true) true t v d ps) :
    (v = .slice none 0 0 ∧ d = .nil) ∨ ∃ (L : Loc) (l : List Int) (rest : List (DataW H)), d = .slice (lits k l) rest ∧ (∀ x ∈ l, (Lit.int k x).wf = true) ∧ (∀ (φ : Phi) (i : Nat), φ i = some L → VRel φ (.slice i 0 l.length l.length 1 false) v) ∧ ∀ φ, RoOk φ w (L, l.map (.int k)) := by
  obtain ⟨a0, len, cap, rfl⟩ := okWide_slice ht hv
  obtain ⟨fuel, hf⟩ := h
  have hf' : DataW.trod enc P w 0 (fun _ => true) true fuel t [.slice a0 len cap] = some (d, ps) := hf
  rcases open_ints ht he hc hf' with ⟨h1, hd⟩ | ⟨a, len', cap', zs, h1, _, hl, hm, hz, hd, hcell, hwf⟩
  · left
    simp only [List.cons.injEq, and_true] at h1
    simp only [Prod.mk.injEq] at hd
    exact ⟨h1, hd.1⟩
  · right
    simp only [List.cons.injEq, Value.slice.injEq, and_true] at h1
    obtain ⟨rfl, rfl, rfl⟩ := h1
    simp only [Prod.mk.injEq] at hd
    obtain ⟨hs, c, el, fz, hcb⟩ := okWide_has ht hv
    simp only [if_true] at hz
    have hadd : ∀ i, (a.add i) = ⟨a.block, a.off + i, none⟩ := by
      intro i
      obtain ⟨b, off, sp⟩ := a
      simp only at hs
      subst hs
      exact add_plain b off i
    have hcell' : ∀ i, i < cap → c[a.off + i]? = some (.int k (zs.getD i 0)) := by
      intro i hi
      have := hcell i (by omega)
      rw [hadd] at this
      simp only [World.cell?, hcb] at this
      simpa using this
    by_cases h0 : cap = 0
    · have hl0 : len = 0 := by omega
      subst h0 hl0
      refine ⟨⟨a.block, 0, c.size⟩, [], _, by rw [hd.1, List.take_zero], by simp, fun φ i hi => ?_, fun φ => ⟨c, el, fz, hcb, rfl, by simp, by simp⟩⟩
      exact vrel_slice.2 ⟨_, a, 0, hi, rfl, Nat.le_refl _, Nat.le_refl _, (fun h => by cases h), (fun h => by omega)⟩
    · have hsz : a.off + cap ≤ c.size := by
        have := hcell' (cap - 1) (by omega)
        have := (Array.getElem?_eq_some_iff.1 this).1
        omega
      have hlen : (zs.take len).length = len := by simp; omega
      refine ⟨⟨a.block, a.off, c.size⟩, zs.take len, _, hd.1, fun x hx => hwf x (List.mem_of_mem_take hx), fun φ i hi => ?_, fun φ => ⟨c, el, fz, hcb, rfl, by simp only [List.length_map, hlen]; omega, ?_⟩⟩
      · rw [hlen]
        refine vrel_slice.2 ⟨_, a, cap, hi, rfl, Nat.le_refl _, hl, (fun h => by cases h), fun _ => ⟨?_, by simp only; omega⟩⟩
        obtain ⟨b, off, sp⟩ := a
        simp only at hs
        subst hs
        simp
      · intro i v hi
        rw [List.getElem?_map] at hi
        simp only [Option.map_eq_some_iff] at hi
        obtain ⟨x, hx, rfl⟩ := hi
        have hil : i < len := by
          have := (List.getElem?_eq_some_iff.1 hx).1
          omega
        rw [List.getElem?_take, if_pos hil] at hx
        refine ⟨_, hcell' i (by omega), ?_, rfl⟩
        unfold VRel
        rw [List.getD_eq_getElem?_getD, hx]
        rfl

/-- The same in one form: the blocks that it brings, and the value over the first of their numbers. -/
structure IntsArg (k : IntKind) (w : World) (v : Value) (bs : List (Loc × List AVal)) (mk : Nat → AVal) (l : List Int) : Prop where
  rel : ∀ (φ : Phi) (i : Nat), (∀ j p, bs[j]? = some p → φ (i + j) = some p.1) → VRel φ (mk i) v
  ro : ∀ φ, ∀ p ∈ bs, RoOk φ w p
  ints : ∀ (h : Heap) (i : Nat), (∀ j p, bs[j]? = some p → h.blk (i + j) = some ⟨p.2, false⟩) → Ints k (mk i) h l
  lt : ∀ i b, slBlk (mk i) = some b → b < i + bs.length
  wf : ∀ x ∈ l, (Lit.int k x).wf = true

theorem ints_arg {H : Type} {enc : TypeId × Value → H} {P : Program} {w : World} {t e : TypeId} {k : IntKind} (ht : P.underlying t = some (.slice e)) (he : P.underlying e = some (.int k)) (hc : P.cellsOf e = 1) {v : Value} {d : DataW H} {ps : List MemPlace}
    (hv : Value.okWide P w .any 0 t v) (h : DataW.Trod enc P w 0 (fun _ => true) true t v d ps) :
    ∃ bs mk l, IntsArg k w v bs mk l ∧ ((∀ x ∈ d.weights P t, x ≤ reachBytes) → l.length * P.bytesOf e ≤ reachBytes) := by
  rcases arg_ints ht he hc hv h with ⟨rfl, rfl⟩ | ⟨L, l, rest, rfl, wf, r, o⟩
  · exact ⟨[], fun _ => .nilSlice, [], ⟨fun φ i _ => (by unfold VRel; rfl), fun φ p hp => (by cases hp), fun h i _ => .inl ⟨rfl, rfl⟩, fun i b hb => (by cases hb), fun x hx => (by cases hx)⟩, fun _ => by simp⟩
  · refine ⟨[(L, l.map (.int k))], fun i => .slice i 0 l.length l.length 1 false, l, ⟨fun φ i hi => r φ i (hi 0 _ rfl), fun φ p hp => ?_, fun h i hi => .inr ⟨i, 0, l.length, false, rfl, ?_⟩, fun i b hb => ?_, wf⟩, fun hw => ?_⟩
    · rw [List.mem_singleton] at hp
      subst hp
      exact o φ
    · have this : h.blk i = some ⟨l.map (.int k), false⟩ := hi 0 _ rfl
      rw [rd_of this 0 l.length (by simp)]
      simp only [List.drop_zero]
      rw [← List.map_take, List.take_length]
    · cases hb; simp
    · have h1 := hw ((lits (H := H) k l).length * P.bytesOf e + rest.length * P.bytesOf e) (by
        simp only [DataW.weights, ht]
        rw [← Nat.add_mul]
        exact List.mem_cons_self)
      have h2 : (lits (H := H) k l).length = l.length := by simp [lits]
      rw [h2] at h1
      omega

theorem roHeap_no (bs : List (Loc × List AVal)) : ∀ b x, (roHeap bs).blk b = some x → x.rw = true → False := by
  intro b x hb hrw
  simp only [roHeap, Option.map_eq_some_iff] at hb
  obtain ⟨p, _, rfl⟩ := hb
  cases hrw

theorem roHeap_rel {bs : List (Loc × List AVal)} {w : World} (h : ∀ p ∈ bs, RoOk (roPhi bs) w p) : HRel (roPhi bs) (roHeap bs) w where
  dom := fun b L hb => by
    simp only [roPhi, Option.map_eq_some_iff] at hb
    obtain ⟨p, hp, rfl⟩ := hb
    obtain ⟨c, e, fz, h1, _⟩ := (h p (List.mem_of_getElem? hp)).blk
    exact ⟨(List.getElem?_eq_some_iff.1 hp).1, (Array.getElem?_eq_some_iff.1 h1).1⟩
  live := fun b x hb => by
    simp only [roHeap, Option.map_eq_some_iff] at hb
    obtain ⟨p, hp, rfl⟩ := hb
    exact (List.getElem?_eq_some_iff.1 hp).1
  blk := fun b x L hb hL => by
    simp only [roHeap, Option.map_eq_some_iff] at hb
    obtain ⟨p, hp, rfl⟩ := hb
    simp only [roPhi, hp, Option.map_some, Option.some.injEq] at hL
    subst hL
    obtain ⟨c, e, fz, h1, h2, h3, h4⟩ := (h p (List.mem_of_getElem? hp)).blk
    exact ⟨c, e, fz, h1, h2, h3, fun hh => absurd hh Bool.false_ne_true, h4⟩
  apart := fun b b' x x' L L' _ hb _ hrw _ _ => (roHeap_no bs b x hb hrw).elim

end Go.Fw
