/- Regions whose order is open: the end of the proof. -/
import Derived.Test.YtiilphbdddckdaaFwZ
namespace Go.Fw

section
variable {P : Program} {call : Call} {n : Nat} {ops : Array Oper} {items : List AItem} {pairs : List (Nat × Nat)} {ms : List Nat} {evs : List Ev} {s0 : Env} {h0 : Heap}
variable {B : Nat} {φ0 φ : Phi} {hb : Heap} {w0 w : World} {D : Nat → Bool} {S : Env} {c : Nat} {L : Nat → Nat} {a : Act}

def setD (D : Nat → Bool) (i : Nat) : Nat → Bool := fun j => if j = i then true else D j

theorem lad_of_view {s t : Env} {x : AOpd} (h : ∀ q, x = .tmp q → s.view q = t.view q) : s.lad x = t.lad x ∧ s.ev x = t.ev x := by
  cases x with
  | const v => exact ⟨rfl, rfl⟩
  | tmp q =>
    have := h q rfl
    simp only [Env.view, Prod.mk.injEq] at this
    exact ⟨this.2, this.1⟩

theorem closed_set {D : Nat → Bool} (hD : Closed ops D) {i : Nat} {o : Oper} (ho : ops[i]? = some o) (hr : ∀ e ∈ o.after.toList, Region.binds .any e = true → D e.on = true) : Closed ops (setD D i) := by
  intro j q hq hj e he hbe
  unfold setD
  split
  · rfl
  · by_cases hji : j = i
    · subst hji
      rw [ho] at hq
      cases hq
      exact hr e he hbe
    · unfold setD at hj
      rw [if_neg hji] at hj
      exact hD j q hq hj e he hbe

/-- The next of those whose order is kept. -/
theorem Ctx.next_eff (C : Ctx P call n ops items pairs ms evs s0 h0) (hD : Closed ops D) (T : DState P n evs s0 h0 B φ0 hb w0 D S c φ L a w) {i : Nat} {e : Ev} {o : Oper} (he : evs[i]? = some e) (ho : ops[i]? = some o) (hi : D i = false)
    (hr : ∀ e ∈ o.after.toList, Region.binds .any e = true → D e.on = true) (hef : isEff e.ao = true) : c ≤ i ∧ (∀ q eq, c ≤ q → q < i → evs[q]? = some eq → isEff eq.ao = true → False) ∧ hAt h0 evs i = hAt h0 evs c ∧ lAt s0.locs evs i = lAt s0.locs evs c := by
  have hlt : i < evs.length := (List.getElem?_eq_some_iff.1 he).1
  have hci : c ≤ i := by
    rcases Nat.lt_or_ge i c with h | h
    · have := T.done i e h he hef
      rw [hi] at this; cases this
    · exact h
  have hno : ∀ q eq, c ≤ q → q < i → evs[q]? = some eq → isEff eq.ao = true → False := by
    intro q eq h1 h2 hq hefq
    have h3 := C.bef_done hD ho hr (C.effs q i eq e hq he hefq hef h2)
    have h4 := T.todo q eq h1 hq hefq
    rw [h3] at h4; cases h4
  have := C.same_heap c (i - c) (by omega) fun q eq h1 h2 => hno q eq h1 (by omega)
  rw [show c + (i - c) = i by omega] at this
  exact ⟨hci, hno, this.1, this.2⟩

/-- What comes out of the state when one more is done. -/
theorem Ctx.grow (C : Ctx P call n ops items pairs ms evs s0 h0) (hD : Closed ops D) (T : DState P n evs s0 h0 B φ0 hb w0 D S c φ L a w) {i : Nat} {e : Ev} {o : Oper} (he : evs[i]? = some e) (ho : ops[i]? = some o) (hi : D i = false)
    (hr : ∀ e ∈ o.after.toList, Region.binds .any e = true → D e.on = true) {S' : Env} {φ' : Phi} {L' : Nat → Nat} {a' : Act} {w' : World}
    (hrel : In B n φ0 hb w0 φ' L' S' (bif isEff e.ao then hAt h0 evs (i + 1) else hAt h0 evs c) a' w')
    (hloc : S'.locs = (bif isEff e.ao then lAt s0.locs evs (i + 1) else lAt s0.locs evs c))
    (hview : ∀ t, S'.view t = if opDst e.ao = some t then e.rec' else S.view t) : ∃ c', DState P n evs s0 h0 B φ0 hb w0 (setD D i) S' c' φ' L' a' w' := by
  have hlt : i < evs.length := (List.getElem?_eq_some_iff.1 he).1
  have hseen : ∀ j ej t, setD D i j = true → evs[j]? = some ej → opDst ej.ao = some t → S'.view t = ej.rec' := by
    intro j ej t hj hej hd
    rw [hview]
    by_cases hji : j = i
    · subst hji
      rw [he] at hej
      cases hej
      rw [if_pos hd]
    · have hne : opDst e.ao ≠ some t := fun hh => hji (C.once j i ej e t hej he hd hh)
      rw [if_neg hne]
      unfold setD at hj
      rw [if_neg hji] at hj
      exact T.seen j ej t hj hej hd
  have hrest : ∀ t, (∀ j ej, setD D i j = true → evs[j]? = some ej → opDst ej.ao ≠ some t) → S'.view t = s0.view t := by
    intro t ht
    have hne : opDst e.ao ≠ some t := ht i e (by simp [setD]) he
    rw [hview, if_neg hne]
    exact T.rest t fun j ej hj hej => ht j ej (by unfold setD; split <;> simp_all) hej
  cases hef : isEff e.ao with
  | false =>
    rw [hef] at hrel hloc
    refine ⟨c, ⟨T.le, ?_, ?_, hrel, hloc, hseen, hrest⟩⟩
    · intro j ej hj hej hefj
      unfold setD
      split
      · rfl
      · exact T.done j ej hj hej hefj
    · intro j ej hj hej hefj
      unfold setD
      split
      · rename_i hji
        subst hji
        rw [he] at hej
        cases hej
        rw [hef] at hefj; cases hefj
      · exact T.todo j ej hj hej hefj
  | true =>
    rw [hef] at hrel hloc
    obtain ⟨hci, hno, _, _⟩ := C.next_eff hD T he ho hi hr hef
    refine ⟨i + 1, ⟨by omega, ?_, ?_, hrel, hloc, hseen, hrest⟩⟩
    · intro j ej hj hej hefj
      unfold setD
      split
      · rfl
      · rename_i hji
        rcases Nat.lt_or_ge j c with h | h
        · exact T.done j ej h hej hefj
        · exact (hno j ej h (by omega) hej hefj).elim
    · intro j ej hj hej hefj
      unfold setD
      rw [if_neg (by omega)]
      exact T.todo j ej (by omega) hej hefj

theorem rec_undef {e : Ev} {call : Call} (hon : e.on = true) : e.rec' = e.u.view := by simp [Ev.rec', hon]

/-- One operation that is ready. -/
theorem Ctx.one (hcall : CallOk P call) (C : Ctx P call n ops items pairs ms evs s0 h0) (hD : Closed ops D) (T : DState P n evs s0 h0 B φ0 hb w0 D S c φ L a w) {i : Nat} {e : Ev} {o : Oper} (he : evs[i]? = some e) (ho : ops[i]? = some o) (hi : D i = false)
    (hr : ∀ e ∈ o.after.toList, Region.binds .any e = true → D e.on = true) (Q : Exit → Act → World → Prop) (K : Act → World → Prop)
    (hK : ∀ S' c' φ' L' a' w', DState P n evs s0 h0 B φ0 hb w0 (setD D i) S' c' φ' L' a' w' → K a' w') : wpOp P ops Q i K a w := by
  have hlt : i < evs.length := (List.getElem?_eq_some_iff.1 he).1
  have hok := C.at he
  have hag := fun t ht => C.agree hD T he ho hi hr (t := t) ht
  obtain ⟨o', ho', hdst, hdn, hchk, hgd⟩ := operOk_spec (C.oper i e he)
  rw [C.idx i e he, ho] at ho'
  cases ho'
  unfold wpOp
  rw [ho]
  simp only
  have hoff : e.on = false → Region.wanted o (yielded ops a.tmps) = false := by
    intro hon
    rcases hgd with ⟨h1, h2⟩ | ⟨j, t, want, h1, h2, h3⟩
    · have := hok.free h2
      rw [hon] at this; cases this
    · rw [wanted_guard h1 h3]
      rcases hok.guard t want h2 with ⟨_, h5⟩ | ⟨h5, _⟩
      · rw [hon] at h5; cases h5
      · have hv := hag t (by rw [h2]; simp [gTmp])
        rw [← hv] at h5
        have hrel : ∀ v, S.view t = (v, none) → VRel φ v (a.tmps.getD t undef) := by
          intro v hh
          have := get_of_view hh
          have h6 := T.rel.rel.get t
          rw [this.1] at h6
          exact h6
        rcases h5 with h5 | h5
        · have h6 := hrel _ h5
          unfold VRel at h6
          rw [getD_some h6 (by intro hh; cases hh)]
          cases want <;> rfl
        · have h6 := hrel _ h5
          unfold skipV at h6
          obtain ⟨vs, h7, _⟩ := vrel_tuple.1 h6
          cases hx : a.tmps[t]? with
          | none => rfl
          | some x =>
            have : a.tmps.getD t undef = x := by rw [Array.getD_eq_getD_getElem?, hx]; rfl
            rw [this] at h7
            rw [h7]
  cases hon : e.on with
  | false =>
    rw [hoff hon]
    simp only [Bool.false_eq_true, if_false]
    have hrec : e.rec' = (skipV, none) := by simp [Ev.rec', hon]
    have hsame : ∀ x, (bif isEff e.ao then hAt h0 evs (i + 1) else hAt h0 evs c) = x → (bif isEff e.ao then lAt s0.locs evs (i + 1) else lAt s0.locs evs c) = lAt s0.locs evs c ∧ hAt h0 evs c = x := by
      intro x hx
      cases hef : isEff e.ao with
      | false => rw [hef] at hx; exact ⟨rfl, hx⟩
      | true =>
        rw [hef] at hx
        obtain ⟨_, _, h1, h2⟩ := C.next_eff hD T he ho hi hr hef
        obtain ⟨_, a2, a3⟩ := at_succ he s0.view h0 s0.locs
        simp only [cond_true] at hx ⊢
        rw [a3]
        rw [a2] at hx
        simp only [Ev.updH, Ev.updL, hon, cond_false] at hx ⊢
        exact ⟨h2, by rw [← h1]; exact hx⟩
    obtain ⟨hs1, hs2⟩ := hsame _ rfl
    cases hd : opDst e.ao with
    | none =>
      rw [hdst, hd]
      obtain ⟨c', T'⟩ := C.grow hD T he ho hi hr (S' := S) (φ' := φ) (L' := L) (a' := a) (w' := w) (by rw [← hs2]; exact T.rel) (by rw [hs1]; exact T.locs) (fun t => by rw [hd]; simp)
      exact hK _ _ _ _ _ _ T'
    | some d =>
      rw [hdst, hd]
      have hIn : In B n φ0 hb w0 φ L (S.set d skipV) (hAt h0 evs c) (a.put (some d) undef) w := T.rel.put (Step.refl _ _ _) T.rel.rel.heap (hdn d hd) skip_rel
      obtain ⟨c', T'⟩ := C.grow hD T he ho hi hr (S' := S.set d skipV) (φ' := φ) (L' := L) (a' := a.put (some d) undef) (w' := w) (by rw [← hs2]; exact hIn) (by rw [hs1]; exact T.locs) (fun t => by
        rw [hd, hrec]
        by_cases ht : d = t
        · subst ht
          simp [Env.view, Env.set, Env.get, lookA_drop, look_cons]
        · have ht' : t ≠ d := fun e => ht e.symm
          simp [Env.view, Env.set, Env.get, lookA_drop, look_cons, ht, ht'])
      exact hK _ _ _ _ _ _ T'
  | true =>
    have hwant : Region.wanted o (yielded ops a.tmps) = true := by
      rcases hgd with ⟨h1, h2⟩ | ⟨j, t, want, h1, h2, h3⟩
      · unfold Region.wanted; rw [h1]
      · rw [wanted_guard h1 h3]
        rcases hok.guard t want h2 with ⟨h5, _⟩ | ⟨_, h5⟩
        · have hv := hag t (by rw [h2]; simp [gTmp])
          rw [← hv] at h5
          have := get_of_view h5
          have h6 := T.rel.rel.get t
          rw [this.1] at h6
          unfold VRel at h6
          rw [getD_some h6 (by intro hh; cases hh)]
          simp
        · rw [hon] at h5; cases h5
    rw [hwant]
    simp only [if_true]
    refine .inl ?_
    have hstep := hok.step hon
    have hrec : e.rec' = e.u.view := by simp [Ev.rec', hon]
    have hop : ∀ x ∈ aoOpds e.ao, S.lad x = e.s.lad x ∧ S.ev x = e.s.ev x := fun x hx => lad_of_view fun q hq => by
      have hm : q ∈ aoTmps e.ao := List.mem_filterMap.2 ⟨x, hx, by rw [hq]⟩
      rw [hag q (List.mem_append_right _ hm), hok.opds hon q hm]
    have hSr : stepR call e.g e.ao S (hAt h0 evs c) = some (e.u, bif isEff e.ao then hAt h0 evs (i + 1) else hAt h0 evs c) ∧ (e.u.app S).locs = (bif isEff e.ao then lAt s0.locs evs (i + 1) else lAt s0.locs evs c) := by
      cases hef : isEff e.ao with
      | false =>
        obtain ⟨p1, p2, p3⟩ := stepR_pure hef hstep (s' := e.u.app e.s) (k' := e.h')
        refine ⟨p3 S (hAt h0 evs c) (fun x hx => (hop x hx).2) (fun x hx => (hop x hx).1) ?_, by rw [p2]; exact T.locs⟩
        have := C.read_same hD T he ho hi hon hef hr
        rw [T.locs, hok.h hon, hok.l hon]
        have hl : logOf e.ao e.s (hAt h0 evs i) (e.u.app e.s) e.h' = e.logv := by unfold Ev.logv; rw [hok.h hon]
        rw [hl]
        exact this
      | true =>
        obtain ⟨_, _, h1, h2⟩ := C.next_eff hD T he ho hi hr hef
        obtain ⟨_, a2, a3⟩ := at_succ he s0.view h0 s0.locs
        have hll : S.locs = e.s.locs := by rw [T.locs, ← h2, hok.l hon]
        have : stepR call e.g e.ao S (hAt h0 evs c) = some (e.u, e.h') := by
          rw [← h1, ← hok.h hon, stepR_congr (fun x hx => (hop x hx).2) (fun x hx => (hop x hx).1) hll]
          exact hstep
        simp only [cond_true]
        rw [a2, a3]
        simp only [Ev.updH, Ev.updL, hon, cond_true]
        refine ⟨this, ?_⟩
        cases e.u <;> simp [Upd.app, Env.set, Env.setL, Env.newLoc, hll]
    obtain ⟨hSr, hSl⟩ := hSr
    have hrun : stepOp call e.g e.ao S (hAt h0 evs c) (fun s' h' => gate (s' = e.u.app S ∧ h' = (bif isEff e.ao then hAt h0 evs (i + 1) else hAt h0 evs c)) (some (0, [], h'))) = some (0, [], bif isEff e.ao then hAt h0 evs (i + 1) else hAt h0 evs c) := by
      rw [stepOp_eq, hSr]
      exact gate_pos ⟨rfl, rfl⟩ _
    obtain ⟨s', h', hk, hgood⟩ := stepOp_sound hcall hchk hdst hdn hrun T.rel
    obtain ⟨⟨rfl, rfl⟩, _⟩ := gate_some hk
    refine hgood K Q fun φ' L' a' w' hI => ?_
    obtain ⟨c', T'⟩ := C.grow hD T he ho hi hr hI hSl (fun t => by rw [hrec]; exact view_app hSr t)
    exact hK _ _ _ _ _ _ T'

theorem countP_le {α : Type} (p q : α → Bool) : ∀ (l : List α), (∀ x, q x = true → p x = true) → l.countP q ≤ l.countP p
  | [], _ => Nat.le_refl _
  | x :: l, h => by
    have := countP_le p q l h
    rw [List.countP_cons, List.countP_cons]
    cases hq : q x with
    | false => simp; omega
    | true => rw [h x hq]; simp; omega

theorem countP_lt {α : Type} (p q : α → Bool) : ∀ (l : List α) {x : α}, x ∈ l → p x = true → q x = false → (∀ y, q y = true → p y = true) → l.countP q < l.countP p
  | [], _, hx, _, _, _ => by cases hx
  | y :: l, x, hx, hp, hq, h => by
    rw [List.countP_cons, List.countP_cons]
    rcases List.mem_cons.1 hx with rfl | hx
    · have := countP_le p q l h
      rw [hp, hq]
      simp
      omega
    · have := countP_lt p q l hx hp hq h
      cases hqy : q y with
      | false => simp; omega
      | true => rw [h y hqy]; simp; omega

/-- Any order. -/
theorem Ctx.any (hcall : CallOk P call) (C : Ctx P call n ops items pairs ms evs s0 h0) (Q : Exit → Act → World → Prop) (hQ : ∀ S c φ L a w D, (∀ i, i < ops.size → D i = true) → DState P n evs s0 h0 B φ0 hb w0 D S c φ L a w → Q .normal a w) :
    ∀ (fuel : Nat) (listed : Array Bool) (S : Env) (c : Nat) (φ : Phi) (L : Nat → Nat) (a : Act) (w : World), listed.size = ops.size → (List.range ops.size).countP (fun i => !listed.getD i true) ≤ fuel →
      Closed ops (fun i => listed.getD i false) → DState P n evs s0 h0 B φ0 hb w0 (fun i => listed.getD i false) S c φ L a w → wpAny P .any ops Q fuel listed a w := by
  have hready : ∀ (listed : Array Bool), listed.size = ops.size → Region.ready .any ops listed = [] → ∀ i, i < ops.size → listed.getD i false = true := by
    intro listed hs hr i
    induction i using Nat.strongRecOn with
    | ind i ih =>
      intro hi
      cases hl : listed.getD i false with
      | true => rfl
      | false =>
        exfalso
        have hl' : listed.getD i true = false := by
          rw [Array.getD_eq_getD_getElem?] at hl ⊢
          have : i < listed.size := by omega
          rw [Array.getElem?_eq_getElem this] at hl ⊢
          exact hl
        have : i ∈ Region.ready .any ops listed := by
          unfold Region.ready
          rw [List.mem_filter]
          refine ⟨List.mem_range.2 hi, ?_⟩
          simp only [hl', Bool.not_false, Bool.true_and]
          rw [Array.getElem?_eq_getElem hi]
          simp only [Option.map_some, Option.getD_some]
          rw [Array.all_eq_true']
          intro e he
          cases hbd : Region.binds .any e with
          | false => rfl
          | true =>
            have hlt := C.back i ops[i] (Array.getElem?_eq_getElem hi) e (by simpa using he) hbd
            simp only [Bool.not_true, Bool.false_or]
            exact ih e.on hlt (by omega)
        rw [hr] at this
        cases this
  intro fuel
  induction fuel with
  | zero =>
    intro listed S c φ L a w hs hc hD T
    have hall : ∀ i, i < ops.size → listed.getD i true = true := by
      intro i hi
      have : (List.range ops.size).countP (fun i => !listed.getD i true) = 0 := by omega
      rw [List.countP_eq_zero] at this
      have := this i (List.mem_range.2 hi)
      simpa using this
    have hall' : ∀ i, i < ops.size → listed.getD i false = true := by
      intro i hi
      have := hall i hi
      rw [Array.getD_eq_getD_getElem?] at this ⊢
      have h2 : i < listed.size := by omega
      rw [Array.getElem?_eq_getElem h2] at this ⊢
      exact this
    refine ⟨?_, hQ S c φ L a w _ hall' T⟩
    unfold Region.ready
    rw [List.filter_eq_nil_iff]
    intro i hi
    rw [hall i (List.mem_range.1 hi)]
    simp
  | succ fuel ih =>
    intro listed S c φ L a w hs hc hD T
    refine ⟨fun hr => hQ S c φ L a w _ (hready listed hs hr) T, fun i hi => ?_⟩
    unfold Region.ready at hi
    rw [List.mem_filter] at hi
    obtain ⟨h1, h2⟩ := hi
    have hilt := List.mem_range.1 h1
    simp only [Bool.and_eq_true, Bool.not_eq_true'] at h2
    obtain ⟨h2, h3⟩ := h2
    rw [Array.getElem?_eq_getElem hilt] at h3
    simp only [Option.map_some, Option.getD_some] at h3
    rw [Array.all_eq_true'] at h3
    have hil : i < listed.size := by omega
    have hiF : listed.getD i false = false := by
      rw [Array.getD_eq_getD_getElem?] at h2 ⊢
      rw [Array.getElem?_eq_getElem hil] at h2 ⊢
      exact h2
    obtain ⟨e, he⟩ : ∃ e, evs[i]? = some e := ⟨_, List.getElem?_eq_getElem (by rw [C.len]; exact hilt)⟩
    have hr : ∀ e ∈ ops[i].after.toList, Region.binds .any e = true → (fun i => listed.getD i false) e.on = true := by
      intro q hq hbq
      have := h3 q (by simpa using hq)
      rw [hbq] at this
      simpa using this
    have hset : (fun j => (listed.setIfInBounds i true).getD j false) = setD (fun j => listed.getD j false) i := by
      funext j
      unfold setD
      rw [Array.getD_eq_getD_getElem?, Array.getElem?_setIfInBounds]
      by_cases hji : i = j
      · subst hji
        simp [hil]
      · rw [if_neg hji, if_neg (fun h => hji h.symm), ← Array.getD_eq_getD_getElem?]
    refine C.one hcall hD T he (Array.getElem?_eq_getElem hilt) hiF hr Q _ fun S' c' φ' L' a' w' T' => ?_
    refine ih (listed.setIfInBounds i true) S' c' φ' L' a' w' (by simpa using hs) ?_ ?_ ?_
    · have hlt : (List.range ops.size).countP (fun j => !(listed.setIfInBounds i true).getD j true) < (List.range ops.size).countP (fun j => !listed.getD j true) := by
        refine countP_lt (fun j => !listed.getD j true) (fun j => !(listed.setIfInBounds i true).getD j true) _ (List.mem_range.2 hilt) ?_ ?_ ?_
        · simp [h2]
        · rw [Array.getD_eq_getD_getElem?, Array.getElem?_setIfInBounds]
          simp [hil]
        · intro j hj
          rw [Array.getD_eq_getD_getElem?, Array.getElem?_setIfInBounds] at hj
          by_cases hji : i = j
          · subst hji
            simp [hil] at hj
          · rw [if_neg hji, ← Array.getD_eq_getD_getElem?] at hj
            exact hj
      omega
    · rw [hset]; exact closed_set hD (Array.getElem?_eq_getElem hilt) hr
    · rw [hset]; exact T'

end
end Go.Fw
