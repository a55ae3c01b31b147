/- Regions whose order is open: the end of the proof. -/
import Derived.Test.YtfdhljghamkgjaaFwZ
namespace Go.Fw
set_option linter.unusedSimpArgs false
set_option linter.unusedVariables false

section
variable {P : Program} {call : Call} {n b0 : Nat} {ops : Array Oper} {items : List AItem} {pairs : List (Nat × Nat)} {ms : List Nat} {evs : List Ev} {s0 : Env} {h0 : Heap}
variable {B : Nat} {φ0 φ : Phi} {hb : Heap} {w0 w : World} {D : Nat → Bool} {S : Env} {c : Nat} {X : Heap} {L : Nat → Nat} {a : Act}

def setD (D : Nat → Bool) (i : Nat) : Nat → Bool := fun j => if j = i then true else D j

theorem lad_of_view {s t : Env} {x : AOpd} (h : ∀ q, x = .tmp q → s.view q = t.view q) : s.lad x = t.lad x ∧ s.ev x = t.ev x := by
  cases x with
  | const v => exact ⟨rfl, rfl⟩
  | tmp q =>
    have := h q rfl
    simp only [Env.view, Prod.mk.injEq] at this
    exact ⟨this.2, this.1⟩

theorem closed_set {D : Nat → Bool} (hD : Closed ops D) {i : Nat} {o : Oper} (ho : ops[i]? = some o) (hr : ∀ e ∈ o.after.toList, Region.binds .any e = true → D e.on = true) : Closed ops (setD D i) := by
  intro j q hq hj e he hbe
  unfold setD
  split
  · rfl
  · by_cases hji : j = i
    · subst hji
      rw [ho] at hq
      cases hq
      exact hr e he hbe
    · unfold setD at hj
      rw [if_neg hji] at hj
      exact hD j q hq hj e he hbe

theorem HRel.sub {φ : Phi} {X Y : Heap} {w : World} (H : HRel φ X w) (hn : Y.next = X.next) (hl : ∀ b x, Y.blk b = some x → b < Y.next) (hs : ∀ b x L, Y.blk b = some x → φ b = some L → X.blk b = some x) : HRel φ Y w where
  dom := fun b L hb => by rw [hn]; exact H.dom b L hb
  live := hl
  blk := fun b x L hx hb => H.blk b x L (hs b x L hx hb) hb
  apart := fun b b' x x' L L' hne h1 h2 hr p1 p2 => H.apart b b' x x' L L' hne (hs b x L h1 p1) (hs b' x' L' h2 p2) hr p1 p2

theorem Step.sub {φ0 φ : Phi} {h X Y : Heap} {w0 w : World} (S : Step φ0 h w0 φ X w) (hn : Y.next = X.next) (ho : ∀ b, b < h.next → Y.blk b = X.blk b) : Step φ0 h w0 φ Y w where
  ext := S.ext
  next := by rw [hn]; exact S.next
  old := fun b x' hb hx => S.old b x' hb (by rw [← ho b hb]; exact hx)
  new := S.new
  size := S.size
  keep := fun b hb hp => by rw [ho b hb]; exact S.keep b hb hp
  frame := S.frame
  os := S.os
  tape := S.tape
  output := S.output

theorem In.sub (I : In B n φ0 hb w0 φ L S X a w) {Y : Heap} (hn : Y.next = X.next) (hl : ∀ b x, Y.blk b = some x → b < Y.next) (hs : ∀ b x L, Y.blk b = some x → φ b = some L → X.blk b = some x) (ho : ∀ b, b < hb.next → Y.blk b = X.blk b) : In B n φ0 hb w0 φ L S Y a w :=
  ⟨⟨I.rel.heap.sub hn hl hs, I.rel.size, I.rel.defers, I.rel.vals, I.rel.lads, I.rel.locs, I.rel.inj⟩, I.step.sub hn ho, I.base, I.dom⟩

open Classical in
/-- One heap where something holds, another one elsewhere. -/
noncomputable def mix (p : Nat → Prop) (A Z : Heap) : Heap := ⟨Z.next, fun b => if p b then A.blk b else Z.blk b⟩
theorem mix_yes {p : Nat → Prop} {A Z : Heap} {b : Nat} (h : p b) : (mix p A Z).blk b = A.blk b := by simp [mix, h]
theorem mix_no {p : Nat → Prop} {A Z : Heap} {b : Nat} (h : ¬ p b) : (mix p A Z).blk b = Z.blk b := by simp [mix, h]

/-- Where no effects stand, the place in the text moves on by itself. -/
theorem Ctx.adv (C : Ctx P call n b0 ops items pairs ms evs s0 h0) (T : DState P n b0 evs s0 h0 B φ0 hb w0 D S c X φ L a w) {i : Nat} (hci : c ≤ i) (hil : i ≤ evs.length) (hno : ∀ q eq, c ≤ q → q < i → evs[q]? = some eq → isEf eq.ao = true → False) :
    ∃ X', DState P n b0 evs s0 h0 B φ0 hb w0 D S i X' φ L a w := by
  obtain ⟨bn, bl, bo, bs⟩ := C.between c (i - c) (by omega) (fun q e h1 h2 => hno q e h1 (by omega))
  rw [show c + (i - c) = i by omega] at bn bl bo bs
  let p : Nat → Prop := fun b => ∃ k e, c ≤ k ∧ k < i ∧ FlAt evs k e ∧ slot b0 e = b
  have hp : ∀ k e, i ≤ k → FlAt evs k e → ¬ p (slot b0 e) := fun k e hk hf ⟨k', e', _, h2, h3, h4⟩ => C.slot_ne h3 hf (by omega) h4
  have hpb : ∀ b, b < hb.next → ¬ p b := fun b hlt ⟨k', e', _, _, h3, h4⟩ => by have := (T.ids k' e' h3).1; omega
  have hpo : ∀ b, ¬ p b → (hAt h0 evs i).blk b = (hAt h0 evs c).blk b := fun b hb => bo b fun k e h1 h2 h3 h4 => hb ⟨k, e, h1, by omega, h3, h4⟩
  refine ⟨mix p (hAt h0 evs i) X, ⟨hil, ?_, fun j e hj => T.todo j e (by omega), ⟨?_, ?_, ?_, ?_⟩, ?_, ?_, T.und, ?_, ?_, ?_, ?_, T.seen, T.rest⟩⟩
  · intro j e hj he hef
    rcases Nat.lt_or_ge j c with h | h
    · exact T.done j e h he hef
    · exact (hno j e h hj he hef).elim
  · show X.next = _
    rw [T.fill.next, bn]
  · intro k e hk hf hDk
    rw [mix_no (hp k e hk hf)]
    exact T.fill.inn k e (by omega) hf hDk
  · intro k e hk hf hDk
    rw [mix_no (hp k e hk hf)]
    exact T.fill.out k e (by omega) hf hDk
  · intro b hb'
    by_cases hpb' : p b
    · rw [mix_yes hpb']
    · rw [mix_no hpb', hpo b hpb']
      refine T.fill.rest b fun k e hk hf hh => ?_
      rcases Nat.lt_or_ge k i with h | h
      · exact hpb' ⟨k, e, hk, h, hf, hh⟩
      · exact hb' k e h hf hh
  · refine T.rel.sub rfl ?_ ?_ ?_
    · intro b x hx
      show b < X.next
      by_cases hpb' : p b
      · obtain ⟨k, e, _, _, h3, h4⟩ := hpb'
        have := (T.ids k e h3).2
        rw [T.fill.next]
        omega
      · rw [mix_no hpb'] at hx
        exact T.rel.rel.heap.live b x hx
    · intro b x L' hx hL
      by_cases hpb' : p b
      · rw [mix_yes hpb'] at hx
        obtain ⟨k, e, h1, h2, h3, h4⟩ := hpb'
        subst h4
        have hDk : D k = true := by
          cases hh : D k with
          | true => rfl
          | false => have := T.und k e h3 hh; rw [this] at hL; cases hL
        rw [T.fill.inn k e h1 h3 hDk, ← bs k e h1 (by omega) h3]
        exact hx
      · rw [mix_no hpb'] at hx
        exact hx
    · intro b hb'
      exact mix_no (hpb b hb')
  · intro k e hf
    rw [bn]
    exact T.ids k e hf
  · intro k e hk hf
    rw [hpo _ (hp k e hk hf)]
    exact T.cold k e (by omega) hf
  · intro k e hk hf
    rcases Nat.lt_or_ge k c with h | h
    · exact T.born k e h hf
    · obtain ⟨_, _, b3, _⟩ := C.between c (k - c) (by omega) (fun q e h1 h2 => hno q e h1 (by omega))
      rw [show c + (k - c) = k by omega] at b3
      rw [b3 _ fun k' e' h1 h2 h3 h4 => C.slot_ne h3 hf (by omega) h4]
      exact T.cold k e h hf
  · intro k e hk hf hDk
    rcases Nat.lt_or_ge k c with h | h
    · rw [bo _ fun k' e' h1 h2 h3 h4 => C.slot_ne h3 hf (by omega) h4]
      exact T.kept k e h hf hDk
    · exact bs k e h (by omega) hf
  · rw [T.locs, bl]

/-- The next of those whose order is kept. -/
theorem Ctx.next_eff (C : Ctx P call n b0 ops items pairs ms evs s0 h0) (hD : Closed ops D) (T : DState P n b0 evs s0 h0 B φ0 hb w0 D S c X φ L a w) {i : Nat} {e : Ev} {o : Oper} (he : evs[i]? = some e) (ho : ops[i]? = some o) (hi : D i = false)
    (hr : ∀ e ∈ o.after.toList, Region.binds .any e = true → D e.on = true) (hef : isEf e.ao = true) : c ≤ i ∧ (∀ q eq, c ≤ q → q < i → evs[q]? = some eq → isEf eq.ao = true → False) := by
  have hci : c ≤ i := by
    rcases Nat.lt_or_ge i c with h | h
    · have := T.done i e h he hef
      rw [hi] at this; cases this
    · exact h
  refine ⟨hci, fun q eq h1 h2 hq hefq => ?_⟩
  have h3 := C.bef_done hD ho hr (C.effs q i eq e hq he hefq hef h2)
  have h4 := T.todo q eq h1 hq hefq
  rw [h3] at h4; cases h4

/-- What is seen when one more is done. -/
theorem Ctx.seen_set (C : Ctx P call n b0 ops items pairs ms evs s0 h0) (T : DState P n b0 evs s0 h0 B φ0 hb w0 D S c X φ L a w) {i : Nat} {e : Ev} (he : evs[i]? = some e) {S' : Env} (hview : ∀ t, S'.view t = if opDst e.ao = some t then e.rec' else S.view t) :
    (∀ j ej t, setD D i j = true → evs[j]? = some ej → opDst ej.ao = some t → S'.view t = ej.rec') ∧ (∀ t, (∀ j ej, setD D i j = true → evs[j]? = some ej → opDst ej.ao ≠ some t) → S'.view t = s0.view t) := by
  constructor
  · intro j ej t hj hej hd
    rw [hview]
    by_cases hji : j = i
    · subst hji
      rw [he] at hej
      cases hej
      rw [if_pos hd]
    · have hne : opDst e.ao ≠ some t := fun hh => hji (C.once j i ej e t hej he hd hh)
      rw [if_neg hne]
      unfold setD at hj
      rw [if_neg hji] at hj
      exact T.seen j ej t hj hej hd
  · intro t ht
    have hne : opDst e.ao ≠ some t := ht i e (by simp [setD]) he
    rw [hview, if_neg hne]
    exact T.rest t fun j ej hj hej => ht j ej (by unfold setD; split <;> simp_all) hej

theorem setD_no {k : Nat} {i : Nat} (h : setD D i k = false) : k ≠ i ∧ D k = false := by
  unfold setD at h
  split at h
  · cases h
  · exact ⟨‹_›, h⟩
theorem setD_ne {k i : Nat} (h : k ≠ i) : setD D i k = D k := by unfold setD; rw [if_neg h]

/-- One that neither writes nor makes is done: the heap stays, its place stays. -/
theorem Ctx.grow_pure (C : Ctx P call n b0 ops items pairs ms evs s0 h0) (T : DState P n b0 evs s0 h0 B φ0 hb w0 D S c X φ L a w) {i : Nat} {e : Ev} (he : evs[i]? = some e) (hef : isEf e.ao = false) (hfl : ¬ FlAt evs i e)
    {S' : Env} {φ' : Phi} {L' : Nat → Nat} {a' : Act} {w' : World} (hrel : In B n φ0 hb w0 φ' L' S' X a' w') (hphi : ∀ k e, FlAt evs k e → φ (slot b0 e) = none → φ' (slot b0 e) = none) (hloc : S'.locs = lAt s0.locs evs c)
    (hview : ∀ t, S'.view t = if opDst e.ao = some t then e.rec' else S.view t) : DState P n b0 evs s0 h0 B φ0 hb w0 (setD D i) S' c X φ' L' a' w' := by
  obtain ⟨h1, h2⟩ := C.seen_set T he hview
  have hni : ∀ k ek, FlAt evs k ek → k ≠ i := fun k ek hk hh => by
    subst hh
    have : ek = e := by have := hk.1; rw [he] at this; cases this; rfl
    subst this
    exact hfl hk
  refine ⟨T.le, ?_, ?_, ⟨T.fill.next, ?_, ?_, T.fill.rest⟩, hrel, T.ids, ?_, T.cold, T.born, ?_, hloc, h1, h2⟩
  · intro j ej hj hej hefj
    unfold setD
    split
    · rfl
    · exact T.done j ej hj hej hefj
  · intro j ej hj hej hefj
    have hne : j ≠ i := fun hh => by
      subst hh
      rw [he] at hej
      cases hej
      rw [hef] at hefj; cases hefj
    rw [setD_ne hne]
    exact T.todo j ej hj hej hefj
  · intro k ek hk hf hDk
    rw [setD_ne (hni k ek hf)] at hDk
    exact T.fill.inn k ek hk hf hDk
  · intro k ek hk hf hDk
    exact T.fill.out k ek hk hf (setD_no hDk).2
  · intro k ek hf hDk
    exact hphi k ek hf (T.und k ek hf (setD_no hDk).2)
  · intro k ek hk hf hDk
    exact T.kept k ek hk hf (setD_no hDk).2

/-- One whose order is kept is done. -/
theorem Ctx.grow_eff (C : Ctx P call n b0 ops items pairs ms evs s0 h0) {i : Nat} (T : DState P n b0 evs s0 h0 B φ0 hb w0 D S i X φ L a w) {e : Ev} (he : evs[i]? = some e) (hef : isEf e.ao = true)
    {S' : Env} {φ' : Phi} {L' : Nat → Nat} {a' : Act} {w' : World} (hrel : In B n φ0 hb w0 φ' L' S' (hAt h0 evs (i + 1)) a' w') (S1 : Step1 φ (hAt h0 evs i) w φ' (hAt h0 evs (i + 1)) w') (hloc : S'.locs = lAt s0.locs evs (i + 1))
    (hview : ∀ t, S'.view t = if opDst e.ao = some t then e.rec' else S.view t) : ∃ X', DState P n b0 evs s0 h0 B φ0 hb w0 (setD D i) S' (i + 1) X' φ' L' a' w' := by
  have hlt : i < evs.length := (List.getElem?_eq_some_iff.1 he).1
  obtain ⟨h1, h2⟩ := C.seen_set T he hview
  have hni : ∀ k ek, FlAt evs k ek → k ≠ i := fun k ek hk hh => by
    subst hh
    have : ek = e := by have := hk.1; rw [he] at this; cases this; rfl
    subst this
    have h := hk.2.1
    simp only [isEf, h, Bool.not_true, Bool.and_false] at hef
    cases hef
  let A := hAt h0 evs i
  let A' := hAt h0 evs (i + 1)
  let p : Nat → Prop := fun b => ∃ k ek, i + 1 ≤ k ∧ FlAt evs k ek ∧ slot b0 ek = b
  have HX := T.rel.rel.heap
  have hnx : X.next = A.next := T.fill.next
  have hpb : ∀ b, b < hb.next → ¬ p b := fun b hlt ⟨k', e', _, h3, h4⟩ => by have := (T.ids k' e' h3).1; omega
  -- a name held ready for later: its place in what the world holds
  have hsl : ∀ b, p b → b < A.next ∧ A.blk b = none := fun b ⟨k, ek, h3, h4, h5⟩ => by subst h5; exact ⟨(T.ids k ek h4).2, T.cold k ek (by omega) h4⟩
  have hslX : ∀ b x L', p b → X.blk b = some x → φ' b = some L' → φ b = some L' := by
    intro b x L' hp hx hL
    obtain ⟨k, ek, h3, h4, h5⟩ := hp
    cases hφ : φ b with
    | some L0 => have := S1.ext b L0 hφ; rw [hL] at this; cases this; rfl
    | none => have := (S1.new b L' hφ hL).1; have := (T.ids k ek h4).2; subst h5; omega
  -- what lives in the order of the text lives in what the world holds
  have hAX : ∀ b x, A.blk b = some x → X.blk b = some x := by
    intro b x hx
    rw [T.fill.rest b]
    · exact hx
    · intro k ek hk hf hh
      subst hh
      rw [T.cold k ek hk hf] at hx
      cases hx
  -- a block that lives behind the effect: it was there, or it is new
  have hcases : ∀ b x L', A'.blk b = some x → φ' b = some L' → (∃ y, φ b = some L' ∧ X.blk b = some y ∧ y.rw = x.rw) ∨ (φ b = none ∧ (w.heap.size ≤ L'.blk ∨ ∃ b1 x1 L1, X.blk b1 = some x1 ∧ A.blk b1 = some x1 ∧ x1.rw = true ∧ φ b1 = some L1 ∧ L1.blk = L'.blk)) := by
    intro b x L' hx hL
    cases hφ : φ b with
    | some L0 =>
      have := S1.ext b L0 hφ
      rw [hL] at this
      cases this
      have hbn : b < A.next := by have := (HX.dom b L' hφ).1; rw [hnx] at this; exact this
      obtain ⟨y, hy, hrw⟩ := S1.old b x hbn hx
      exact .inl ⟨y, rfl, hAX b y hy, hrw⟩
    | none =>
      obtain ⟨_, hn⟩ := S1.new b L' hφ hL
      refine .inr ⟨rfl, ?_⟩
      rcases hn with hn | ⟨b1, x1, L1, g1, g2, g3, g4⟩
      · exact .inl hn
      · exact .inr ⟨b1, x1, L1, hAX b1 x1 g1, g1, g2, g3, g4⟩
  have hApart : ∀ b b' x x' L1 L2, p b → ¬ p b' → X.blk b = some x → A'.blk b' = some x' → (x.rw = true ∨ x'.rw = true) → φ' b = some L1 → φ' b' = some L2 → L1.blk ≠ L2.blk := by
    intro b b' x x' L1 L2 hpb1 hpb2 hx hx' hrw p1 p2
    have q1 := hslX b x L1 hpb1 hx p1
    have hbb : ∀ b1 x1, A.blk b1 = some x1 → b1 ≠ b := fun b1 x1 g hh => by subst hh; rw [(hsl _ hpb1).2] at g; cases g
    rcases hcases b' x' L2 hx' p2 with ⟨y, q2, hy, hyr⟩ | ⟨q2, hn⟩
    · have hne : b ≠ b' := fun hh => hpb2 (hh ▸ hpb1)
      rcases hrw with hrw | hrw
      · exact HX.apart b b' x y L1 L2 hne hx hy hrw q1 q2
      · exact fun hh => HX.apart b' b y x L2 L1 (Ne.symm hne) hy hx (by rw [hyr]; exact hrw) q2 q1 hh.symm
    · rcases hn with hn | ⟨b1, x1, L3, g1, g1', g2, g3, g4⟩
      · have := (HX.dom b L1 q1).2
        omega
      · rw [← g4]
        exact fun hh => HX.apart b1 b x1 x L3 L1 (hbb b1 x1 g1') g1 hx g2 g3 q1 hh.symm
  have I' := hrel.rel.heap
  have hX' : HRel φ' (mix p X A') w' := by
    refine ⟨fun b L' hL => I'.dom b L' hL, ?_, ?_, ?_⟩
    · intro b x hx
      show b < A'.next
      by_cases hpb' : p b
      · exact Nat.lt_of_lt_of_le (hsl b hpb').1 S1.next
      · rw [mix_no hpb'] at hx
        exact I'.live b x hx
    · intro b x L' hx hL
      by_cases hpb' : p b
      · rw [mix_yes hpb'] at hx
        have hφ := hslX b x L' hpb' hx hL
        obtain ⟨c1, t1, fz1, g1, g2, g3, g4, g5⟩ := HX.blk b x L' hx hφ
        have hsame : w'.heap[L'.blk]? = w.heap[L'.blk]? := by
          refine S1.frame L'.blk b L' (HX.dom b L' hφ).2 hφ rfl fun b1 x1 L1 k1 k2 k3 => ?_
          have hne : b1 ≠ b := fun hh => by subst hh; rw [(hsl _ hpb').2] at k1; cases k1
          exact HX.apart b1 b x1 x L1 L' hne (hAX b1 x1 k1) hx k2 k3 hφ
        exact ⟨c1, t1, fz1, by rw [hsame]; exact g1, g2, g3, g4, fun i v hv => by
          obtain ⟨u, u1, u2, u3⟩ := g5 i v hv
          exact ⟨u, u1, VRel.ext S1.ext v u2, u3⟩⟩
      · rw [mix_no hpb'] at hx
        exact I'.blk b x L' hx hL
    · intro b b' x x' L1 L2 hne hx hx' hrw p1 p2
      by_cases hpb1 : p b
      · rw [mix_yes hpb1] at hx
        by_cases hpb2 : p b'
        · rw [mix_yes hpb2] at hx'
          exact HX.apart b b' x x' L1 L2 hne hx hx' hrw (hslX b x L1 hpb1 hx p1) (hslX b' x' L2 hpb2 hx' p2)
        · rw [mix_no hpb2] at hx'
          exact hApart b b' x x' L1 L2 hpb1 hpb2 hx hx' (.inl hrw) p1 p2
      · rw [mix_no hpb1] at hx
        by_cases hpb2 : p b'
        · rw [mix_yes hpb2] at hx'
          exact fun hh => hApart b' b x' x L2 L1 hpb2 hpb1 hx' hx (.inr hrw) p2 p1 hh.symm
        · rw [mix_no hpb2] at hx'
          exact I'.apart b b' x x' L1 L2 hne hx hx' hrw p1 p2
  have hid : ∀ k ek, FlAt evs k ek → slot b0 ek < A.next := fun k ek hf => (T.ids k ek hf).2
  refine ⟨mix p X A', ⟨hlt, ?_, ?_, ⟨rfl, ?_, ?_, ?_⟩, ⟨⟨hX', hrel.rel.size, hrel.rel.defers, hrel.rel.vals, hrel.rel.lads, hrel.rel.locs, hrel.rel.inj⟩, hrel.step.sub rfl fun b hb' => mix_no (hpb b hb'), hrel.base, hrel.dom⟩, ?_, ?_, ?_, ?_, ?_, hloc, h1, h2⟩⟩
  · intro j ej hj hej hefj
    unfold setD
    split
    · rfl
    · exact T.done j ej (by omega) hej hefj
  · intro j ej hj hej hefj
    rw [setD_ne (by omega)]
    exact T.todo j ej (by omega) hej hefj
  · intro k ek hk hf hDk
    rw [mix_yes ⟨k, ek, hk, hf, rfl⟩]
    rw [setD_ne (hni k ek hf)] at hDk
    exact T.fill.inn k ek (by omega) hf hDk
  · intro k ek hk hf hDk
    rw [mix_yes ⟨k, ek, hk, hf, rfl⟩]
    exact T.fill.out k ek (by omega) hf (setD_no hDk).2
  · intro b hb'
    exact mix_no fun ⟨k, ek, g1, g2, g3⟩ => hb' k ek g1 g2 g3
  · intro k ek hf
    exact ⟨(T.ids k ek hf).1, Nat.lt_of_lt_of_le (hid k ek hf) S1.next⟩
  · intro k ek hf hDk
    have h3 := T.und k ek hf (setD_no hDk).2
    cases hh : φ' (slot b0 ek) with
    | none => rfl
    | some L' => have h4 := (S1.new _ _ h3 hh).1; have h5 := hid k ek hf; exact absurd h5 (by show ¬ slot b0 ek < (hAt h0 evs i).next; omega)
  · intro k ek hk hf
    cases hh : (hAt h0 evs (i + 1)).blk (slot b0 ek) with
    | none => rfl
    | some x =>
      obtain ⟨y, hy, _⟩ := S1.old _ x (hid k ek hf) hh
      rw [T.cold k ek (by omega) hf] at hy
      cases hy
  · intro k ek hk hf
    have : k ≠ i := hni k ek hf
    exact T.born k ek (by omega) hf
  · intro k ek hk hf hDk
    have hki : k ≠ i := hni k ek hf
    have h3 := (setD_no hDk).2
    rw [S1.keep _ (hid k ek hf) (T.und k ek hf h3)]
    exact T.kept k ek (by omega) hf h3

/-- A block is made. -/
theorem Ctx.grow_fl (C : Ctx P call n b0 ops items pairs ms evs s0 h0) (T : DState P n b0 evs s0 h0 B φ0 hb w0 D S c X φ L a w) {i : Nat} {e : Ev} (hf : FlAt evs i e) (hi : D i = false) {d : Nat} {v : AVal} {u : Value} {cs : List AVal} {cc : Array Value} {t : TypeId} (hd : d < n)
    (hdst : opDst e.ao = some d) (hrec : e.rec' = (v, none)) (hinit : e.h'.blk (slot b0 e) = some ⟨cs, true⟩) (hv : VRel (φ.set (slot b0 e) ⟨w.heap.size, 0, cc.size⟩) v u)
    (hH : HRel (φ.set (slot b0 e) ⟨w.heap.size, 0, cc.size⟩) (X.setBlk (slot b0 e) (some ⟨cs, true⟩)) (w.alloc (.cells cc t))) :
    DState P n b0 evs s0 h0 B φ0 hb w0 (setD D i) (S.set d v) c (X.setBlk (slot b0 e) (some ⟨cs, true⟩)) (φ.set (slot b0 e) ⟨w.heap.size, 0, cc.size⟩) L (a.put (some d) u) (w.alloc (.cells cc t)) := by
  have hview : ∀ q, (S.set d v).view q = if opDst e.ao = some q then e.rec' else S.view q := by
    intro q
    rw [hdst, hrec]
    by_cases hq : d = q
    · subst hq
      simp [Env.view, Env.set, Env.get, lookA_drop, look_cons]
    · have hq' : q ≠ d := fun e => hq e.symm
      simp [Env.view, Env.set, Env.get, lookA_drop, look_cons, hq, hq']
  obtain ⟨h1, h2⟩ := C.seen_set T hf.1 hview
  have hnone := T.und i e hf hi
  have hext : Ext φ (φ.set (slot b0 e) ⟨w.heap.size, 0, cc.size⟩) := Phi.set_ext hnone
  have hnef : isEf e.ao = false := by simp [isEf, hf.2.1]
  have hold : ∀ k, k < w.heap.size → (w.alloc (.cells cc t)).heap[k]? = w.heap[k]? := by
    intro k hk
    show (w.heap.push (.cells cc t))[k]? = _
    rw [Array.getElem?_push, if_neg (by omega)]
  have hsz : (w.alloc (.cells cc t)).heap.size = w.heap.size + 1 := by show (w.heap.push _).size = _; simp
  have R := T.rel.rel
  have hphi : ∀ b L', (φ.set (slot b0 e) ⟨w.heap.size, 0, cc.size⟩) b = some L' → (b = slot b0 e ∧ L'.blk = w.heap.size) ∨ φ b = some L' := by
    intro b L' hb
    unfold Phi.set at hb
    split at hb
    · cases hb; exact .inl ⟨‹_›, rfl⟩
    · exact .inr hb
  have hC : CRel B n (φ.set (slot b0 e) ⟨w.heap.size, 0, cc.size⟩) L S (X.setBlk (slot b0 e) (some ⟨cs, true⟩)) a (w.alloc (.cells cc t)) := by
    refine ⟨hH, R.size, R.defers, fun q hq => VRel.ext hext _ (R.vals q hq), R.lads, ?_, R.inj⟩
    intro l lc hl
    obtain ⟨g1, g2, g3, c2, e2, g4, g5, g6⟩ := R.locs l lc hl
    refine ⟨g1, by omega, ?_, c2, e2, by rw [hold _ g2]; exact g4, VRels.ext hext _ g5, g6⟩
    intro b L' hb
    rcases hphi b L' hb with ⟨_, hh⟩ | hb
    · omega
    · exact g3 b L' hb
  have hbid := (T.ids i e hf).1
  have St := T.rel.step
  have hS : Step φ0 hb w0 (φ.set (slot b0 e) ⟨w.heap.size, 0, cc.size⟩) (X.setBlk (slot b0 e) (some ⟨cs, true⟩)) (w.alloc (.cells cc t)) := by
    refine ⟨St.ext.trans hext, St.next, ?_, ?_, by have := St.size; omega, ?_, ?_, St.os, St.tape, St.output⟩
    · intro b x' hb' hx
      rw [Heap.setBlk_other _ _ (by omega)] at hx
      exact St.old b x' hb' hx
    · intro b L' hb1 hb2
      rcases hphi b L' hb2 with ⟨hh, hl⟩ | hb2
      · exact ⟨by omega, .inl (by have := St.size; omega)⟩
      · exact St.new b L' hb1 hb2
    · intro b hb' hp
      rw [Heap.setBlk_other _ _ (by omega)]
      exact St.keep b hb' hp
    · intro k hk hfree
      rw [hold k (by have := St.size; omega)]
      exact St.frame k hk hfree
  have hnk : ∀ k ek, FlAt evs k ek → k ≠ i → slot b0 ek ≠ slot b0 e := fun k ek hk hne => C.slot_ne hk hf hne
  refine ⟨T.le, ?_, ?_, ⟨T.fill.next, ?_, ?_, ?_⟩, ⟨hC.set hd hv, hS, T.rel.base, T.rel.dom⟩, T.ids, ?_, T.cold, T.born, ?_, T.locs, h1, h2⟩
  · intro j ej hj hej hefj
    unfold setD
    split
    · rfl
    · exact T.done j ej hj hej hefj
  · intro j ej hj hej hefj
    have hne : j ≠ i := fun hh => by
      subst hh
      rw [hf.1] at hej
      cases hej
      rw [hnef] at hefj; cases hefj
    rw [setD_ne hne]
    exact T.todo j ej hj hej hefj
  · intro k ek hk hfk hDk
    by_cases hki : k = i
    · subst hki
      have : ek = e := by have := hfk.1; rw [hf.1] at this; cases this; rfl
      subst this
      rw [Heap.setBlk_at, hinit]
    · rw [setD_ne hki] at hDk
      rw [Heap.setBlk_other _ _ (hnk k ek hfk hki)]
      exact T.fill.inn k ek hk hfk hDk
  · intro k ek hk hfk hDk
    obtain ⟨hki, hDk⟩ := setD_no hDk
    rw [Heap.setBlk_other _ _ (hnk k ek hfk hki)]
    exact T.fill.out k ek hk hfk hDk
  · intro b hb'
    by_cases hbs : b = slot b0 e
    · subst hbs
      rw [Heap.setBlk_at, ← hinit]
      have hic : i < c := by
        rcases Nat.lt_or_ge i c with h | h
        · exact h
        · exact (hb' i e h hf rfl).elim
      exact (T.kept i e hic hf hi).symm
    · rw [Heap.setBlk_other _ _ hbs]
      exact T.fill.rest b hb'
  · intro k ek hfk hDk
    obtain ⟨hki, hDk⟩ := setD_no hDk
    unfold Phi.set
    rw [if_neg (hnk k ek hfk hki)]
    exact T.und k ek hfk hDk
  · intro k ek hk hfk hDk
    exact T.kept k ek hk hfk (setD_no hDk).2

/-- What the order of the text has where the run stands: the world holds it. -/
theorem Ctx.at_text (_C : Ctx P call n b0 ops items pairs ms evs s0 h0) (T : DState P n b0 evs s0 h0 B φ0 hb w0 D S c X φ L a w) : In B n φ0 hb w0 φ L S (hAt h0 evs c) a w := by
  have key : ∀ b x, (hAt h0 evs c).blk b = some x → X.blk b = some x := by
    intro b x hx
    rw [T.fill.rest b]
    · exact hx
    · intro k ek hk hf hh
      subst hh
      rw [T.cold k ek hk hf] at hx
      cases hx
  refine T.rel.sub T.fill.next.symm ?_ (fun b x _ hx _ => key b x hx) ?_
  · intro b x hx
    have := T.rel.rel.heap.live b x (key b x hx)
    rw [T.fill.next] at this
    exact this
  · intro b hlt
    exact (T.fill.rest b fun k ek _ hf hh => by have := (T.ids k ek hf).1; omega).symm

/-- What is read: whose block it is, and that it is there. -/
theorem Ctx.rd_facts (C : Ctx P call n b0 ops items pairs ms evs s0 h0) (T : DState P n b0 evs s0 h0 B φ0 hb w0 D S c X φ L a w) {i : Nat} {e : Ev} {o : Oper} (he : evs[i]? = some e) (hon : e.on = true) (hne : isEff e.ao = false) (hchk : chkOp P o.op e.ao = true)
    (hop : ∀ x ∈ aoOpds e.ao, S.lad x = e.s.lad x ∧ S.ev x = e.s.ev x) : (∀ b off n, e.logv = some (.rd b off n) → φ b ≠ none) ∧ (∀ b off n, e.logv = some (.rd b off n) → (hAt h0 evs i).rd b off n ≠ none) := by
  have hok := C.at he
  have hs := hok.step hon
  have hh := hok.h hon
  have hboth : ∀ b off n, e.logv = some (.rd b off n) → φ b ≠ none ∧ e.h.rd b off n ≠ none := by
    intro b off m hl
    unfold Ev.logv logOf at hl
    cases hao : e.ao <;> rw [hao] at hl hne hs hchk hop <;> first | (cases hl; done) | (cases hne; done) | skip
    · rename_i d cc x
      cases cc <;> first | (cases hl; done) | (cases hne; done) | skip
      simp only at hl
      obtain ⟨src, dst, x', hop', hc⟩ := inv_conv hchk
      simp only [Bool.and_eq_true] at hc
      have hv := opd_rel T.rel.rel hc.1
      rw [(hop x (by simp [aoOpds])).2] at hv
      simp only [stepR, Option.bind_eq_some_iff] at hs
      obtain ⟨r, hr, _⟩ := hs
      cases hx : e.s.ev x <;> rw [hx] at hl hv hr <;> simp only [logBs] at hl <;> first | (cases hl; done) | skip
      cases hl
      obtain ⟨L', a', c', h1, _⟩ := vrel_slice.1 hv
      refine ⟨by rw [h1]; simp, fun hn => ?_⟩
      simp [aConv, hn] at hr
    · rename_i d agg m' x
      simp only at hl
      obtain ⟨t, x', hop', hc⟩ := inv_load hchk
      simp only [Bool.and_eq_true] at hc
      have hv := opd_rel T.rel.rel hc.1
      rw [(hop x (by simp [aoOpds])).2] at hv
      simp only [stepR] at hs
      cases hlad : e.s.lad x with
      | some p => rw [hlad] at hl; cases hl
      | none =>
        rw [hlad] at hl hs
        simp only [Option.bind_eq_some_iff] at hs
        obtain ⟨cs, hcs, _⟩ := hs
        cases hx : e.s.ev x <;> rw [hx] at hl hv hcs <;> simp only [logRd] at hl <;> first | (cases hl; done) | skip
        cases hl
        obtain ⟨L', h1, _⟩ := vrel_ptr.1 hv
        refine ⟨by rw [h1]; simp, fun hn => ?_⟩
        simp only [aLoad, hn] at hcs
        cases hcs
  exact ⟨fun b off n hl => (hboth b off n hl).1, fun b off n hl => by rw [← hh]; exact (hboth b off n hl).2⟩

/-- One operation that is ready. -/
theorem Ctx.one (hcall : CallOk P call) (C : Ctx P call n b0 ops items pairs ms evs s0 h0) (hD : Closed ops D) (T : DState P n b0 evs s0 h0 B φ0 hb w0 D S c X φ L a w) {i : Nat} {e : Ev} {o : Oper} (he : evs[i]? = some e) (ho : ops[i]? = some o) (hi : D i = false)
    (hr : ∀ e ∈ o.after.toList, Region.binds .any e = true → D e.on = true) (Q : Exit → Act → World → Prop) (K : Act → World → Prop)
    (hK : ∀ S' c' X' φ' L' a' w', DState P n b0 evs s0 h0 B φ0 hb w0 (setD D i) S' c' X' φ' L' a' w' → K a' w') : wpOp P ops Q i K a w := by
  have hlt : i < evs.length := (List.getElem?_eq_some_iff.1 he).1
  have hok := C.at he
  have hag := fun t ht => C.agree hD T he ho hi hr (t := t) ht
  obtain ⟨o', ho', hdst, hdn, hchk, hgd⟩ := operOkF_spec (C.oper i e he)
  rw [C.idx i e he, ho] at ho'
  cases ho'
  unfold wpOp
  rw [ho]
  simp only
  have hoff : e.on = false → Region.wanted o (yielded ops a.tmps) = false := by
    intro hon
    rcases hgd with ⟨h1, h2⟩ | ⟨j, t, want, h1, h2, h3⟩
    · have := hok.free h2
      rw [hon] at this; cases this
    · rw [wanted_guard h1 h3]
      rcases hok.guard t want h2 with ⟨_, h5⟩ | ⟨h5, _⟩
      · rw [hon] at h5; cases h5
      · have hv := hag t (by rw [h2]; simp [gTmp])
        rw [← hv] at h5
        have hrel : ∀ v, S.view t = (v, none) → VRel φ v (a.tmps.getD t undef) := by
          intro v hh
          have := get_of_view hh
          have h6 := T.rel.rel.get t
          rw [this.1] at h6
          exact h6
        rcases h5 with h5 | h5
        · have h6 := hrel _ h5
          unfold VRel at h6
          rw [getD_some h6 (by intro hh; cases hh)]
          cases want <;> rfl
        · have h6 := hrel _ h5
          unfold skipV at h6
          obtain ⟨vs, h7, _⟩ := vrel_tuple.1 h6
          cases hx : a.tmps[t]? with
          | none => rfl
          | some x =>
            have : a.tmps.getD t undef = x := by rw [Array.getD_eq_getD_getElem?, hx]; rfl
            rw [this] at h7
            rw [h7]
  cases hon : e.on with
  | false =>
    rw [hoff hon]
    simp only [Bool.false_eq_true, if_false]
    have hrec : e.rec' = (skipV, none) := by simp [Ev.rec', hon]
    have hnfl : ¬ FlAt evs i e := fun h => by have := h.2.2; rw [hon] at this; cases this
    obtain ⟨_, a2, a3⟩ := at_succ he s0.view h0 s0.locs
    simp only [Ev.updH, Ev.updL, hon, cond_false] at a2 a3
    cases hef : isEf e.ao with
    | false =>
      cases hd : opDst e.ao with
      | none =>
        rw [hdst, hd]
        exact hK _ _ _ _ _ _ _ (C.grow_pure T he hef hnfl T.rel (fun _ _ _ h => h) T.locs (fun t => by rw [hd]; simp))
      | some d =>
        rw [hdst, hd]
        exact hK _ _ _ _ _ _ _ (C.grow_pure T he hef hnfl (S' := S.set d skipV) (T.rel.put (Step.refl _ _ _) T.rel.rel.heap (hdn d hd) skip_rel) (fun _ _ _ h => h) T.locs (fun t => by
          rw [hd, hrec]
          by_cases ht : d = t
          · subst ht
            simp [Env.view, Env.set, Env.get, lookA_drop, look_cons]
          · have ht' : t ≠ d := fun e => ht e.symm
            simp [Env.view, Env.set, Env.get, lookA_drop, look_cons, ht, ht']))
    | true =>
      obtain ⟨hci, hno⟩ := C.next_eff hD T he ho hi hr hef
      obtain ⟨X1, T1⟩ := C.adv T hci (Nat.le_of_lt hlt) hno
      have I1 := C.at_text T1
      rw [← a2] at I1
      have S1 : Step1 φ (hAt h0 evs i) w φ (hAt h0 evs (i + 1)) w := by rw [a2]; exact (Step.refl _ _ _).one
      cases hd : opDst e.ao with
      | none =>
        rw [hdst, hd]
        obtain ⟨X', T'⟩ := C.grow_eff T1 he hef I1 S1 (by rw [a3]; exact T1.locs) (fun t => by rw [hd]; simp)
        exact hK _ _ _ _ _ _ _ T'
      | some d =>
        rw [hdst, hd]
        obtain ⟨X', T'⟩ := C.grow_eff T1 he hef (S' := S.set d skipV) (I1.put (Step.refl _ _ _) I1.rel.heap (hdn d hd) skip_rel) S1 (by rw [a3]; exact T1.locs) (fun t => by
          rw [hd, hrec]
          by_cases ht : d = t
          · subst ht
            simp [Env.view, Env.set, Env.get, lookA_drop, look_cons]
          · have ht' : t ≠ d := fun e => ht e.symm
            simp [Env.view, Env.set, Env.get, lookA_drop, look_cons, ht, ht'])
        exact hK _ _ _ _ _ _ _ T'
  | true =>
    have hwant : Region.wanted o (yielded ops a.tmps) = true := by
      rcases hgd with ⟨h1, h2⟩ | ⟨j, t, want, h1, h2, h3⟩
      · unfold Region.wanted; rw [h1]
      · rw [wanted_guard h1 h3]
        rcases hok.guard t want h2 with ⟨h5, _⟩ | ⟨_, h5⟩
        · have hv := hag t (by rw [h2]; simp [gTmp])
          rw [← hv] at h5
          have := get_of_view h5
          have h6 := T.rel.rel.get t
          rw [this.1] at h6
          unfold VRel at h6
          rw [getD_some h6 (by intro hh; cases hh)]
          simp
        · rw [hon] at h5; cases h5
    rw [hwant]
    simp only [if_true]
    refine .inl ?_
    have hstep := hok.step hon
    have hrec : e.rec' = e.u.view := by simp [Ev.rec', hon]
    have hop : ∀ x ∈ aoOpds e.ao, S.lad x = e.s.lad x ∧ S.ev x = e.s.ev x := fun x hx => lad_of_view fun q hq => by
      have hm : q ∈ aoTmps e.ao := List.mem_filterMap.2 ⟨x, hx, by rw [hq]⟩
      rw [hag q (List.mem_append_right _ hm), hok.opds hon q hm]
    cases hfl : isFl e.ao with
    | true =>
      have hf : FlAt evs i e := ⟨he, hfl, hon⟩
      obtain ⟨d, j, sl, zero, parts, cs, hao, hc, hu, hh⟩ := C.fl_step hf
      have hnone := T.und i e hf hi
      have hlt' : slot b0 e < X.next := by rw [T.fill.next]; exact (T.ids i e hf).2
      have hinit : e.h'.blk (slot b0 e) = some ⟨cs, true⟩ := by rw [hh, Heap.setBlk_at]
      have hd : opDst e.ao = some d := by rw [hao]; rfl
      have hdlt := hdn d hd
      rw [hd] at hdst
      have hmap : (parts.map fun p => (p.1, e.s.ev p.2)) = parts.map fun p => (p.1, S.ev p.2) := List.map_congr_left fun p hp => by
        rw [(hop p.2 (by rw [hao]; simp only [aoOpds]; exact List.mem_map_of_mem hp)).2]
      rw [hmap] at hc
      rw [hao] at hchk
      have hrec' : e.rec' = (flVal sl (slot b0 e), none) := by rw [hrec, hu]; rfl
      cases sl with
      | none =>
        obtain ⟨t, hopx, hz⟩ := inv_alloc (op := o.op) (d := d) (loc := false) (zero := zero) hchk
        simp only [flCells, Option.some.injEq] at hc
        subst hc
        obtain ⟨cc, u, hrun, hv, hH⟩ := alloc_at (P := P) T.rel.rel.heap hnone hlt' hz
        refine wp_value (u := u) (w' := w.alloc (.cells cc t)) (by simp only [execOp, hopx, Sem.run_bind, hrun]; rfl) ?_
        rw [hdst]
        exact hK _ _ _ _ _ _ _ (C.grow_fl T hf hi hdlt hd hrec' hinit hv hH)
      | some el =>
        obtain ⟨es, len⟩ := el
        obtain ⟨t, len', parts', hopx, hcc⟩ := inv_buildSl (op := o.op) (d := d) (zero := zero) (es := es) (len := len) (as := parts) hchk
        simp only [Bool.and_eq_true] at hcc
        obtain ⟨⟨e1, hp⟩, hcc⟩ := hcc
        have e1 := Nat.eq_of_beq_eq_true e1
        subst e1
        simp only [flCells, List.map_map] at hc
        split at hcc
        · rename_i et hut
          simp only [Bool.and_eq_true, sizeIs, decide_eq_true_eq] at hcc
          obtain ⟨cc, u, hrun, hv, hH⟩ := buildSl_at (P := P) T.rel.rel.heap hnone hlt' (fun x y hxy => opd_rel T.rel.rel hxy) hut hcc.1.1.1 hcc.1.1.2 (Nat.eq_of_beq_eq_true hcc.1.2) (Nat.le_of_ble_eq_true hcc.2) hp hc
          refine wp_value (u := u) (w' := w.alloc (.cells cc et)) (by simp only [execOp, hopx, Sem.run_bind, hrun]; rfl) ?_
          rw [hdst]
          exact hK _ _ _ _ _ _ _ (C.grow_fl T hf hi hdlt hd hrec' hinit hv hH)
        · cases hcc
    | false =>
      rw [unFl_of hfl] at hchk
      have hnfl : ¬ FlAt evs i e := fun h => by have := h.2.1; rw [hfl] at this; cases this
      cases hef : isEf e.ao with
      | false =>
        have hne : isEff e.ao = false := by
          simp only [isEf, hfl, Bool.not_false, Bool.and_true] at hef
          exact hef
        obtain ⟨p1, p2, p3⟩ := stepR_pure hne hstep (s' := e.u.app e.s) (k' := e.h')
        obtain ⟨f1, f2⟩ := C.rd_facts T he hon hne hchk hop
        have hSr : stepR call e.g e.ao S X = some (e.u, X) := by
          refine p3 S X (fun x hx => (hop x hx).2) (fun x hx => (hop x hx).1) ?_
          have := C.read_same hD T he ho hi hon hne hr f1 f2
          rw [T.locs, hok.h hon, hok.l hon]
          have hl : logOf e.ao e.s (hAt h0 evs i) (e.u.app e.s) e.h' = e.logv := by unfold Ev.logv; rw [hok.h hon]
          rw [hl]
          exact this
        have hrun : stepOp call e.g e.ao S X (fun s' h' => gate (s' = e.u.app S ∧ h' = X) (some (0, [], h'))) = some (0, [], X) := by
          rw [stepOp_eq, hSr]
          exact gate_pos ⟨rfl, rfl⟩ _
        obtain ⟨s', h', hk, hgood⟩ := stepOp_sound hcall hfl hchk hdst hdn hrun T.rel
        obtain ⟨⟨rfl, rfl⟩, _⟩ := gate_some hk
        refine hgood K Q fun φ' L' a' w' hI S1 => ?_
        refine hK _ _ _ _ _ _ _ (C.grow_pure T he hef hnfl hI ?_ (by rw [p2]; exact T.locs) (fun t => by rw [hrec]; exact view_app hSr t))
        intro k ek hfk hn
        cases hh : φ' (slot b0 ek) with
        | none => rfl
        | some L1 =>
          have h1 := (S1.new _ _ hn hh).1
          have h2 := (T.ids k ek hfk).2
          rw [← T.fill.next] at h2
          omega
      | true =>
        obtain ⟨hci, hno⟩ := C.next_eff hD T he ho hi hr hef
        obtain ⟨X1, T1⟩ := C.adv T hci (Nat.le_of_lt hlt) hno
        have I1 := C.at_text T1
        obtain ⟨_, a2, a3⟩ := at_succ he s0.view h0 s0.locs
        simp only [Ev.updH, Ev.updL, hon, cond_true] at a2 a3
        have hll : S.locs = e.s.locs := by rw [T1.locs, ← hok.l hon]
        have hSr : stepR call e.g e.ao S (hAt h0 evs i) = some (e.u, e.h') := by
          rw [← hok.h hon, stepR_congr (fun x hx => (hop x hx).2) (fun x hx => (hop x hx).1) hll (fun h => by rw [hfl] at h; cases h)]
          exact hstep
        have hrun : stepOp call e.g e.ao S (hAt h0 evs i) (fun s' h' => gate (s' = e.u.app S ∧ h' = e.h') (some (0, [], h'))) = some (0, [], e.h') := by
          rw [stepOp_eq, hSr]
          exact gate_pos ⟨rfl, rfl⟩ _
        obtain ⟨s', h', hk, hgood⟩ := stepOp_sound hcall hfl hchk hdst hdn hrun I1
        obtain ⟨⟨rfl, rfl⟩, _⟩ := gate_some hk
        refine hgood K Q fun φ' L' a' w' hI S1 => ?_
        rw [← a2] at hI S1
        obtain ⟨X', T'⟩ := C.grow_eff T1 he hef hI S1 (by rw [a3]; cases e.u <;> simp [Upd.app, Env.set, Env.setL, Env.newLoc, hll]) (fun t => by rw [hrec]; exact view_app hSr t)
        exact hK _ _ _ _ _ _ _ T'

theorem countP_le {α : Type} (p q : α → Bool) : ∀ (l : List α), (∀ x, q x = true → p x = true) → l.countP q ≤ l.countP p
  | [], _ => Nat.le_refl _
  | x :: l, h => by
    have := countP_le p q l h
    rw [List.countP_cons, List.countP_cons]
    cases hq : q x with
    | false => simp; omega
    | true => rw [h x hq]; simp; omega

theorem countP_lt {α : Type} (p q : α → Bool) : ∀ (l : List α) {x : α}, x ∈ l → p x = true → q x = false → (∀ y, q y = true → p y = true) → l.countP q < l.countP p
  | [], _, hx, _, _, _ => by cases hx
  | y :: l, x, hx, hp, hq, h => by
    rw [List.countP_cons, List.countP_cons]
    rcases List.mem_cons.1 hx with rfl | hx
    · have := countP_le p q l h
      rw [hp, hq]
      simp
      omega
    · have := countP_lt p q l hx hp hq h
      cases hqy : q y with
      | false => simp; omega
      | true => rw [h y hqy]; simp; omega

/-- Any order. -/
theorem Ctx.any (hcall : CallOk P call) (C : Ctx P call n b0 ops items pairs ms evs s0 h0) (Q : Exit → Act → World → Prop) (hQ : ∀ S c X φ L a w D, (∀ i, i < ops.size → D i = true) → DState P n b0 evs s0 h0 B φ0 hb w0 D S c X φ L a w → Q .normal a w) :
    ∀ (fuel : Nat) (listed : Array Bool) (S : Env) (c : Nat) (X : Heap) (φ : Phi) (L : Nat → Nat) (a : Act) (w : World), listed.size = ops.size → (List.range ops.size).countP (fun i => !listed.getD i true) ≤ fuel →
      Closed ops (fun i => listed.getD i false) → DState P n b0 evs s0 h0 B φ0 hb w0 (fun i => listed.getD i false) S c X φ L a w → wpAny P .any ops Q fuel listed a w := by
  have hready : ∀ (listed : Array Bool), listed.size = ops.size → Region.ready .any ops listed = [] → ∀ i, i < ops.size → listed.getD i false = true := by
    intro listed hs hr i
    induction i using Nat.strongRecOn with
    | ind i ih =>
      intro hi
      cases hl : listed.getD i false with
      | true => rfl
      | false =>
        exfalso
        have hl' : listed.getD i true = false := by
          rw [Array.getD_eq_getD_getElem?] at hl ⊢
          have : i < listed.size := by omega
          rw [Array.getElem?_eq_getElem this] at hl ⊢
          exact hl
        have : i ∈ Region.ready .any ops listed := by
          unfold Region.ready
          rw [List.mem_filter]
          refine ⟨List.mem_range.2 hi, ?_⟩
          simp only [hl', Bool.not_false, Bool.true_and]
          rw [Array.getElem?_eq_getElem hi]
          simp only [Option.map_some, Option.getD_some]
          rw [Array.all_eq_true']
          intro e he
          cases hbd : Region.binds .any e with
          | false => rfl
          | true =>
            have hlt := C.back i ops[i] (Array.getElem?_eq_getElem hi) e (by simpa using he) hbd
            simp only [Bool.not_true, Bool.false_or]
            exact ih e.on hlt (by omega)
        rw [hr] at this
        cases this
  intro fuel
  induction fuel with
  | zero =>
    intro listed S c X φ L a w hs hc hD T
    have hall : ∀ i, i < ops.size → listed.getD i true = true := by
      intro i hi
      have : (List.range ops.size).countP (fun i => !listed.getD i true) = 0 := by omega
      rw [List.countP_eq_zero] at this
      have := this i (List.mem_range.2 hi)
      simpa using this
    have hall' : ∀ i, i < ops.size → listed.getD i false = true := by
      intro i hi
      have := hall i hi
      rw [Array.getD_eq_getD_getElem?] at this ⊢
      have h2 : i < listed.size := by omega
      rw [Array.getElem?_eq_getElem h2] at this ⊢
      exact this
    refine ⟨?_, hQ S c X φ L a w _ hall' T⟩
    unfold Region.ready
    rw [List.filter_eq_nil_iff]
    intro i hi
    rw [hall i (List.mem_range.1 hi)]
    simp
  | succ fuel ih =>
    intro listed S c X φ L a w hs hc hD T
    refine ⟨fun hr => hQ S c X φ L a w _ (hready listed hs hr) T, fun i hi => ?_⟩
    unfold Region.ready at hi
    rw [List.mem_filter] at hi
    obtain ⟨h1, h2⟩ := hi
    have hilt := List.mem_range.1 h1
    simp only [Bool.and_eq_true, Bool.not_eq_true'] at h2
    obtain ⟨h2, h3⟩ := h2
    rw [Array.getElem?_eq_getElem hilt] at h3
    simp only [Option.map_some, Option.getD_some] at h3
    rw [Array.all_eq_true'] at h3
    have hil : i < listed.size := by omega
    have hiF : listed.getD i false = false := by
      rw [Array.getD_eq_getD_getElem?] at h2 ⊢
      rw [Array.getElem?_eq_getElem hil] at h2 ⊢
      exact h2
    obtain ⟨e, he⟩ : ∃ e, evs[i]? = some e := ⟨_, List.getElem?_eq_getElem (by rw [C.len]; exact hilt)⟩
    have hr : ∀ e ∈ ops[i].after.toList, Region.binds .any e = true → (fun i => listed.getD i false) e.on = true := by
      intro q hq hbq
      have := h3 q (by simpa using hq)
      rw [hbq] at this
      simpa using this
    have hset : (fun j => (listed.setIfInBounds i true).getD j false) = setD (fun j => listed.getD j false) i := by
      funext j
      unfold setD
      rw [Array.getD_eq_getD_getElem?, Array.getElem?_setIfInBounds]
      by_cases hji : i = j
      · subst hji
        simp [hil]
      · rw [if_neg hji, if_neg (fun h => hji h.symm), ← Array.getD_eq_getD_getElem?]
    refine C.one hcall hD T he (Array.getElem?_eq_getElem hilt) hiF hr Q _ fun S' c' X' φ' L' a' w' T' => ?_
    refine ih (listed.setIfInBounds i true) S' c' X' φ' L' a' w' (by simpa using hs) ?_ ?_ ?_
    · have hlt : (List.range ops.size).countP (fun j => !(listed.setIfInBounds i true).getD j true) < (List.range ops.size).countP (fun j => !listed.getD j true) := by
        refine countP_lt (fun j => !listed.getD j true) (fun j => !(listed.setIfInBounds i true).getD j true) _ (List.mem_range.2 hilt) ?_ ?_ ?_
        · simp [h2]
        · rw [Array.getD_eq_getD_getElem?, Array.getElem?_setIfInBounds]
          simp [hil]
        · intro j hj
          rw [Array.getD_eq_getD_getElem?, Array.getElem?_setIfInBounds] at hj
          by_cases hji : i = j
          · subst hji
            simp [hil] at hj
          · rw [if_neg hji, ← Array.getD_eq_getD_getElem?] at hj
            exact hj
      omega
    · rw [hset]; exact closed_set hD (Array.getElem?_eq_getElem hilt) hr
    · rw [hset]; exact T'

end
end Go.Fw
