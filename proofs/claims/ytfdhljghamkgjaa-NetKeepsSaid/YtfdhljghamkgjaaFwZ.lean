/- Regions whose order is open: the proof. -/
import Derived.Test.YtfdhljghamkgjaaFwY
namespace Go.Fw
set_option linter.unusedSimpArgs false
set_option linter.unusedVariables false

theorem nodupB_spec : ∀ {l : List Nat}, nodupB l = true → l.Nodup
  | [], _ => List.nodup_nil
  | x :: r, h => by
    simp only [nodupB, Bool.and_eq_true, Bool.not_eq_true', List.contains_eq_mem, decide_eq_false_iff_not] at h
    exact List.nodup_cons.2 ⟨h.1, nodupB_spec h.2⟩

theorem orderedB_spec {ms : List Nat} : ∀ {l : List Nat}, orderedB ms l = true → ∀ as x bs y cs, l = as ++ x :: (bs ++ y :: cs) → bef ms x y = true
  | [], _, as, x, bs, y, cs, e => by simp at e
  | z :: r, h, as, x, bs, y, cs, e => by
    simp only [orderedB, Bool.and_eq_true, List.all_eq_true] at h
    cases as with
    | nil =>
      simp only [List.nil_append, List.cons.injEq] at e
      obtain ⟨rfl, rfl⟩ := e
      exact h.1 y (by simp)
    | cons a as =>
      simp only [List.cons_append, List.cons.injEq] at e
      exact orderedB_spec h.2 as x bs y cs e.2

section
variable {P : Program} {call : Call} {n b0 : Nat} {ops : Array Oper} {items : List AItem} {pairs : List (Nat × Nat)} {ms : List Nat} {evs : List Ev} {s0 : Env} {h0 : Heap}

/-- All that the check gives, and the trajectory. 'b0': the first name that was held ready. -/
structure Ctx (P : Program) (call : Call) (n b0 : Nat) (ops : Array Oper) (items : List AItem) (pairs : List (Nat × Nat)) (ms : List Nat) (evs : List Ev) (s0 : Env) (h0 : Heap) : Prop where
  len : evs.length = ops.size
  key : evs.map Ev.key = flatItems none items
  idx : ∀ (i : Nat) (e : Ev), evs[i]? = some e → e.i = i
  oper : ∀ (i : Nat) (e : Ev), evs[i]? = some e → operOkF P n ops e.key = true
  back : ∀ (i : Nat) (o : Oper), ops[i]? = some o → ∀ e ∈ o.after.toList, Region.binds .any e = true → e.on < i
  bef : ∀ (i : Nat) (o : Oper), ops[i]? = some o → ∀ j, Go.Fw.bef ms j i = true → ∃ e ∈ o.after.toList, Region.binds .any e = true ∧ (j = e.on ∨ Go.Fw.bef ms j e.on = true)
  once : ∀ (i j : Nat) (ei ej : Ev) (t : Nat), evs[i]? = some ei → evs[j]? = some ej → opDst ei.ao = some t → opDst ej.ao = some t → i = j
  names : ∀ (i j : Nat) (ei ej : Ev) (t : Nat), evs[i]? = some ei → evs[j]? = some ej → t ∈ gTmp ei.gd ++ aoTmps ei.ao → opDst ej.ao = some t → (j < i ∧ Go.Fw.bef ms j i = true) ∨ (i < j ∧ Go.Fw.bef ms i j = true)
  effs : ∀ (i j : Nat) (ei ej : Ev), evs[i]? = some ei → evs[j]? = some ej → isEf ei.ao = true → isEf ej.ao = true → i < j → Go.Fw.bef ms i j = true
  rds : ∀ (i j : Nat) (ei ej : Ev), evs[i]? = some ei → evs[j]? = some ej → isRd ei.ao = true → isEf ej.ao = true → Go.Fw.bef ms i j = true ∨ Go.Fw.bef ms j i = true ∨ (ei.on = true → ej.on = true → pairOk ei.logv ej.logv = true)
  fls : ∀ (i j : Nat) (ei ej : Ev) (q : Nat), evs[i]? = some ei → evs[j]? = some ej → flId ei.ao = some q → flId ej.ao = some q → i = j
  base : ∀ (i : Nat) (e : Ev), evs[i]? = some e → isFl e.ao = true → e.on = true → e.s.base = b0
  ok : EvsOk call s0.view h0 s0.locs evs

/-- The name under which a block is made, and the block. -/
def slot (b0 : Nat) (e : Ev) : Nat := b0 + (flId e.ao).getD 0
def FlAt (evs : List Ev) (k : Nat) (e : Ev) : Prop := evs[k]? = some e ∧ isFl e.ao = true ∧ e.on = true

theorem isFl_id {o : AOp} (h : isFl o = true) : ∃ q, flId o = some q := by
  cases o <;> first | exact ⟨_, rfl⟩ | (cases h; done)

abbrev hAt (h0 : Heap) (evs : List Ev) (i : Nat) : Heap := hRun h0 (evs.take i)
abbrev lAt (l0 : List (Nat × List AVal)) (evs : List Ev) (i : Nat) : List (Nat × List AVal) := lRun l0 (evs.take i)
abbrev vAt (V0 : Nat → View) (evs : List Ev) (i : Nat) : Nat → View := vRun V0 (evs.take i)

variable (C : Ctx P call n b0 ops items pairs ms evs s0 h0)
include C

theorem Ctx.at {i : Nat} {e : Ev} (he : evs[i]? = some e) : EvOk call (vAt s0.view evs i) (hAt h0 evs i) (lAt s0.locs evs i) e := by
  have hlt : i < evs.length := (List.getElem?_eq_some_iff.1 he).1
  have hsplit : evs = evs.take i ++ e :: evs.drop (i + 1) := by
    rw [List.getElem?_eq_getElem hlt] at he
    cases he
    rw [← List.drop_eq_getElem_cons hlt, List.take_append_drop]
  have := C.ok
  rw [hsplit] at this
  exact this.at

omit C in
theorem take_succ {i : Nat} {e : Ev} (he : evs[i]? = some e) : evs.take (i + 1) = evs.take i ++ [e] := by
  have hlt : i < evs.length := (List.getElem?_eq_some_iff.1 he).1
  rw [List.getElem?_eq_getElem hlt] at he
  cases he
  simp

omit C in
theorem at_succ {i : Nat} {e : Ev} (he : evs[i]? = some e) (V0 : Nat → View) (h0 : Heap) (l0 : List (Nat × List AVal)) : vAt V0 evs (i + 1) = e.updV (vAt V0 evs i) ∧ hAt h0 evs (i + 1) = e.updH (hAt h0 evs i) ∧ lAt l0 evs (i + 1) = e.updL (lAt l0 evs i) := by
  unfold vAt hAt lAt
  rw [take_succ he]
  obtain ⟨a1, a2, a3⟩ := run_append (as := evs.take i) (bs := [e]) V0 h0 l0
  exact ⟨a1, a2, a3⟩

/-- What a temporary holds ahead of an operation, in the order of the text. -/
theorem Ctx.vAt_spec : ∀ (i : Nat), i ≤ evs.length → (∀ j e t, j < i → evs[j]? = some e → opDst e.ao = some t → vAt s0.view evs i t = e.rec') ∧
    (∀ t, (∀ j e, j < i → evs[j]? = some e → opDst e.ao ≠ some t) → vAt s0.view evs i t = s0.view t)
  | 0, _ => ⟨fun j e t hj => by omega, fun t _ => rfl⟩
  | i + 1, hi => by
    obtain ⟨i1, i2⟩ := Ctx.vAt_spec i (by omega)
    obtain ⟨e, he⟩ : ∃ e, evs[i]? = some e := ⟨_, List.getElem?_eq_getElem (by omega)⟩
    have hv := (at_succ he s0.view h0 s0.locs).1
    refine ⟨fun j q t hj hq ht => ?_, fun t ht => ?_⟩
    · rw [hv]
      by_cases hji : j = i
      · subst hji
        rw [he] at hq
        cases hq
        simp [Ev.updV, ht]
      · have hne : opDst e.ao ≠ some t := fun hh => hji (C.once j i q e t hq he ht hh)
        simp only [Ev.updV, if_neg hne]
        exact i1 j q t (by omega) hq ht
    · rw [hv]
      have hne : opDst e.ao ≠ some t := ht i e (by omega) he
      simp only [Ev.updV, if_neg hne]
      exact i2 t fun j q hj hq => ht j q (by omega) hq

theorem Ctx.bef_lt {i j : Nat} (hi : i < ops.size) (h : Go.Fw.bef ms j i = true) : j < i := by
  induction i using Nat.strongRecOn with
  | ind i ih =>
    obtain ⟨o, ho⟩ : ∃ o, ops[i]? = some o := ⟨ops[i], by simp [hi]⟩
    obtain ⟨e, he, hb, hh⟩ := C.bef i o ho j h
    have hlt := C.back i o ho e he hb
    rcases hh with rfl | hh
    · exact hlt
    · have := ih e.on hlt (by omega) hh
      omega

/-- Which are done is closed under what must come ahead. -/
def Closed (ops : Array Oper) (D : Nat → Bool) : Prop := ∀ i o, ops[i]? = some o → D i = true → ∀ e ∈ o.after.toList, Region.binds .any e = true → D e.on = true

theorem Ctx.bef_done {D : Nat → Bool} (hD : Closed ops D) {i : Nat} {o : Oper} (ho : ops[i]? = some o) (hr : ∀ e ∈ o.after.toList, Region.binds .any e = true → D e.on = true) {j : Nat} (h : Go.Fw.bef ms j i = true) : D j = true := by
  induction i using Nat.strongRecOn generalizing o with
  | ind i ih =>
    obtain ⟨e, he, hb, hh⟩ := C.bef i o ho j h
    have hlt := C.back i o ho e he hb
    rcases hh with rfl | hh
    · exact hr e he hb
    · have hi : i < ops.size := (Array.getElem?_eq_some_iff.1 ho).1
      obtain ⟨o2, ho2⟩ : ∃ o, ops[e.on]? = some o := ⟨ops[e.on]'(by omega), by rw [Array.getElem?_eq_getElem]⟩
      exact ih e.on hlt ho2 (fun q hq hbq => hD e.on o2 ho2 (hr e he hb) q hq hbq) hh

theorem Ctx.slot_ne {i j : Nat} {ei ej : Ev} (hi : FlAt evs i ei) (hj : FlAt evs j ej) (hne : i ≠ j) : slot b0 ei ≠ slot b0 ej := by
  obtain ⟨q, hq⟩ := isFl_id hi.2.1
  obtain ⟨r, hr⟩ := isFl_id hj.2.1
  intro h
  unfold slot at h
  rw [hq, hr] at h
  simp only [Option.getD_some] at h
  have : q = r := by omega
  subst this
  exact hne (C.fls i j ei ej q hi.1 hj.1 hq hr)

/-- What making a block does. -/
theorem Ctx.fl_step {k : Nat} {e : Ev} (hk : FlAt evs k e) : ∃ d j sl zero parts cs, e.ao = .fl d j sl zero parts ∧ flCells sl zero (parts.map fun p => (p.1, e.s.ev p.2)) = some cs ∧ e.u = .set d (flVal sl (slot b0 e)) ∧ e.h' = e.h.setBlk (slot b0 e) (some ⟨cs, true⟩) := by
  have hs := (C.at hk.1).step hk.2.2
  have hb := C.base k e hk.1 hk.2.1 hk.2.2
  have hf := hk.2.1
  cases hao : e.ao <;> rw [hao] at hf <;> first | (cases hf; done) | skip
  rename_i d j sl zero parts
  rw [hao] at hs
  simp only [stepR, Option.bind_eq_some_iff, Option.some.injEq, Prod.mk.injEq] at hs
  obtain ⟨cs, h1, h2, h3⟩ := hs
  have hsl : slot b0 e = b0 + j := by unfold slot; rw [hao]; rfl
  refine ⟨d, j, sl, zero, parts, cs, rfl, h1, ?_, ?_⟩
  · rw [hsl, ← hb]; exact h2.symm
  · rw [hsl, ← hb]; exact h3.symm

/-- The heap behind an operation: nothing, an effect, a block. -/
theorem Ctx.h_pure {i : Nat} {e : Ev} (he : evs[i]? = some e) (hef : isEf e.ao = false) (hfl : ¬ FlAt evs i e) : hAt h0 evs (i + 1) = hAt h0 evs i ∧ lAt s0.locs evs (i + 1) = lAt s0.locs evs i := by
  obtain ⟨_, a2, a3⟩ := at_succ he s0.view h0 s0.locs
  have hok := C.at he
  rw [a2, a3]
  cases hon : e.on with
  | false => unfold Ev.updH Ev.updL; rw [hon]; exact ⟨rfl, rfl⟩
  | true =>
    have hnf : isFl e.ao = false := by
      cases hh : isFl e.ao with
      | false => rfl
      | true => exact (hfl ⟨he, hh, hon⟩).elim
    have hne : isEff e.ao = false := by
      simp only [isEf, hnf, Bool.not_false, Bool.and_true] at hef
      exact hef
    obtain ⟨p1, p2, _⟩ := stepR_pure hne (hok.step hon) (s' := e.s) (k' := e.h)
    unfold Ev.updH Ev.updL
    rw [hon]
    simp only [cond_true]
    rw [p1, p2, hok.h hon, hok.l hon]
    exact ⟨rfl, rfl⟩

theorem Ctx.h_fl {i : Nat} {e : Ev} (hf : FlAt evs i e) : ∃ cs, e.h'.blk (slot b0 e) = some ⟨cs, true⟩ ∧ hAt h0 evs (i + 1) = (hAt h0 evs i).setBlk (slot b0 e) (some ⟨cs, true⟩) ∧ lAt s0.locs evs (i + 1) = lAt s0.locs evs i := by
  obtain ⟨d, j, sl, zero, parts, cs, hao, hc, hu, hh⟩ := C.fl_step hf
  obtain ⟨_, a2, a3⟩ := at_succ hf.1 s0.view h0 s0.locs
  have hok := C.at hf.1
  refine ⟨cs, by rw [hh, Heap.setBlk_at], ?_, ?_⟩
  · rw [a2]
    unfold Ev.updH
    rw [hf.2.2]
    simp only [cond_true]
    rw [hh, hok.h hf.2.2]
  · rw [a3]
    unfold Ev.updL
    rw [hf.2.2]
    simp only [cond_true]
    rw [hu, ← hok.l hf.2.2]
    rfl

/-- No effects between: blocks that were made, and nothing else. -/
theorem Ctx.between (lo : Nat) : ∀ (d : Nat), lo + d ≤ evs.length → (∀ q e, lo ≤ q → q < lo + d → evs[q]? = some e → isEf e.ao = true → False) →
    (hAt h0 evs (lo + d)).next = (hAt h0 evs lo).next ∧ lAt s0.locs evs (lo + d) = lAt s0.locs evs lo ∧
    (∀ b, (∀ k e, lo ≤ k → k < lo + d → FlAt evs k e → slot b0 e ≠ b) → (hAt h0 evs (lo + d)).blk b = (hAt h0 evs lo).blk b) ∧
    (∀ k e, lo ≤ k → k < lo + d → FlAt evs k e → (hAt h0 evs (lo + d)).blk (slot b0 e) = e.h'.blk (slot b0 e))
  | 0, _, _ => ⟨rfl, rfl, fun _ _ => rfl, fun k e h1 h2 => by omega⟩
  | d + 1, hl, hp => by
    obtain ⟨e, he⟩ : ∃ e, evs[lo + d]? = some e := ⟨_, List.getElem?_eq_getElem (by omega)⟩
    obtain ⟨h1, h2, h3, h4⟩ := Ctx.between lo d (by omega) fun q e a b => hp q e a (by omega)
    have hef : isEf e.ao = false := by
      cases hh : isEf e.ao with
      | false => rfl
      | true => exact (hp (lo + d) e (by omega) (by omega) he hh).elim
    rw [← Nat.add_assoc]
    by_cases hfl : FlAt evs (lo + d) e
    · obtain ⟨cs, f1, f2, f3⟩ := C.h_fl hfl
      rw [f2, f3]
      refine ⟨h1, h2, fun b hb => ?_, fun k ek a1 a2 hk => ?_⟩
      · rw [Heap.setBlk_other _ _ (fun hh => hb (lo + d) e (by omega) (by omega) hfl hh.symm)]
        exact h3 b fun k ek a1 a2 => hb k ek a1 (by omega)
      · by_cases hkd : k = lo + d
        · subst hkd
          have : ek = e := by have := hk.1; rw [he] at this; cases this; rfl
          subst this
          rw [Heap.setBlk_at, f1]
        · rw [Heap.setBlk_other _ _ (C.slot_ne hk hfl hkd)]
          exact h4 k ek a1 (by omega) hk
    · obtain ⟨f1, f2⟩ := C.h_pure he hef hfl
      rw [f1, f2]
      refine ⟨h1, h2, fun b hb => h3 b fun k ek a1 a2 => hb k ek a1 (by omega), fun k ek a1 a2 hk => ?_⟩
      have hkd : k ≠ lo + d := fun hh => by
        subst hh
        have : ek = e := by have := hk.1; rw [he] at this; cases this; rfl
        subst this
        exact hfl hk
      exact h4 k ek a1 (by omega) hk

/-- The heap that the world holds: what the order of the text has at c, and what was made ahead of its time. -/
structure Fill (b0 : Nat) (evs : List Ev) (c : Nat) (D : Nat → Bool) (A X : Heap) : Prop where
  next : X.next = A.next
  inn : ∀ k e, c ≤ k → FlAt evs k e → D k = true → X.blk (slot b0 e) = e.h'.blk (slot b0 e)
  out : ∀ k e, c ≤ k → FlAt evs k e → D k = false → X.blk (slot b0 e) = none
  rest : ∀ b, (∀ k e, c ≤ k → FlAt evs k e → slot b0 e ≠ b) → X.blk b = A.blk b

/-- The state in which some are done. -/
structure DState (P : Program) (n b0 : Nat) (evs : List Ev) (s0 : Env) (h0 : Heap) (B : Nat) (φ0 : Phi) (hb : Heap) (w0 : World) (D : Nat → Bool) (S : Env) (c : Nat) (X : Heap) (φ : Phi) (L : Nat → Nat) (a : Act) (w : World) : Prop where
  le : c ≤ evs.length
  done : ∀ i e, i < c → evs[i]? = some e → isEf e.ao = true → D i = true
  todo : ∀ i e, c ≤ i → evs[i]? = some e → isEf e.ao = true → D i = false
  fill : Fill b0 evs c D (hAt h0 evs c) X
  rel : In B n φ0 hb w0 φ L S X a w
  ids : ∀ k e, FlAt evs k e → hb.next ≤ slot b0 e ∧ slot b0 e < (hAt h0 evs c).next
  und : ∀ k e, FlAt evs k e → D k = false → φ (slot b0 e) = none
  cold : ∀ k e, c ≤ k → FlAt evs k e → (hAt h0 evs c).blk (slot b0 e) = none
  born : ∀ k e, k < c → FlAt evs k e → (hAt h0 evs k).blk (slot b0 e) = none
  kept : ∀ k e, k < c → FlAt evs k e → D k = false → (hAt h0 evs c).blk (slot b0 e) = e.h'.blk (slot b0 e)
  locs : S.locs = lAt s0.locs evs c
  seen : ∀ j e t, D j = true → evs[j]? = some e → opDst e.ao = some t → S.view t = e.rec'
  rest : ∀ t, (∀ j e, D j = true → evs[j]? = some e → opDst e.ao ≠ some t) → S.view t = s0.view t

variable {B : Nat} {φ0 φ : Phi} {hb : Heap} {w0 w : World} {D : Nat → Bool} {S : Env} {c : Nat} {X : Heap} {L : Nat → Nat} {a : Act}

/-- What an operation that is ready looks at is what it saw in the order of the text. -/
theorem Ctx.agree (hD : Closed ops D) (T : DState P n b0 evs s0 h0 B φ0 hb w0 D S c X φ L a w) {i : Nat} {e : Ev} {o : Oper} (he : evs[i]? = some e) (ho : ops[i]? = some o) (hi : D i = false)
    (hr : ∀ e ∈ o.after.toList, Region.binds .any e = true → D e.on = true) {t : Nat} (ht : t ∈ gTmp e.gd ++ aoTmps e.ao) : S.view t = vAt s0.view evs i t := by
  have hlt : i < evs.length := (List.getElem?_eq_some_iff.1 he).1
  obtain ⟨v1, v2⟩ := C.vAt_spec i (by omega)
  by_cases hex : ∃ (j : Nat) (ej : Ev), evs[j]? = some ej ∧ opDst ej.ao = some t
  · obtain ⟨j, ej, hej, hd⟩ := hex
    rcases C.names i j e ej t he hej ht hd with ⟨hji, hb⟩ | ⟨hij, hb⟩
    · rw [T.seen j ej t (C.bef_done hD ho hr hb) hej hd, v1 j ej t hji hej hd]
    · have hjn : D j = false := by
        cases hj : D j with
        | false => rfl
        | true =>
          have hjlt : j < ops.size := by rw [← C.len]; exact (List.getElem?_eq_some_iff.1 hej).1
          obtain ⟨o2, ho2⟩ : ∃ o, ops[j]? = some o := ⟨ops[j], by simp [hjlt]⟩
          have := C.bef_done hD ho2 (fun q hq hbq => hD j o2 ho2 hj q hq hbq) hb
          rw [hi] at this; cases this
      rw [T.rest t, v2 t]
      · intro q eq hq heq hdq
        have := C.once q j eq ej t heq hej hdq hd
        omega
      · intro q eq hq heq hdq
        have := C.once q j eq ej t heq hej hdq hd
        rw [this, hjn] at hq
        cases hq
  · have hno : ∀ (j : Nat) (ej : Ev), evs[j]? = some ej → opDst ej.ao ≠ some t := fun j ej hej hd => hex ⟨j, ej, hej, hd⟩
    rw [T.rest t fun j ej _ hej => hno j ej hej, v2 t fun j ej _ hej => hno j ej hej]

omit C in
theorem sameRd_refl (x : Option Log) (β : List (Nat × List AVal)) (h : Heap) : sameRd x β h β h := by
  unfold sameRd; split <;> trivial
omit C in
theorem sameRd_trans {x : Option Log} {β β1 β2 : List (Nat × List AVal)} {h h1 h2 : Heap} (p : sameRd x β h β1 h1) (q : sameRd x β1 h1 β2 h2) : sameRd x β h β2 h2 := by
  unfold sameRd at *; split at p <;> simp_all
omit C in
theorem sameRd_symm {x : Option Log} {β β1 : List (Nat × List AVal)} {h h1 : Heap} (p : sameRd x β h β1 h1) : sameRd x β1 h1 β h := by
  unfold sameRd at *; split at p <;> simp_all

/-- What is read of a block stays through an operation that does not make it. -/
theorem Ctx.step_same {x : Option Log} {q : Nat} {e : Ev} (he : evs[q]? = some e) (hp : isEf e.ao = true → e.on = true → pairOk x e.logv = true) (hx : ∀ b off n, x = some (.rd b off n) → FlAt evs q e → slot b0 e ≠ b) :
    sameRd x (lAt s0.locs evs q) (hAt h0 evs q) (lAt s0.locs evs (q + 1)) (hAt h0 evs (q + 1)) := by
  by_cases hfl : FlAt evs q e
  · obtain ⟨cs, _, f2, f3⟩ := C.h_fl hfl
    rw [f2, f3]
    unfold sameRd
    split
    · rename_i b off n
      have hne := hx b off n rfl hfl
      unfold Heap.rd
      rw [Heap.setBlk_other _ _ (fun hh => hne hh.symm)]
    · rfl
    · trivial
  · cases hef : isEf e.ao with
    | false =>
      obtain ⟨f1, f2⟩ := C.h_pure he hef hfl
      rw [f1, f2]
      exact sameRd_refl _ _ _
    | true =>
      obtain ⟨_, a2, a3⟩ := at_succ he s0.view h0 s0.locs
      rw [a2, a3]
      have hok := C.at he
      cases hon : e.on with
      | false => unfold Ev.updH Ev.updL; rw [hon]; exact sameRd_refl _ _ _
      | true =>
        have h1 := hok.step hon
        have h2 := hok.h hon
        have h3 := hok.l hon
        unfold Ev.updH Ev.updL
        rw [hon]
        simp only [cond_true]
        have hef' : isEff e.ao = true := by
          simp only [isEf, Bool.and_eq_true] at hef
          exact hef.1
        have := eff_same h1 hef' (hp hef hon)
        rw [h2, h3] at this
        exact this

theorem Ctx.range_same {x : Option Log} (lo : Nat) : ∀ (d : Nat), lo + d ≤ evs.length → (∀ q e, lo ≤ q → q < lo + d → evs[q]? = some e → isEf e.ao = true → e.on = true → pairOk x e.logv = true) →
    (∀ b off n q e, x = some (.rd b off n) → lo ≤ q → q < lo + d → FlAt evs q e → slot b0 e ≠ b) →
    sameRd x (lAt s0.locs evs lo) (hAt h0 evs lo) (lAt s0.locs evs (lo + d)) (hAt h0 evs (lo + d))
  | 0, _, _, _ => sameRd_refl _ _ _
  | d + 1, hl, hp, hx => by
    obtain ⟨e, he⟩ : ∃ e, evs[lo + d]? = some e := ⟨_, List.getElem?_eq_getElem (by omega)⟩
    exact sameRd_trans (Ctx.range_same lo d (by omega) (fun q e h1 h2 => hp q e h1 (by omega)) (fun b off n q e hh h1 h2 => hx b off n q e hh h1 (by omega))) (C.step_same he (hp (lo + d) e (by omega) (by omega) he) (fun b off n hh => hx b off n (lo + d) e hh (by omega) (by omega)))

omit C in
theorem rd_same {h h' : Heap} {b : Nat} (e : h'.blk b = h.blk b) (off n : Nat) : h'.rd b off n = h.rd b off n := by
  unfold Heap.rd; rw [e]

/-- Effects between where an operation stands in the text and where the run stands now leave what it reads. -/
theorem Ctx.pairs_ok (hD : Closed ops D) (T : DState P n b0 evs s0 h0 B φ0 hb w0 D S c X φ L a w) {i : Nat} {e : Ev} {o : Oper} (he : evs[i]? = some e) (ho : ops[i]? = some o) (hi : D i = false) (hon : e.on = true) (hrd : isRd e.ao = true)
    (hr : ∀ e ∈ o.after.toList, Region.binds .any e = true → D e.on = true) {q : Nat} {eq : Ev} (hq : evs[q]? = some eq) (hef : isEf eq.ao = true) (hon2 : eq.on = true) (hw : (i ≤ q ∧ q < c) ∨ (c ≤ q ∧ q < i)) : pairOk e.logv eq.logv = true := by
  have hlt : i < evs.length := (List.getElem?_eq_some_iff.1 he).1
  have hqlt : q < ops.size := by rw [← C.len]; exact (List.getElem?_eq_some_iff.1 hq).1
  rcases C.rds i q e eq he hq hrd hef with h | h | h
  · exfalso
    rcases hw with ⟨h1, h2⟩ | ⟨h1, h2⟩
    · have hqD := T.done q eq h2 hq hef
      obtain ⟨o2, ho2⟩ : ∃ o, ops[q]? = some o := ⟨ops[q], by simp [hqlt]⟩
      have := C.bef_done hD ho2 (fun p hp hbp => hD q o2 ho2 hqD p hp hbp) h
      rw [hi] at this; cases this
    · have := C.bef_lt (i := q) hqlt h
      omega
  · exfalso
    rcases hw with ⟨h1, h2⟩ | ⟨h1, h2⟩
    · have := C.bef_lt (i := i) (by rw [← C.len]; exact hlt) h
      omega
    · have h3 := C.bef_done hD ho hr h
      have h4 := T.todo q eq h1 hq hef
      rw [h3] at h4; cases h4
  · exact h hon hon2

theorem Ctx.span (hD : Closed ops D) (T : DState P n b0 evs s0 h0 B φ0 hb w0 D S c X φ L a w) {i : Nat} {e : Ev} {o : Oper} (he : evs[i]? = some e) (ho : ops[i]? = some o) (hi : D i = false) (hon : e.on = true) (hrd : isRd e.ao = true)
    (hr : ∀ e ∈ o.after.toList, Region.binds .any e = true → D e.on = true) (hav : ∀ b off n, e.logv = some (.rd b off n) → ∀ q eq, (i ≤ q ∧ q < c) ∨ (c ≤ q ∧ q < i) → FlAt evs q eq → slot b0 eq ≠ b) :
    sameRd e.logv (lAt s0.locs evs i) (hAt h0 evs i) (lAt s0.locs evs c) (hAt h0 evs c) := by
  have hlt : i < evs.length := (List.getElem?_eq_some_iff.1 he).1
  rcases Nat.le_total i c with hic | hci
  · have := C.range_same (x := e.logv) i (c - i) (by have := T.le; omega) (fun q eq h1 h2 hq hef hon2 => C.pairs_ok hD T he ho hi hon hrd hr hq hef hon2 (.inl ⟨h1, by omega⟩)) (fun b off n q eq hx h1 h2 => hav b off n hx q eq (.inl ⟨h1, by omega⟩))
    rw [show i + (c - i) = c by omega] at this
    exact this
  · have := C.range_same (x := e.logv) c (i - c) (by omega) (fun q eq h1 h2 hq hef hon2 => C.pairs_ok hD T he ho hi hon hrd hr hq hef hon2 (.inr ⟨h1, by omega⟩)) (fun b off n q eq hx h1 h2 => hav b off n hx q eq (.inr ⟨h1, by omega⟩))
    rw [show c + (i - c) = i by omega] at this
    exact sameRd_symm this

/-- What is read stands as it stood. -/
theorem Ctx.read_same (hD : Closed ops D) (T : DState P n b0 evs s0 h0 B φ0 hb w0 D S c X φ L a w) {i : Nat} {e : Ev} {o : Oper} (he : evs[i]? = some e) (ho : ops[i]? = some o) (hi : D i = false) (hon : e.on = true) (hne : isEff e.ao = false)
    (hr : ∀ e ∈ o.after.toList, Region.binds .any e = true → D e.on = true) (hphi : ∀ b off n, e.logv = some (.rd b off n) → φ b ≠ none) (hsome : ∀ b off n, e.logv = some (.rd b off n) → (hAt h0 evs i).rd b off n ≠ none) :
    sameRd e.logv (lAt s0.locs evs i) (hAt h0 evs i) (lAt s0.locs evs c) X := by
  cases hrd : isRd e.ao with
  | false =>
    have : e.logv = none := by
      unfold Ev.logv logOf
      cases hao : e.ao <;> rw [hao] at hrd hne <;> first | rfl | (cases hrd; done) | (cases hne; done) | skip
      · rename_i d cc x
        cases cc <;> first | rfl | (cases hrd; done) | (cases hne; done)
    rw [this]
    trivial
  | true =>
    have hspan := C.span hD T he ho hi hon hrd hr
    cases hlg : e.logv with
    | none => trivial
    | some x =>
      cases x with
      | al b => trivial
      | lal l => trivial
      | ef a b c d => trivial
      | lrd l off n =>
        have := hspan (fun b off n hx => by rw [hlg] at hx; cases hx)
        rw [hlg] at this
        exact this
      | rd b off n =>
        have hs := hsome b off n hlg
        have hnone : ∀ h : Heap, h.blk b = none → h.rd b off n = none := fun h e => by unfold Heap.rd; rw [e]
        show (hAt h0 evs i).rd b off n = X.rd b off n
        have fin : (∀ q eq, (i ≤ q ∧ q < c) ∨ (c ≤ q ∧ q < i) → FlAt evs q eq → slot b0 eq ≠ b) → (hAt h0 evs i).rd b off n = (hAt h0 evs c).rd b off n := by
          intro hav
          have := hspan (fun b' off' n' hx => by rw [hlg] at hx; cases hx; exact hav)
          rw [hlg] at this
          exact this
        by_cases hsl : ∃ k ek, FlAt evs k ek ∧ slot b0 ek = b
        · obtain ⟨k, ek, hk, hkb⟩ := hsl
          have hDk : D k = true := by
            cases hh : D k with
            | true => rfl
            | false => exact (hphi b off n hlg (hkb ▸ T.und k ek hk hh)).elim
          have hneq : ∀ q eq, FlAt evs q eq → q ≠ k → slot b0 eq ≠ b := fun q eq hq hqk => by rw [← hkb]; exact C.slot_ne hq hk hqk
          by_cases hck : c ≤ k
          · have hX := T.fill.inn k ek hck hk hDk
            rw [hkb] at hX
            by_cases hki : k < i
            · have hrg := C.range_same (x := e.logv) (k + 1) (i - (k + 1)) (by have := (List.getElem?_eq_some_iff.1 he).1; omega) (fun q eq h1 h2 hq hef hon2 => C.pairs_ok hD T he ho hi hon hrd hr hq hef hon2 (.inr ⟨by omega, by omega⟩)) (fun b' off' n' q eq hx h1 h2 hq => by
                rw [hlg] at hx; cases hx
                exact hneq q eq hq (by omega))
              rw [show k + 1 + (i - (k + 1)) = i by omega, hlg] at hrg
              obtain ⟨cs, f1, f2, _⟩ := C.h_fl hk
              rw [hkb] at f1 f2
              have : (hAt h0 evs (k + 1)).rd b off n = X.rd b off n := by
                refine (rd_same ?_ off n)
                rw [f2, Heap.setBlk_at, hX, f1]
              rw [← this]
              exact (show (hAt h0 evs (k + 1)).rd b off n = (hAt h0 evs i).rd b off n from hrg).symm
            · exfalso
              have h1 := fin fun q eq hq hf => hneq q eq hf (by omega)
              rw [h1] at hs
              exact hs (hnone _ (hkb ▸ T.cold k ek hck hk))
          · have hX : X.blk b = (hAt h0 evs c).blk b := T.fill.rest b fun q eq hq hf => hneq q eq hf (by omega)
            rw [rd_same hX]
            by_cases hik : i ≤ k
            · exfalso
              have hrg := C.range_same (x := e.logv) i (k - i) (by have := T.le; omega) (fun q eq h1 h2 hq hef hon2 => C.pairs_ok hD T he ho hi hon hrd hr hq hef hon2 (.inl ⟨by omega, by omega⟩)) (fun b' off' n' q eq hx h1 h2 hq => by
                rw [hlg] at hx; cases hx
                exact hneq q eq hq (by omega))
              rw [show i + (k - i) = k by omega, hlg] at hrg
              have h1 : (hAt h0 evs i).rd b off n = (hAt h0 evs k).rd b off n := hrg
              rw [h1] at hs
              exact hs (hnone _ (hkb ▸ T.born k ek (by omega) hk))
            · exact fin fun q eq hq hf => hneq q eq hf (by omega)
        · have hno : ∀ q eq, FlAt evs q eq → slot b0 eq ≠ b := fun q eq hf hh => hsl ⟨q, eq, hf, hh⟩
          rw [rd_same (T.fill.rest b fun q eq _ hf => hno q eq hf)]
          exact fin fun q eq _ hf => hno q eq hf

end
end Go.Fw
