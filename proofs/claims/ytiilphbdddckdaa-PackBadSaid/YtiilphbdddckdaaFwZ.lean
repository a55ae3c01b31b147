/- Regions whose order is open: the proof. -/
import Derived.Test.YtiilphbdddckdaaFwY
namespace Go.Fw

theorem nodupB_spec : ∀ {l : List Nat}, nodupB l = true → l.Nodup
  | [], _ => List.nodup_nil
  | x :: r, h => by
    simp only [nodupB, Bool.and_eq_true, Bool.not_eq_true', List.contains_eq_mem, decide_eq_false_iff_not] at h
    exact List.nodup_cons.2 ⟨h.1, nodupB_spec h.2⟩

theorem orderedB_spec {ms : List Nat} : ∀ {l : List Nat}, orderedB ms l = true → ∀ as x bs y cs, l = as ++ x :: (bs ++ y :: cs) → bef ms x y = true
  | [], _, as, x, bs, y, cs, e => by simp at e
  | z :: r, h, as, x, bs, y, cs, e => by
    simp only [orderedB, Bool.and_eq_true, List.all_eq_true] at h
    cases as with
    | nil =>
      simp only [List.nil_append, List.cons.injEq] at e
      obtain ⟨rfl, rfl⟩ := e
      exact h.1 y (by simp)
    | cons a as =>
      simp only [List.cons_append, List.cons.injEq] at e
      exact orderedB_spec h.2 as x bs y cs e.2

section
variable {P : Program} {call : Call} {n : Nat} {ops : Array Oper} {items : List AItem} {pairs : List (Nat × Nat)} {ms : List Nat} {evs : List Ev} {s0 : Env} {h0 : Heap}

/-- All that the check gives, and the trajectory. -/
structure Ctx (P : Program) (call : Call) (n : Nat) (ops : Array Oper) (items : List AItem) (pairs : List (Nat × Nat)) (ms : List Nat) (evs : List Ev) (s0 : Env) (h0 : Heap) : Prop where
  len : evs.length = ops.size
  key : evs.map Ev.key = flatItems none items
  idx : ∀ (i : Nat) (e : Ev), evs[i]? = some e → e.i = i
  oper : ∀ (i : Nat) (e : Ev), evs[i]? = some e → operOk P n ops e.key = true
  back : ∀ (i : Nat) (o : Oper), ops[i]? = some o → ∀ e ∈ o.after.toList, Region.binds .any e = true → e.on < i
  bef : ∀ (i : Nat) (o : Oper), ops[i]? = some o → ∀ j, Go.Fw.bef ms j i = true → ∃ e ∈ o.after.toList, Region.binds .any e = true ∧ (j = e.on ∨ Go.Fw.bef ms j e.on = true)
  once : ∀ (i j : Nat) (ei ej : Ev) (t : Nat), evs[i]? = some ei → evs[j]? = some ej → opDst ei.ao = some t → opDst ej.ao = some t → i = j
  names : ∀ (i j : Nat) (ei ej : Ev) (t : Nat), evs[i]? = some ei → evs[j]? = some ej → t ∈ gTmp ei.gd ++ aoTmps ei.ao → opDst ej.ao = some t → (j < i ∧ Go.Fw.bef ms j i = true) ∨ (i < j ∧ Go.Fw.bef ms i j = true)
  effs : ∀ (i j : Nat) (ei ej : Ev), evs[i]? = some ei → evs[j]? = some ej → isEff ei.ao = true → isEff ej.ao = true → i < j → Go.Fw.bef ms i j = true
  rds : ∀ (i j : Nat) (ei ej : Ev), evs[i]? = some ei → evs[j]? = some ej → isRd ei.ao = true → isEff ej.ao = true → Go.Fw.bef ms i j = true ∨ Go.Fw.bef ms j i = true ∨ (ei.on = true → ej.on = true → pairOk ei.logv ej.logv = true)
  ok : EvsOk call s0.view h0 s0.locs evs

abbrev hAt (h0 : Heap) (evs : List Ev) (i : Nat) : Heap := hRun h0 (evs.take i)
abbrev lAt (l0 : List (Nat × List AVal)) (evs : List Ev) (i : Nat) : List (Nat × List AVal) := lRun l0 (evs.take i)
abbrev vAt (V0 : Nat → View) (evs : List Ev) (i : Nat) : Nat → View := vRun V0 (evs.take i)

variable (C : Ctx P call n ops items pairs ms evs s0 h0)
include C

theorem Ctx.at {i : Nat} {e : Ev} (he : evs[i]? = some e) : EvOk call (vAt s0.view evs i) (hAt h0 evs i) (lAt s0.locs evs i) e := by
  have hlt : i < evs.length := (List.getElem?_eq_some_iff.1 he).1
  have hsplit : evs = evs.take i ++ e :: evs.drop (i + 1) := by
    rw [List.getElem?_eq_getElem hlt] at he
    cases he
    rw [← List.drop_eq_getElem_cons hlt, List.take_append_drop]
  have := C.ok
  rw [hsplit] at this
  exact this.at

omit C in
theorem take_succ {i : Nat} {e : Ev} (he : evs[i]? = some e) : evs.take (i + 1) = evs.take i ++ [e] := by
  have hlt : i < evs.length := (List.getElem?_eq_some_iff.1 he).1
  rw [List.getElem?_eq_getElem hlt] at he
  cases he
  simp

omit C in
theorem at_succ {i : Nat} {e : Ev} (he : evs[i]? = some e) (V0 : Nat → View) (h0 : Heap) (l0 : List (Nat × List AVal)) : vAt V0 evs (i + 1) = e.updV (vAt V0 evs i) ∧ hAt h0 evs (i + 1) = e.updH (hAt h0 evs i) ∧ lAt l0 evs (i + 1) = e.updL (lAt l0 evs i) := by
  unfold vAt hAt lAt
  rw [take_succ he]
  obtain ⟨a1, a2, a3⟩ := run_append (as := evs.take i) (bs := [e]) V0 h0 l0
  exact ⟨a1, a2, a3⟩

/-- What a temporary holds ahead of an operation, in the order of the text. -/
theorem Ctx.vAt_spec : ∀ (i : Nat), i ≤ evs.length → (∀ j e t, j < i → evs[j]? = some e → opDst e.ao = some t → vAt s0.view evs i t = e.rec') ∧
    (∀ t, (∀ j e, j < i → evs[j]? = some e → opDst e.ao ≠ some t) → vAt s0.view evs i t = s0.view t)
  | 0, _ => ⟨fun j e t hj => by omega, fun t _ => rfl⟩
  | i + 1, hi => by
    obtain ⟨i1, i2⟩ := Ctx.vAt_spec i (by omega)
    obtain ⟨e, he⟩ : ∃ e, evs[i]? = some e := ⟨_, List.getElem?_eq_getElem (by omega)⟩
    have hv := (at_succ he s0.view h0 s0.locs).1
    refine ⟨fun j q t hj hq ht => ?_, fun t ht => ?_⟩
    · rw [hv]
      by_cases hji : j = i
      · subst hji
        rw [he] at hq
        cases hq
        simp [Ev.updV, ht]
      · have hne : opDst e.ao ≠ some t := fun hh => hji (C.once j i q e t hq he ht hh)
        simp only [Ev.updV, if_neg hne]
        exact i1 j q t (by omega) hq ht
    · rw [hv]
      have hne : opDst e.ao ≠ some t := ht i e (by omega) he
      simp only [Ev.updV, if_neg hne]
      exact i2 t fun j q hj hq => ht j q (by omega) hq

theorem Ctx.bef_lt {i j : Nat} (hi : i < ops.size) (h : Go.Fw.bef ms j i = true) : j < i := by
  induction i using Nat.strongRecOn with
  | ind i ih =>
    obtain ⟨o, ho⟩ : ∃ o, ops[i]? = some o := ⟨ops[i], by simp [hi]⟩
    obtain ⟨e, he, hb, hh⟩ := C.bef i o ho j h
    have hlt := C.back i o ho e he hb
    rcases hh with rfl | hh
    · exact hlt
    · have := ih e.on hlt (by omega) hh
      omega

/-- Which are done is closed under what must come ahead. -/
def Closed (ops : Array Oper) (D : Nat → Bool) : Prop := ∀ i o, ops[i]? = some o → D i = true → ∀ e ∈ o.after.toList, Region.binds .any e = true → D e.on = true

theorem Ctx.bef_done {D : Nat → Bool} (hD : Closed ops D) {i : Nat} {o : Oper} (ho : ops[i]? = some o) (hr : ∀ e ∈ o.after.toList, Region.binds .any e = true → D e.on = true) {j : Nat} (h : Go.Fw.bef ms j i = true) : D j = true := by
  induction i using Nat.strongRecOn generalizing o with
  | ind i ih =>
    obtain ⟨e, he, hb, hh⟩ := C.bef i o ho j h
    have hlt := C.back i o ho e he hb
    rcases hh with rfl | hh
    · exact hr e he hb
    · have hi : i < ops.size := (Array.getElem?_eq_some_iff.1 ho).1
      obtain ⟨o2, ho2⟩ : ∃ o, ops[e.on]? = some o := ⟨ops[e.on]'(by omega), by rw [Array.getElem?_eq_getElem]⟩
      exact ih e.on hlt ho2 (fun q hq hbq => hD e.on o2 ho2 (hr e he hb) q hq hbq) hh

/-- The state in which some are done. -/
structure DState (P : Program) (n : Nat) (evs : List Ev) (s0 : Env) (h0 : Heap) (B : Nat) (φ0 : Phi) (hb : Heap) (w0 : World) (D : Nat → Bool) (S : Env) (c : Nat) (φ : Phi) (L : Nat → Nat) (a : Act) (w : World) : Prop where
  le : c ≤ evs.length
  done : ∀ i e, i < c → evs[i]? = some e → isEff e.ao = true → D i = true
  todo : ∀ i e, c ≤ i → evs[i]? = some e → isEff e.ao = true → D i = false
  rel : In B n φ0 hb w0 φ L S (hAt h0 evs c) a w
  locs : S.locs = lAt s0.locs evs c
  seen : ∀ j e t, D j = true → evs[j]? = some e → opDst e.ao = some t → S.view t = e.rec'
  rest : ∀ t, (∀ j e, D j = true → evs[j]? = some e → opDst e.ao ≠ some t) → S.view t = s0.view t

variable {B : Nat} {φ0 φ : Phi} {hb : Heap} {w0 w : World} {D : Nat → Bool} {S : Env} {c : Nat} {L : Nat → Nat} {a : Act}

/-- What an operation that is ready looks at is what it saw in the order of the text. -/
theorem Ctx.agree (hD : Closed ops D) (T : DState P n evs s0 h0 B φ0 hb w0 D S c φ L a w) {i : Nat} {e : Ev} {o : Oper} (he : evs[i]? = some e) (ho : ops[i]? = some o) (hi : D i = false)
    (hr : ∀ e ∈ o.after.toList, Region.binds .any e = true → D e.on = true) {t : Nat} (ht : t ∈ gTmp e.gd ++ aoTmps e.ao) : S.view t = vAt s0.view evs i t := by
  have hlt : i < evs.length := (List.getElem?_eq_some_iff.1 he).1
  obtain ⟨v1, v2⟩ := C.vAt_spec i (by omega)
  by_cases hex : ∃ (j : Nat) (ej : Ev), evs[j]? = some ej ∧ opDst ej.ao = some t
  · obtain ⟨j, ej, hej, hd⟩ := hex
    rcases C.names i j e ej t he hej ht hd with ⟨hji, hb⟩ | ⟨hij, hb⟩
    · rw [T.seen j ej t (C.bef_done hD ho hr hb) hej hd, v1 j ej t hji hej hd]
    · have hjn : D j = false := by
        cases hj : D j with
        | false => rfl
        | true =>
          have hjlt : j < ops.size := by rw [← C.len]; exact (List.getElem?_eq_some_iff.1 hej).1
          obtain ⟨o2, ho2⟩ : ∃ o, ops[j]? = some o := ⟨ops[j], by simp [hjlt]⟩
          have := C.bef_done hD ho2 (fun q hq hbq => hD j o2 ho2 hj q hq hbq) hb
          rw [hi] at this; cases this
      rw [T.rest t, v2 t]
      · intro q eq hq heq hdq
        have := C.once q j eq ej t heq hej hdq hd
        omega
      · intro q eq hq heq hdq
        have := C.once q j eq ej t heq hej hdq hd
        rw [this, hjn] at hq
        cases hq
  · have hno : ∀ (j : Nat) (ej : Ev), evs[j]? = some ej → opDst ej.ao ≠ some t := fun j ej hej hd => hex ⟨j, ej, hej, hd⟩
    rw [T.rest t fun j ej _ hej => hno j ej hej, v2 t fun j ej _ hej => hno j ej hej]

omit C in
theorem sameRd_refl (x : Option Log) (β : List (Nat × List AVal)) (h : Heap) : sameRd x β h β h := by
  unfold sameRd; split <;> trivial
omit C in
theorem sameRd_trans {x : Option Log} {β β1 β2 : List (Nat × List AVal)} {h h1 h2 : Heap} (p : sameRd x β h β1 h1) (q : sameRd x β1 h1 β2 h2) : sameRd x β h β2 h2 := by
  unfold sameRd at *; split at p <;> simp_all
omit C in
theorem sameRd_symm {x : Option Log} {β β1 : List (Nat × List AVal)} {h h1 : Heap} (p : sameRd x β h β1 h1) : sameRd x β1 h1 β h := by
  unfold sameRd at *; split at p <;> simp_all

theorem Ctx.step_same {x : Option Log} {q : Nat} {e : Ev} (he : evs[q]? = some e) (hp : isEff e.ao = true → e.on = true → pairOk x e.logv = true) :
    sameRd x (lAt s0.locs evs q) (hAt h0 evs q) (lAt s0.locs evs (q + 1)) (hAt h0 evs (q + 1)) := by
  obtain ⟨_, a2, a3⟩ := at_succ he s0.view h0 s0.locs
  rw [a2, a3]
  have hok := C.at he
  cases hon : e.on with
  | false => unfold Ev.updH Ev.updL; rw [hon]; exact sameRd_refl _ _ _
  | true =>
    have h1 := hok.step hon
    have h2 := hok.h hon
    have h3 := hok.l hon
    unfold Ev.updH Ev.updL
    rw [hon]
    simp only [cond_true]
    cases hef : isEff e.ao with
    | true =>
      have := eff_same h1 hef (hp hef hon)
      rw [h2, h3] at this
      exact this
    | false =>
      obtain ⟨p1, p2, _⟩ := stepR_pure hef h1 (s' := e.s) (k' := e.h)
      rw [p1, p2, h2, h3]
      exact sameRd_refl _ _ _

theorem Ctx.range_same {x : Option Log} (lo : Nat) : ∀ (d : Nat), lo + d ≤ evs.length → (∀ q e, lo ≤ q → q < lo + d → evs[q]? = some e → isEff e.ao = true → e.on = true → pairOk x e.logv = true) →
    sameRd x (lAt s0.locs evs lo) (hAt h0 evs lo) (lAt s0.locs evs (lo + d)) (hAt h0 evs (lo + d))
  | 0, _, _ => sameRd_refl _ _ _
  | d + 1, hl, hp => by
    obtain ⟨e, he⟩ : ∃ e, evs[lo + d]? = some e := ⟨_, List.getElem?_eq_getElem (by omega)⟩
    exact sameRd_trans (Ctx.range_same lo d (by omega) fun q e h1 h2 => hp q e h1 (by omega)) (C.step_same he (hp (lo + d) e (by omega) (by omega) he))

/-- No effects between: the same heap. -/
theorem Ctx.same_heap (lo : Nat) : ∀ (d : Nat), lo + d ≤ evs.length → (∀ q e, lo ≤ q → q < lo + d → evs[q]? = some e → isEff e.ao = true → False) →
    hAt h0 evs (lo + d) = hAt h0 evs lo ∧ lAt s0.locs evs (lo + d) = lAt s0.locs evs lo
  | 0, _, _ => ⟨rfl, rfl⟩
  | d + 1, hl, hp => by
    obtain ⟨e, he⟩ : ∃ e, evs[lo + d]? = some e := ⟨_, List.getElem?_eq_getElem (by omega)⟩
    obtain ⟨h1, h2⟩ := Ctx.same_heap lo d (by omega) fun q e a b => hp q e a (by omega)
    obtain ⟨_, a2, a3⟩ := at_succ he s0.view h0 s0.locs
    have hok := C.at he
    rw [← Nat.add_assoc, a2, a3]
    cases hon : e.on with
    | false => unfold Ev.updH Ev.updL; rw [hon]; exact ⟨h1, h2⟩
    | true =>
      have hef : isEff e.ao = false := by
        cases hh : isEff e.ao with
        | false => rfl
        | true => exact (hp (lo + d) e (by omega) (by omega) he hh).elim
      obtain ⟨p1, p2, _⟩ := stepR_pure hef (hok.step hon) (s' := e.s) (k' := e.h)
      unfold Ev.updH Ev.updL
      rw [hon]
      simp only [cond_true]
      rw [p1, p2, hok.h hon, hok.l hon]
      exact ⟨h1, h2⟩

/-- What is read stands as it stood. -/
theorem Ctx.read_same (hD : Closed ops D) (T : DState P n evs s0 h0 B φ0 hb w0 D S c φ L a w) {i : Nat} {e : Ev} {o : Oper} (he : evs[i]? = some e) (ho : ops[i]? = some o) (hi : D i = false) (hon : e.on = true) (hne : isEff e.ao = false)
    (hr : ∀ e ∈ o.after.toList, Region.binds .any e = true → D e.on = true) : sameRd e.logv (lAt s0.locs evs i) (hAt h0 evs i) (lAt s0.locs evs c) (hAt h0 evs c) := by
  cases hrd : isRd e.ao with
  | false =>
    have : e.logv = none := by
      unfold Ev.logv logOf
      cases hao : e.ao <;> rw [hao] at hrd hne <;> first | rfl | (cases hrd; done) | (cases hne; done) | skip
      · rename_i d cc x
        cases cc <;> first | rfl | (cases hrd; done) | (cases hne; done)
    rw [this]
    trivial
  | true =>
    have hlt : i < evs.length := (List.getElem?_eq_some_iff.1 he).1
    have hpair : ∀ q eq, evs[q]? = some eq → isEff eq.ao = true → eq.on = true → (Go.Fw.bef ms i q = true → False) → (Go.Fw.bef ms q i = true → False) → pairOk e.logv eq.logv = true := by
      intro q eq hq hef hon2 n1 n2
      rcases C.rds i q e eq he hq hrd hef with h | h | h
      · exact (n1 h).elim
      · exact (n2 h).elim
      · exact h hon hon2
    rcases Nat.le_total i c with hic | hci
    · have := C.range_same (x := e.logv) i (c - i) (by have := T.le; omega) (fun q eq h1 h2 hq hef hon2 => by
        refine hpair q eq hq hef hon2 (fun hb1 => ?_) (fun hb1 => ?_)
        · have hqD := T.done q eq (by omega) hq hef
          have hqlt : q < ops.size := by rw [← C.len]; exact (List.getElem?_eq_some_iff.1 hq).1
          obtain ⟨o2, ho2⟩ : ∃ o, ops[q]? = some o := ⟨ops[q], by simp [hqlt]⟩
          have := C.bef_done hD ho2 (fun p hp hbp => hD q o2 ho2 hqD p hp hbp) hb1
          rw [hi] at this; cases this
        · have := C.bef_lt (i := i) (by rw [← C.len]; exact hlt) hb1
          omega)
      rw [show i + (c - i) = c by omega] at this
      exact this
    · have := C.range_same (x := e.logv) c (i - c) (by omega) (fun q eq h1 h2 hq hef hon2 => by
        refine hpair q eq hq hef hon2 (fun hb1 => ?_) (fun hb1 => ?_)
        · have hqlt : q < ops.size := by rw [← C.len]; exact (List.getElem?_eq_some_iff.1 hq).1
          have := C.bef_lt (i := q) hqlt hb1
          omega
        · have h1 := C.bef_done hD ho hr hb1
          have h2 := T.todo q eq (by assumption) hq hef
          rw [h1] at h2; cases h2)
      rw [show c + (i - c) = i by omega] at this
      exact sameRd_symm this

end
end Go.Fw
