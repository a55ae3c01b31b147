import Derived.Test.YtllogmedpmanoaaFwU
import Derived.Test.YtllogmedpmanoaaFwP
import Derived.Orders
/- Regions whose order is open: any order that the regions allow does what the order of the text does. -/
namespace Go.Fw
set_option linter.unusedSimpArgs false
set_option linter.unusedVariables false

mutual
theorem beq_eq : ∀ (a b : AVal), AVal.beq a b = true → a = b
  | .undef, b, h => by cases b <;> simp_all [AVal.beq]
  | .bool x, b, h => by cases b <;> simp_all [AVal.beq]
  | .int k x, b, h => by cases b <;> simp_all [AVal.beq]
  | .str x, b, h => by cases b <;> simp_all [AVal.beq]
  | .nilPtr, b, h => by cases b <;> simp_all [AVal.beq]
  | .ptr x y, b, h => by
    cases b <;> simp only [AVal.beq, Bool.false_eq_true, Bool.and_eq_true] at h
    rw [Nat.eq_of_beq_eq_true h.1, Nat.eq_of_beq_eq_true h.2]
  | .nilSlice, b, h => by cases b <;> simp_all [AVal.beq]
  | .slice x1 x2 x3 x4 x5 x6, b, h => by
    cases b <;> simp only [AVal.beq, Bool.false_eq_true, Bool.and_eq_true, beq_iff_eq] at h
    obtain ⟨⟨⟨⟨⟨h1, h2⟩, h3⟩, h4⟩, h5⟩, h6⟩ := h
    rw [Nat.eq_of_beq_eq_true h1, Nat.eq_of_beq_eq_true h2, Nat.eq_of_beq_eq_true h3, Nat.eq_of_beq_eq_true h4, Nat.eq_of_beq_eq_true h5, h6]
  | .func f c, b, h => by
    cases b <;> simp only [AVal.beq, Bool.false_eq_true, Bool.and_eq_true] at h
    rw [Nat.eq_of_beq_eq_true h.1, beqL_eq _ _ h.2]
  | .nilFunc, b, h => by cases b <;> simp_all [AVal.beq]
  | .iface t v, b, h => by
    cases b <;> simp only [AVal.beq, Bool.false_eq_true, Bool.and_eq_true] at h
    rw [Nat.eq_of_beq_eq_true h.1, beq_eq _ _ h.2]
  | .nilIface, b, h => by cases b <;> simp_all [AVal.beq]
  | .agg c, b, h => by
    cases b <;> simp only [AVal.beq, Bool.false_eq_true] at h
    rw [beqL_eq _ _ h]
  | .tuple c, b, h => by
    cases b <;> simp only [AVal.beq, Bool.false_eq_true] at h
    rw [beqL_eq _ _ h]
  | .mapv r, b, h => by
    cases b <;> simp only [AVal.beq, Bool.false_eq_true] at h
    rw [Nat.eq_of_beq_eq_true h]
theorem beqL_eq : ∀ (a b : List AVal), AVal.beqL a b = true → a = b
  | [], b, h => by cases b <;> simp_all [AVal.beqL]
  | x :: xs, b, h => by
    cases b with
    | nil => simp [AVal.beqL] at h
    | cons y ys =>
      simp only [AVal.beqL, Bool.and_eq_true] at h
      rw [beq_eq _ _ h.1, beqL_eq _ _ h.2]
end

theorem beqO_eq {a b : Option (List AVal)} (h : beqO a b = true) : a = b := by
  unfold beqO at h
  split at h
  · rw [beqL_eq _ _ h]
  · cases h

theorem alloc_rd {h : Heap} {cs : List AVal} {b : Nat} (hb : b ≠ h.next) (off n : Nat) : (h.alloc cs).rd b off n = h.rd b off n := by
  unfold Heap.rd Heap.alloc
  have : Nat.beq b h.next = false := by
    cases hh : Nat.beq b h.next with
    | false => rfl
    | true => exact (hb (Nat.eq_of_beq_eq_true hh)).elim
  simp [this]

/-- An effect that a reading stands apart from leaves what is read. -/
theorem eff_same {call : Call} {e : Ev} (hs : stepR call e.g e.ao e.s e.h = some (e.u, e.h')) (he : isEff e.ao = true) {a : Option Log} (hp : pairOk a e.logv = true) : sameRd a e.s.locs e.h (e.u.app e.s).locs e.h' := by
  obtain ⟨gd, i, ao, on, g, s, h, u, h'⟩ := e
  simp only at hs he hp ⊢
  have hal : ∀ cs : List AVal, h' = h.alloc cs → (u.app s).locs = s.locs → pairOk a (some (.al h.next)) = true → sameRd a s.locs h (u.app s).locs h' := by
    intro cs h1 h2 h3
    unfold sameRd
    split
    · rename_i b off n
      simp only [pairOk, stays, Bool.not_eq_true'] at h3
      rw [h1, alloc_rd]
      intro hh
      rw [hh] at h3
      simp at h3
    · rw [h2]
    · trivial
  have hlal : ∀ (d : Nat) (cs : List AVal), h' = h → u = .newLoc d cs → pairOk a (some (.lal d)) = true → sameRd a s.locs h (u.app s).locs h' := by
    intro d cs h1 h2 h3
    subst h1 h2
    unfold sameRd
    split
    · rfl
    · rename_i l off n
      simp only [pairOk, stays, Bool.not_eq_true'] at h3
      have hne : l ≠ d := by
        rintro rfl
        simp at h3
      simp [Upd.app, Env.newLoc, lookB_cons, hne]
    · trivial
  have hef : pairOk a (some (.ef s.locs h (u.app s).locs h')) = true → sameRd a s.locs h (u.app s).locs h' := by
    intro h3
    unfold sameRd
    split
    · simp only [pairOk, stays] at h3
      exact beqO_eq h3
    · simp only [pairOk, stays] at h3
      exact beqO_eq h3
    · trivial
  cases ao with
  | box d loc x =>
    cases loc with
    | true =>
      simp only [stepR] at hs
      cases hc : (!g && s.fresh d) with
      | false => rw [hc] at hs; cases hs
      | true =>
        rw [hc] at hs
        simp only [cond_true, Option.bind_eq_some_iff, Option.some.injEq, Prod.mk.injEq] at hs
        obtain ⟨_, _, h1, h2⟩ := hs
        exact hlal d _ h2.symm h1.symm hp
    | false =>
      simp only [stepR, Option.bind_eq_some_iff, Option.some.injEq, Prod.mk.injEq] at hs
      obtain ⟨_, _, h1, h2⟩ := hs
      exact hal _ h2.symm (by rw [← h1]; rfl) hp
  | alloc d loc zero =>
    cases loc with
    | true =>
      simp only [stepR] at hs
      cases hc : (!g && s.fresh d) with
      | false => rw [hc] at hs; cases hs
      | true =>
        rw [hc] at hs
        simp only [cond_true, Option.some.injEq, Prod.mk.injEq] at hs
        exact hlal d _ hs.2.symm hs.1.symm hp
    | false =>
      simp only [stepR, Option.some.injEq, Prod.mk.injEq] at hs
      exact hal _ hs.2.symm (by rw [← hs.1]; rfl) hp
  | buildSl d zero es len parts =>
    simp only [stepR, Option.bind_eq_some_iff, Option.some.injEq, Prod.mk.injEq] at hs
    obtain ⟨_, _, h1, h2⟩ := hs
    exact hal _ h2.symm (by rw [← h1]; rfl) hp
  | mkSlice d es bytes zero len cap =>
    simp only [stepR, Option.bind_eq_some_iff, Option.some.injEq, Prod.mk.injEq] at hs
    obtain ⟨r, h0, h1, h2⟩ := hs
    unfold aMkSlice at h0
    split at h0
    · split at h0
      · simp only [Option.some.injEq] at h0
        rw [← h0] at h1 h2
        exact hal _ h2.symm (by rw [← h1]; rfl) hp
      · cases h0
    · cases h0
  | conv d c x =>
    cases c with
    | strBytes =>
      simp only [stepR, Option.bind_eq_some_iff, Option.some.injEq, Prod.mk.injEq] at hs
      obtain ⟨r, h0, h1, h2⟩ := hs
      cases hx : s.ev x with
      | str l =>
        rw [hx] at h0
        simp only [aConv, Option.some.injEq] at h0
        rw [← h0] at h1 h2
        exact hal _ h2.symm (by rw [← h1]; rfl) hp
      | _ => rw [hx] at h0; simp [aConv] at h0
    | slBytes => exact hef hp
    | _ => cases he
  | store agg m x v => exact hef hp
  | call d f args => exact hef hp
  | callv d fn args => exact hef hp
  | invoke d tbl recv args => exact hef hp
  | append d es bytes zero zeros sl x => exact hef hp
  | copy d es dst src => exact hef hp
  | clear d zero sl => exact hef hp
  | fl d j sl zero parts =>
    have h0 : pairOk a none = true := hp
    cases a <;> cases h0
  | _ => cases he

/-- Behind what an operation must come, as bits; none where an edge points ahead. -/
def maskOf (acc : List Nat) : List Edge → Option Nat
  | [] => some 0
  | e :: r => match maskOf acc r with
    | some m => bif Region.binds .any e then (match acc[e.on]? with | some q => some (Nat.lor (Nat.lor (Nat.shiftLeft 1 e.on) q) m) | none => none) else some m
    | none => none
def masks : List Oper → List Nat → Option (List Nat)
  | [], acc => some acc
  | o :: r, acc => match maskOf acc o.after.toList with | some m => masks r (acc ++ [m]) | none => none

def bef (ms : List Nat) (j i : Nat) : Bool := Nat.testBit (ms.getD i 0) j

theorem maskOf_spec {acc : List Nat} : ∀ {es : List Edge} {m : Nat}, maskOf acc es = some m → (∀ e ∈ es, Region.binds .any e = true → e.on < acc.length) ∧ ∀ j, Nat.testBit m j = true → ∃ e ∈ es, Region.binds .any e = true ∧ (j = e.on ∨ Nat.testBit (acc.getD e.on 0) j = true)
  | [], m, h => by
    simp only [maskOf, Option.some.injEq] at h
    subst h
    exact ⟨fun e he => (by cases he), fun j hj => (by simp at hj)⟩
  | e :: r, m, h => by
    simp only [maskOf] at h
    split at h
    · rename_i m1 h1
      obtain ⟨i1, i2⟩ := maskOf_spec h1
      cases hb : Region.binds .any e with
      | false =>
        rw [hb] at h
        simp only [cond_false, Option.some.injEq] at h
        subst h
        refine ⟨fun q hq hbq => ?_, fun j hj => ?_⟩
        · rcases List.mem_cons.1 hq with rfl | hq
          · rw [hb] at hbq; cases hbq
          · exact i1 q hq hbq
        · obtain ⟨q, hq, r⟩ := i2 j hj
          exact ⟨q, List.mem_cons_of_mem _ hq, r⟩
      | true =>
        rw [hb] at h
        simp only [cond_true] at h
        split at h
        · rename_i q hq
          simp only [Option.some.injEq] at h
          have hlt : e.on < acc.length := (List.getElem?_eq_some_iff.1 hq).1
          refine ⟨fun p hp hbp => ?_, fun j hj => ?_⟩
          · rcases List.mem_cons.1 hp with rfl | hp
            · exact hlt
            · exact i1 p hp hbp
          · subst h
            have hj' : Nat.testBit (1 <<< e.on ||| q ||| m1) j = true := hj
            rw [Nat.testBit_or, Nat.testBit_or, Nat.one_shiftLeft, Nat.testBit_two_pow] at hj'
            simp only [Bool.or_eq_true, decide_eq_true_eq] at hj'
            rcases hj' with (hj' | hj') | hj'
            · exact ⟨e, List.mem_cons_self, hb, .inl hj'.symm⟩
            · exact ⟨e, List.mem_cons_self, hb, .inr (by rw [List.getD_eq_getElem?_getD, hq]; exact hj')⟩
            · obtain ⟨p, hp, r⟩ := i2 j hj'
              exact ⟨p, List.mem_cons_of_mem _ hp, r⟩
        · cases h
    · cases h

theorem masks_spec : ∀ {os : List Oper} {acc ms : List Nat}, masks os acc = some ms → (∃ t, ms = acc ++ t ∧ t.length = os.length) ∧
    ∀ i o, os[i]? = some o → (∀ e ∈ o.after.toList, Region.binds .any e = true → e.on < acc.length + i) ∧ ∀ j, bef ms j (acc.length + i) = true → ∃ e ∈ o.after.toList, Region.binds .any e = true ∧ (j = e.on ∨ bef ms j e.on = true)
  | [], acc, ms, h => by
    simp only [masks, Option.some.injEq] at h
    exact ⟨⟨[], by simp [h]⟩, fun i o ho => by simp at ho⟩
  | o :: r, acc, ms, h => by
    simp only [masks] at h
    split at h
    · rename_i m hm
      obtain ⟨⟨t, ht, htl⟩, h2⟩ := masks_spec h
      obtain ⟨m1, m2⟩ := maskOf_spec hm
      refine ⟨⟨m :: t, by rw [ht]; simp, by simp [htl]⟩, fun i q hq => ?_⟩
      cases i with
      | zero =>
        simp only [List.getElem?_cons_zero, Option.some.injEq] at hq
        subst hq
        refine ⟨m1, fun j hj => ?_⟩
        have hmi : ms.getD acc.length 0 = m := by rw [ht]; simp [List.getD_eq_getElem?_getD]
        unfold bef at hj
        rw [Nat.add_zero, hmi] at hj
        obtain ⟨e, he, hb, hh⟩ := m2 j hj
        refine ⟨e, he, hb, ?_⟩
        rcases hh with hh | hh
        · exact .inl hh
        · refine .inr ?_
          unfold bef
          have hlt := m1 e he hb
          rw [ht, List.getD_eq_getElem?_getD, List.append_assoc, List.getElem?_append_left hlt, ← List.getD_eq_getElem?_getD]
          exact hh
      | succ i =>
        have := h2 i q (by simpa using hq)
        simp only [List.length_append, List.length_cons, List.length_nil, Nat.zero_add] at this
        rw [show acc.length + (i + 1) = acc.length + 1 + i by omega]
        exact this
    · cases h

def isRd : AOp → Bool
  | .load .. | .conv _ .bytesStr _ => true
  | _ => false

def nodupB : List Nat → Bool
  | [] => true
  | x :: r => !(r.contains x) && nodupB r

def gTmp (gd : Option (Nat × Bool)) : List Nat := match gd with | some (t, _) => [t] | none => []

/-- Each temporary is written once, and whoever names it comes ahead of the writing or behind it. -/
def namesOk (ms : List Nat) (ds : List (Nat × Nat)) (i : Nat) (ts : List Nat) : Bool :=
  ts.all fun t => ds.all fun d => !(Nat.beq d.2 t) || (bif Nat.blt d.1 i then bef ms d.1 i else Nat.blt i d.1 && bef ms i d.1)

def orderedB (ms : List Nat) : List Nat → Bool
  | [] => true
  | x :: r => r.all (fun y => bef ms x y) && orderedB ms r

/-- What keeps its place among the others: what writes, calls, appends. -/
def isEf (o : AOp) : Bool := isEff o && !(isFl o)
def flId : AOp → Option Nat
  | .fl _ j _ _ _ => some j
  | _ => none

def drawOk (P : Program) (n m : Nat) (ops : Array Oper) (items : List AItem) (pairs : List (Nat × Nat)) : Bool :=
  P.follows .mixedOrders && regionOkF P n ops items &&
  match masks ops.toList [], scopeItems [] [] items with
  | some ms, some _ =>
    let fl := flatItems none items
    let ds := fl.filterMap fun x => (opDst x.2.2).map fun d => (x.2.1, d)
    let effs := (fl.filter fun x => isEf x.2.2).map (·.2.1)
    let js := fl.filterMap fun x => flId x.2.2
    let ps := pairs ++ innerPairs items
    nodupB (ds.map (·.2)) && fl.all (fun x => namesOk ms ds x.2.1 (gTmp x.1 ++ aoTmps x.2.2)) && orderedB ms effs &&
    fl.all (fun x => !(isRd x.2.2) || effs.all fun q => bef ms x.2.1 q || bef ms q x.2.1 || ps.any fun p => Nat.beq p.1 x.2.1 && Nat.beq p.2 q) &&
    nodupB js && js.all (fun j => Nat.blt j m)
  | _, _ => false

end Go.Fw

/- Regions whose order is open: the proof. -/
namespace Go.Fw
set_option linter.unusedSimpArgs false
set_option linter.unusedVariables false

theorem nodupB_spec : ∀ {l : List Nat}, nodupB l = true → l.Nodup
  | [], _ => List.nodup_nil
  | x :: r, h => by
    simp only [nodupB, Bool.and_eq_true, Bool.not_eq_true', List.contains_eq_mem, decide_eq_false_iff_not] at h
    exact List.nodup_cons.2 ⟨h.1, nodupB_spec h.2⟩

theorem orderedB_spec {ms : List Nat} : ∀ {l : List Nat}, orderedB ms l = true → ∀ as x bs y cs, l = as ++ x :: (bs ++ y :: cs) → bef ms x y = true
  | [], _, as, x, bs, y, cs, e => by simp at e
  | z :: r, h, as, x, bs, y, cs, e => by
    simp only [orderedB, Bool.and_eq_true, List.all_eq_true] at h
    cases as with
    | nil =>
      simp only [List.nil_append, List.cons.injEq] at e
      obtain ⟨rfl, rfl⟩ := e
      exact h.1 y (by simp)
    | cons a as =>
      simp only [List.cons_append, List.cons.injEq] at e
      exact orderedB_spec h.2 as x bs y cs e.2

section
variable {P : Program} {call : Call} {n b0 : Nat} {ops : Array Oper} {items : List AItem} {pairs : List (Nat × Nat)} {ms : List Nat} {evs : List Ev} {s0 : Env} {h0 : Heap}

/-- All that the check gives, and the trajectory. 'b0': the first name that was held ready. -/
structure Ctx (P : Program) (call : Call) (n b0 : Nat) (ops : Array Oper) (items : List AItem) (pairs : List (Nat × Nat)) (ms : List Nat) (evs : List Ev) (s0 : Env) (h0 : Heap) : Prop where
  len : evs.length = ops.size
  key : evs.map Ev.key = flatItems none items
  idx : ∀ (i : Nat) (e : Ev), evs[i]? = some e → e.i = i
  oper : ∀ (i : Nat) (e : Ev), evs[i]? = some e → operOkF P n ops e.key = true
  back : ∀ (i : Nat) (o : Oper), ops[i]? = some o → ∀ e ∈ o.after.toList, Region.binds .any e = true → e.on < i
  bef : ∀ (i : Nat) (o : Oper), ops[i]? = some o → ∀ j, Go.Fw.bef ms j i = true → ∃ e ∈ o.after.toList, Region.binds .any e = true ∧ (j = e.on ∨ Go.Fw.bef ms j e.on = true)
  once : ∀ (i j : Nat) (ei ej : Ev) (t : Nat), evs[i]? = some ei → evs[j]? = some ej → opDst ei.ao = some t → opDst ej.ao = some t → i = j
  names : ∀ (i j : Nat) (ei ej : Ev) (t : Nat), evs[i]? = some ei → evs[j]? = some ej → t ∈ gTmp ei.gd ++ aoTmps ei.ao → opDst ej.ao = some t → (j < i ∧ Go.Fw.bef ms j i = true) ∨ (i < j ∧ Go.Fw.bef ms i j = true)
  effs : ∀ (i j : Nat) (ei ej : Ev), evs[i]? = some ei → evs[j]? = some ej → isEf ei.ao = true → isEf ej.ao = true → i < j → Go.Fw.bef ms i j = true
  rds : ∀ (i j : Nat) (ei ej : Ev), evs[i]? = some ei → evs[j]? = some ej → isRd ei.ao = true → isEf ej.ao = true → Go.Fw.bef ms i j = true ∨ Go.Fw.bef ms j i = true ∨ (ei.on = true → ej.on = true → pairOk ei.logv ej.logv = true)
  fls : ∀ (i j : Nat) (ei ej : Ev) (q : Nat), evs[i]? = some ei → evs[j]? = some ej → flId ei.ao = some q → flId ej.ao = some q → i = j
  base : ∀ (i : Nat) (e : Ev), evs[i]? = some e → isFl e.ao = true → e.on = true → e.s.base = b0
  ok : EvsOk call s0.view h0 s0.locs evs

/-- The name under which a block is made, and the block. -/
def slot (b0 : Nat) (e : Ev) : Nat := b0 + (flId e.ao).getD 0
def FlAt (evs : List Ev) (k : Nat) (e : Ev) : Prop := evs[k]? = some e ∧ isFl e.ao = true ∧ e.on = true

theorem isFl_id {o : AOp} (h : isFl o = true) : ∃ q, flId o = some q := by
  cases o <;> first | exact ⟨_, rfl⟩ | (cases h; done)

abbrev hAt (h0 : Heap) (evs : List Ev) (i : Nat) : Heap := hRun h0 (evs.take i)
abbrev lAt (l0 : List (Nat × List AVal)) (evs : List Ev) (i : Nat) : List (Nat × List AVal) := lRun l0 (evs.take i)
abbrev vAt (V0 : Nat → View) (evs : List Ev) (i : Nat) : Nat → View := vRun V0 (evs.take i)

variable (C : Ctx P call n b0 ops items pairs ms evs s0 h0)
include C

theorem Ctx.at {i : Nat} {e : Ev} (he : evs[i]? = some e) : EvOk call (vAt s0.view evs i) (hAt h0 evs i) (lAt s0.locs evs i) e := by
  have hlt : i < evs.length := (List.getElem?_eq_some_iff.1 he).1
  have hsplit : evs = evs.take i ++ e :: evs.drop (i + 1) := by
    rw [List.getElem?_eq_getElem hlt] at he
    cases he
    rw [← List.drop_eq_getElem_cons hlt, List.take_append_drop]
  have := C.ok
  rw [hsplit] at this
  exact this.at

omit C in
theorem take_succ {i : Nat} {e : Ev} (he : evs[i]? = some e) : evs.take (i + 1) = evs.take i ++ [e] := by
  have hlt : i < evs.length := (List.getElem?_eq_some_iff.1 he).1
  rw [List.getElem?_eq_getElem hlt] at he
  cases he
  simp

omit C in
theorem at_succ {i : Nat} {e : Ev} (he : evs[i]? = some e) (V0 : Nat → View) (h0 : Heap) (l0 : List (Nat × List AVal)) : vAt V0 evs (i + 1) = e.updV (vAt V0 evs i) ∧ hAt h0 evs (i + 1) = e.updH (hAt h0 evs i) ∧ lAt l0 evs (i + 1) = e.updL (lAt l0 evs i) := by
  unfold vAt hAt lAt
  rw [take_succ he]
  obtain ⟨a1, a2, a3⟩ := run_append (as := evs.take i) (bs := [e]) V0 h0 l0
  exact ⟨a1, a2, a3⟩

/-- What a temporary holds ahead of an operation, in the order of the text. -/
theorem Ctx.vAt_spec : ∀ (i : Nat), i ≤ evs.length → (∀ j e t, j < i → evs[j]? = some e → opDst e.ao = some t → vAt s0.view evs i t = e.rec') ∧
    (∀ t, (∀ j e, j < i → evs[j]? = some e → opDst e.ao ≠ some t) → vAt s0.view evs i t = s0.view t)
  | 0, _ => ⟨fun j e t hj => by omega, fun t _ => rfl⟩
  | i + 1, hi => by
    obtain ⟨i1, i2⟩ := Ctx.vAt_spec i (by omega)
    obtain ⟨e, he⟩ : ∃ e, evs[i]? = some e := ⟨_, List.getElem?_eq_getElem (by omega)⟩
    have hv := (at_succ he s0.view h0 s0.locs).1
    refine ⟨fun j q t hj hq ht => ?_, fun t ht => ?_⟩
    · rw [hv]
      by_cases hji : j = i
      · subst hji
        rw [he] at hq
        cases hq
        simp [Ev.updV, ht]
      · have hne : opDst e.ao ≠ some t := fun hh => hji (C.once j i q e t hq he ht hh)
        simp only [Ev.updV, if_neg hne]
        exact i1 j q t (by omega) hq ht
    · rw [hv]
      have hne : opDst e.ao ≠ some t := ht i e (by omega) he
      simp only [Ev.updV, if_neg hne]
      exact i2 t fun j q hj hq => ht j q (by omega) hq

theorem Ctx.bef_lt {i j : Nat} (hi : i < ops.size) (h : Go.Fw.bef ms j i = true) : j < i := by
  induction i using Nat.strongRecOn with
  | ind i ih =>
    obtain ⟨o, ho⟩ : ∃ o, ops[i]? = some o := ⟨ops[i], by simp [hi]⟩
    obtain ⟨e, he, hb, hh⟩ := C.bef i o ho j h
    have hlt := C.back i o ho e he hb
    rcases hh with rfl | hh
    · exact hlt
    · have := ih e.on hlt (by omega) hh
      omega

/-- Which are done is closed under what must come ahead. -/
def Closed (ops : Array Oper) (D : Nat → Bool) : Prop := ∀ i o, ops[i]? = some o → D i = true → ∀ e ∈ o.after.toList, Region.binds .any e = true → D e.on = true

theorem Ctx.bef_done {D : Nat → Bool} (hD : Closed ops D) {i : Nat} {o : Oper} (ho : ops[i]? = some o) (hr : ∀ e ∈ o.after.toList, Region.binds .any e = true → D e.on = true) {j : Nat} (h : Go.Fw.bef ms j i = true) : D j = true := by
  induction i using Nat.strongRecOn generalizing o with
  | ind i ih =>
    obtain ⟨e, he, hb, hh⟩ := C.bef i o ho j h
    have hlt := C.back i o ho e he hb
    rcases hh with rfl | hh
    · exact hr e he hb
    · have hi : i < ops.size := (Array.getElem?_eq_some_iff.1 ho).1
      obtain ⟨o2, ho2⟩ : ∃ o, ops[e.on]? = some o := ⟨ops[e.on]'(by omega), by rw [Array.getElem?_eq_getElem]⟩
      exact ih e.on hlt ho2 (fun q hq hbq => hD e.on o2 ho2 (hr e he hb) q hq hbq) hh

theorem Ctx.slot_ne {i j : Nat} {ei ej : Ev} (hi : FlAt evs i ei) (hj : FlAt evs j ej) (hne : i ≠ j) : slot b0 ei ≠ slot b0 ej := by
  obtain ⟨q, hq⟩ := isFl_id hi.2.1
  obtain ⟨r, hr⟩ := isFl_id hj.2.1
  intro h
  unfold slot at h
  rw [hq, hr] at h
  simp only [Option.getD_some] at h
  have : q = r := by omega
  subst this
  exact hne (C.fls i j ei ej q hi.1 hj.1 hq hr)

/-- What making a block does. -/
theorem Ctx.fl_step {k : Nat} {e : Ev} (hk : FlAt evs k e) : ∃ d j sl zero parts cs, e.ao = .fl d j sl zero parts ∧ flCells sl zero (parts.map fun p => (p.1, e.s.ev p.2)) = some cs ∧ e.u = .set d (flVal sl (slot b0 e)) ∧ e.h' = e.h.setBlk (slot b0 e) (some ⟨cs, true⟩) := by
  have hs := (C.at hk.1).step hk.2.2
  have hb := C.base k e hk.1 hk.2.1 hk.2.2
  have hf := hk.2.1
  cases hao : e.ao <;> rw [hao] at hf <;> first | (cases hf; done) | skip
  rename_i d j sl zero parts
  rw [hao] at hs
  simp only [stepR, Option.bind_eq_some_iff, Option.some.injEq, Prod.mk.injEq] at hs
  obtain ⟨cs, h1, h2, h3⟩ := hs
  have hsl : slot b0 e = b0 + j := by unfold slot; rw [hao]; rfl
  refine ⟨d, j, sl, zero, parts, cs, rfl, h1, ?_, ?_⟩
  · rw [hsl, ← hb]; exact h2.symm
  · rw [hsl, ← hb]; exact h3.symm

/-- The heap behind an operation: nothing, an effect, a block. -/
theorem Ctx.h_pure {i : Nat} {e : Ev} (he : evs[i]? = some e) (hef : isEf e.ao = false) (hfl : ¬ FlAt evs i e) : hAt h0 evs (i + 1) = hAt h0 evs i ∧ lAt s0.locs evs (i + 1) = lAt s0.locs evs i := by
  obtain ⟨_, a2, a3⟩ := at_succ he s0.view h0 s0.locs
  have hok := C.at he
  rw [a2, a3]
  cases hon : e.on with
  | false => unfold Ev.updH Ev.updL; rw [hon]; exact ⟨rfl, rfl⟩
  | true =>
    have hnf : isFl e.ao = false := by
      cases hh : isFl e.ao with
      | false => rfl
      | true => exact (hfl ⟨he, hh, hon⟩).elim
    have hne : isEff e.ao = false := by
      simp only [isEf, hnf, Bool.not_false, Bool.and_true] at hef
      exact hef
    obtain ⟨p1, p2, _⟩ := stepR_pure hne (hok.step hon) (s' := e.s) (k' := e.h)
    unfold Ev.updH Ev.updL
    rw [hon]
    simp only [cond_true]
    rw [p1, p2, hok.h hon, hok.l hon]
    exact ⟨rfl, rfl⟩

theorem Ctx.h_fl {i : Nat} {e : Ev} (hf : FlAt evs i e) : ∃ cs, e.h'.blk (slot b0 e) = some ⟨cs, true⟩ ∧ hAt h0 evs (i + 1) = (hAt h0 evs i).setBlk (slot b0 e) (some ⟨cs, true⟩) ∧ lAt s0.locs evs (i + 1) = lAt s0.locs evs i := by
  obtain ⟨d, j, sl, zero, parts, cs, hao, hc, hu, hh⟩ := C.fl_step hf
  obtain ⟨_, a2, a3⟩ := at_succ hf.1 s0.view h0 s0.locs
  have hok := C.at hf.1
  refine ⟨cs, by rw [hh, Heap.setBlk_at], ?_, ?_⟩
  · rw [a2]
    unfold Ev.updH
    rw [hf.2.2]
    simp only [cond_true]
    rw [hh, hok.h hf.2.2]
  · rw [a3]
    unfold Ev.updL
    rw [hf.2.2]
    simp only [cond_true]
    rw [hu, ← hok.l hf.2.2]
    rfl

/-- No effects between: blocks that were made, and nothing else. -/
theorem Ctx.between (lo : Nat) : ∀ (d : Nat), lo + d ≤ evs.length → (∀ q e, lo ≤ q → q < lo + d → evs[q]? = some e → isEf e.ao = true → False) →
    (hAt h0 evs (lo + d)).next = (hAt h0 evs lo).next ∧ lAt s0.locs evs (lo + d) = lAt s0.locs evs lo ∧
    (∀ b, (∀ k e, lo ≤ k → k < lo + d → FlAt evs k e → slot b0 e ≠ b) → (hAt h0 evs (lo + d)).blk b = (hAt h0 evs lo).blk b) ∧
    (∀ k e, lo ≤ k → k < lo + d → FlAt evs k e → (hAt h0 evs (lo + d)).blk (slot b0 e) = e.h'.blk (slot b0 e))
  | 0, _, _ => ⟨rfl, rfl, fun _ _ => rfl, fun k e h1 h2 => by omega⟩
  | d + 1, hl, hp => by
    obtain ⟨e, he⟩ : ∃ e, evs[lo + d]? = some e := ⟨_, List.getElem?_eq_getElem (by omega)⟩
    obtain ⟨h1, h2, h3, h4⟩ := Ctx.between lo d (by omega) fun q e a b => hp q e a (by omega)
    have hef : isEf e.ao = false := by
      cases hh : isEf e.ao with
      | false => rfl
      | true => exact (hp (lo + d) e (by omega) (by omega) he hh).elim
    rw [← Nat.add_assoc]
    by_cases hfl : FlAt evs (lo + d) e
    · obtain ⟨cs, f1, f2, f3⟩ := C.h_fl hfl
      rw [f2, f3]
      refine ⟨h1, h2, fun b hb => ?_, fun k ek a1 a2 hk => ?_⟩
      · rw [Heap.setBlk_other _ _ (fun hh => hb (lo + d) e (by omega) (by omega) hfl hh.symm)]
        exact h3 b fun k ek a1 a2 => hb k ek a1 (by omega)
      · by_cases hkd : k = lo + d
        · subst hkd
          have : ek = e := by have := hk.1; rw [he] at this; cases this; rfl
          subst this
          rw [Heap.setBlk_at, f1]
        · rw [Heap.setBlk_other _ _ (C.slot_ne hk hfl hkd)]
          exact h4 k ek a1 (by omega) hk
    · obtain ⟨f1, f2⟩ := C.h_pure he hef hfl
      rw [f1, f2]
      refine ⟨h1, h2, fun b hb => h3 b fun k ek a1 a2 => hb k ek a1 (by omega), fun k ek a1 a2 hk => ?_⟩
      have hkd : k ≠ lo + d := fun hh => by
        subst hh
        have : ek = e := by have := hk.1; rw [he] at this; cases this; rfl
        subst this
        exact hfl hk
      exact h4 k ek a1 (by omega) hk

/-- The heap that the world holds: what the order of the text has at c, and what was made ahead of its time. -/
structure Fill (b0 : Nat) (evs : List Ev) (c : Nat) (D : Nat → Bool) (A X : Heap) : Prop where
  next : X.next = A.next
  inn : ∀ k e, c ≤ k → FlAt evs k e → D k = true → X.blk (slot b0 e) = e.h'.blk (slot b0 e)
  out : ∀ k e, c ≤ k → FlAt evs k e → D k = false → X.blk (slot b0 e) = none
  rest : ∀ b, (∀ k e, c ≤ k → FlAt evs k e → slot b0 e ≠ b) → X.blk b = A.blk b

/-- The state in which some are done. -/
structure DState (P : Program) (n b0 : Nat) (evs : List Ev) (s0 : Env) (h0 : Heap) (B : Nat) (φ0 : Phi) (hb : Heap) (w0 : World) (D : Nat → Bool) (S : Env) (c : Nat) (X : Heap) (φ : Phi) (L : Nat → Nat) (a : Act) (w : World) : Prop where
  le : c ≤ evs.length
  done : ∀ i e, i < c → evs[i]? = some e → isEf e.ao = true → D i = true
  todo : ∀ i e, c ≤ i → evs[i]? = some e → isEf e.ao = true → D i = false
  fill : Fill b0 evs c D (hAt h0 evs c) X
  rel : In B n φ0 hb w0 φ L S X a w
  ids : ∀ k e, FlAt evs k e → hb.next ≤ slot b0 e ∧ slot b0 e < (hAt h0 evs c).next
  und : ∀ k e, FlAt evs k e → D k = false → φ (slot b0 e) = none
  cold : ∀ k e, c ≤ k → FlAt evs k e → (hAt h0 evs c).blk (slot b0 e) = none
  born : ∀ k e, k < c → FlAt evs k e → (hAt h0 evs k).blk (slot b0 e) = none
  kept : ∀ k e, k < c → FlAt evs k e → D k = false → (hAt h0 evs c).blk (slot b0 e) = e.h'.blk (slot b0 e)
  locs : S.locs = lAt s0.locs evs c
  seen : ∀ j e t, D j = true → evs[j]? = some e → opDst e.ao = some t → S.view t = e.rec'
  rest : ∀ t, (∀ j e, D j = true → evs[j]? = some e → opDst e.ao ≠ some t) → S.view t = s0.view t

variable {B : Nat} {φ0 φ : Phi} {hb : Heap} {w0 w : World} {D : Nat → Bool} {S : Env} {c : Nat} {X : Heap} {L : Nat → Nat} {a : Act}

/-- What an operation that is ready looks at is what it saw in the order of the text. -/
theorem Ctx.agree (hD : Closed ops D) (T : DState P n b0 evs s0 h0 B φ0 hb w0 D S c X φ L a w) {i : Nat} {e : Ev} {o : Oper} (he : evs[i]? = some e) (ho : ops[i]? = some o) (hi : D i = false)
    (hr : ∀ e ∈ o.after.toList, Region.binds .any e = true → D e.on = true) {t : Nat} (ht : t ∈ gTmp e.gd ++ aoTmps e.ao) : S.view t = vAt s0.view evs i t := by
  have hlt : i < evs.length := (List.getElem?_eq_some_iff.1 he).1
  obtain ⟨v1, v2⟩ := C.vAt_spec i (by omega)
  by_cases hex : ∃ (j : Nat) (ej : Ev), evs[j]? = some ej ∧ opDst ej.ao = some t
  · obtain ⟨j, ej, hej, hd⟩ := hex
    rcases C.names i j e ej t he hej ht hd with ⟨hji, hb⟩ | ⟨hij, hb⟩
    · rw [T.seen j ej t (C.bef_done hD ho hr hb) hej hd, v1 j ej t hji hej hd]
    · have hjn : D j = false := by
        cases hj : D j with
        | false => rfl
        | true =>
          have hjlt : j < ops.size := by rw [← C.len]; exact (List.getElem?_eq_some_iff.1 hej).1
          obtain ⟨o2, ho2⟩ : ∃ o, ops[j]? = some o := ⟨ops[j], by simp [hjlt]⟩
          have := C.bef_done hD ho2 (fun q hq hbq => hD j o2 ho2 hj q hq hbq) hb
          rw [hi] at this; cases this
      rw [T.rest t, v2 t]
      · intro q eq hq heq hdq
        have := C.once q j eq ej t heq hej hdq hd
        omega
      · intro q eq hq heq hdq
        have := C.once q j eq ej t heq hej hdq hd
        rw [this, hjn] at hq
        cases hq
  · have hno : ∀ (j : Nat) (ej : Ev), evs[j]? = some ej → opDst ej.ao ≠ some t := fun j ej hej hd => hex ⟨j, ej, hej, hd⟩
    rw [T.rest t fun j ej _ hej => hno j ej hej, v2 t fun j ej _ hej => hno j ej hej]

omit C in
theorem sameRd_refl (x : Option Log) (β : List (Nat × List AVal)) (h : Heap) : sameRd x β h β h := by
  unfold sameRd; split <;> trivial
omit C in
theorem sameRd_trans {x : Option Log} {β β1 β2 : List (Nat × List AVal)} {h h1 h2 : Heap} (p : sameRd x β h β1 h1) (q : sameRd x β1 h1 β2 h2) : sameRd x β h β2 h2 := by
  unfold sameRd at *; split at p <;> simp_all
omit C in
theorem sameRd_symm {x : Option Log} {β β1 : List (Nat × List AVal)} {h h1 : Heap} (p : sameRd x β h β1 h1) : sameRd x β1 h1 β h := by
  unfold sameRd at *; split at p <;> simp_all

/-- What is read of a block stays through an operation that does not make it. -/
theorem Ctx.step_same {x : Option Log} {q : Nat} {e : Ev} (he : evs[q]? = some e) (hp : isEf e.ao = true → e.on = true → pairOk x e.logv = true) (hx : ∀ b off n, x = some (.rd b off n) → FlAt evs q e → slot b0 e ≠ b) :
    sameRd x (lAt s0.locs evs q) (hAt h0 evs q) (lAt s0.locs evs (q + 1)) (hAt h0 evs (q + 1)) := by
  by_cases hfl : FlAt evs q e
  · obtain ⟨cs, _, f2, f3⟩ := C.h_fl hfl
    rw [f2, f3]
    unfold sameRd
    split
    · rename_i b off n
      have hne := hx b off n rfl hfl
      unfold Heap.rd
      rw [Heap.setBlk_other _ _ (fun hh => hne hh.symm)]
    · rfl
    · trivial
  · cases hef : isEf e.ao with
    | false =>
      obtain ⟨f1, f2⟩ := C.h_pure he hef hfl
      rw [f1, f2]
      exact sameRd_refl _ _ _
    | true =>
      obtain ⟨_, a2, a3⟩ := at_succ he s0.view h0 s0.locs
      rw [a2, a3]
      have hok := C.at he
      cases hon : e.on with
      | false => unfold Ev.updH Ev.updL; rw [hon]; exact sameRd_refl _ _ _
      | true =>
        have h1 := hok.step hon
        have h2 := hok.h hon
        have h3 := hok.l hon
        unfold Ev.updH Ev.updL
        rw [hon]
        simp only [cond_true]
        have hef' : isEff e.ao = true := by
          simp only [isEf, Bool.and_eq_true] at hef
          exact hef.1
        have := eff_same h1 hef' (hp hef hon)
        rw [h2, h3] at this
        exact this

theorem Ctx.range_same {x : Option Log} (lo : Nat) : ∀ (d : Nat), lo + d ≤ evs.length → (∀ q e, lo ≤ q → q < lo + d → evs[q]? = some e → isEf e.ao = true → e.on = true → pairOk x e.logv = true) →
    (∀ b off n q e, x = some (.rd b off n) → lo ≤ q → q < lo + d → FlAt evs q e → slot b0 e ≠ b) →
    sameRd x (lAt s0.locs evs lo) (hAt h0 evs lo) (lAt s0.locs evs (lo + d)) (hAt h0 evs (lo + d))
  | 0, _, _, _ => sameRd_refl _ _ _
  | d + 1, hl, hp, hx => by
    obtain ⟨e, he⟩ : ∃ e, evs[lo + d]? = some e := ⟨_, List.getElem?_eq_getElem (by omega)⟩
    exact sameRd_trans (Ctx.range_same lo d (by omega) (fun q e h1 h2 => hp q e h1 (by omega)) (fun b off n q e hh h1 h2 => hx b off n q e hh h1 (by omega))) (C.step_same he (hp (lo + d) e (by omega) (by omega) he) (fun b off n hh => hx b off n (lo + d) e hh (by omega) (by omega)))

omit C in
theorem rd_same {h h' : Heap} {b : Nat} (e : h'.blk b = h.blk b) (off n : Nat) : h'.rd b off n = h.rd b off n := by
  unfold Heap.rd; rw [e]

/-- Effects between where an operation stands in the text and where the run stands now leave what it reads. -/
theorem Ctx.pairs_ok (hD : Closed ops D) (T : DState P n b0 evs s0 h0 B φ0 hb w0 D S c X φ L a w) {i : Nat} {e : Ev} {o : Oper} (he : evs[i]? = some e) (ho : ops[i]? = some o) (hi : D i = false) (hon : e.on = true) (hrd : isRd e.ao = true)
    (hr : ∀ e ∈ o.after.toList, Region.binds .any e = true → D e.on = true) {q : Nat} {eq : Ev} (hq : evs[q]? = some eq) (hef : isEf eq.ao = true) (hon2 : eq.on = true) (hw : (i ≤ q ∧ q < c) ∨ (c ≤ q ∧ q < i)) : pairOk e.logv eq.logv = true := by
  have hlt : i < evs.length := (List.getElem?_eq_some_iff.1 he).1
  have hqlt : q < ops.size := by rw [← C.len]; exact (List.getElem?_eq_some_iff.1 hq).1
  rcases C.rds i q e eq he hq hrd hef with h | h | h
  · exfalso
    rcases hw with ⟨h1, h2⟩ | ⟨h1, h2⟩
    · have hqD := T.done q eq h2 hq hef
      obtain ⟨o2, ho2⟩ : ∃ o, ops[q]? = some o := ⟨ops[q], by simp [hqlt]⟩
      have := C.bef_done hD ho2 (fun p hp hbp => hD q o2 ho2 hqD p hp hbp) h
      rw [hi] at this; cases this
    · have := C.bef_lt (i := q) hqlt h
      omega
  · exfalso
    rcases hw with ⟨h1, h2⟩ | ⟨h1, h2⟩
    · have := C.bef_lt (i := i) (by rw [← C.len]; exact hlt) h
      omega
    · have h3 := C.bef_done hD ho hr h
      have h4 := T.todo q eq h1 hq hef
      rw [h3] at h4; cases h4
  · exact h hon hon2

theorem Ctx.span (hD : Closed ops D) (T : DState P n b0 evs s0 h0 B φ0 hb w0 D S c X φ L a w) {i : Nat} {e : Ev} {o : Oper} (he : evs[i]? = some e) (ho : ops[i]? = some o) (hi : D i = false) (hon : e.on = true) (hrd : isRd e.ao = true)
    (hr : ∀ e ∈ o.after.toList, Region.binds .any e = true → D e.on = true) (hav : ∀ b off n, e.logv = some (.rd b off n) → ∀ q eq, (i ≤ q ∧ q < c) ∨ (c ≤ q ∧ q < i) → FlAt evs q eq → slot b0 eq ≠ b) :
    sameRd e.logv (lAt s0.locs evs i) (hAt h0 evs i) (lAt s0.locs evs c) (hAt h0 evs c) := by
  have hlt : i < evs.length := (List.getElem?_eq_some_iff.1 he).1
  rcases Nat.le_total i c with hic | hci
  · have := C.range_same (x := e.logv) i (c - i) (by have := T.le; omega) (fun q eq h1 h2 hq hef hon2 => C.pairs_ok hD T he ho hi hon hrd hr hq hef hon2 (.inl ⟨h1, by omega⟩)) (fun b off n q eq hx h1 h2 => hav b off n hx q eq (.inl ⟨h1, by omega⟩))
    rw [show i + (c - i) = c by omega] at this
    exact this
  · have := C.range_same (x := e.logv) c (i - c) (by omega) (fun q eq h1 h2 hq hef hon2 => C.pairs_ok hD T he ho hi hon hrd hr hq hef hon2 (.inr ⟨h1, by omega⟩)) (fun b off n q eq hx h1 h2 => hav b off n hx q eq (.inr ⟨h1, by omega⟩))
    rw [show c + (i - c) = i by omega] at this
    exact sameRd_symm this

/-- What is read stands as it stood. -/
theorem Ctx.read_same (hD : Closed ops D) (T : DState P n b0 evs s0 h0 B φ0 hb w0 D S c X φ L a w) {i : Nat} {e : Ev} {o : Oper} (he : evs[i]? = some e) (ho : ops[i]? = some o) (hi : D i = false) (hon : e.on = true) (hne : isEff e.ao = false)
    (hr : ∀ e ∈ o.after.toList, Region.binds .any e = true → D e.on = true) (hphi : ∀ b off n, e.logv = some (.rd b off n) → φ b ≠ none) (hsome : ∀ b off n, e.logv = some (.rd b off n) → (hAt h0 evs i).rd b off n ≠ none) :
    sameRd e.logv (lAt s0.locs evs i) (hAt h0 evs i) (lAt s0.locs evs c) X := by
  cases hrd : isRd e.ao with
  | false =>
    have : e.logv = none := by
      unfold Ev.logv logOf
      cases hao : e.ao <;> rw [hao] at hrd hne <;> first | rfl | (cases hrd; done) | (cases hne; done) | skip
      · rename_i d cc x
        cases cc <;> first | rfl | (cases hrd; done) | (cases hne; done)
    rw [this]
    trivial
  | true =>
    have hspan := C.span hD T he ho hi hon hrd hr
    cases hlg : e.logv with
    | none => trivial
    | some x =>
      cases x with
      | al b => trivial
      | lal l => trivial
      | ef a b c d => trivial
      | lrd l off n =>
        have := hspan (fun b off n hx => by rw [hlg] at hx; cases hx)
        rw [hlg] at this
        exact this
      | rd b off n =>
        have hs := hsome b off n hlg
        have hnone : ∀ h : Heap, h.blk b = none → h.rd b off n = none := fun h e => by unfold Heap.rd; rw [e]
        show (hAt h0 evs i).rd b off n = X.rd b off n
        have fin : (∀ q eq, (i ≤ q ∧ q < c) ∨ (c ≤ q ∧ q < i) → FlAt evs q eq → slot b0 eq ≠ b) → (hAt h0 evs i).rd b off n = (hAt h0 evs c).rd b off n := by
          intro hav
          have := hspan (fun b' off' n' hx => by rw [hlg] at hx; cases hx; exact hav)
          rw [hlg] at this
          exact this
        by_cases hsl : ∃ k ek, FlAt evs k ek ∧ slot b0 ek = b
        · obtain ⟨k, ek, hk, hkb⟩ := hsl
          have hDk : D k = true := by
            cases hh : D k with
            | true => rfl
            | false => exact (hphi b off n hlg (hkb ▸ T.und k ek hk hh)).elim
          have hneq : ∀ q eq, FlAt evs q eq → q ≠ k → slot b0 eq ≠ b := fun q eq hq hqk => by rw [← hkb]; exact C.slot_ne hq hk hqk
          by_cases hck : c ≤ k
          · have hX := T.fill.inn k ek hck hk hDk
            rw [hkb] at hX
            by_cases hki : k < i
            · have hrg := C.range_same (x := e.logv) (k + 1) (i - (k + 1)) (by have := (List.getElem?_eq_some_iff.1 he).1; omega) (fun q eq h1 h2 hq hef hon2 => C.pairs_ok hD T he ho hi hon hrd hr hq hef hon2 (.inr ⟨by omega, by omega⟩)) (fun b' off' n' q eq hx h1 h2 hq => by
                rw [hlg] at hx; cases hx
                exact hneq q eq hq (by omega))
              rw [show k + 1 + (i - (k + 1)) = i by omega, hlg] at hrg
              obtain ⟨cs, f1, f2, _⟩ := C.h_fl hk
              rw [hkb] at f1 f2
              have : (hAt h0 evs (k + 1)).rd b off n = X.rd b off n := by
                refine (rd_same ?_ off n)
                rw [f2, Heap.setBlk_at, hX, f1]
              rw [← this]
              exact (show (hAt h0 evs (k + 1)).rd b off n = (hAt h0 evs i).rd b off n from hrg).symm
            · exfalso
              have h1 := fin fun q eq hq hf => hneq q eq hf (by omega)
              rw [h1] at hs
              exact hs (hnone _ (hkb ▸ T.cold k ek hck hk))
          · have hX : X.blk b = (hAt h0 evs c).blk b := T.fill.rest b fun q eq hq hf => hneq q eq hf (by omega)
            rw [rd_same hX]
            by_cases hik : i ≤ k
            · exfalso
              have hrg := C.range_same (x := e.logv) i (k - i) (by have := T.le; omega) (fun q eq h1 h2 hq hef hon2 => C.pairs_ok hD T he ho hi hon hrd hr hq hef hon2 (.inl ⟨by omega, by omega⟩)) (fun b' off' n' q eq hx h1 h2 hq => by
                rw [hlg] at hx; cases hx
                exact hneq q eq hq (by omega))
              rw [show i + (k - i) = k by omega, hlg] at hrg
              have h1 : (hAt h0 evs i).rd b off n = (hAt h0 evs k).rd b off n := hrg
              rw [h1] at hs
              exact hs (hnone _ (hkb ▸ T.born k ek (by omega) hk))
            · exact fin fun q eq hq hf => hneq q eq hf (by omega)
        · have hno : ∀ q eq, FlAt evs q eq → slot b0 eq ≠ b := fun q eq hf hh => hsl ⟨q, eq, hf, hh⟩
          rw [rd_same (T.fill.rest b fun q eq _ hf => hno q eq hf)]
          exact fin fun q eq _ hf => hno q eq hf

end
end Go.Fw

/- Regions whose order is open: the end of the proof. -/
namespace Go.Fw
set_option linter.unusedSimpArgs false
set_option linter.unusedVariables false

section
variable {P : Program} {call : Call} {n b0 : Nat} {ops : Array Oper} {items : List AItem} {pairs : List (Nat × Nat)} {ms : List Nat} {evs : List Ev} {s0 : Env} {h0 : Heap}
variable {B : Nat} {φ0 φ : Phi} {hb : Heap} {w0 w : World} {D : Nat → Bool} {S : Env} {c : Nat} {X : Heap} {L : Nat → Nat} {a : Act}

def setD (D : Nat → Bool) (i : Nat) : Nat → Bool := fun j => if j = i then true else D j

theorem lad_of_view {s t : Env} {x : AOpd} (h : ∀ q, x = .tmp q → s.view q = t.view q) : s.lad x = t.lad x ∧ s.ev x = t.ev x := by
  cases x with
  | const v => exact ⟨rfl, rfl⟩
  | tmp q =>
    have := h q rfl
    simp only [Env.view, Prod.mk.injEq] at this
    exact ⟨this.2, this.1⟩

theorem closed_set {D : Nat → Bool} (hD : Closed ops D) {i : Nat} {o : Oper} (ho : ops[i]? = some o) (hr : ∀ e ∈ o.after.toList, Region.binds .any e = true → D e.on = true) : Closed ops (setD D i) := by
  intro j q hq hj e he hbe
  unfold setD
  split
  · rfl
  · by_cases hji : j = i
    · subst hji
      rw [ho] at hq
      cases hq
      exact hr e he hbe
    · unfold setD at hj
      rw [if_neg hji] at hj
      exact hD j q hq hj e he hbe

theorem HRel.sub {φ : Phi} {X Y : Heap} {w : World} (H : HRel φ X w) (hn : Y.next = X.next) (hl : ∀ b x, Y.blk b = some x → b < Y.next) (hs : ∀ b x L, Y.blk b = some x → φ b = some L → X.blk b = some x) : HRel φ Y w where
  dom := fun b L hb => by rw [hn]; exact H.dom b L hb
  live := hl
  blk := fun b x L hx hb => H.blk b x L (hs b x L hx hb) hb
  pin := H.pin
  apart := fun b b' x x' L L' hne h1 h2 hr p1 p2 => H.apart b b' x x' L L' hne (hs b x L h1 p1) (hs b' x' L' h2 p2) hr p1 p2

theorem Step.sub {φ0 φ : Phi} {h X Y : Heap} {w0 w : World} (S : Step φ0 h w0 φ X w) (hn : Y.next = X.next) (ho : ∀ b, b < h.next → Y.blk b = X.blk b) : Step φ0 h w0 φ Y w where
  ext := S.ext
  next := by rw [hn]; exact S.next
  old := fun b x' hb hx => S.old b x' hb (by rw [← ho b hb]; exact hx)
  new := S.new
  size := S.size
  keep := fun b hb hp => by rw [ho b hb]; exact S.keep b hb hp
  frame := S.frame
  os := S.os
  tape := S.tape
  output := S.output

theorem In.sub (I : In B n φ0 hb w0 φ L S X a w) {Y : Heap} (hn : Y.next = X.next) (hl : ∀ b x, Y.blk b = some x → b < Y.next) (hs : ∀ b x L, Y.blk b = some x → φ b = some L → X.blk b = some x) (ho : ∀ b, b < hb.next → Y.blk b = X.blk b) : In B n φ0 hb w0 φ L S Y a w :=
  ⟨⟨I.rel.heap.sub hn hl hs, I.rel.size, I.rel.defers, I.rel.vals, I.rel.lads, I.rel.locs, I.rel.inj⟩, I.step.sub hn ho, I.base, I.dom⟩

open Classical in
/-- One heap where something holds, another one elsewhere. -/
noncomputable def mix (p : Nat → Prop) (A Z : Heap) : Heap := ⟨Z.next, fun b => if p b then A.blk b else Z.blk b⟩
theorem mix_yes {p : Nat → Prop} {A Z : Heap} {b : Nat} (h : p b) : (mix p A Z).blk b = A.blk b := by simp [mix, h]
theorem mix_no {p : Nat → Prop} {A Z : Heap} {b : Nat} (h : ¬ p b) : (mix p A Z).blk b = Z.blk b := by simp [mix, h]

/-- Where no effects stand, the place in the text moves on by itself. -/
theorem Ctx.adv (C : Ctx P call n b0 ops items pairs ms evs s0 h0) (T : DState P n b0 evs s0 h0 B φ0 hb w0 D S c X φ L a w) {i : Nat} (hci : c ≤ i) (hil : i ≤ evs.length) (hno : ∀ q eq, c ≤ q → q < i → evs[q]? = some eq → isEf eq.ao = true → False) :
    ∃ X', DState P n b0 evs s0 h0 B φ0 hb w0 D S i X' φ L a w := by
  obtain ⟨bn, bl, bo, bs⟩ := C.between c (i - c) (by omega) (fun q e h1 h2 => hno q e h1 (by omega))
  rw [show c + (i - c) = i by omega] at bn bl bo bs
  let p : Nat → Prop := fun b => ∃ k e, c ≤ k ∧ k < i ∧ FlAt evs k e ∧ slot b0 e = b
  have hp : ∀ k e, i ≤ k → FlAt evs k e → ¬ p (slot b0 e) := fun k e hk hf ⟨k', e', _, h2, h3, h4⟩ => C.slot_ne h3 hf (by omega) h4
  have hpb : ∀ b, b < hb.next → ¬ p b := fun b hlt ⟨k', e', _, _, h3, h4⟩ => by have := (T.ids k' e' h3).1; omega
  have hpo : ∀ b, ¬ p b → (hAt h0 evs i).blk b = (hAt h0 evs c).blk b := fun b hb => bo b fun k e h1 h2 h3 h4 => hb ⟨k, e, h1, by omega, h3, h4⟩
  refine ⟨mix p (hAt h0 evs i) X, ⟨hil, ?_, fun j e hj => T.todo j e (by omega), ⟨?_, ?_, ?_, ?_⟩, ?_, ?_, T.und, ?_, ?_, ?_, ?_, T.seen, T.rest⟩⟩
  · intro j e hj he hef
    rcases Nat.lt_or_ge j c with h | h
    · exact T.done j e h he hef
    · exact (hno j e h hj he hef).elim
  · show X.next = _
    rw [T.fill.next, bn]
  · intro k e hk hf hDk
    rw [mix_no (hp k e hk hf)]
    exact T.fill.inn k e (by omega) hf hDk
  · intro k e hk hf hDk
    rw [mix_no (hp k e hk hf)]
    exact T.fill.out k e (by omega) hf hDk
  · intro b hb'
    by_cases hpb' : p b
    · rw [mix_yes hpb']
    · rw [mix_no hpb', hpo b hpb']
      refine T.fill.rest b fun k e hk hf hh => ?_
      rcases Nat.lt_or_ge k i with h | h
      · exact hpb' ⟨k, e, hk, h, hf, hh⟩
      · exact hb' k e h hf hh
  · refine T.rel.sub rfl ?_ ?_ ?_
    · intro b x hx
      show b < X.next
      by_cases hpb' : p b
      · obtain ⟨k, e, _, _, h3, h4⟩ := hpb'
        have := (T.ids k e h3).2
        rw [T.fill.next]
        omega
      · rw [mix_no hpb'] at hx
        exact T.rel.rel.heap.live b x hx
    · intro b x L' hx hL
      by_cases hpb' : p b
      · rw [mix_yes hpb'] at hx
        obtain ⟨k, e, h1, h2, h3, h4⟩ := hpb'
        subst h4
        have hDk : D k = true := by
          cases hh : D k with
          | true => rfl
          | false => have := T.und k e h3 hh; rw [this] at hL; cases hL
        rw [T.fill.inn k e h1 h3 hDk, ← bs k e h1 (by omega) h3]
        exact hx
      · rw [mix_no hpb'] at hx
        exact hx
    · intro b hb'
      exact mix_no (hpb b hb')
  · intro k e hf
    rw [bn]
    exact T.ids k e hf
  · intro k e hk hf
    rw [hpo _ (hp k e hk hf)]
    exact T.cold k e (by omega) hf
  · intro k e hk hf
    rcases Nat.lt_or_ge k c with h | h
    · exact T.born k e h hf
    · obtain ⟨_, _, b3, _⟩ := C.between c (k - c) (by omega) (fun q e h1 h2 => hno q e h1 (by omega))
      rw [show c + (k - c) = k by omega] at b3
      rw [b3 _ fun k' e' h1 h2 h3 h4 => C.slot_ne h3 hf (by omega) h4]
      exact T.cold k e h hf
  · intro k e hk hf hDk
    rcases Nat.lt_or_ge k c with h | h
    · rw [bo _ fun k' e' h1 h2 h3 h4 => C.slot_ne h3 hf (by omega) h4]
      exact T.kept k e h hf hDk
    · exact bs k e h (by omega) hf
  · rw [T.locs, bl]

/-- The next of those whose order is kept. -/
theorem Ctx.next_eff (C : Ctx P call n b0 ops items pairs ms evs s0 h0) (hD : Closed ops D) (T : DState P n b0 evs s0 h0 B φ0 hb w0 D S c X φ L a w) {i : Nat} {e : Ev} {o : Oper} (he : evs[i]? = some e) (ho : ops[i]? = some o) (hi : D i = false)
    (hr : ∀ e ∈ o.after.toList, Region.binds .any e = true → D e.on = true) (hef : isEf e.ao = true) : c ≤ i ∧ (∀ q eq, c ≤ q → q < i → evs[q]? = some eq → isEf eq.ao = true → False) := by
  have hci : c ≤ i := by
    rcases Nat.lt_or_ge i c with h | h
    · have := T.done i e h he hef
      rw [hi] at this; cases this
    · exact h
  refine ⟨hci, fun q eq h1 h2 hq hefq => ?_⟩
  have h3 := C.bef_done hD ho hr (C.effs q i eq e hq he hefq hef h2)
  have h4 := T.todo q eq h1 hq hefq
  rw [h3] at h4; cases h4

/-- What is seen when one more is done. -/
theorem Ctx.seen_set (C : Ctx P call n b0 ops items pairs ms evs s0 h0) (T : DState P n b0 evs s0 h0 B φ0 hb w0 D S c X φ L a w) {i : Nat} {e : Ev} (he : evs[i]? = some e) {S' : Env} (hview : ∀ t, S'.view t = if opDst e.ao = some t then e.rec' else S.view t) :
    (∀ j ej t, setD D i j = true → evs[j]? = some ej → opDst ej.ao = some t → S'.view t = ej.rec') ∧ (∀ t, (∀ j ej, setD D i j = true → evs[j]? = some ej → opDst ej.ao ≠ some t) → S'.view t = s0.view t) := by
  constructor
  · intro j ej t hj hej hd
    rw [hview]
    by_cases hji : j = i
    · subst hji
      rw [he] at hej
      cases hej
      rw [if_pos hd]
    · have hne : opDst e.ao ≠ some t := fun hh => hji (C.once j i ej e t hej he hd hh)
      rw [if_neg hne]
      unfold setD at hj
      rw [if_neg hji] at hj
      exact T.seen j ej t hj hej hd
  · intro t ht
    have hne : opDst e.ao ≠ some t := ht i e (by simp [setD]) he
    rw [hview, if_neg hne]
    exact T.rest t fun j ej hj hej => ht j ej (by unfold setD; split <;> simp_all) hej

theorem setD_no {k : Nat} {i : Nat} (h : setD D i k = false) : k ≠ i ∧ D k = false := by
  unfold setD at h
  split at h
  · cases h
  · exact ⟨‹_›, h⟩
theorem setD_ne {k i : Nat} (h : k ≠ i) : setD D i k = D k := by unfold setD; rw [if_neg h]

/-- One that neither writes nor makes is done: the heap stays, its place stays. -/
theorem Ctx.grow_pure (C : Ctx P call n b0 ops items pairs ms evs s0 h0) (T : DState P n b0 evs s0 h0 B φ0 hb w0 D S c X φ L a w) {i : Nat} {e : Ev} (he : evs[i]? = some e) (hef : isEf e.ao = false) (hfl : ¬ FlAt evs i e)
    {S' : Env} {φ' : Phi} {L' : Nat → Nat} {a' : Act} {w' : World} (hrel : In B n φ0 hb w0 φ' L' S' X a' w') (hphi : ∀ k e, FlAt evs k e → φ (slot b0 e) = none → φ' (slot b0 e) = none) (hloc : S'.locs = lAt s0.locs evs c)
    (hview : ∀ t, S'.view t = if opDst e.ao = some t then e.rec' else S.view t) : DState P n b0 evs s0 h0 B φ0 hb w0 (setD D i) S' c X φ' L' a' w' := by
  obtain ⟨h1, h2⟩ := C.seen_set T he hview
  have hni : ∀ k ek, FlAt evs k ek → k ≠ i := fun k ek hk hh => by
    subst hh
    have : ek = e := by have := hk.1; rw [he] at this; cases this; rfl
    subst this
    exact hfl hk
  refine ⟨T.le, ?_, ?_, ⟨T.fill.next, ?_, ?_, T.fill.rest⟩, hrel, T.ids, ?_, T.cold, T.born, ?_, hloc, h1, h2⟩
  · intro j ej hj hej hefj
    unfold setD
    split
    · rfl
    · exact T.done j ej hj hej hefj
  · intro j ej hj hej hefj
    have hne : j ≠ i := fun hh => by
      subst hh
      rw [he] at hej
      cases hej
      rw [hef] at hefj; cases hefj
    rw [setD_ne hne]
    exact T.todo j ej hj hej hefj
  · intro k ek hk hf hDk
    rw [setD_ne (hni k ek hf)] at hDk
    exact T.fill.inn k ek hk hf hDk
  · intro k ek hk hf hDk
    exact T.fill.out k ek hk hf (setD_no hDk).2
  · intro k ek hf hDk
    exact hphi k ek hf (T.und k ek hf (setD_no hDk).2)
  · intro k ek hk hf hDk
    exact T.kept k ek hk hf (setD_no hDk).2

/-- One whose order is kept is done. -/
theorem Ctx.grow_eff (C : Ctx P call n b0 ops items pairs ms evs s0 h0) {i : Nat} (T : DState P n b0 evs s0 h0 B φ0 hb w0 D S i X φ L a w) {e : Ev} (he : evs[i]? = some e) (hef : isEf e.ao = true)
    {S' : Env} {φ' : Phi} {L' : Nat → Nat} {a' : Act} {w' : World} (hrel : In B n φ0 hb w0 φ' L' S' (hAt h0 evs (i + 1)) a' w') (S1 : Step1 φ (hAt h0 evs i) w φ' (hAt h0 evs (i + 1)) w') (hloc : S'.locs = lAt s0.locs evs (i + 1))
    (hview : ∀ t, S'.view t = if opDst e.ao = some t then e.rec' else S.view t) : ∃ X', DState P n b0 evs s0 h0 B φ0 hb w0 (setD D i) S' (i + 1) X' φ' L' a' w' := by
  have hlt : i < evs.length := (List.getElem?_eq_some_iff.1 he).1
  obtain ⟨h1, h2⟩ := C.seen_set T he hview
  have hni : ∀ k ek, FlAt evs k ek → k ≠ i := fun k ek hk hh => by
    subst hh
    have : ek = e := by have := hk.1; rw [he] at this; cases this; rfl
    subst this
    have h := hk.2.1
    simp only [isEf, h, Bool.not_true, Bool.and_false] at hef
    cases hef
  let A := hAt h0 evs i
  let A' := hAt h0 evs (i + 1)
  let p : Nat → Prop := fun b => ∃ k ek, i + 1 ≤ k ∧ FlAt evs k ek ∧ slot b0 ek = b
  have HX := T.rel.rel.heap
  have hnx : X.next = A.next := T.fill.next
  have hpb : ∀ b, b < hb.next → ¬ p b := fun b hlt ⟨k', e', _, h3, h4⟩ => by have := (T.ids k' e' h3).1; omega
  -- a name held ready for later: its place in what the world holds
  have hsl : ∀ b, p b → b < A.next ∧ A.blk b = none := fun b ⟨k, ek, h3, h4, h5⟩ => by subst h5; exact ⟨(T.ids k ek h4).2, T.cold k ek (by omega) h4⟩
  have hslX : ∀ b x L', p b → X.blk b = some x → φ' b = some L' → φ b = some L' := by
    intro b x L' hp hx hL
    obtain ⟨k, ek, h3, h4, h5⟩ := hp
    cases hφ : φ b with
    | some L0 => have := S1.ext b L0 hφ; rw [hL] at this; cases this; rfl
    | none => have := (S1.new b L' hφ hL).1; have := (T.ids k ek h4).2; subst h5; omega
  -- what lives in the order of the text lives in what the world holds
  have hAX : ∀ b x, A.blk b = some x → X.blk b = some x := by
    intro b x hx
    rw [T.fill.rest b]
    · exact hx
    · intro k ek hk hf hh
      subst hh
      rw [T.cold k ek hk hf] at hx
      cases hx
  -- a block that lives behind the effect: it was there, or it is new
  have hcases : ∀ b x L', A'.blk b = some x → φ' b = some L' → (∃ y, φ b = some L' ∧ X.blk b = some y ∧ y.rw = x.rw) ∨ (φ b = none ∧ (w.heap.size ≤ L'.blk ∨ ∃ b1 x1 L1, X.blk b1 = some x1 ∧ A.blk b1 = some x1 ∧ x1.rw = true ∧ φ b1 = some L1 ∧ L1.blk = L'.blk)) := by
    intro b x L' hx hL
    cases hφ : φ b with
    | some L0 =>
      have := S1.ext b L0 hφ
      rw [hL] at this
      cases this
      have hbn : b < A.next := by have := (HX.dom b L' hφ).1; rw [hnx] at this; exact this
      obtain ⟨y, hy, hrw⟩ := S1.old b x hbn hx
      exact .inl ⟨y, rfl, hAX b y hy, hrw⟩
    | none =>
      obtain ⟨_, hn⟩ := S1.new b L' hφ hL
      refine .inr ⟨rfl, ?_⟩
      rcases hn with hn | ⟨b1, x1, L1, g1, g2, g3, g4⟩
      · exact .inl hn
      · exact .inr ⟨b1, x1, L1, hAX b1 x1 g1, g1, g2, g3, g4⟩
  have hApart : ∀ b b' x x' L1 L2, p b → ¬ p b' → X.blk b = some x → A'.blk b' = some x' → (x.rw = true ∨ x'.rw = true) → φ' b = some L1 → φ' b' = some L2 → L1.blk ≠ L2.blk := by
    intro b b' x x' L1 L2 hpb1 hpb2 hx hx' hrw p1 p2
    have q1 := hslX b x L1 hpb1 hx p1
    have hbb : ∀ b1 x1, A.blk b1 = some x1 → b1 ≠ b := fun b1 x1 g hh => by subst hh; rw [(hsl _ hpb1).2] at g; cases g
    rcases hcases b' x' L2 hx' p2 with ⟨y, q2, hy, hyr⟩ | ⟨q2, hn⟩
    · have hne : b ≠ b' := fun hh => hpb2 (hh ▸ hpb1)
      rcases hrw with hrw | hrw
      · exact HX.apart b b' x y L1 L2 hne hx hy hrw q1 q2
      · exact fun hh => HX.apart b' b y x L2 L1 (Ne.symm hne) hy hx (by rw [hyr]; exact hrw) q2 q1 hh.symm
    · rcases hn with hn | ⟨b1, x1, L3, g1, g1', g2, g3, g4⟩
      · have := (HX.dom b L1 q1).2
        omega
      · rw [← g4]
        exact fun hh => HX.apart b1 b x1 x L3 L1 (hbb b1 x1 g1') g1 hx g2 g3 q1 hh.symm
  have I' := hrel.rel.heap
  have hX' : HRel φ' (mix p X A') w' := by
    refine ⟨fun b L' hL => I'.dom b L' hL, ?_, ?_, ?_, I'.pin⟩
    · intro b x hx
      show b < A'.next
      by_cases hpb' : p b
      · exact Nat.lt_of_lt_of_le (hsl b hpb').1 S1.next
      · rw [mix_no hpb'] at hx
        exact I'.live b x hx
    · intro b x L' hx hL
      by_cases hpb' : p b
      · rw [mix_yes hpb'] at hx
        have hφ := hslX b x L' hpb' hx hL
        obtain ⟨c1, t1, fz1, g1, g2, g3, g4, g5⟩ := HX.blk b x L' hx hφ
        have hsame : w'.heap[L'.blk]? = w.heap[L'.blk]? := by
          refine S1.frame L'.blk b L' (HX.dom b L' hφ).2 hφ rfl fun b1 x1 L1 k1 k2 k3 => ?_
          have hne : b1 ≠ b := fun hh => by subst hh; rw [(hsl _ hpb').2] at k1; cases k1
          exact HX.apart b1 b x1 x L1 L' hne (hAX b1 x1 k1) hx k2 k3 hφ
        exact ⟨c1, t1, fz1, by rw [hsame]; exact g1, g2, g3, g4, fun i v hv => by
          obtain ⟨u, u1, u2, u3⟩ := g5 i v hv
          exact ⟨u, u1, VRel.ext S1.ext v u2, u3⟩⟩
      · rw [mix_no hpb'] at hx
        exact I'.blk b x L' hx hL
    · intro b b' x x' L1 L2 hne hx hx' hrw p1 p2
      by_cases hpb1 : p b
      · rw [mix_yes hpb1] at hx
        by_cases hpb2 : p b'
        · rw [mix_yes hpb2] at hx'
          exact HX.apart b b' x x' L1 L2 hne hx hx' hrw (hslX b x L1 hpb1 hx p1) (hslX b' x' L2 hpb2 hx' p2)
        · rw [mix_no hpb2] at hx'
          exact hApart b b' x x' L1 L2 hpb1 hpb2 hx hx' (.inl hrw) p1 p2
      · rw [mix_no hpb1] at hx
        by_cases hpb2 : p b'
        · rw [mix_yes hpb2] at hx'
          exact fun hh => hApart b' b x' x L2 L1 hpb2 hpb1 hx' hx (.inr hrw) p2 p1 hh.symm
        · rw [mix_no hpb2] at hx'
          exact I'.apart b b' x x' L1 L2 hne hx hx' hrw p1 p2
  have hid : ∀ k ek, FlAt evs k ek → slot b0 ek < A.next := fun k ek hf => (T.ids k ek hf).2
  refine ⟨mix p X A', ⟨hlt, ?_, ?_, ⟨rfl, ?_, ?_, ?_⟩, ⟨⟨hX', hrel.rel.size, hrel.rel.defers, hrel.rel.vals, hrel.rel.lads, hrel.rel.locs, hrel.rel.inj⟩, hrel.step.sub rfl fun b hb' => mix_no (hpb b hb'), hrel.base, hrel.dom⟩, ?_, ?_, ?_, ?_, ?_, hloc, h1, h2⟩⟩
  · intro j ej hj hej hefj
    unfold setD
    split
    · rfl
    · exact T.done j ej (by omega) hej hefj
  · intro j ej hj hej hefj
    rw [setD_ne (by omega)]
    exact T.todo j ej (by omega) hej hefj
  · intro k ek hk hf hDk
    rw [mix_yes ⟨k, ek, hk, hf, rfl⟩]
    rw [setD_ne (hni k ek hf)] at hDk
    exact T.fill.inn k ek (by omega) hf hDk
  · intro k ek hk hf hDk
    rw [mix_yes ⟨k, ek, hk, hf, rfl⟩]
    exact T.fill.out k ek (by omega) hf (setD_no hDk).2
  · intro b hb'
    exact mix_no fun ⟨k, ek, g1, g2, g3⟩ => hb' k ek g1 g2 g3
  · intro k ek hf
    exact ⟨(T.ids k ek hf).1, Nat.lt_of_lt_of_le (hid k ek hf) S1.next⟩
  · intro k ek hf hDk
    have h3 := T.und k ek hf (setD_no hDk).2
    cases hh : φ' (slot b0 ek) with
    | none => rfl
    | some L' => have h4 := (S1.new _ _ h3 hh).1; have h5 := hid k ek hf; exact absurd h5 (by show ¬ slot b0 ek < (hAt h0 evs i).next; omega)
  · intro k ek hk hf
    cases hh : (hAt h0 evs (i + 1)).blk (slot b0 ek) with
    | none => rfl
    | some x =>
      obtain ⟨y, hy, _⟩ := S1.old _ x (hid k ek hf) hh
      rw [T.cold k ek (by omega) hf] at hy
      cases hy
  · intro k ek hk hf
    have : k ≠ i := hni k ek hf
    exact T.born k ek (by omega) hf
  · intro k ek hk hf hDk
    have hki : k ≠ i := hni k ek hf
    have h3 := (setD_no hDk).2
    rw [S1.keep _ (hid k ek hf) (T.und k ek hf h3)]
    exact T.kept k ek (by omega) hf h3

/-- A block is made. -/
theorem Ctx.grow_fl (C : Ctx P call n b0 ops items pairs ms evs s0 h0) (T : DState P n b0 evs s0 h0 B φ0 hb w0 D S c X φ L a w) {i : Nat} {e : Ev} (hf : FlAt evs i e) (hi : D i = false) {d : Nat} {v : AVal} {u : Value} {cs : List AVal} {cc : Array Value} {t : TypeId} (hd : d < n)
    (hdst : opDst e.ao = some d) (hrec : e.rec' = (v, none)) (hinit : e.h'.blk (slot b0 e) = some ⟨cs, true⟩) (hv : VRel (φ.set (slot b0 e) ⟨w.heap.size, 0, cc.size⟩) v u)
    (hH : HRel (φ.set (slot b0 e) ⟨w.heap.size, 0, cc.size⟩) (X.setBlk (slot b0 e) (some ⟨cs, true⟩)) (w.alloc (.cells cc t))) :
    DState P n b0 evs s0 h0 B φ0 hb w0 (setD D i) (S.set d v) c (X.setBlk (slot b0 e) (some ⟨cs, true⟩)) (φ.set (slot b0 e) ⟨w.heap.size, 0, cc.size⟩) L (a.put (some d) u) (w.alloc (.cells cc t)) := by
  have hview : ∀ q, (S.set d v).view q = if opDst e.ao = some q then e.rec' else S.view q := by
    intro q
    rw [hdst, hrec]
    by_cases hq : d = q
    · subst hq
      simp [Env.view, Env.set, Env.get, lookA_drop, look_cons]
    · have hq' : q ≠ d := fun e => hq e.symm
      simp [Env.view, Env.set, Env.get, lookA_drop, look_cons, hq, hq']
  obtain ⟨h1, h2⟩ := C.seen_set T hf.1 hview
  have hnone := T.und i e hf hi
  have hext : Ext φ (φ.set (slot b0 e) ⟨w.heap.size, 0, cc.size⟩) := Phi.set_ext hnone
  have hnef : isEf e.ao = false := by simp [isEf, hf.2.1]
  have hold : ∀ k, k < w.heap.size → (w.alloc (.cells cc t)).heap[k]? = w.heap[k]? := by
    intro k hk
    show (w.heap.push (.cells cc t))[k]? = _
    rw [Array.getElem?_push, if_neg (by omega)]
  have hsz : (w.alloc (.cells cc t)).heap.size = w.heap.size + 1 := by show (w.heap.push _).size = _; simp
  have R := T.rel.rel
  have hphi : ∀ b L', (φ.set (slot b0 e) ⟨w.heap.size, 0, cc.size⟩) b = some L' → (b = slot b0 e ∧ L'.blk = w.heap.size) ∨ φ b = some L' := by
    intro b L' hb
    unfold Phi.set at hb
    split at hb
    · cases hb; exact .inl ⟨‹_›, rfl⟩
    · exact .inr hb
  have hC : CRel B n (φ.set (slot b0 e) ⟨w.heap.size, 0, cc.size⟩) L S (X.setBlk (slot b0 e) (some ⟨cs, true⟩)) a (w.alloc (.cells cc t)) := by
    refine ⟨hH, R.size, R.defers, fun q hq => VRel.ext hext _ (R.vals q hq), R.lads, ?_, R.inj⟩
    intro l lc hl
    obtain ⟨g1, g2, g3, c2, e2, g4, g5, g6⟩ := R.locs l lc hl
    refine ⟨g1, by omega, ?_, c2, e2, by rw [hold _ g2]; exact g4, VRels.ext hext _ g5, g6⟩
    intro b L' hb
    rcases hphi b L' hb with ⟨_, hh⟩ | hb
    · omega
    · exact g3 b L' hb
  have hbid := (T.ids i e hf).1
  have St := T.rel.step
  have hS : Step φ0 hb w0 (φ.set (slot b0 e) ⟨w.heap.size, 0, cc.size⟩) (X.setBlk (slot b0 e) (some ⟨cs, true⟩)) (w.alloc (.cells cc t)) := by
    refine ⟨St.ext.trans hext, St.next, ?_, ?_, by have := St.size; omega, ?_, ?_, St.os, St.tape, St.output⟩
    · intro b x' hb' hx
      rw [Heap.setBlk_other _ _ (by omega)] at hx
      exact St.old b x' hb' hx
    · intro b L' hb1 hb2
      rcases hphi b L' hb2 with ⟨hh, hl⟩ | hb2
      · exact ⟨by omega, .inl (by have := St.size; omega)⟩
      · exact St.new b L' hb1 hb2
    · intro b hb' hp
      rw [Heap.setBlk_other _ _ (by omega)]
      exact St.keep b hb' hp
    · intro k hk hfree
      rw [hold k (by have := St.size; omega)]
      exact St.frame k hk hfree
  have hnk : ∀ k ek, FlAt evs k ek → k ≠ i → slot b0 ek ≠ slot b0 e := fun k ek hk hne => C.slot_ne hk hf hne
  refine ⟨T.le, ?_, ?_, ⟨T.fill.next, ?_, ?_, ?_⟩, ⟨hC.set hd hv, hS, T.rel.base, T.rel.dom⟩, T.ids, ?_, T.cold, T.born, ?_, T.locs, h1, h2⟩
  · intro j ej hj hej hefj
    unfold setD
    split
    · rfl
    · exact T.done j ej hj hej hefj
  · intro j ej hj hej hefj
    have hne : j ≠ i := fun hh => by
      subst hh
      rw [hf.1] at hej
      cases hej
      rw [hnef] at hefj; cases hefj
    rw [setD_ne hne]
    exact T.todo j ej hj hej hefj
  · intro k ek hk hfk hDk
    by_cases hki : k = i
    · subst hki
      have : ek = e := by have := hfk.1; rw [hf.1] at this; cases this; rfl
      subst this
      rw [Heap.setBlk_at, hinit]
    · rw [setD_ne hki] at hDk
      rw [Heap.setBlk_other _ _ (hnk k ek hfk hki)]
      exact T.fill.inn k ek hk hfk hDk
  · intro k ek hk hfk hDk
    obtain ⟨hki, hDk⟩ := setD_no hDk
    rw [Heap.setBlk_other _ _ (hnk k ek hfk hki)]
    exact T.fill.out k ek hk hfk hDk
  · intro b hb'
    by_cases hbs : b = slot b0 e
    · subst hbs
      rw [Heap.setBlk_at, ← hinit]
      have hic : i < c := by
        rcases Nat.lt_or_ge i c with h | h
        · exact h
        · exact (hb' i e h hf rfl).elim
      exact (T.kept i e hic hf hi).symm
    · rw [Heap.setBlk_other _ _ hbs]
      exact T.fill.rest b hb'
  · intro k ek hfk hDk
    obtain ⟨hki, hDk⟩ := setD_no hDk
    unfold Phi.set
    rw [if_neg (hnk k ek hfk hki)]
    exact T.und k ek hfk hDk
  · intro k ek hk hfk hDk
    exact T.kept k ek hk hfk (setD_no hDk).2

/-- What the order of the text has where the run stands: the world holds it. -/
theorem Ctx.at_text (_C : Ctx P call n b0 ops items pairs ms evs s0 h0) (T : DState P n b0 evs s0 h0 B φ0 hb w0 D S c X φ L a w) : In B n φ0 hb w0 φ L S (hAt h0 evs c) a w := by
  have key : ∀ b x, (hAt h0 evs c).blk b = some x → X.blk b = some x := by
    intro b x hx
    rw [T.fill.rest b]
    · exact hx
    · intro k ek hk hf hh
      subst hh
      rw [T.cold k ek hk hf] at hx
      cases hx
  refine T.rel.sub T.fill.next.symm ?_ (fun b x _ hx _ => key b x hx) ?_
  · intro b x hx
    have := T.rel.rel.heap.live b x (key b x hx)
    rw [T.fill.next] at this
    exact this
  · intro b hlt
    exact (T.fill.rest b fun k ek _ hf hh => by have := (T.ids k ek hf).1; omega).symm

/-- What is read: whose block it is, and that it is there. -/
theorem Ctx.rd_facts (C : Ctx P call n b0 ops items pairs ms evs s0 h0) (T : DState P n b0 evs s0 h0 B φ0 hb w0 D S c X φ L a w) {i : Nat} {e : Ev} {o : Oper} (he : evs[i]? = some e) (hon : e.on = true) (hne : isEff e.ao = false) (hchk : chkOp P o.op e.ao = true)
    (hop : ∀ x ∈ aoOpds e.ao, S.lad x = e.s.lad x ∧ S.ev x = e.s.ev x) : (∀ b off n, e.logv = some (.rd b off n) → φ b ≠ none) ∧ (∀ b off n, e.logv = some (.rd b off n) → (hAt h0 evs i).rd b off n ≠ none) := by
  have hok := C.at he
  have hs := hok.step hon
  have hh := hok.h hon
  have hboth : ∀ b off n, e.logv = some (.rd b off n) → φ b ≠ none ∧ e.h.rd b off n ≠ none := by
    intro b off m hl
    unfold Ev.logv logOf at hl
    cases hao : e.ao <;> rw [hao] at hl hne hs hchk hop <;> first | (cases hl; done) | (cases hne; done) | skip
    · rename_i d cc x
      cases cc <;> first | (cases hl; done) | (cases hne; done) | skip
      simp only at hl
      obtain ⟨src, dst, x', hop', hc⟩ := inv_conv hchk
      simp only [Bool.and_eq_true] at hc
      have hv := opd_rel T.rel.rel hc.1
      rw [(hop x (by simp [aoOpds])).2] at hv
      simp only [stepR, Option.bind_eq_some_iff] at hs
      obtain ⟨r, hr, _⟩ := hs
      cases hx : e.s.ev x <;> rw [hx] at hl hv hr <;> simp only [logBs] at hl <;> first | (cases hl; done) | skip
      cases hl
      obtain ⟨L', a', c', h1, _⟩ := vrel_slice.1 hv
      refine ⟨by rw [h1]; simp, fun hn => ?_⟩
      simp [aConv, hn] at hr
    · rename_i d agg m' x
      simp only at hl
      obtain ⟨t, x', hop', hc⟩ := inv_load hchk
      simp only [Bool.and_eq_true] at hc
      have hv := opd_rel T.rel.rel hc.1
      rw [(hop x (by simp [aoOpds])).2] at hv
      simp only [stepR] at hs
      cases hlad : e.s.lad x with
      | some p => rw [hlad] at hl; cases hl
      | none =>
        rw [hlad] at hl hs
        simp only [Option.bind_eq_some_iff] at hs
        obtain ⟨cs, hcs, _⟩ := hs
        cases hx : e.s.ev x <;> rw [hx] at hl hv hcs <;> simp only [logRd] at hl <;> first | (cases hl; done) | skip
        cases hl
        obtain ⟨L', h1, _⟩ := vrel_ptr.1 hv
        refine ⟨by rw [h1]; simp, fun hn => ?_⟩
        simp only [aLoad, hn] at hcs
        cases hcs
  exact ⟨fun b off n hl => (hboth b off n hl).1, fun b off n hl => by rw [← hh]; exact (hboth b off n hl).2⟩

/-- One operation that is ready. -/
theorem Ctx.one (hcall : CallOk P call) (C : Ctx P call n b0 ops items pairs ms evs s0 h0) (hD : Closed ops D) (T : DState P n b0 evs s0 h0 B φ0 hb w0 D S c X φ L a w) {i : Nat} {e : Ev} {o : Oper} (he : evs[i]? = some e) (ho : ops[i]? = some o) (hi : D i = false)
    (hr : ∀ e ∈ o.after.toList, Region.binds .any e = true → D e.on = true) (Q : Exit → Act → World → Prop) (K : Act → World → Prop)
    (hK : ∀ S' c' X' φ' L' a' w', DState P n b0 evs s0 h0 B φ0 hb w0 (setD D i) S' c' X' φ' L' a' w' → K a' w') : wpOp P ops Q i K a w := by
  have hlt : i < evs.length := (List.getElem?_eq_some_iff.1 he).1
  have hok := C.at he
  have hag := fun t ht => C.agree hD T he ho hi hr (t := t) ht
  obtain ⟨o', ho', hdst, hdn, hchk, hgd⟩ := operOkF_spec (C.oper i e he)
  rw [C.idx i e he, ho] at ho'
  cases ho'
  unfold wpOp
  rw [ho]
  simp only
  have hoff : e.on = false → Region.wanted o (yielded ops a.tmps) = false := by
    intro hon
    rcases hgd with ⟨h1, h2⟩ | ⟨j, t, want, h1, h2, h3⟩
    · have := hok.free h2
      rw [hon] at this; cases this
    · rw [wanted_guard h1 h3]
      rcases hok.guard t want h2 with ⟨_, h5⟩ | ⟨h5, _⟩
      · rw [hon] at h5; cases h5
      · have hv := hag t (by rw [h2]; simp [gTmp])
        rw [← hv] at h5
        have hrel : ∀ v, S.view t = (v, none) → VRel φ v (a.tmps.getD t undef) := by
          intro v hh
          have := get_of_view hh
          have h6 := T.rel.rel.get t
          rw [this.1] at h6
          exact h6
        rcases h5 with h5 | h5
        · have h6 := hrel _ h5
          unfold VRel at h6
          rw [getD_some h6 (by intro hh; cases hh)]
          cases want <;> rfl
        · have h6 := hrel _ h5
          unfold skipV at h6
          obtain ⟨vs, h7, _⟩ := vrel_tuple.1 h6
          cases hx : a.tmps[t]? with
          | none => rfl
          | some x =>
            have : a.tmps.getD t undef = x := by rw [Array.getD_eq_getD_getElem?, hx]; rfl
            rw [this] at h7
            rw [h7]
  cases hon : e.on with
  | false =>
    rw [hoff hon]
    simp only [Bool.false_eq_true, if_false]
    have hrec : e.rec' = (skipV, none) := by simp [Ev.rec', hon]
    have hnfl : ¬ FlAt evs i e := fun h => by have := h.2.2; rw [hon] at this; cases this
    obtain ⟨_, a2, a3⟩ := at_succ he s0.view h0 s0.locs
    simp only [Ev.updH, Ev.updL, hon, cond_false] at a2 a3
    cases hef : isEf e.ao with
    | false =>
      cases hd : opDst e.ao with
      | none =>
        rw [hdst, hd]
        exact hK _ _ _ _ _ _ _ (C.grow_pure T he hef hnfl T.rel (fun _ _ _ h => h) T.locs (fun t => by rw [hd]; simp))
      | some d =>
        rw [hdst, hd]
        exact hK _ _ _ _ _ _ _ (C.grow_pure T he hef hnfl (S' := S.set d skipV) (T.rel.put (Step.refl _ _ _) T.rel.rel.heap (hdn d hd) skip_rel) (fun _ _ _ h => h) T.locs (fun t => by
          rw [hd, hrec]
          by_cases ht : d = t
          · subst ht
            simp [Env.view, Env.set, Env.get, lookA_drop, look_cons]
          · have ht' : t ≠ d := fun e => ht e.symm
            simp [Env.view, Env.set, Env.get, lookA_drop, look_cons, ht, ht']))
    | true =>
      obtain ⟨hci, hno⟩ := C.next_eff hD T he ho hi hr hef
      obtain ⟨X1, T1⟩ := C.adv T hci (Nat.le_of_lt hlt) hno
      have I1 := C.at_text T1
      rw [← a2] at I1
      have S1 : Step1 φ (hAt h0 evs i) w φ (hAt h0 evs (i + 1)) w := by rw [a2]; exact (Step.refl _ _ _).one
      cases hd : opDst e.ao with
      | none =>
        rw [hdst, hd]
        obtain ⟨X', T'⟩ := C.grow_eff T1 he hef I1 S1 (by rw [a3]; exact T1.locs) (fun t => by rw [hd]; simp)
        exact hK _ _ _ _ _ _ _ T'
      | some d =>
        rw [hdst, hd]
        obtain ⟨X', T'⟩ := C.grow_eff T1 he hef (S' := S.set d skipV) (I1.put (Step.refl _ _ _) I1.rel.heap (hdn d hd) skip_rel) S1 (by rw [a3]; exact T1.locs) (fun t => by
          rw [hd, hrec]
          by_cases ht : d = t
          · subst ht
            simp [Env.view, Env.set, Env.get, lookA_drop, look_cons]
          · have ht' : t ≠ d := fun e => ht e.symm
            simp [Env.view, Env.set, Env.get, lookA_drop, look_cons, ht, ht'])
        exact hK _ _ _ _ _ _ _ T'
  | true =>
    have hwant : Region.wanted o (yielded ops a.tmps) = true := by
      rcases hgd with ⟨h1, h2⟩ | ⟨j, t, want, h1, h2, h3⟩
      · unfold Region.wanted; rw [h1]
      · rw [wanted_guard h1 h3]
        rcases hok.guard t want h2 with ⟨h5, _⟩ | ⟨_, h5⟩
        · have hv := hag t (by rw [h2]; simp [gTmp])
          rw [← hv] at h5
          have := get_of_view h5
          have h6 := T.rel.rel.get t
          rw [this.1] at h6
          unfold VRel at h6
          rw [getD_some h6 (by intro hh; cases hh)]
          simp
        · rw [hon] at h5; cases h5
    rw [hwant]
    simp only [if_true]
    refine .inl ?_
    have hstep := hok.step hon
    have hrec : e.rec' = e.u.view := by simp [Ev.rec', hon]
    have hop : ∀ x ∈ aoOpds e.ao, S.lad x = e.s.lad x ∧ S.ev x = e.s.ev x := fun x hx => lad_of_view fun q hq => by
      have hm : q ∈ aoTmps e.ao := List.mem_filterMap.2 ⟨x, hx, by rw [hq]⟩
      rw [hag q (List.mem_append_right _ hm), hok.opds hon q hm]
    cases hfl : isFl e.ao with
    | true =>
      have hf : FlAt evs i e := ⟨he, hfl, hon⟩
      obtain ⟨d, j, sl, zero, parts, cs, hao, hc, hu, hh⟩ := C.fl_step hf
      have hnone := T.und i e hf hi
      have hlt' : slot b0 e < X.next := by rw [T.fill.next]; exact (T.ids i e hf).2
      have hinit : e.h'.blk (slot b0 e) = some ⟨cs, true⟩ := by rw [hh, Heap.setBlk_at]
      have hd : opDst e.ao = some d := by rw [hao]; rfl
      have hdlt := hdn d hd
      rw [hd] at hdst
      have hmap : (parts.map fun p => (p.1, e.s.ev p.2)) = parts.map fun p => (p.1, S.ev p.2) := List.map_congr_left fun p hp => by
        rw [(hop p.2 (by rw [hao]; simp only [aoOpds]; exact List.mem_map_of_mem hp)).2]
      rw [hmap] at hc
      rw [hao] at hchk
      have hrec' : e.rec' = (flVal sl (slot b0 e), none) := by rw [hrec, hu]; rfl
      cases sl with
      | none =>
        obtain ⟨t, hopx, hz⟩ := inv_alloc (op := o.op) (d := d) (loc := false) (zero := zero) hchk
        simp only [flCells, Option.some.injEq] at hc
        subst hc
        obtain ⟨cc, u, hrun, hv, hH⟩ := alloc_at (P := P) T.rel.rel.heap hnone hlt' hz
        refine wp_value (u := u) (w' := w.alloc (.cells cc t)) (by simp only [execOp, hopx, Sem.run_bind, hrun]; rfl) ?_
        rw [hdst]
        exact hK _ _ _ _ _ _ _ (C.grow_fl T hf hi hdlt hd hrec' hinit hv hH)
      | some el =>
        obtain ⟨es, len⟩ := el
        obtain ⟨t, len', parts', hopx, hcc⟩ := inv_buildSl (op := o.op) (d := d) (zero := zero) (es := es) (len := len) (as := parts) hchk
        simp only [Bool.and_eq_true] at hcc
        obtain ⟨⟨e1, hp⟩, hcc⟩ := hcc
        have e1 := Nat.eq_of_beq_eq_true e1
        subst e1
        simp only [flCells, List.map_map] at hc
        split at hcc
        · rename_i et hut
          simp only [Bool.and_eq_true, sizeIs, decide_eq_true_eq] at hcc
          obtain ⟨cc, u, hrun, hv, hH⟩ := buildSl_at (P := P) T.rel.rel.heap hnone hlt' (fun x y hxy => opd_rel T.rel.rel hxy) hut hcc.1.1.1 hcc.1.1.2 (Nat.eq_of_beq_eq_true hcc.1.2) (Nat.le_of_ble_eq_true hcc.2) hp hc
          refine wp_value (u := u) (w' := w.alloc (.cells cc et)) (by simp only [execOp, hopx, Sem.run_bind, hrun]; rfl) ?_
          rw [hdst]
          exact hK _ _ _ _ _ _ _ (C.grow_fl T hf hi hdlt hd hrec' hinit hv hH)
        · cases hcc
    | false =>
      rw [unFl_of hfl] at hchk
      have hnfl : ¬ FlAt evs i e := fun h => by have := h.2.1; rw [hfl] at this; cases this
      cases hef : isEf e.ao with
      | false =>
        have hne : isEff e.ao = false := by
          simp only [isEf, hfl, Bool.not_false, Bool.and_true] at hef
          exact hef
        obtain ⟨p1, p2, p3⟩ := stepR_pure hne hstep (s' := e.u.app e.s) (k' := e.h')
        obtain ⟨f1, f2⟩ := C.rd_facts T he hon hne hchk hop
        have hSr : stepR call e.g e.ao S X = some (e.u, X) := by
          refine p3 S X (fun x hx => (hop x hx).2) (fun x hx => (hop x hx).1) ?_
          have := C.read_same hD T he ho hi hon hne hr f1 f2
          rw [T.locs, hok.h hon, hok.l hon]
          have hl : logOf e.ao e.s (hAt h0 evs i) (e.u.app e.s) e.h' = e.logv := by unfold Ev.logv; rw [hok.h hon]
          rw [hl]
          exact this
        have hrun : stepOp call e.g e.ao S X (fun s' h' => gate (s' = e.u.app S ∧ h' = X) (some (0, [], h'))) = some (0, [], X) := by
          rw [stepOp_eq, hSr]
          exact gate_pos ⟨rfl, rfl⟩ _
        obtain ⟨s', h', hk, hgood⟩ := stepOp_sound hcall hfl hchk hdst hdn hrun T.rel
        obtain ⟨⟨rfl, rfl⟩, _⟩ := gate_some hk
        refine hgood K Q fun φ' L' a' w' hI S1 => ?_
        refine hK _ _ _ _ _ _ _ (C.grow_pure T he hef hnfl hI ?_ (by rw [p2]; exact T.locs) (fun t => by rw [hrec]; exact view_app hSr t))
        intro k ek hfk hn
        cases hh : φ' (slot b0 ek) with
        | none => rfl
        | some L1 =>
          have h1 := (S1.new _ _ hn hh).1
          have h2 := (T.ids k ek hfk).2
          rw [← T.fill.next] at h2
          omega
      | true =>
        obtain ⟨hci, hno⟩ := C.next_eff hD T he ho hi hr hef
        obtain ⟨X1, T1⟩ := C.adv T hci (Nat.le_of_lt hlt) hno
        have I1 := C.at_text T1
        obtain ⟨_, a2, a3⟩ := at_succ he s0.view h0 s0.locs
        simp only [Ev.updH, Ev.updL, hon, cond_true] at a2 a3
        have hll : S.locs = e.s.locs := by rw [T1.locs, ← hok.l hon]
        have hSr : stepR call e.g e.ao S (hAt h0 evs i) = some (e.u, e.h') := by
          rw [← hok.h hon, stepR_congr (fun x hx => (hop x hx).2) (fun x hx => (hop x hx).1) hll (fun h => by rw [hfl] at h; cases h)]
          exact hstep
        have hrun : stepOp call e.g e.ao S (hAt h0 evs i) (fun s' h' => gate (s' = e.u.app S ∧ h' = e.h') (some (0, [], h'))) = some (0, [], e.h') := by
          rw [stepOp_eq, hSr]
          exact gate_pos ⟨rfl, rfl⟩ _
        obtain ⟨s', h', hk, hgood⟩ := stepOp_sound hcall hfl hchk hdst hdn hrun I1
        obtain ⟨⟨rfl, rfl⟩, _⟩ := gate_some hk
        refine hgood K Q fun φ' L' a' w' hI S1 => ?_
        rw [← a2] at hI S1
        obtain ⟨X', T'⟩ := C.grow_eff T1 he hef hI S1 (by rw [a3]; cases e.u <;> simp [Upd.app, Env.set, Env.setL, Env.newLoc, hll]) (fun t => by rw [hrec]; exact view_app hSr t)
        exact hK _ _ _ _ _ _ _ T'

theorem countP_le {α : Type} (p q : α → Bool) : ∀ (l : List α), (∀ x, q x = true → p x = true) → l.countP q ≤ l.countP p
  | [], _ => Nat.le_refl _
  | x :: l, h => by
    have := countP_le p q l h
    rw [List.countP_cons, List.countP_cons]
    cases hq : q x with
    | false => simp; omega
    | true => rw [h x hq]; simp; omega

theorem countP_lt {α : Type} (p q : α → Bool) : ∀ (l : List α) {x : α}, x ∈ l → p x = true → q x = false → (∀ y, q y = true → p y = true) → l.countP q < l.countP p
  | [], _, hx, _, _, _ => by cases hx
  | y :: l, x, hx, hp, hq, h => by
    rw [List.countP_cons, List.countP_cons]
    rcases List.mem_cons.1 hx with rfl | hx
    · have := countP_le p q l h
      rw [hp, hq]
      simp
      omega
    · have := countP_lt p q l hx hp hq h
      cases hqy : q y with
      | false => simp; omega
      | true => rw [h y hqy]; simp; omega

/-- Any order. -/
theorem Ctx.any (hcall : CallOk P call) (C : Ctx P call n b0 ops items pairs ms evs s0 h0) (Q : Exit → Act → World → Prop) (hQ : ∀ S c X φ L a w D, (∀ i, i < ops.size → D i = true) → DState P n b0 evs s0 h0 B φ0 hb w0 D S c X φ L a w → Q .normal a w) :
    ∀ (fuel : Nat) (listed : Array Bool) (S : Env) (c : Nat) (X : Heap) (φ : Phi) (L : Nat → Nat) (a : Act) (w : World), listed.size = ops.size → (List.range ops.size).countP (fun i => !listed.getD i true) ≤ fuel →
      Closed ops (fun i => listed.getD i false) → DState P n b0 evs s0 h0 B φ0 hb w0 (fun i => listed.getD i false) S c X φ L a w → wpAny P .any ops Q fuel listed a w := by
  have hready : ∀ (listed : Array Bool), listed.size = ops.size → Region.ready .any ops listed = [] → ∀ i, i < ops.size → listed.getD i false = true := by
    intro listed hs hr i
    induction i using Nat.strongRecOn with
    | ind i ih =>
      intro hi
      cases hl : listed.getD i false with
      | true => rfl
      | false =>
        exfalso
        have hl' : listed.getD i true = false := by
          rw [Array.getD_eq_getD_getElem?] at hl ⊢
          have : i < listed.size := by omega
          rw [Array.getElem?_eq_getElem this] at hl ⊢
          exact hl
        have : i ∈ Region.ready .any ops listed := by
          unfold Region.ready
          rw [List.mem_filter]
          refine ⟨List.mem_range.2 hi, ?_⟩
          simp only [hl', Bool.not_false, Bool.true_and]
          rw [Array.getElem?_eq_getElem hi]
          simp only [Option.map_some, Option.getD_some]
          rw [Array.all_eq_true']
          intro e he
          cases hbd : Region.binds .any e with
          | false => rfl
          | true =>
            have hlt := C.back i ops[i] (Array.getElem?_eq_getElem hi) e (by simpa using he) hbd
            simp only [Bool.not_true, Bool.false_or]
            exact ih e.on hlt (by omega)
        rw [hr] at this
        cases this
  intro fuel
  induction fuel with
  | zero =>
    intro listed S c X φ L a w hs hc hD T
    have hall : ∀ i, i < ops.size → listed.getD i true = true := by
      intro i hi
      have : (List.range ops.size).countP (fun i => !listed.getD i true) = 0 := by omega
      rw [List.countP_eq_zero] at this
      have := this i (List.mem_range.2 hi)
      simpa using this
    have hall' : ∀ i, i < ops.size → listed.getD i false = true := by
      intro i hi
      have := hall i hi
      rw [Array.getD_eq_getD_getElem?] at this ⊢
      have h2 : i < listed.size := by omega
      rw [Array.getElem?_eq_getElem h2] at this ⊢
      exact this
    refine ⟨?_, hQ S c X φ L a w _ hall' T⟩
    unfold Region.ready
    rw [List.filter_eq_nil_iff]
    intro i hi
    rw [hall i (List.mem_range.1 hi)]
    simp
  | succ fuel ih =>
    intro listed S c X φ L a w hs hc hD T
    refine ⟨fun hr => hQ S c X φ L a w _ (hready listed hs hr) T, fun i hi => ?_⟩
    unfold Region.ready at hi
    rw [List.mem_filter] at hi
    obtain ⟨h1, h2⟩ := hi
    have hilt := List.mem_range.1 h1
    simp only [Bool.and_eq_true, Bool.not_eq_true'] at h2
    obtain ⟨h2, h3⟩ := h2
    rw [Array.getElem?_eq_getElem hilt] at h3
    simp only [Option.map_some, Option.getD_some] at h3
    rw [Array.all_eq_true'] at h3
    have hil : i < listed.size := by omega
    have hiF : listed.getD i false = false := by
      rw [Array.getD_eq_getD_getElem?] at h2 ⊢
      rw [Array.getElem?_eq_getElem hil] at h2 ⊢
      exact h2
    obtain ⟨e, he⟩ : ∃ e, evs[i]? = some e := ⟨_, List.getElem?_eq_getElem (by rw [C.len]; exact hilt)⟩
    have hr : ∀ e ∈ ops[i].after.toList, Region.binds .any e = true → (fun i => listed.getD i false) e.on = true := by
      intro q hq hbq
      have := h3 q (by simpa using hq)
      rw [hbq] at this
      simpa using this
    have hset : (fun j => (listed.setIfInBounds i true).getD j false) = setD (fun j => listed.getD j false) i := by
      funext j
      unfold setD
      rw [Array.getD_eq_getD_getElem?, Array.getElem?_setIfInBounds]
      by_cases hji : i = j
      · subst hji
        simp [hil]
      · rw [if_neg hji, if_neg (fun h => hji h.symm), ← Array.getD_eq_getD_getElem?]
    refine C.one hcall hD T he (Array.getElem?_eq_getElem hilt) hiF hr Q _ fun S' c' X' φ' L' a' w' T' => ?_
    refine ih (listed.setIfInBounds i true) S' c' X' φ' L' a' w' (by simpa using hs) ?_ ?_ ?_
    · have hlt : (List.range ops.size).countP (fun j => !(listed.setIfInBounds i true).getD j true) < (List.range ops.size).countP (fun j => !listed.getD j true) := by
        refine countP_lt (fun j => !listed.getD j true) (fun j => !(listed.setIfInBounds i true).getD j true) _ (List.mem_range.2 hilt) ?_ ?_ ?_
        · simp [h2]
        · rw [Array.getD_eq_getD_getElem?, Array.getElem?_setIfInBounds]
          simp [hil]
        · intro j hj
          rw [Array.getD_eq_getD_getElem?, Array.getElem?_setIfInBounds] at hj
          by_cases hji : i = j
          · subst hji
            simp [hil] at hj
          · rw [if_neg hji, ← Array.getD_eq_getD_getElem?] at hj
            exact hj
      omega
    · rw [hset]; exact closed_set hD (Array.getElem?_eq_getElem hilt) hr
    · rw [hset]; exact T'

end
end Go.Fw
