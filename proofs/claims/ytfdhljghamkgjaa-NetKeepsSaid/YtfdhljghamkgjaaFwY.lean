/- Regions whose order is open: any order that the regions allow does what the order of the text does. -/
import Derived.Test.YtfdhljghamkgjaaFwX
import Derived.Test.YtfdhljghamkgjaaFwR
import Derived.Orders
namespace Go.Fw
set_option linter.unusedSimpArgs false
set_option linter.unusedVariables false

mutual
theorem beq_eq : ∀ (a b : AVal), AVal.beq a b = true → a = b
  | .undef, b, h => by cases b <;> simp_all [AVal.beq]
  | .bool x, b, h => by cases b <;> simp_all [AVal.beq]
  | .int k x, b, h => by cases b <;> simp_all [AVal.beq]
  | .str x, b, h => by cases b <;> simp_all [AVal.beq]
  | .nilPtr, b, h => by cases b <;> simp_all [AVal.beq]
  | .ptr x y, b, h => by
    cases b <;> simp only [AVal.beq, Bool.false_eq_true, Bool.and_eq_true] at h
    rw [Nat.eq_of_beq_eq_true h.1, Nat.eq_of_beq_eq_true h.2]
  | .nilSlice, b, h => by cases b <;> simp_all [AVal.beq]
  | .slice x1 x2 x3 x4 x5 x6, b, h => by
    cases b <;> simp only [AVal.beq, Bool.false_eq_true, Bool.and_eq_true, beq_iff_eq] at h
    obtain ⟨⟨⟨⟨⟨h1, h2⟩, h3⟩, h4⟩, h5⟩, h6⟩ := h
    rw [Nat.eq_of_beq_eq_true h1, Nat.eq_of_beq_eq_true h2, Nat.eq_of_beq_eq_true h3, Nat.eq_of_beq_eq_true h4, Nat.eq_of_beq_eq_true h5, h6]
  | .func f c, b, h => by
    cases b <;> simp only [AVal.beq, Bool.false_eq_true, Bool.and_eq_true] at h
    rw [Nat.eq_of_beq_eq_true h.1, beqL_eq _ _ h.2]
  | .nilFunc, b, h => by cases b <;> simp_all [AVal.beq]
  | .iface t v, b, h => by
    cases b <;> simp only [AVal.beq, Bool.false_eq_true, Bool.and_eq_true] at h
    rw [Nat.eq_of_beq_eq_true h.1, beq_eq _ _ h.2]
  | .nilIface, b, h => by cases b <;> simp_all [AVal.beq]
  | .agg c, b, h => by
    cases b <;> simp only [AVal.beq, Bool.false_eq_true] at h
    rw [beqL_eq _ _ h]
  | .tuple c, b, h => by
    cases b <;> simp only [AVal.beq, Bool.false_eq_true] at h
    rw [beqL_eq _ _ h]
theorem beqL_eq : ∀ (a b : List AVal), AVal.beqL a b = true → a = b
  | [], b, h => by cases b <;> simp_all [AVal.beqL]
  | x :: xs, b, h => by
    cases b with
    | nil => simp [AVal.beqL] at h
    | cons y ys =>
      simp only [AVal.beqL, Bool.and_eq_true] at h
      rw [beq_eq _ _ h.1, beqL_eq _ _ h.2]
end

theorem beqO_eq {a b : Option (List AVal)} (h : beqO a b = true) : a = b := by
  unfold beqO at h
  split at h
  · rw [beqL_eq _ _ h]
  · cases h

theorem alloc_rd {h : Heap} {cs : List AVal} {b : Nat} (hb : b ≠ h.next) (off n : Nat) : (h.alloc cs).rd b off n = h.rd b off n := by
  unfold Heap.rd Heap.alloc
  have : Nat.beq b h.next = false := by
    cases hh : Nat.beq b h.next with
    | false => rfl
    | true => exact (hb (Nat.eq_of_beq_eq_true hh)).elim
  simp [this]

/-- An effect that a reading stands apart from leaves what is read. -/
theorem eff_same {call : Call} {e : Ev} (hs : stepR call e.g e.ao e.s e.h = some (e.u, e.h')) (he : isEff e.ao = true) {a : Option Log} (hp : pairOk a e.logv = true) : sameRd a e.s.locs e.h (e.u.app e.s).locs e.h' := by
  obtain ⟨gd, i, ao, on, g, s, h, u, h'⟩ := e
  simp only at hs he hp ⊢
  have hal : ∀ cs : List AVal, h' = h.alloc cs → (u.app s).locs = s.locs → pairOk a (some (.al h.next)) = true → sameRd a s.locs h (u.app s).locs h' := by
    intro cs h1 h2 h3
    unfold sameRd
    split
    · rename_i b off n
      simp only [pairOk, stays, Bool.not_eq_true'] at h3
      rw [h1, alloc_rd]
      intro hh
      rw [hh] at h3
      simp at h3
    · rw [h2]
    · trivial
  have hlal : ∀ (d : Nat) (cs : List AVal), h' = h → u = .newLoc d cs → pairOk a (some (.lal d)) = true → sameRd a s.locs h (u.app s).locs h' := by
    intro d cs h1 h2 h3
    subst h1 h2
    unfold sameRd
    split
    · rfl
    · rename_i l off n
      simp only [pairOk, stays, Bool.not_eq_true'] at h3
      have hne : l ≠ d := by
        rintro rfl
        simp at h3
      simp [Upd.app, Env.newLoc, lookB_cons, hne]
    · trivial
  have hef : pairOk a (some (.ef s.locs h (u.app s).locs h')) = true → sameRd a s.locs h (u.app s).locs h' := by
    intro h3
    unfold sameRd
    split
    · simp only [pairOk, stays] at h3
      exact beqO_eq h3
    · simp only [pairOk, stays] at h3
      exact beqO_eq h3
    · trivial
  cases ao with
  | box d loc x =>
    cases loc with
    | true =>
      simp only [stepR] at hs
      cases hc : (!g && s.fresh d) with
      | false => rw [hc] at hs; cases hs
      | true =>
        rw [hc] at hs
        simp only [cond_true, Option.bind_eq_some_iff, Option.some.injEq, Prod.mk.injEq] at hs
        obtain ⟨_, _, h1, h2⟩ := hs
        exact hlal d _ h2.symm h1.symm hp
    | false =>
      simp only [stepR, Option.bind_eq_some_iff, Option.some.injEq, Prod.mk.injEq] at hs
      obtain ⟨_, _, h1, h2⟩ := hs
      exact hal _ h2.symm (by rw [← h1]; rfl) hp
  | alloc d loc zero =>
    cases loc with
    | true =>
      simp only [stepR] at hs
      cases hc : (!g && s.fresh d) with
      | false => rw [hc] at hs; cases hs
      | true =>
        rw [hc] at hs
        simp only [cond_true, Option.some.injEq, Prod.mk.injEq] at hs
        exact hlal d _ hs.2.symm hs.1.symm hp
    | false =>
      simp only [stepR, Option.some.injEq, Prod.mk.injEq] at hs
      exact hal _ hs.2.symm (by rw [← hs.1]; rfl) hp
  | buildSl d zero es len parts =>
    simp only [stepR, Option.bind_eq_some_iff, Option.some.injEq, Prod.mk.injEq] at hs
    obtain ⟨_, _, h1, h2⟩ := hs
    exact hal _ h2.symm (by rw [← h1]; rfl) hp
  | mkSlice d es bytes zero len cap =>
    simp only [stepR, Option.bind_eq_some_iff, Option.some.injEq, Prod.mk.injEq] at hs
    obtain ⟨r, h0, h1, h2⟩ := hs
    unfold aMkSlice at h0
    split at h0
    · split at h0
      · simp only [Option.some.injEq] at h0
        rw [← h0] at h1 h2
        exact hal _ h2.symm (by rw [← h1]; rfl) hp
      · cases h0
    · cases h0
  | conv d c x =>
    cases c with
    | strBytes =>
      simp only [stepR, Option.bind_eq_some_iff, Option.some.injEq, Prod.mk.injEq] at hs
      obtain ⟨r, h0, h1, h2⟩ := hs
      cases hx : s.ev x with
      | str l =>
        rw [hx] at h0
        simp only [aConv, Option.some.injEq] at h0
        rw [← h0] at h1 h2
        exact hal _ h2.symm (by rw [← h1]; rfl) hp
      | _ => rw [hx] at h0; simp [aConv] at h0
    | slBytes => exact hef hp
    | _ => cases he
  | store agg m x v => exact hef hp
  | call d f args => exact hef hp
  | callv d fn args => exact hef hp
  | invoke d tbl recv args => exact hef hp
  | append d es bytes zero zeros sl x => exact hef hp
  | copy d es dst src => exact hef hp
  | clear d zero sl => exact hef hp
  | fl d j sl zero parts =>
    have h0 : pairOk a none = true := hp
    cases a <;> cases h0
  | _ => cases he

/-- Behind what an operation must come, as bits; none where an edge points ahead. -/
def maskOf (acc : List Nat) : List Edge → Option Nat
  | [] => some 0
  | e :: r => match maskOf acc r with
    | some m => bif Region.binds .any e then (match acc[e.on]? with | some q => some (Nat.lor (Nat.lor (Nat.shiftLeft 1 e.on) q) m) | none => none) else some m
    | none => none
def masks : List Oper → List Nat → Option (List Nat)
  | [], acc => some acc
  | o :: r, acc => match maskOf acc o.after.toList with | some m => masks r (acc ++ [m]) | none => none

def bef (ms : List Nat) (j i : Nat) : Bool := Nat.testBit (ms.getD i 0) j

theorem maskOf_spec {acc : List Nat} : ∀ {es : List Edge} {m : Nat}, maskOf acc es = some m → (∀ e ∈ es, Region.binds .any e = true → e.on < acc.length) ∧ ∀ j, Nat.testBit m j = true → ∃ e ∈ es, Region.binds .any e = true ∧ (j = e.on ∨ Nat.testBit (acc.getD e.on 0) j = true)
  | [], m, h => by
    simp only [maskOf, Option.some.injEq] at h
    subst h
    exact ⟨fun e he => (by cases he), fun j hj => (by simp at hj)⟩
  | e :: r, m, h => by
    simp only [maskOf] at h
    split at h
    · rename_i m1 h1
      obtain ⟨i1, i2⟩ := maskOf_spec h1
      cases hb : Region.binds .any e with
      | false =>
        rw [hb] at h
        simp only [cond_false, Option.some.injEq] at h
        subst h
        refine ⟨fun q hq hbq => ?_, fun j hj => ?_⟩
        · rcases List.mem_cons.1 hq with rfl | hq
          · rw [hb] at hbq; cases hbq
          · exact i1 q hq hbq
        · obtain ⟨q, hq, r⟩ := i2 j hj
          exact ⟨q, List.mem_cons_of_mem _ hq, r⟩
      | true =>
        rw [hb] at h
        simp only [cond_true] at h
        split at h
        · rename_i q hq
          simp only [Option.some.injEq] at h
          have hlt : e.on < acc.length := (List.getElem?_eq_some_iff.1 hq).1
          refine ⟨fun p hp hbp => ?_, fun j hj => ?_⟩
          · rcases List.mem_cons.1 hp with rfl | hp
            · exact hlt
            · exact i1 p hp hbp
          · subst h
            have hj' : Nat.testBit (1 <<< e.on ||| q ||| m1) j = true := hj
            rw [Nat.testBit_or, Nat.testBit_or, Nat.one_shiftLeft, Nat.testBit_two_pow] at hj'
            simp only [Bool.or_eq_true, decide_eq_true_eq] at hj'
            rcases hj' with (hj' | hj') | hj'
            · exact ⟨e, List.mem_cons_self, hb, .inl hj'.symm⟩
            · exact ⟨e, List.mem_cons_self, hb, .inr (by rw [List.getD_eq_getElem?_getD, hq]; exact hj')⟩
            · obtain ⟨p, hp, r⟩ := i2 j hj'
              exact ⟨p, List.mem_cons_of_mem _ hp, r⟩
        · cases h
    · cases h

theorem masks_spec : ∀ {os : List Oper} {acc ms : List Nat}, masks os acc = some ms → (∃ t, ms = acc ++ t ∧ t.length = os.length) ∧
    ∀ i o, os[i]? = some o → (∀ e ∈ o.after.toList, Region.binds .any e = true → e.on < acc.length + i) ∧ ∀ j, bef ms j (acc.length + i) = true → ∃ e ∈ o.after.toList, Region.binds .any e = true ∧ (j = e.on ∨ bef ms j e.on = true)
  | [], acc, ms, h => by
    simp only [masks, Option.some.injEq] at h
    exact ⟨⟨[], by simp [h]⟩, fun i o ho => by simp at ho⟩
  | o :: r, acc, ms, h => by
    simp only [masks] at h
    split at h
    · rename_i m hm
      obtain ⟨⟨t, ht, htl⟩, h2⟩ := masks_spec h
      obtain ⟨m1, m2⟩ := maskOf_spec hm
      refine ⟨⟨m :: t, by rw [ht]; simp, by simp [htl]⟩, fun i q hq => ?_⟩
      cases i with
      | zero =>
        simp only [List.getElem?_cons_zero, Option.some.injEq] at hq
        subst hq
        refine ⟨m1, fun j hj => ?_⟩
        have hmi : ms.getD acc.length 0 = m := by rw [ht]; simp [List.getD_eq_getElem?_getD]
        unfold bef at hj
        rw [Nat.add_zero, hmi] at hj
        obtain ⟨e, he, hb, hh⟩ := m2 j hj
        refine ⟨e, he, hb, ?_⟩
        rcases hh with hh | hh
        · exact .inl hh
        · refine .inr ?_
          unfold bef
          have hlt := m1 e he hb
          rw [ht, List.getD_eq_getElem?_getD, List.append_assoc, List.getElem?_append_left hlt, ← List.getD_eq_getElem?_getD]
          exact hh
      | succ i =>
        have := h2 i q (by simpa using hq)
        simp only [List.length_append, List.length_cons, List.length_nil, Nat.zero_add] at this
        rw [show acc.length + (i + 1) = acc.length + 1 + i by omega]
        exact this
    · cases h

def isRd : AOp → Bool
  | .load .. | .conv _ .bytesStr _ => true
  | _ => false

def nodupB : List Nat → Bool
  | [] => true
  | x :: r => !(r.contains x) && nodupB r

def gTmp (gd : Option (Nat × Bool)) : List Nat := match gd with | some (t, _) => [t] | none => []

/-- Each temporary is written once, and whoever names it comes ahead of the writing or behind it. -/
def namesOk (ms : List Nat) (ds : List (Nat × Nat)) (i : Nat) (ts : List Nat) : Bool :=
  ts.all fun t => ds.all fun d => !(Nat.beq d.2 t) || (bif Nat.blt d.1 i then bef ms d.1 i else Nat.blt i d.1 && bef ms i d.1)

def orderedB (ms : List Nat) : List Nat → Bool
  | [] => true
  | x :: r => r.all (fun y => bef ms x y) && orderedB ms r

/-- What keeps its place among the others: what writes, calls, appends. -/
def isEf (o : AOp) : Bool := isEff o && !(isFl o)
def flId : AOp → Option Nat
  | .fl _ j _ _ _ => some j
  | _ => none

def drawOk (P : Program) (n m : Nat) (ops : Array Oper) (items : List AItem) (pairs : List (Nat × Nat)) : Bool :=
  P.follows .mixedOrders && regionOkF P n ops items &&
  match masks ops.toList [], scopeItems [] [] items with
  | some ms, some _ =>
    let fl := flatItems none items
    let ds := fl.filterMap fun x => (opDst x.2.2).map fun d => (x.2.1, d)
    let effs := (fl.filter fun x => isEf x.2.2).map (·.2.1)
    let js := fl.filterMap fun x => flId x.2.2
    let ps := pairs ++ innerPairs items
    nodupB (ds.map (·.2)) && fl.all (fun x => namesOk ms ds x.2.1 (gTmp x.1 ++ aoTmps x.2.2)) && orderedB ms effs &&
    fl.all (fun x => !(isRd x.2.2) || effs.all fun q => bef ms x.2.1 q || bef ms q x.2.1 || ps.any fun p => Nat.beq p.1 x.2.1 && Nat.beq p.2 q) &&
    nodupB js && js.all (fun j => Nat.blt j m)
  | _, _ => false

end Go.Fw
