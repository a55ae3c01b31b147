/- The way that a region's abstract run goes in the order of the text: what each operation saw, and what it changed. -/
import Derived.Test.YtfdhljghamkgjaaFwU
namespace Go.Fw
set_option linter.unusedSimpArgs false
set_option linter.unusedVariables false

abbrev View := AVal × Option (Nat × Nat)
def Env.view (s : Env) (t : Nat) : View := (s.get t, lookA s.lads t)

def Upd.view : Upd → View
  | .set _ v => (v, none)
  | .setL _ l o => (.undef, some (l, o))
  | .newLoc d _ => (.undef, some (d, 0))
  | _ => (.undef, none)

structure Ev where
  gd : Option (Nat × Bool)
  i : Nat
  ao : AOp
  on : Bool
  g : Bool
  s : Env
  h : Heap
  u : Upd
  h' : Heap

namespace Ev
def rec' (e : Ev) : View := bif e.on then e.u.view else (skipV, none)
def updV (e : Ev) (V : Nat → View) : Nat → View := fun t => if opDst e.ao = some t then e.rec' else V t
def updH (e : Ev) (H : Heap) : Heap := bif e.on then e.h' else H
def updL (e : Ev) (l : List (Nat × List AVal)) : List (Nat × List AVal) := bif e.on then (e.u.app e.s).locs else l
def logv (e : Ev) : Option Log := logOf e.ao e.s e.h (e.u.app e.s) e.h'
def key (e : Ev) : Option (Nat × Bool) × Nat × AOp := (e.gd, e.i, e.ao)
end Ev

def aoTmps (o : AOp) : List Nat := (aoOpds o).filterMap fun | .tmp t => some t | .const _ => none

structure EvOk (call : Call) (V : Nat → View) (H : Heap) (l : List (Nat × List AVal)) (e : Ev) : Prop where
  h : e.on = true → e.h = H
  l : e.on = true → e.s.locs = l
  step : e.on = true → stepR call e.g e.ao e.s e.h = some (e.u, e.h')
  opds : e.on = true → ∀ t ∈ aoTmps e.ao, e.s.view t = V t
  guard : ∀ t want, e.gd = some (t, want) → (V t = (.bool want, none) ∧ e.on = true) ∨ ((V t = (.bool !want, none) ∨ V t = (skipV, none)) ∧ e.on = false)
  free : e.gd = none → e.on = true

def EvsOk (call : Call) (V : Nat → View) (H : Heap) (l : List (Nat × List AVal)) : List Ev → Prop
  | [] => True
  | e :: r => EvOk call V H l e ∧ EvsOk call (e.updV V) (e.updH H) (e.updL l) r

def vRun (V : Nat → View) (evs : List Ev) : Nat → View := evs.foldl (fun V e => e.updV V) V
def hRun (H : Heap) (evs : List Ev) : Heap := evs.foldl (fun H e => e.updH H) H
def lRun (l : List (Nat × List AVal)) (evs : List Ev) : List (Nat × List AVal) := evs.foldl (fun l e => e.updL l) l

theorem EvsOk.append {call : Call} : ∀ {as bs : List Ev} {V : Nat → View} {H : Heap} {l : List (Nat × List AVal)}, EvsOk call V H l as → EvsOk call (vRun V as) (hRun H as) (lRun l as) bs → EvsOk call V H l (as ++ bs)
  | [], _, _, _, _, _, h => h
  | _ :: _, _, _, _, _, h, k => ⟨h.1, EvsOk.append h.2 k⟩

theorem EvsOk.at {call : Call} : ∀ {as : List Ev} {e : Ev} {bs : List Ev} {V : Nat → View} {H : Heap} {l : List (Nat × List AVal)}, EvsOk call V H l (as ++ e :: bs) → EvOk call (vRun V as) (hRun H as) (lRun l as) e
  | [], _, _, _, _, _, h => h.1
  | _ :: as, _, _, _, _, _, h => EvsOk.at (as := as) h.2

/-- Which temporaries are no addresses of local blocks for sure; which are gone behind a guard. -/
def nlOpd (nl : List Nat) : AOpd → Bool
  | .const _ => true
  | .tmp t => nl.contains t
def nlOp (nl : List Nat) : AOp → List Nat
  | .mov d x | .nilchk d x | .faddr d _ x | .iaddr d (some _) _ x _ => bif nlOpd nl x then d :: nl else nl.filter (· != d)
  | .box d true _ | .alloc d true _ => nl.filter (· != d)
  | o => (opDst o).toList ++ nl

def idxs (items : List AItem) : List Nat := (flatItems none items).map (·.2.1)

mutual
def scopeItem (drop nl : List Nat) : AItem → Option (List Nat × List Nat)
  | .op _ o => bif (aoTmps o).all (fun t => !drop.contains t) && (opDst o).toList.all (fun t => !drop.contains t) then some (drop, nlOp nl o) else none
  | .guard t _ items ps live =>
    bif !drop.contains t && ps.all (fun p => (idxs items).contains p.1) then
      match scopeItems drop nl items with
      | some (drop1, nl1) => bif live.all fun l => !drop1.contains l then some (drop1 ++ (itemsDsts items).filter (fun d => !live.contains d), nl.filter fun d => !(itemsDsts items).contains d) else none
      | none => none
    else none
def scopeItems (drop nl : List Nat) : List AItem → Option (List Nat × List Nat)
  | [] => some (drop, nl)
  | x :: r => match scopeItem drop nl x with | some (d, n) => scopeItems d n r | none => none
end

mutual
def innerPair : AItem → List (Nat × Nat)
  | .op _ _ => []
  | .guard _ _ items ps _ => ps ++ innerPairs items
def innerPairs : List AItem → List (Nat × Nat)
  | [] => []
  | x :: r => innerPair x ++ innerPairs r
end
theorem innerPairs_op (i : Nat) (o : AOp) (r : List AItem) : innerPairs (.op i o :: r) = innerPairs r := by simp [innerPairs, innerPair]
theorem innerPairs_guard (t : Nat) (w : Bool) (items : List AItem) (ps : List (Nat × Nat)) (live : List Nat) (r : List AItem) : innerPairs (.guard t w items ps live :: r) = ps ++ innerPairs items ++ innerPairs r := by simp [innerPairs, innerPair]

def PairOk (evs : List Ev) (p : Nat × Nat) : Prop :=
  (∃ e ∈ evs, e.i = p.1 ∧ e.on = false) ∨ (∃ ei ∈ evs, ∃ eq ∈ evs, ei.i = p.1 ∧ eq.i = p.2 ∧ ei.on = true ∧ eq.on = true ∧ pairOk ei.logv eq.logv = true)

theorem PairOk.mono {a b : List Ev} (h : ∀ e ∈ a, e ∈ b) {p : Nat × Nat} : PairOk a p → PairOk b p
  | .inl ⟨e, he, r⟩ => .inl ⟨e, h e he, r⟩
  | .inr ⟨e, he, q, hq, r⟩ => .inr ⟨e, h e he, q, h q hq, r⟩

structure Scope (s : Env) (V : Nat → View) (drop nl : List Nat) : Prop where
  seen : ∀ t, t ∉ drop → s.view t = V t
  weak : ∀ t, s.view t = V t ∨ s.view t = (.undef, none)
  nl : ∀ t ∈ nl, (V t).2 = none

theorem get_of_view {s : Env} {t : Nat} {v : AVal} (h : s.view t = (v, none)) : s.get t = v ∧ lookA s.lads t = none := by
  simp only [Env.view, Prod.mk.injEq] at h
  exact h

theorem view_app {call : Call} {g : Bool} {ao : AOp} {s : Env} {h : Heap} {u : Upd} {h' : Heap} (hr : stepR call g ao s h = some (u, h')) : ∀ t, (u.app s).view t = if opDst ao = some t then u.view else s.view t := by
  have hset : ∀ (d : Nat) (v : AVal), opDst ao = some d → u = .set d v → ∀ t, (u.app s).view t = if opDst ao = some t then u.view else s.view t := by
    intro d v hd hu t
    subst hu
    rw [hd]
    by_cases ht : d = t
    · subst ht
      simp [Upd.app, Upd.view, Env.view, Env.set, Env.get, lookA_drop, look_cons]
    · have ht' : t ≠ d := fun e => ht e.symm
      simp [Upd.app, Env.view, Env.set, Env.get, lookA_drop, look_cons, ht, ht']
  have hsetL : ∀ (d l o : Nat), opDst ao = some d → u = .setL d l o → ∀ t, (u.app s).view t = if opDst ao = some t then u.view else s.view t := by
    intro d l o hd hu t
    subst hu
    rw [hd]
    by_cases ht : d = t
    · subst ht
      simp [Upd.app, Upd.view, Env.view, Env.setL, Env.get, lookA_cons]
    · have ht' : t ≠ d := fun e => ht e.symm
      simp [Upd.app, Env.view, Env.setL, Env.get, lookA_cons, ht, ht']
  have hnew : ∀ (d : Nat) (cs : List AVal), opDst ao = some d → u = .newLoc d cs → ∀ t, (u.app s).view t = if opDst ao = some t then u.view else s.view t := by
    intro d cs hd hu t
    subst hu
    rw [hd]
    by_cases ht : d = t
    · subst ht
      simp [Upd.app, Upd.view, Env.view, Env.newLoc, Env.get, lookA_cons]
    · have ht' : t ≠ d := fun e => ht e.symm
      simp [Upd.app, Env.view, Env.newLoc, Env.get, lookA_cons, ht, ht']
  cases ao with
  | box d loc x =>
    cases loc with
    | true =>
      simp only [stepR] at hr
      cases hc : (!g && s.fresh d) with
      | false => rw [hc] at hr; cases hr
      | true =>
        rw [hc] at hr
        simp only [cond_true, Option.bind_eq_some_iff, Option.some.injEq, Prod.mk.injEq] at hr
        obtain ⟨_, _, hu, _⟩ := hr
        exact hnew d _ rfl hu.symm
    | false =>
      simp only [stepR, Option.bind_eq_some_iff, Option.some.injEq, Prod.mk.injEq] at hr
      obtain ⟨_, _, hu, _⟩ := hr
      exact hset d _ rfl hu.symm
  | alloc d loc zero =>
    cases loc with
    | true =>
      simp only [stepR] at hr
      cases hc : (!g && s.fresh d) with
      | false => rw [hc] at hr; cases hr
      | true =>
        rw [hc] at hr
        simp only [cond_true, Option.some.injEq, Prod.mk.injEq] at hr
        exact hnew d _ rfl hr.1.symm
    | false =>
      simp only [stepR, Option.some.injEq, Prod.mk.injEq] at hr
      exact hset d _ rfl hr.1.symm
  | store agg m x v =>
    have hno : ∀ t, u.app s = s ∨ (∃ l cs, u = .locW l cs) → (u.app s).view t = if opDst (.store agg m x v) = some t then u.view else s.view t := by
      intro t hh
      have : opDst (.store agg m x v) ≠ some t := by simp [opDst]
      rw [if_neg this]
      rcases hh with hh | ⟨l, cs, rfl⟩
      · rw [hh]
      · rfl
    intro t
    apply hno
    simp only [stepR, Option.bind_eq_some_iff] at hr
    obtain ⟨cs, _, hr⟩ := hr
    split at hr
    · rename_i l off hl
      cases hg : (!g) with
      | false => rw [hg] at hr; cases hr
      | true =>
        rw [hg] at hr
        simp only [cond_true, Option.bind_eq_some_iff] at hr
        obtain ⟨old, _, hr⟩ := hr
        cases hn : Nat.ble (off + m) old.length with
        | false => rw [hn] at hr; cases hr
        | true =>
          rw [hn] at hr
          simp only [cond_true, Option.some.injEq, Prod.mk.injEq] at hr
          exact .inr ⟨_, _, hr.1.symm⟩
    · simp only [Option.bind_eq_some_iff, Option.some.injEq, Prod.mk.injEq] at hr
      obtain ⟨_, _, rfl, _⟩ := hr
      exact .inl rfl
  | clear d zero sl =>
    simp only [stepR, Option.bind_eq_some_iff, Option.some.injEq, Prod.mk.injEq] at hr
    obtain ⟨_, _, rfl, _⟩ := hr
    intro t
    have : opDst (.clear d zero sl) ≠ some t := by simp [opDst]
    rw [if_neg this]
    rfl
  | mov d x =>
    simp only [stepR] at hr
    split at hr <;> simp only [Option.some.injEq, Prod.mk.injEq] at hr
    · exact hsetL d _ _ rfl hr.1.symm
    · exact hset d _ rfl hr.1.symm
  | nilchk d x | faddr d off x =>
    simp only [stepR] at hr
    split at hr
    · simp only [Option.some.injEq, Prod.mk.injEq] at hr
      exact hsetL d _ _ rfl hr.1.symm
    · simp only [Option.bind_eq_some_iff, Option.some.injEq, Prod.mk.injEq] at hr
      obtain ⟨_, _, hu, _⟩ := hr
      exact hset d _ rfl hu.symm
  | iaddr d arr es x i =>
    cases arr with
    | none =>
      simp only [stepR, Option.bind_eq_some_iff, Option.some.injEq, Prod.mk.injEq] at hr
      obtain ⟨_, _, hu, _⟩ := hr
      exact hset d _ rfl hu.symm
    | some len =>
      simp only [stepR] at hr
      split at hr <;> simp only [Option.bind_eq_some_iff, Option.some.injEq, Prod.mk.injEq] at hr
      · obtain ⟨_, _, hu, _⟩ := hr
        exact hsetL d _ _ rfl hu.symm
      · obtain ⟨_, _, hu, _⟩ := hr
        exact hset d _ rfl hu.symm
  | load d agg m x =>
    simp only [stepR] at hr
    split at hr <;> simp only [Option.bind_eq_some_iff, Option.some.injEq, Prod.mk.injEq] at hr <;> obtain ⟨_, _, _, _, hu, _⟩ := hr <;> exact hset d _ rfl hu.symm
  | index d kk x i =>
    cases kk <;> simp only [stepR, Option.bind_eq_some_iff, Option.some.injEq, Prod.mk.injEq] at hr
    · obtain ⟨_, _, _, _, hu, _⟩ := hr
      exact hset d _ rfl hu.symm
    · obtain ⟨_, _, hu, _⟩ := hr
      exact hset d _ rfl hu.symm
  | slice d kk x lo hi mx =>
    cases kk <;> simp only [stepR, Option.bind_eq_some_iff, Option.some.injEq, Prod.mk.injEq] at hr <;> obtain ⟨_, _, hu, _⟩ := hr <;> exact hset d _ rfl hu.symm
  | field d agg off m x | callv d fn args | invoke d tbl recv args =>
    simp only [stepR, Option.bind_eq_some_iff, Option.some.injEq, Prod.mk.injEq] at hr
    obtain ⟨_, _, _, _, hu, _⟩ := hr
    exact hset d _ rfl hu.symm
  | mkIface d t x | mkFunc d f caps =>
    simp only [stepR, Option.some.injEq, Prod.mk.injEq] at hr
    exact hset d _ rfl hr.1.symm
  | pick d c a b | bin d op tag a b | un d op x | conv d c x | build d zero parts | buildSl d zero es len parts | mkSlice d es bytes zero len cap | extract d x i | call d f args | append d es bytes zero zeros sl x | copy d es dst src | len d str x | cap d x | minmax d mx xs | fl d j sl zero parts =>
    simp only [stepR, Option.bind_eq_some_iff, Option.some.injEq, Prod.mk.injEq] at hr
    obtain ⟨_, _, hu, _⟩ := hr
    exact hset d _ rfl hu.symm

end Go.Fw
