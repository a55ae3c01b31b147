/- A walk with a map beside the abstract heap: the state, pieces of code that the abstract run covers, one operation by hand. -/
import Derived.Test.YtllogmedpmanoaaFwZb
import Derived.Maps.RangeRun
import Derived.Deep.LoopGhost
namespace Go.Fw
set_option linter.unusedSimpArgs false
set_option linter.unusedVariables false
open Go.RowKit
open Go.ChangeMaps (setBlock)

/-- What is known in the middle of a call: no local blocks; nothing below N was written. -/
structure Sta (N n : Nat) (w0 : World) (φ : Phi) (h : Heap) (vs : List (Nat × AVal)) (a : Act) (w : World) : Prop where
  heap : HRel φ h w
  size : a.tmps.size = n
  defers : a.defers = []
  vals : ∀ t, VRel φ (look vs t) (a.tmps.getD t undef)
  big : N ≤ w.heap.size
  hi : ∀ b x L, h.blk b = some x → x.rw = true → φ b = some L → N ≤ L.blk
  below : Below N w0 w

def isCells : Obj → Prop
  | .cells .. => True
  | _ => False
/-- What is no row of cells stays. -/
def KeptO (w w' : World) : Prop := ∀ (k : Nat) (x : Obj), w.heap[k]? = some x → ¬ isCells x → w'.heap[k]? = some x

section
variable {P : Program} {N n : Nat} {w0 : World} {φ : Phi} {h : Heap} {vs : List (Nat × AVal)} {a : Act} {w : World}

def env0 (vs : List (Nat × AVal)) (lg : List (Nat × Option Log)) (b : Nat) : Env := ⟨vs, [], [], lg, b⟩

theorem Sta.toIn (S : Sta N n w0 φ h vs a w) : In w.heap.size n φ h w φ (fun _ => 0) (env0 vs [] 0) h a w :=
  ⟨⟨S.heap, S.size, S.defers, fun t _ => S.vals t, fun t l off hh => (by cases hh), fun l cs hh => (by cases hh), fun l l' cs cs' hh => (by cases hh)⟩, Step.refl _ _ _, rfl, fun b L hb => (S.heap.dom b L hb).1⟩

theorem step_kept (H : HRel φ h w) {φ' : Phi} {h' : Heap} {w' : World} (T : Step φ h w φ' h' w') : KeptO w w' := by
  intro k x hx hn
  have hk : k < w.heap.size := by
    rcases Nat.lt_or_ge k w.heap.size with h | h
    · exact h
    · rw [Array.getElem?_eq_none h] at hx; cases hx
  rw [T.frame k hk fun b y L hb _ hp e => ?_, hx]
  obtain ⟨c, e1, fz, h1, _⟩ := H.blk b y L hb hp
  rw [e, hx] at h1
  cases h1
  exact hn trivial

theorem Sta.ofIn (S : Sta N n w0 φ h vs a w) {φ' : Phi} {L' : Nat → Nat} {vs' : List (Nat × AVal)} {lg : List (Nat × Option Log)} {b : Nat} {h' : Heap} {a' : Act} {w' : World}
    (I : In w.heap.size n φ h w φ' L' (env0 vs' lg b) h' a' w') : Sta N n w0 φ' h' vs' a' w' ∧ KeptO w w' := by
  have T := I.step
  refine ⟨⟨I.rel.heap, I.rel.size, I.rel.defers, fun t => I.rel.vals t rfl, Nat.le_trans S.big T.size, ?_, ?_⟩, step_kept S.heap T⟩
  · intro b x L hb hrw hp
    cases hφ : φ b with
    | some L1 =>
      have := T.ext b L1 hφ
      rw [hp] at this
      cases this
      obtain ⟨y, hy, hr⟩ := T.old b x (S.heap.dom b L hφ).1 hb
      exact S.hi b y L hy (hr.trans hrw) hφ
    | none =>
      rcases (T.new b L hφ hp).2 with hh | ⟨b0, x0, L0, e0, rw0, p0, l0⟩
      · exact Nat.le_trans S.big hh
      · rw [← l0]; exact S.hi b0 x0 L0 e0 rw0 p0
  · refine S.below.trans ⟨T.os, T.tape, T.output, T.size, fun k hk => T.frame k (Nat.lt_of_lt_of_le hk S.big) fun b x L hb hrw hp e => ?_⟩
    have := S.hi b x L hb hrw hp
    omega

open Classical in
/-- A piece of the code that the abstract run covers. -/
theorem piece {call : Call} (hcall : CallOk P call) {ac : ACode} {c : Code} (hok : codeOk P (drawOk P) n ac c = true) {e : AExit} {vs' : List (Nat × AVal)} {h' : Heap} {lg : List (Nat × Option Log)} {b : Nat}
    (hrun : ∀ k : AExit → Env → Heap → Option J, runC call ac (env0 vs [] 0) h k = k e (env0 vs' lg b) h') (S : Sta N n w0 φ h vs a w) {Q : Exit → Act → World → Prop}
    (hQ : ∀ φ' a' w', Sta N n w0 φ' h' vs' a' w' → KeptO w w' → Q (exOf e) a' w') : c.wp P Q a w := by
  have hr := hrun (fun e1 s1 h1 => if e1 = e ∧ s1 = env0 vs' lg b ∧ h1 = h' then some (0, [], h') else none)
  rw [if_pos ⟨rfl, rfl, rfl⟩] at hr
  refine code_sound (draw_sound P) hcall ac c hok φ (fun _ => 0) _ h a w _ _ hr S.toIn Q fun e1 s1 h1 φ' L' a' w' hk I => ?_
  have : e1 = e ∧ s1 = env0 vs' lg b ∧ h1 = h' := by
    by_cases hc : e1 = e ∧ s1 = env0 vs' lg b ∧ h1 = h'
    · exact hc
    · rw [if_neg hc] at hk; cases hk
  obtain ⟨rfl, rfl, rfl⟩ := this
  obtain ⟨T, K⟩ := S.ofIn I
  exact hQ φ' a' w' T K

theorem Sta.put (S : Sta N n w0 φ h vs a w) {d : Nat} (hd : d < n) {v : AVal} {u : Value} (hv : VRel φ v u) : Sta N n w0 φ h ((d, v) :: vs) (a.put (some d) u) w where
  heap := S.heap
  size := by rw [← S.size]; exact Array.size_setIfInBounds
  defers := S.defers
  vals := fun t => by
    rw [look_cons, put_get a d t u (by rw [S.size]; exact hd)]
    split
    · exact hv
    · exact S.vals t
  big := S.big
  hi := S.hi
  below := S.below
/-- A temporary of which nothing is known. -/
theorem Sta.skip (S : Sta N n w0 φ h vs a w) {d : Nat} (hd : d < n) (hl : look vs d = .undef) (u : Value) : Sta N n w0 φ h vs (a.put (some d) u) w where
  heap := S.heap
  size := by rw [← S.size]; exact Array.size_setIfInBounds
  defers := S.defers
  vals := fun t => by
    rw [put_get a d t u (by rw [S.size]; exact hd)]
    split
    · rename_i e; rw [e, hl]; exact vrel_undef.2 trivial
    · exact S.vals t
  big := S.big
  hi := S.hi
  below := S.below
theorem Sta.none_ (S : Sta N n w0 φ h vs a w) (u : Value) : Sta N n w0 φ h vs (a.put none u) w := S

/-- Only these are still of use. -/
theorem look_pick (vs : List (Nat × AVal)) : ∀ (ks : List Nat) (t : Nat), look (ks.map fun k => (k, look vs k)) t = if t ∈ ks then look vs t else .undef
  | [], t => rfl
  | k :: ks, t => by
    rw [List.map_cons, look_cons, look_pick vs ks t]
    by_cases e : t = k
    · subst e; simp
    · simp [e]
theorem Sta.pick (S : Sta N n w0 φ h vs a w) (ks : List Nat) {us : List (Nat × AVal)} (e : ks.map (fun k => (k, look vs k)) = us) : Sta N n w0 φ h us a w :=
  ⟨S.heap, S.size, S.defers, fun t => by
    rw [← e, look_pick]
    split
    · exact S.vals t
    · exact vrel_undef.2 trivial, S.big, S.hi, S.below⟩

/-- What is no row of cells changes. -/
theorem Sta.other (S : Sta N n w0 φ h vs a w) {w' : World} (hs : w.heap.size ≤ w'.heap.size) (hk : ∀ (k : Nat) (x : Obj), w.heap[k]? = some x → isCells x → w'.heap[k]? = some x) (hb : ∀ k, k < N → w'.heap[k]? = w.heap[k]?)
    (h1 : w'.os = w.os) (h2 : w'.tape = w.tape) (h3 : w'.output = w.output) : Sta N n w0 φ h vs a w' where
  heap := { dom := fun b L hb => ⟨(S.heap.dom b L hb).1, Nat.lt_of_lt_of_le (S.heap.dom b L hb).2 hs⟩
            live := S.heap.live
            blk := fun b x L hx hp => by
              obtain ⟨c, e, fz, q1, q2⟩ := S.heap.blk b x L hx hp
              exact ⟨c, e, fz, hk _ _ q1 trivial, q2⟩
            apart := S.heap.apart
            pin := S.heap.pin }
  size := S.size
  defers := S.defers
  vals := S.vals
  big := Nat.le_trans S.big hs
  hi := S.hi
  below := S.below.trans ⟨h1, h2, h3, hs, hb⟩

/-- A block above N that is no row of cells is written. -/
theorem Sta.setBlock (S : Sta N n w0 φ h vs a w) {r : Nat} {o o' : Obj} (hr : w.heap[r]? = some o) (hn : ¬ isCells o) (hN : N ≤ r) : Sta N n w0 φ h vs a (setBlock w r o') := by
  refine S.other (by simp [Go.ChangeMaps.setBlock]) (fun k x hx hc => ?_) (fun k hk => ?_) rfl rfl rfl
  · have : r ≠ k := fun e => by rw [← e, hr] at hx; cases hx; exact hn hc
    simp [Go.ChangeMaps.setBlock, Array.getElem?_setIfInBounds, this, hx]
  · have : r ≠ k := by omega
    simp [Go.ChangeMaps.setBlock, Array.getElem?_setIfInBounds, this]
theorem setBlock_at {w : World} {r : Nat} {o o' : Obj} (hr : w.heap[r]? = some o) : (setBlock w r o').heap[r]? = some o' := by
  have : r < w.heap.size := by
    rcases Nat.lt_or_ge r w.heap.size with h | h
    · exact h
    · rw [Array.getElem?_eq_none h] at hr; cases hr
  simp [Go.ChangeMaps.setBlock, Array.getElem?_setIfInBounds, this]
theorem setBlock_ne {w : World} {r k : Nat} (o' : Obj) (hk : r ≠ k) : (setBlock w r o').heap[k]? = w.heap[k]? := by
  simp [Go.ChangeMaps.setBlock, Array.getElem?_setIfInBounds, hk]

/-- A new block that is no row of cells. -/
theorem Sta.alloc (S : Sta N n w0 φ h vs a w) (o : Obj) : Sta N n w0 φ h vs a (w.alloc o) := by
  have hlt : ∀ (k : Nat) (x : Obj), w.heap[k]? = some x → (w.alloc o).heap[k]? = some x := fun k x hx => by
    have : k < w.heap.size := by
      rcases Nat.lt_or_ge k w.heap.size with h | h
      · exact h
      · rw [Array.getElem?_eq_none h] at hx; cases hx
    rw [Below.heap_alloc w o k this, hx]
  exact S.other ((Below.refl N w).alloc S.big o).size (fun k x hx _ => hlt k x hx) (fun k hk => Below.heap_alloc w o k (Nat.lt_of_lt_of_le hk S.big)) rfl rfl rfl
theorem walloc_at (w : World) (o : Obj) : (w.alloc o).heap[w.heap.size]? = some o := Array.getElem?_push_size

/-- One operation by hand, in the order of the text. -/
theorem ops_value {ops : Array Oper} {Q : Exit → Act → World → Prop} {i : Nat} {rest : List Nat} {o : Oper} (ho : ops[i]? = some o) (hg : o.guard = none) {u : Value} {w' : World}
    (he : (execOp a.eval o).run P w = .ok (.value u) w') (hk : wpOps P ops Q rest (a.put o.dst u) w') : wpOps P ops Q (i :: rest) a w := by
  have hw : Region.wanted o (yielded ops a.tmps) = true := by unfold Region.wanted; rw [hg]
  simp only [wpOps, ho, hw, if_true]
  exact .inl (wp_value he hk)
end
end Go.Fw
