/- runs -/
import Derived.Test.YtinkiihdnepfjaaGreatDoorDIKH
set_option linter.unusedSimpArgs false
set_option linter.unusedVariables false
namespace Go.Fw.K
open Go.Fw
noncomputable def kSf (look : Nat → Option TFn) (n : Nat) : TCall :=
  Nat.rec (motive := fun _ => TCall) (fun _ _ _ => .no) (fun _ ih f args h => Option.rec .no (fun a => a ih args h) (look f)) n
theorem kSf_rel {look : Nat → Option TFn} {tbl : Nat → Option AFn} (hT : ∀ f F, look f = some F → ∃ a, tbl f = some a ∧ Is F a) (j : Nat) : ∀ n, CR j (kSf look n) (E tbl)
  | 0 => fun _ _ _ _ _ _ _ e => by cases e
  | n + 1 => fun f args t h S => by
    show RR j (Option.rec .no (fun a => a (kSf look n) args t) (look f) : KR) _
    cases hf : look f with
    | none => intro v t' e; cases e
    | some F =>
      obtain ⟨a, ha, hI⟩ := hT f F hf
      rw [E_eq, ha]
      exact hI j _ _ (kSf_rel hT j n) args t h S
def semT : List AVal → Heap → Option (AVal × Heap) := fun args h => match args with | [] => some (.bool true, h) | _ => none
noncomputable def FT : TFn := fun _ args h => U0' args h
where U0' (args : List AVal) (h : TH) : KR := List.rec (.yes (.bool true) h) (fun _ _ _ => .no) args
theorem is_T : Is FT (.prim semT) := by
  intro j call callE hc args t h S v t' e
  cases args with
  | nil => cases e; exact ⟨h, by simp [runFn, semT], S⟩
  | cons a l => cases e
theorem primT {P : Program} (hp : pinsN = 0) {tbl : Nat → Option AFn} (hok : CallOk P (E tbl)) {f : Nat} (hb : hasBody P f = true) {h0 : Heap} (he : E tbl f [] emptyHeap = some (.bool true, h0)) : PrimOk P f semT := by
  intro args h r h' hr φ w vs H ha
  cases args with
  | cons a l => cases hr
  | nil =>
    cases hr
    have hv0 : vs.toList = [] := by have := VRels.length ha; exact List.length_eq_zero_iff.1 (by simpa using this.symm)
    refine .inl ⟨run_hasBody hb vs w, ?_⟩
    refine (hok.enter hb he (empty_rel hp w) (by rw [hv0]; trivial)).mono ?_
    rintro e w' ⟨φ', v, rfl, hv, H', S⟩
    have keep : ∀ k, k < w.heap.size → w'.heap[k]? = w.heap[k]? := fun k hk => S.frame k hk fun b x L hb => by cases hb
    refine ⟨φ, v, rfl, ?_, ⟨fun b L hL => ⟨(H.dom b L hL).1, Nat.lt_of_lt_of_le (H.dom b L hL).2 S.size⟩, H.live, fun b x L hx hL => ?_, H.apart, H.pin⟩, ⟨Ext.refl φ, Nat.le_refl _, fun b x _ hx => ⟨x, hx, rfl⟩, fun b L h1 h2 => (by rw [h1] at h2; cases h2), S.size, fun _ _ _ => rfl, fun k hk _ => keep k hk, S.os, S.tape, S.output⟩⟩
    · unfold VRel at hv ⊢; exact hv
    · obtain ⟨c, e, fz, h1, h2⟩ := H.blk b x L hx hL
      exact ⟨c, e, fz, by rw [keep _ (H.dom b L hL).2]; exact h1, h2⟩
noncomputable def ofL (next : Nat) (l : List (Nat × List AVal)) : TH := ⟨next, List.rec .nil (fun p _ ih => Tr.set ih p.1 (some ⟨p.2, true⟩)) l⟩
theorem ofL_get {next : Nat} : ∀ {l : List (Nat × List AVal)} {b : Nat} {x : Blk}, (ofL next l).m.get b = some x → ∃ c, (b, c) ∈ l ∧ x = ⟨c, true⟩
  | [], b, x, h => by cases h
  | p :: l, b, x, h => by
    have h' : (Tr.set (ofL next l).m p.1 (some ⟨p.2, true⟩)).get b = some x := h
    rw [Tr.get_set] at h'
    by_cases hb : b = p.1
    · rw [if_pos hb] at h'
      cases h'
      exact ⟨p.2, by rw [hb]; exact List.mem_cons_self .., rfl⟩
    · rw [if_neg hb] at h'
      obtain ⟨c, h1, h2⟩ := ofL_get h'
      exact ⟨c, List.mem_cons_of_mem _ h1, h2⟩
noncomputable def hasAll (t : TH) (l : List (Nat × List AVal)) : Bool :=
  List.rec true (fun p _ ih => ifB (Option.rec false (fun x => ifB x.rw (AVal.beqL x.cells p.2) false) (t.m.get p.1)) ih false) l
theorem hasAll_mem {t : TH} : ∀ {l : List (Nat × List AVal)}, hasAll t l = true → ∀ p ∈ l, t.m.get p.1 = some ⟨p.2, true⟩
  | [], _, _, h => by cases h
  | q :: l, h, p, hp => by
    have h' : ifB (Option.rec false (fun x => ifB x.rw (AVal.beqL x.cells q.2) false) (t.m.get q.1)) (hasAll t l) false = true := h
    cases hx : t.m.get q.1 with
    | none => rw [hx] at h'; cases h'
    | some x =>
      rw [hx] at h'
      have h2 : ifB (ifB x.rw (AVal.beqL x.cells q.2) false) (hasAll t l) false = true := h'
      obtain ⟨cs, rw'⟩ := x
      cases rw' with
      | false => cases h2
      | true =>
        cases hb : AVal.beqL cs q.2 with
        | false => rw [show (ifB true (AVal.beqL cs q.2) false) = AVal.beqL cs q.2 from rfl, hb] at h2; cases h2
        | true =>
          rw [show (ifB true (AVal.beqL cs q.2) false) = AVal.beqL cs q.2 from rfl, hb] at h2
          rcases List.mem_cons.1 hp with rfl | hp
          · rw [hx, beqL_eq _ _ hb]
          · exact hasAll_mem h2 p hp
noncomputable def atLeast (t : TH) (next : Nat) (l : List (Nat × List AVal)) : Bool := ifB (Nat.beq t.next next) (hasAll t l) false
theorem Sub.less {j : Nat} {t : TH} {h : Heap} (S : Sub j t h) {next : Nat} {l : List (Nat × List AVal)} (e : atLeast t next l = true) : Sub j (ofL next l) h := by
  cases hn : Nat.beq t.next next with
  | false => rw [atLeast, hn] at e; cases e
  | true =>
    rw [atLeast, hn] at e
    have h1 : hasAll t l = true := e
    refine ⟨by rw [← S.next]; exact (Nat.eq_of_beq_eq_true hn).symm, fun b x hx => ?_⟩
    obtain ⟨c, hc, rfl⟩ := ofL_get hx
    exact S.blk b _ (hasAll_mem h1 (b, c) hc)
noncomputable def isR (r : KR) (v : AVal) (next : Nat) (l : List (Nat × List AVal)) : Bool := KR.rec false (fun u t => ifB (AVal.beq u v) (atLeast t next l) false) r
theorem beq_one {a b : AVal} (h : AVal.beq a b = true) : a = b := by
  have := beqL_eq [a] [b] (by simp [AVal.beqL, h])
  simpa using this
theorem isR_rel {j : Nat} {r : KR} {b : Option (AVal × Heap)} (hr : RR j r b) {v : AVal} {next : Nat} {l : List (Nat × List AVal)} (h : isR r v next l = true) : ∃ h', b = some (rep j v, h') ∧ Sub j (ofL next l) h' := by
  cases r with
  | no => cases h
  | yes u t =>
    have h1 : ifB (AVal.beq u v) (atLeast t next l) false = true := h
    cases hu : AVal.beq u v with
    | false => rw [hu] at h1; cases h1
    | true =>
      rw [hu] at h1
      obtain ⟨h', e, S⟩ := hr u t rfl
      exact ⟨h', by rw [e, beq_one hu], S.less h1⟩
theorem okR_rel {j : Nat} {r : KR} {b : Option (AVal × Heap)} (hr : RR j r b) (h : okR r = true) : ∃ h', b = some (.bool true, h') := by
  obtain ⟨t, e⟩ := okR_eq h
  obtain ⟨h', e', _⟩ := hr _ t e
  exact ⟨h', by simpa using e'⟩
noncomputable def walk (step : TH → KR) (chk : TH → Bool) (fin : TH → Bool) (n : Nat) : TH → Bool :=
  Nat.rec (motive := fun _ => TH → Bool) (fun t => ifB (chk t) (fin t) false) (fun _ ih t => ifB (chk t) (KR.rec false (fun v t' => ifB (isB true v) (ih t') false) (step t)) false) n
def goes (stepE : Heap → Option (AVal × Heap)) : Nat → Heap → Option Heap
  | 0, h => some h
  | n + 1, h => match stepE h with | some (.bool true, h') => goes stepE n h' | _ => none
theorem goes_add (stepE : Heap → Option (AVal × Heap)) : ∀ (n m : Nat) (h : Heap), goes stepE (n + m) h = (goes stepE n h).bind (goes stepE m)
  | 0, m, h => by simp [goes]
  | n + 1, m, h => by
    rw [show n + 1 + m = (n + m) + 1 by omega, goes, goes]
    split
    · exact goes_add stepE n m _
    · rfl
theorem walk_rel {j : Nat} {step : TH → KR} {stepE : Heap → Option (AVal × Heap)} (hs : ∀ t h, Sub j t h → RR j (step t) (stepE h)) {chk fin : TH → Bool} :
    ∀ (n : Nat) (t : TH) (h : Heap), Sub j t h → walk step chk fin n t = true → (∀ m, m ≤ n → ∃ t' h', goes stepE m h = some h' ∧ Sub j t' h' ∧ chk t' = true) ∧ ∃ t' h', goes stepE n h = some h' ∧ Sub j t' h' ∧ fin t' = true
  | 0, t, h, S, e => by
    have e' : ifB (chk t) (fin t) false = true := e
    cases hc : chk t with
    | false => rw [hc] at e'; cases e'
    | true =>
      rw [hc] at e'
      exact ⟨fun m hm => ⟨t, h, by rw [Nat.le_zero.1 hm]; rfl, S, hc⟩, t, h, rfl, S, e'⟩
  | n + 1, t, h, S, e => by
    have e' : ifB (chk t) (KR.rec false (fun v t' => ifB (isB true v) (walk step chk fin n t') false) (step t)) false = true := e
    cases hc : chk t with
    | false => rw [hc] at e'; cases e'
    | true =>
      rw [hc] at e'
      cases hst : step t with
      | no => rw [hst] at e'; cases e'
      | yes v t1 =>
        rw [hst] at e'
        have e2 : ifB (isB true v) (walk step chk fin n t1) false = true := e'
        cases hv : isB true v with
        | false => rw [hv] at e2; cases e2
        | true =>
          rw [hv] at e2
          obtain ⟨h1, eh, S1⟩ := hs t h S v t1 hst
          rw [isB_eq hv, rep_bool] at eh
          obtain ⟨a, b⟩ := walk_rel hs n t1 h1 S1 e2
          have g : ∀ m, goes stepE (m + 1) h = goes stepE m h1 := fun m => by rw [goes, eh]
          refine ⟨fun m hm => ?_, ?_⟩
          · cases m with
            | zero => exact ⟨t, h, rfl, S, hc⟩
            | succ m => rw [g]; exact a m (by omega)
          · rw [g]; exact b
noncomputable def ovrK (a b : Nat) (w : AVal) (call : TCall) : TCall := fun f args t => ifB (Nat.beq f a) (.yes w t) (ifB (Nat.beq f b) (.yes (.bool true) t) (call f args t))
def ovrE (a b : Nat) (w : AVal) (call : Call) : Call := fun f args h => bif Nat.beq f a then some (w, h) else bif Nat.beq f b then some (.bool true, h) else call f args h
theorem ovr_rel {j a b : Nat} {w : AVal} (hw : rep j w = w) {call : TCall} {callE : Call} (hc : CR j call callE) : CR j (ovrK a b w call) (ovrE a b w callE) := by
  intro f args t h S
  unfold ovrK ovrE
  cases Nat.beq f a with
  | true => intro v t' e; cases e; exact ⟨h, by rw [hw]; rfl, S⟩
  | false =>
    cases Nat.beq f b with
    | true => intro v t' e; cases e; exact ⟨h, by rw [rep_bool]; rfl, S⟩
    | false => exact hc f args t h S
end Go.Fw.K
