/- What a run leans on is finite: so the limit over the depth of calls answers as its own equation says. -/
import Derived.Test.YtfdhljghamkgjaaFwB
namespace Go.Fw
set_option linter.unusedSimpArgs false
set_option linter.unusedVariables false

abbrev CFact := Nat × List AVal × Heap × AVal × Heap
def CF (call : Call) (Q : List CFact) : Prop := ∀ q ∈ Q, call q.1 q.2.1 q.2.2.1 = some (q.2.2.2.1, q.2.2.2.2)
theorem CF.left {call : Call} {Q R : List CFact} (h : CF call (Q ++ R)) : CF call Q := fun q hq => h q (List.mem_append_left _ hq)
theorem CF.right {call : Call} {Q R : List CFact} (h : CF call (Q ++ R)) : CF call R := fun q hq => h q (List.mem_append_right _ hq)
theorem CF.app {call : Call} {Q R : List CFact} (h : CF call Q) (k : CF call R) : CF call (Q ++ R) := fun q hq => (List.mem_append.1 hq).elim (h q) (k q)
theorem CF.nil (call : Call) : CF call [] := fun q hq => by cases hq
theorem CF.one {call : Call} {f : Nat} {args : List AVal} {h : Heap} {r : AVal × Heap} (e : call f args h = some r) : CF call [(f, args, h, r.1, r.2)] := fun q hq => by
  rw [List.mem_singleton] at hq; subst hq; exact e
theorem CF.get1 {call : Call} {f : Nat} {args : List AVal} {h : Heap} {r : AVal × Heap} (e : CF call [(f, args, h, r.1, r.2)]) : call f args h = some r := e _ List.mem_cons_self

/-- One step goes to one state. -/
theorem stepOp_use {call : Call} {g : Bool} {ao : AOp} {s : Env} {h : Heap} {k : Env → Heap → Option J} {r : J} (hrun : stepOp call g ao s h k = some r) :
    ∃ s' h' Q, k s' h' = some r ∧ CF call Q ∧ ∀ (call' : Call) (k' : Env → Heap → Option J), CF call' Q → stepOp call' g ao s h k' = k' s' h' := by
  cases ao with
  | mov d x =>
    simp only [stepOp] at hrun
    split at hrun
    · rename_i l o hl
      exact ⟨_, _, [], hrun, CF.nil _, fun call' k' _ => by simp only [stepOp, hl]⟩
    · rename_i hl
      exact ⟨_, _, [], hrun, CF.nil _, fun call' k' _ => by simp only [stepOp, hl]⟩
  | nilchk d x =>
    simp only [stepOp] at hrun
    split at hrun
    · rename_i l o hl
      exact ⟨_, _, [], hrun, CF.nil _, fun call' k' _ => by simp only [stepOp, hl]⟩
    · rename_i hl
      simp only [Option.bind_eq_some_iff] at hrun
      obtain ⟨v, hv, hk⟩ := hrun
      exact ⟨_, _, [], hk, CF.nil _, fun call' k' _ => by simp only [stepOp, hl, hv, Option.bind_some]⟩
  | faddr d off x =>
    simp only [stepOp] at hrun
    split at hrun
    · rename_i l o hl
      exact ⟨_, _, [], hrun, CF.nil _, fun call' k' _ => by simp only [stepOp, hl]⟩
    · rename_i hl
      simp only [Option.bind_eq_some_iff] at hrun
      obtain ⟨v, hv, hk⟩ := hrun
      exact ⟨_, _, [], hk, CF.nil _, fun call' k' _ => by simp only [stepOp, hl, hv, Option.bind_some]⟩
  | iaddr d arr es x i =>
    cases arr with
    | none =>
      simp only [stepOp, Option.bind_eq_some_iff] at hrun
      obtain ⟨v, hv, hk⟩ := hrun
      exact ⟨_, _, [], hk, CF.nil _, fun call' k' _ => by simp only [stepOp, hv, Option.bind_some]⟩
    | some len =>
      simp only [stepOp] at hrun
      split at hrun
      · rename_i l o hl
        simp only [Option.bind_eq_some_iff] at hrun
        obtain ⟨v, hv, hk⟩ := hrun
        exact ⟨_, _, [], hk, CF.nil _, fun call' k' _ => by simp only [stepOp, hl, hv, Option.bind_some]⟩
      · rename_i hl
        simp only [Option.bind_eq_some_iff] at hrun
        obtain ⟨v, hv, hk⟩ := hrun
        exact ⟨_, _, [], hk, CF.nil _, fun call' k' _ => by simp only [stepOp, hl, hv, Option.bind_some]⟩
  | box d loc x =>
    cases loc with
    | true =>
      simp only [stepOp] at hrun
      cases hb : (!g && s.fresh d) with
      | false => rw [hb] at hrun; cases hrun
      | true =>
        rw [hb] at hrun
        simp only [cond_true, Option.bind_eq_some_iff] at hrun
        obtain ⟨v, hv, hk⟩ := hrun
        exact ⟨_, _, [], hk, CF.nil _, fun call' k' _ => by simp only [stepOp, hb, cond_true, hv, Option.bind_some]⟩
    | false =>
      simp only [stepOp, Option.bind_eq_some_iff] at hrun
      obtain ⟨v, hv, hk⟩ := hrun
      exact ⟨_, _, [], hk, CF.nil _, fun call' k' _ => by simp only [stepOp, hv, Option.bind_some]⟩
  | alloc d loc zero =>
    cases loc with
    | true =>
      simp only [stepOp] at hrun
      cases hb : (!g && s.fresh d) with
      | false => rw [hb] at hrun; cases hrun
      | true =>
        rw [hb] at hrun
        exact ⟨_, _, [], hrun, CF.nil _, fun call' k' _ => by simp only [stepOp, hb, cond_true]⟩
    | false =>
      simp only [stepOp] at hrun
      exact ⟨_, _, [], hrun, CF.nil _, fun call' k' _ => by simp only [stepOp]⟩
  | load d agg m x =>
    simp only [stepOp] at hrun
    split at hrun
    · rename_i l off hl
      simp only [Option.bind_eq_some_iff] at hrun
      obtain ⟨cs, ⟨cs0, h1, h2⟩, v, hv, hk⟩ := hrun
      exact ⟨_, _, [], hk, CF.nil _, fun call' k' _ => by simp only [stepOp, hl, h1, h2, hv, Option.bind_some]⟩
    · rename_i hl
      simp only [Option.bind_eq_some_iff] at hrun
      obtain ⟨cs, h1, v, hv, hk⟩ := hrun
      exact ⟨_, _, [], hk, CF.nil _, fun call' k' _ => by simp only [stepOp, hl, h1, hv, Option.bind_some]⟩
  | store agg m x v =>
    simp only [stepOp, Option.bind_eq_some_iff] at hrun
    obtain ⟨cs, hcs, hrun⟩ := hrun
    split at hrun
    · rename_i l off hl
      cases g with
      | true => cases hrun
      | false =>
        simp only [Bool.not_false, cond_true, Option.bind_eq_some_iff] at hrun
        obtain ⟨old, hold, hrun⟩ := hrun
        cases hb : Nat.ble (off + m) old.length with
        | false => rw [hb] at hrun; cases hrun
        | true =>
          rw [hb] at hrun
          exact ⟨_, _, [], hrun, CF.nil _, fun call' k' _ => by simp only [stepOp, hcs, hl, hold, hb, Option.bind_some, Bool.not_false, cond_true]⟩
    · rename_i hl
      simp only [Option.bind_eq_some_iff] at hrun
      obtain ⟨h', hh', hk⟩ := hrun
      exact ⟨_, _, [], hk, CF.nil _, fun call' k' _ => by simp only [stepOp, hcs, hl, hh', Option.bind_some]⟩
  | index d kk x i =>
    cases kk with
    | str =>
      simp only [stepOp, Option.bind_eq_some_iff] at hrun
      obtain ⟨v, hv, hk⟩ := hrun
      exact ⟨_, _, [], hk, CF.nil _, fun call' k' _ => by simp only [stepOp, hv, Option.bind_some]⟩
    | arr len es agg =>
      simp only [stepOp, Option.bind_eq_some_iff] at hrun
      obtain ⟨cs, h1, v, hv, hk⟩ := hrun
      exact ⟨_, _, [], hk, CF.nil _, fun call' k' _ => by simp only [stepOp, h1, hv, Option.bind_some]⟩
  | slice d kk x lo hi mx =>
    cases kk <;>
    · simp only [stepOp, Option.bind_eq_some_iff] at hrun
      obtain ⟨v, hv, hk⟩ := hrun
      exact ⟨_, _, [], hk, CF.nil _, fun call' k' _ => by simp only [stepOp, hv, Option.bind_some]⟩
  | field d agg off m x =>
    simp only [stepOp, Option.bind_eq_some_iff] at hrun
    obtain ⟨cs, h1, v, hv, hk⟩ := hrun
    exact ⟨_, _, [], hk, CF.nil _, fun call' k' _ => by simp only [stepOp, h1, hv, Option.bind_some]⟩
  | mkIface d t x => exact ⟨_, _, [], hrun, CF.nil _, fun call' k' _ => rfl⟩
  | mkFunc d f caps => exact ⟨_, _, [], hrun, CF.nil _, fun call' k' _ => rfl⟩
  | call d f args =>
    simp only [stepOp, Option.bind_eq_some_iff] at hrun
    obtain ⟨v, hv, hk⟩ := hrun
    exact ⟨_, _, _, hk, CF.one hv, fun call' k' hq => by simp only [stepOp, CF.get1 hq, Option.bind_some]⟩
  | callv d fn args =>
    simp only [stepOp, Option.bind_eq_some_iff] at hrun
    obtain ⟨fc, hfc, v, hv, hk⟩ := hrun
    exact ⟨_, _, _, hk, CF.one hv, fun call' k' hq => by simp only [stepOp, hfc, CF.get1 hq, Option.bind_some]⟩
  | invoke d tbl recv args =>
    simp only [stepOp, Option.bind_eq_some_iff] at hrun
    obtain ⟨fc, hfc, v, hv, hk⟩ := hrun
    exact ⟨_, _, _, hk, CF.one hv, fun call' k' hq => by simp only [stepOp, hfc, CF.get1 hq, Option.bind_some]⟩
  | _ =>
    simp only [stepOp, Option.bind_eq_some_iff] at hrun
    obtain ⟨v, hv, hk⟩ := hrun
    exact ⟨_, _, [], hk, CF.nil _, fun call' k' _ => by simp only [stepOp, hv, Option.bind_some]⟩

mutual
theorem item_use {call : Call} : ∀ (x : AItem) (g : Bool) (pairs : List (Nat × Nat)) (s : Env) (h : Heap) (k : Env → Heap → Option J) (r : J), runItem call g pairs x s h k = some r →
    ∃ s' h' Q, k s' h' = some r ∧ CF call Q ∧ ∀ (call' : Call) (k' : Env → Heap → Option J), CF call' Q → runItem call' g pairs x s h k' = k' s' h'
  | .op i o, g, pairs, s, h, k, r, hrun => by
    simp only [runItem] at hrun
    obtain ⟨s', h', Q, hk, hQ, hu⟩ := stepOp_use hrun
    exact ⟨_, _, Q, hk, hQ, fun call' k' hc => by simp only [runItem]; rw [hu call' _ hc]⟩
  | .guard t want items ps live, g, pairs, s, h, k, r, hrun => by
    simp only [runItem, Option.bind_eq_some_iff] at hrun
    obtain ⟨r0, hr0, hk⟩ := hrun
    unfold guardV at hr0
    split at hr0
    · rename_i x hx
      cases hxw : (x == want) with
      | true =>
        rw [hxw] at hr0
        obtain ⟨s1, h1, Q, hk1, hQ, hu⟩ := items_use items true ps s.noLog h _ r0 hr0
        refine ⟨_, _, Q, hk, hQ, fun call' k' hc => ?_⟩
        simp only [runItem, guardV, hx, hxw, cond_true]
        rw [hu call' _ hc, hk1]
        rfl
      | false =>
        rw [hxw] at hr0
        refine ⟨_, _, [], hk, CF.nil _, fun call' k' hc => ?_⟩
        simp only [runItem, guardV, hx, hxw, cond_false]
        cases hr0
        rfl
    · rename_i hx
      refine ⟨_, _, [], hk, CF.nil _, fun call' k' hc => ?_⟩
      simp only [runItem, guardV, hx]
      cases hr0
      rfl
    · cases hr0
theorem items_use {call : Call} : ∀ (l : List AItem) (g : Bool) (pairs : List (Nat × Nat)) (s : Env) (h : Heap) (k : Env → Heap → Option J) (r : J), runItems call g pairs l s h k = some r →
    ∃ s' h' Q, k s' h' = some r ∧ CF call Q ∧ ∀ (call' : Call) (k' : Env → Heap → Option J), CF call' Q → runItems call' g pairs l s h k' = k' s' h'
  | [], g, pairs, s, h, k, r, hrun => ⟨s, h, [], by simpa [runItems] using hrun, CF.nil _, fun call' k' _ => by simp [runItems]⟩
  | x :: l, g, pairs, s, h, k, r, hrun => by
    simp only [runItems] at hrun
    obtain ⟨s1, h1, Q1, hk1, hQ1, hu1⟩ := item_use x g pairs s h _ r hrun
    obtain ⟨s2, h2, Q2, hk2, hQ2, hu2⟩ := items_use l g pairs s1 h1 k r hk1
    exact ⟨s2, h2, Q1 ++ Q2, hk2, hQ1.app hQ2, fun call' k' hc => by simp only [runItems]; rw [hu1 call' _ hc.left, hu2 call' k' hc.right]⟩
end

theorem iter_mono (f : List AVal → Heap → Option J) : ∀ (m : Nat) (xs : List AVal) (h : Heap) (r : J), iter f m xs h = some r → iter f (m + 1) xs h = some r
  | 0, xs, h, r, hi => by simp [iter] at hi
  | m + 1, xs, h, r, hi => by
    rw [iter] at hi ⊢
    split at hi
    · rename_i ys h1 hf
      exact iter_mono f m ys h1 r hi
    · exact hi

theorem mono_le {α : Type} {g : Nat → Option α} (hm : ∀ m r, g m = some r → g (m + 1) = some r) : ∀ (d m : Nat) (r : α), g m = some r → g (m + d) = some r
  | 0, m, r, h => h
  | d + 1, m, r, h => hm (m + d) r (mono_le hm d m r h)

theorem lim_eq {α : Type} {g : Nat → Option α} (hm : ∀ m r, g m = some r → g (m + 1) = some r) {m : Nat} {r : α} (h : g m = some r) : lim g = some r := by
  have hex : ∃ n r, g n = some r := ⟨m, r, h⟩
  unfold lim
  rw [dif_pos hex]
  obtain ⟨r', hr'⟩ := hex.choose_spec
  have h1 := mono_le hm m hex.choose r' hr'
  have h2 := mono_le hm hex.choose m r h
  rw [Nat.add_comm] at h2
  rw [h1] at h2
  cases h2
  exact hr'

theorem lim_some' {α : Type} {g : Nat → Option α} {r : α} (h : lim g = some r) : ∃ m, g m = some r := by
  unfold lim at h
  split at h
  · exact ⟨_, h⟩
  · cases h

abbrev KFact := AExit × Env × Heap × J
def KF (k : AExit → Env → Heap → Option J) (K : List KFact) : Prop := ∀ q ∈ K, k q.1 q.2.1 q.2.2.1 = some q.2.2.2

theorem runC_use {call : Call} : ∀ (ac : ACode) (s : Env) (h : Heap) (k : AExit → Env → Heap → Option J) (r : J), runC call ac s h k = some r →
    ∃ e s' h' Q, k e s' h' = some r ∧ CF call Q ∧ ∀ (call' : Call) (k' : AExit → Env → Heap → Option J), CF call' Q → runC call' ac s h k' = k' e s' h'
  | .skip, s, h, k, r, hrun => ⟨_, _, _, [], hrun, CF.nil _, fun call' k' _ => rfl⟩
  | .exit id, s, h, k, r, hrun => ⟨_, _, _, [], hrun, CF.nil _, fun call' k' _ => rfl⟩
  | .ret, s, h, k, r, hrun => ⟨_, _, _, [], hrun, CF.nil _, fun call' k' _ => rfl⟩
  | .dead, s, h, k, r, hrun => by simp [runC] at hrun
  | .region items pairs, s, h, k, r, hrun => by
    simp only [runC] at hrun
    obtain ⟨s1, h1, Q, hk1, hQ, hu⟩ := items_use items false pairs s.noLog h _ r hrun
    cases hcp : checkPairs s1.log pairs with
    | false => rw [hcp] at hk1; cases hk1
    | true =>
      rw [hcp] at hk1
      refine ⟨_, _, _, Q, hk1, hQ, fun call' k' hc => ?_⟩
      simp only [runC]
      rw [hu call' _ hc, hcp]
      rfl
  | .regionF m items pairs, s, h, k, r, hrun => by
    simp only [runC] at hrun
    obtain ⟨s1, h1, Q, hk1, hQ, hu⟩ := items_use items false pairs { s.noLog with base := h.next } (h.res m) _ r hrun
    cases hcp : checkPairs s1.log pairs with
    | false => rw [hcp] at hk1; cases hk1
    | true =>
      rw [hcp] at hk1
      refine ⟨_, _, _, Q, hk1, hQ, fun call' k' hc => ?_⟩
      simp only [runC]
      rw [hu call' _ hc, hcp]
      rfl
  | .seq a b, s, h, k, r, hrun => by
    simp only [runC] at hrun
    obtain ⟨e, s1, h1, Q1, hk1, hQ1, hu1⟩ := runC_use a s h _ r hrun
    cases e with
    | normal =>
      obtain ⟨e2, s2, h2, Q2, hk2, hQ2, hu2⟩ := runC_use b s1 h1 k r hk1
      refine ⟨e2, s2, h2, Q1 ++ Q2, hk2, hQ1.app hQ2, fun call' k' hc => ?_⟩
      simp only [runC]
      rw [hu1 call' _ hc.left]
      exact hu2 call' k' hc.right
    | exit id => exact ⟨.exit id, s1, h1, Q1, hk1, hQ1, fun call' k' hc => by simp only [runC]; rw [hu1 call' _ hc]⟩
    | ret => exact ⟨.ret, s1, h1, Q1, hk1, hQ1, fun call' k' hc => by simp only [runC]; rw [hu1 call' _ hc]⟩
  | .cond c a b, s, h, k, r, hrun => by
    simp only [runC] at hrun
    unfold condV at hrun
    split at hrun
    · rename_i t ht
      cases t with
      | true =>
        obtain ⟨e, s1, h1, Q1, hk1, hQ1, hu1⟩ := runC_use a s h k r hrun
        exact ⟨e, s1, h1, Q1, hk1, hQ1, fun call' k' hc => by simp only [runC, condV, ht, cond_true]; exact hu1 call' k' hc⟩
      | false =>
        obtain ⟨e, s1, h1, Q1, hk1, hQ1, hu1⟩ := runC_use b s h k r hrun
        exact ⟨e, s1, h1, Q1, hk1, hQ1, fun call' k' hc => by simp only [runC, condV, ht, cond_false]; exact hu1 call' k' hc⟩
    · cases hrun
  | .block id c, s, h, k, r, hrun => by
    simp only [runC] at hrun
    obtain ⟨e, s1, h1, Q1, hk1, hQ1, hu1⟩ := runC_use c s h _ r hrun
    cases e with
    | normal => exact ⟨.normal, s1, h1, Q1, hk1, hQ1, fun call' k' hc => by simp only [runC]; rw [hu1 call' _ hc]⟩
    | exit i =>
      simp only at hk1
      cases hb : Nat.beq i id with
      | true =>
        rw [hb] at hk1
        exact ⟨.normal, s1, h1, Q1, hk1, hQ1, fun call' k' hc => by simp only [runC]; rw [hu1 call' _ hc]; simp only [hb, cond_true]⟩
      | false =>
        rw [hb] at hk1
        exact ⟨.exit i, s1, h1, Q1, hk1, hQ1, fun call' k' hc => by simp only [runC]; rw [hu1 call' _ hc]; simp only [hb, cond_false]⟩
    | ret => exact ⟨.ret, s1, h1, Q1, hk1, hQ1, fun call' k' hc => by simp only [runC]; rw [hu1 call' _ hc]⟩
  | .join alts c, s, h, k, r, hrun => by
    simp only [runC, Option.bind_eq_some_iff] at hrun
    obtain ⟨r0, h1, h2⟩ := hrun
    obtain ⟨e, s1, h1', Q1, hk1, hQ1, hu1⟩ := runC_use c s h _ r0 h1
    obtain ⟨hb, e2, l, ha, h2⟩ := enterAlt_spec h2
    refine ⟨e2, _, _, Q1, h2, hQ1, fun call' k' hc => ?_⟩
    simp only [runC]
    rw [hu1 call' _ hc, hk1]
    simp only [Option.bind_some]
    exact enterAlt_at k' hb ha
  | .loop live alts c, s, h, k, r, hrun => by
    simp only [runC, Option.bind_eq_some_iff] at hrun
    obtain ⟨xs, hxs, r0, hloop, hent⟩ := hrun
    obtain ⟨m, hm⟩ := lim_some' hloop
    have key : ∀ (m : Nat) (xs : List AVal) (h : Heap), iter (fun xs h => runC call c (Env.mk' live xs) h (loopK live alts)) m xs h = some r0 → ∃ Q, CF call Q ∧ ∀ call' : Call, CF call' Q → iter (fun xs h => runC call' c (Env.mk' live xs) h (loopK live alts)) m xs h = some r0 := by
      intro m
      induction m with
      | zero => intro xs h hi; simp [iter] at hi
      | succ m ih =>
        intro xs h hi
        rw [iter] at hi
        split at hi
        · rename_i ys h1 hF
          obtain ⟨e, s1, h1', Q1, hk1, hQ1, hu1⟩ := runC_use c _ _ _ _ hF
          obtain ⟨Q2, hQ2, hu2⟩ := ih ys h1 hi
          refine ⟨Q1 ++ Q2, hQ1.app hQ2, fun call' hc => ?_⟩
          rw [iter]
          simp only [hu1 call' _ hc.left, hk1]
          exact hu2 call' hc.right
        · rename_i hne
          obtain ⟨e, s1, h1', Q1, hk1, hQ1, hu1⟩ := runC_use c _ _ _ _ hi
          refine ⟨Q1, hQ1, fun call' hc => ?_⟩
          rw [iter]
          simp only [hu1 call' _ hc, hk1]
          obtain ⟨i, ys, hh⟩ := r0
          cases i with
          | zero => exact absurd hi (hne ys hh)
          | succ i => rfl
    obtain ⟨Q, hQ, hu⟩ := key m xs h hm
    obtain ⟨hb, e2, l, ha, hent⟩ := enterAlt_spec hent
    · refine ⟨e2, _, _, Q, hent, hQ, fun call' k' hc => ?_⟩
      have hl : loop (fun xs h => runC call' c (Env.mk' live xs) h (loopK live alts)) xs h = some r0 := lim_eq (fun m r hh => iter_mono _ m xs h r hh) (hu call' hc)
      simp only [runC]
      rw [hxs]
      simp only [Option.bind_some]
      rw [hl]
      simp only [Option.bind_some]
      exact enterAlt_at k' hb ha

theorem runFn_use {call : Call} {a : AFn} {args : List AVal} {h : Heap} {r : AVal × Heap} (hrun : runFn call a args h = some r) : ∃ Q, CF call Q ∧ ∀ call' : Call, CF call' Q → runFn call' a args h = some r := by
  cases a with
  | prim sem => exact ⟨[], CF.nil _, fun call' _ => hrun⟩
  | code f =>
    simp only [runFn] at hrun
    cases hb : Nat.beq args.length f.nargs with
    | false => rw [hb] at hrun; cases hrun
    | true =>
      rw [hb] at hrun
      simp only [cond_true, Option.bind_eq_some_iff] at hrun
      obtain ⟨r0, h1, h2⟩ := hrun
      obtain ⟨e, s1, h1', Q1, hk1, hQ1, hu1⟩ := runC_use f.body _ _ _ _ h1
      exact ⟨Q1, hQ1, fun call' hc => by simp only [runFn, hb, cond_true, hu1 call' _ hc, hk1, Option.bind_some, h2]⟩

theorem runF_mono (tbl : Nat → Option AFn) : ∀ (n f : Nat) (args : List AVal) (h : Heap) (r : AVal × Heap), runF tbl n f args h = some r → runF tbl (n + 1) f args h = some r
  | 0, f, args, h, r, hr => by simp [runF] at hr
  | n + 1, f, args, h, r, hr => by
    rw [runF] at hr ⊢
    split at hr
    · rename_i a ha
      obtain ⟨Q, hQ, hu⟩ := runFn_use hr
      exact hu _ fun q hq => runF_mono tbl n _ _ _ _ (hQ q hq)
    · cases hr

theorem E_some {tbl : Nat → Option AFn} {f : Nat} {args : List AVal} {h : Heap} {r : AVal × Heap} : E tbl f args h = some r ↔ ∃ n, runF tbl n f args h = some r :=
  ⟨fun e => lim_some' e, fun ⟨n, e⟩ => lim_eq (g := fun n => runF tbl n f args h) (fun m r hh => runF_mono tbl m f args h r hh) e⟩

/-- The equation of what a function answers. -/
theorem E_eq (tbl : Nat → Option AFn) (f : Nat) (args : List AVal) (h : Heap) : E tbl f args h = match tbl f with | some a => runFn (E tbl) a args h | none => none := by
  apply Option.ext
  intro r
  constructor
  · intro e
    obtain ⟨n, hn⟩ := E_some.1 e
    cases n with
    | zero => simp [runF] at hn
    | succ n =>
      rw [runF] at hn
      split at hn
      · rename_i a ha
        obtain ⟨Q, hQ, hu⟩ := runFn_use hn
        simp only [ha]
        exact hu _ fun q hq => E_some.2 ⟨n, hQ q hq⟩
      · cases hn
  · intro e
    split at e
    · rename_i a ha
      obtain ⟨Q, hQ, hu⟩ := runFn_use e
      have hN : ∀ (Q : List CFact), CF (E tbl) Q → ∃ N, CF (runF tbl N) Q := by
        intro Q
        induction Q with
        | nil => intro _; exact ⟨0, CF.nil _⟩
        | cons q Q ih =>
          intro hc
          obtain ⟨N, hN⟩ := ih fun p hp => hc p (List.mem_cons_of_mem _ hp)
          obtain ⟨M, hM⟩ := E_some.1 (hc q List.mem_cons_self)
          refine ⟨N + M, fun p hp => ?_⟩
          rcases List.mem_cons.1 hp with rfl | hp
          · have := mono_le (g := fun n => runF tbl n p.1 p.2.1 p.2.2.1) (fun m r hh => runF_mono tbl m _ _ _ r hh) N M _ hM
            rw [Nat.add_comm]
            exact this
          · exact mono_le (g := fun n => runF tbl n p.1 p.2.1 p.2.2.1) (fun m r hh => runF_mono tbl m _ _ _ r hh) M N _ (hN p hp)
      obtain ⟨N, hN⟩ := hN Q hQ
      refine E_some.2 ⟨N + 1, ?_⟩
      rw [runF, ha]
      exact hu _ hN
    · cases e

end Go.Fw
