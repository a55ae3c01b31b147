/- Code: what the abstract run says, the model does. -/
import Derived.Test.YtfdhljghamkgjaaFwQ
namespace Go.Fw
set_option linter.unusedSimpArgs false
set_option linter.unusedVariables false

def exOf : AExit → Exit
  | .normal => .normal
  | .exit id => .exit id
  | .ret => .ret

/-- Set aside for the regions whose order is open. -/
def DrawSound (P : Program) (drawOk : Nat → Nat → Array Oper → List AItem → List (Nat × Nat) → Bool) : Prop :=
  ∀ (call : Call), CallOk P call → ∀ (B n : Nat) (φ0 : Phi) (h0 : Heap) (w0 : World) (φ : Phi) (L : Nat → Nat) (s : Env) (h : Heap) (a : Act) (w : World) (ops : Array Oper) (id : Nat) (items : List AItem) (pairs : List (Nat × Nat)) (r : J) (k : Env → Heap → Option J),
    ∀ (m b : Nat), drawOk n m ops items pairs = true → (m ≠ 0 → b = h.next) → (runItems call false pairs items { s.noLog with base := b } (h.res m) fun s' h' => bif checkPairs s'.log pairs then k s'.noLog h' else none) = some r → In B n φ0 h0 w0 φ L s h a w →
    ∀ (Q : Exit → Act → World → Prop), (∀ s' h' φ' L' a' w', k s' h' = some r → In B n φ0 h0 w0 φ' L' s' h' a' w' → Q .normal a' w') → (Code.region id ops true).wp P Q a w

def codeOk (P : Program) (drawOk : Nat → Nat → Array Oper → List AItem → List (Nat × Nat) → Bool) (n : Nat) : ACode → Code → Bool
  | .skip, .skip => true
  | .region items pairs, .region _ ops draw => (match draw with | true => drawOk n 0 ops items pairs | false => regionOk P n ops items)
  | .regionF m items pairs, .region _ ops draw => (match draw with | true => drawOk n m ops items pairs | false => false)
  | .seq a b, .seq a' b' => codeOk P drawOk n a a' && codeOk P drawOk n b b'
  | .cond c a b, .cond c' a' b' => opdOk c' c && codeOk P drawOk n a a' && codeOk P drawOk n b b'
  | .block id c, .block id' c' => Nat.beq id id' && codeOk P drawOk n c c'
  | .loop _ _ c, .loop c' => codeOk P drawOk n c c'
  | .join _ c, c' => codeOk P drawOk n c c'
  | .exit id, .exit id' => Nat.beq id id'
  | .ret, .ret => true
  | .dead, _ => true
  | _, _ => false

section
variable {P : Program} {B n : Nat} {φ0 : Phi} {h0 : Heap} {w0 : World} {φ : Phi} {L : Nat → Nat} {s : Env} {h : Heap} {a : Act} {w : World}

theorem look_none : ∀ (l : List (Nat × AVal)) (t : Nat), t ∉ l.map (·.1) → look l t = .undef
  | [], _, _ => rfl
  | (d, v) :: l, t, h => by
    simp only [List.map_cons, List.mem_cons, not_or] at h
    rw [look_cons, if_neg h.1]
    exact look_none l t h.2

theorem lookA_mem : ∀ (l : List (Nat × Nat × Nat)) (t : Nat) (p : Nat × Nat), lookA l t = some p → (t, p) ∈ l
  | [], _, _, h => by simp [lookA] at h
  | (d, v) :: l, t, p, h => by
    rw [lookA_cons] at h
    split at h
    · rename_i e; subst e; cases h; exact List.mem_cons_self
    · exact List.mem_cons_of_mem _ (lookA_mem l t p h)

theorem locOut_spec : ∀ (locs : List Nat) (cs : List AVal), s.locOut locs = some cs → cs.length = locs.length ∧ ∀ (j l : Nat), locs[j]? = some l → ∃ c, lookB s.locs l = some c ∧ lookA s.lads l = some (l, 0) ∧ cs[j]? = some (.agg c)
  | [], cs, h => by
    simp only [Env.locOut, Option.some.injEq] at h
    subst h
    exact ⟨rfl, by simp⟩
  | l :: locs, cs, h => by
    unfold Env.locOut at h
    split at h
    · rename_i c l' h1 h2
      cases hb : Nat.beq l l' with
      | false => rw [hb] at h; cases h
      | true =>
        rw [hb] at h
        have := Nat.eq_of_beq_eq_true hb
        subst this
        simp only [cond_true, Option.bind_eq_some_iff, Option.some.injEq] at h
        obtain ⟨vs, hvs, rfl⟩ := h
        obtain ⟨hl, hr⟩ := locOut_spec locs vs hvs
        refine ⟨by simp [hl], ?_⟩
        intro j q hq
        cases j with
        | zero => simp only [List.getElem?_cons_zero, Option.some.injEq] at hq; subst hq; exact ⟨c, h1, h2, rfl⟩
        | succ j => exact hr j q (by simpa using hq)
    · cases h

theorem lookB_zip (f : Nat → List AVal) : ∀ (locs : List Nat) (i l : Nat) (c : List AVal), lookB ((locs.zipIdx i).map fun p => (p.1, f p.2)) l = some c → ∃ j, locs[j]? = some l ∧ c = f (i + j)
  | [], i, l, c, h => by simp [lookB] at h
  | q :: locs, i, l, c, h => by
    rw [List.zipIdx_cons, List.map_cons, lookB_cons] at h
    split at h
    · rename_i e; subst e; cases h; exact ⟨0, rfl, rfl⟩
    · obtain ⟨j, h1, h2⟩ := lookB_zip f locs (i + 1) l c h
      exact ⟨j + 1, by simpa using h1, by rw [h2]; congr 1; omega⟩

theorem lookB_zip_some (f : Nat → List AVal) : ∀ (locs : List Nat) (i l : Nat), l ∈ locs → ∃ c, lookB ((locs.zipIdx i).map fun p => (p.1, f p.2)) l = some c
  | [], i, l, h => by cases h
  | q :: locs, i, l, h => by
    rw [List.zipIdx_cons, List.map_cons, lookB_cons]
    split
    · exact ⟨_, rfl⟩
    · rename_i hne
      rcases List.mem_cons.1 h with e | h
      · exact absurd e hne
      · exact lookB_zip_some f locs (i + 1) l h

theorem out_weak {live : Live} {xs : List AVal} (h : s.out live = some xs) : Weak (Env.mk' live xs) s := by
  unfold Env.out at h
  simp only [Option.bind_eq_some_iff, Option.some.injEq] at h
  obtain ⟨cs, hcs, rfl⟩ := h
  obtain ⟨hl, hr⟩ := locOut_spec _ _ hcs
  refine ⟨fun t _ => ?_, fun t l off ht => ?_, fun l c hc => ?_⟩
  · simp only [Env.mk']
    by_cases hm : t ∈ live.vals
    · right
      exact look_zip s.get _ live.vals 0 t (fun j l hj => by
        rw [Nat.zero_add, List.getD_eq_getElem?_getD]
        have hlt : j < live.vals.length := (List.getElem?_eq_some_iff.1 hj).1
        rw [List.getElem?_append_left (by simpa using hlt), List.getElem?_map, hj]
        rfl) hm
    · left
      refine look_none _ t ?_
      rw [List.map_map]
      have : ((fun x : Nat × AVal => x.1) ∘ fun p : Nat × Nat => (p.1, (live.vals.map s.get ++ cs).getD p.2 AVal.undef)) = fun p => p.1 := rfl
      rw [this, List.zipIdx_map_fst]
      exact hm
  · simp only [Env.mk'] at ht
    obtain ⟨q, hq, e⟩ := List.mem_map.1 (lookA_mem _ _ _ ht)
    simp only [Prod.mk.injEq] at e
    obtain ⟨rfl, rfl, rfl⟩ := e
    obtain ⟨j, hj⟩ := List.mem_iff_getElem?.1 hq
    obtain ⟨c, h1, h2, _⟩ := hr j q hj
    exact ⟨h2, lookB_zip_some (fun i => ((live.vals.map s.get ++ cs).getD (live.vals.length + i) AVal.undef).aggCells) live.locs 0 q hq⟩
  · simp only [Env.mk'] at hc
    obtain ⟨j, hj, rfl⟩ := lookB_zip (fun i => ((live.vals.map s.get ++ cs).getD (live.vals.length + i) AVal.undef).aggCells) live.locs 0 l c hc
    obtain ⟨c', h1, _, h3⟩ := hr j l hj
    rw [h1]
    congr 1
    rw [Nat.zero_add, List.getD_eq_getElem?_getD, List.getElem?_append_right (by simp)]
    simp only [List.length_map, Nat.add_sub_cancel_left, h3, Option.getD_some, AVal.aggCells]

theorem altOf_spec : ∀ (alts : List (AExit × Live)) (e : AExit) (base i : Nat) (l : Live), altOf e alts base = some (i, l) → base ≤ i ∧ alts[i - base]? = some (e, l)
  | [], e, base, i, l, h => by simp [altOf] at h
  | (e', l') :: alts, e, base, i, l, h => by
    unfold altOf at h
    cases hd : decide (e = e') with
    | true =>
      rw [hd] at h
      have := of_decide_eq_true hd
      subst this
      cases h
      exact ⟨Nat.le_refl _, by simp⟩
    | false =>
      rw [hd] at h
      obtain ⟨h1, h2⟩ := altOf_spec alts e (base + 1) i l h
      refine ⟨by omega, ?_⟩
      rw [show i - base = (i - (base + 1)) + 1 by omega]
      simpa using h2

/-- Out by one way, in again behind the join. -/
theorem leave_enter {alts : List (AExit × Live)} {base : Nat} {e : AExit} {r0 r : J} {k : AExit → Env → Heap → Option J} (h1 : leave alts base e s h = some r0) (h2 : enterAlt alts base k r0 = some r) (I : In B n φ0 h0 w0 φ L s h a w) :
    base ≤ r0.1 ∧ ∃ s', k e s' h = some r ∧ In B n φ0 h0 w0 φ L s' h a w := by
  unfold leave at h1
  split at h1
  · rename_i i l ha
    simp only [Option.bind_eq_some_iff, Option.some.injEq] at h1
    obtain ⟨xs, hxs, rfl⟩ := h1
    obtain ⟨hb, hg⟩ := altOf_spec _ _ _ _ _ ha
    rw [enterAlt_at k (x := (i, xs, h)) hb hg] at h2
    exact ⟨hb, _, h2, I.weak (out_weak hxs)⟩
  · cases h1

theorem lim_some {α : Type} {g : Nat → Option α} {r : α} (h : lim g = some r) : ∃ m, g m = some r := by
  unfold lim at h
  split at h
  · exact ⟨_, h⟩
  · cases h

theorem code_sound {drawOk : Nat → Nat → Array Oper → List AItem → List (Nat × Nat) → Bool} (hdraw : DrawSound P drawOk) {call : Call} (hcall : CallOk P call) : ∀ (ac : ACode) (c : Code), codeOk P drawOk n ac c = true →
    ∀ (φ : Phi) (L : Nat → Nat) (s : Env) (h : Heap) (a : Act) (w : World) (k : AExit → Env → Heap → Option J) (r : J), runC call ac s h k = some r → In B n φ0 h0 w0 φ L s h a w →
    ∀ (Q : Exit → Act → World → Prop), (∀ e s' h' φ' L' a' w', k e s' h' = some r → In B n φ0 h0 w0 φ' L' s' h' a' w' → Q (exOf e) a' w') → c.wp P Q a w
  | .skip, c, hok, φ, L, s, h, a, w, k, r, hrun, I, Q, hQ => by
    cases c <;> simp only [codeOk] at hok <;> first | (cases hok; done) | skip
    exact wp_skip (hQ .normal _ _ _ _ _ _ hrun I)
  | .region items pairs, c, hok, φ, L, s, h, a, w, k, r, hrun, I, Q, hQ => by
    cases c <;> simp only [codeOk] at hok <;> first | (cases hok; done) | skip
    rename_i id ops draw
    simp only [runC] at hrun
    cases draw with
    | false =>
      simp only at hok
      refine region_sound hcall hok hrun (I.env rfl rfl rfl) Q ?_
      intro s' h' φ' L' a' w' hk I'
      cases hcp : checkPairs s'.log pairs with
      | false => rw [hcp] at hk; cases hk
      | true =>
        rw [hcp] at hk
        exact hQ .normal _ _ _ _ _ _ hk (I'.env rfl rfl rfl)
    | true =>
      simp only at hok
      exact hdraw call hcall B n φ0 h0 w0 φ L s h a w ops id items pairs r (k .normal) 0 s.base hok (fun h => (h rfl).elim) hrun I Q fun s' h' φ' L' a' w' hk I' => hQ .normal _ _ _ _ _ _ hk I'
  | .regionF m items pairs, c, hok, φ, L, s, h, a, w, k, r, hrun, I, Q, hQ => by
    cases c <;> simp only [codeOk] at hok <;> first | (cases hok; done) | skip
    rename_i id ops draw
    simp only [runC] at hrun
    cases draw with
    | false => simp at hok
    | true =>
      simp only at hok
      exact hdraw call hcall B n φ0 h0 w0 φ L s h a w ops id items pairs r (k .normal) m h.next hok (fun _ => rfl) hrun I Q fun s' h' φ' L' a' w' hk I' => hQ .normal _ _ _ _ _ _ hk I'
  | .seq x y, c, hok, φ, L, s, h, a, w, k, r, hrun, I, Q, hQ => by
    cases c <;> simp only [codeOk] at hok <;> first | (cases hok; done) | skip
    simp only [Bool.and_eq_true] at hok
    simp only [runC] at hrun
    refine wp_seq (code_sound hdraw hcall x _ hok.1 φ L s h a w _ r hrun I _ ?_)
    intro e s' h' φ' L' a' w' hk I'
    cases e with
    | normal => exact code_sound hdraw hcall y _ hok.2 φ' L' s' h' a' w' k r hk I' Q hQ
    | exit id => exact hQ (.exit id) _ _ _ _ _ _ hk I'
    | ret => exact hQ .ret _ _ _ _ _ _ hk I'
  | .cond x y z, c, hok, φ, L, s, h, a, w, k, r, hrun, I, Q, hQ => by
    cases c <;> simp only [codeOk] at hok <;> first | (cases hok; done) | skip
    simp only [Bool.and_eq_true] at hok
    simp only [runC] at hrun
    have hx := opd_rel I.rel hok.1.1
    unfold condV at hrun
    split at hrun
    · rename_i t ht
      rw [ht, vrel_bool] at hx
      refine wp_cond hx ?_
      cases t with
      | true => exact code_sound hdraw hcall y _ hok.1.2 φ L s h a w k r hrun I Q hQ
      | false => exact code_sound hdraw hcall z _ hok.2 φ L s h a w k r hrun I Q hQ
    · cases hrun
  | .block id x, c, hok, φ, L, s, h, a, w, k, r, hrun, I, Q, hQ => by
    cases c <;> simp only [codeOk] at hok <;> first | (cases hok; done) | skip
    simp only [Bool.and_eq_true] at hok
    have e := Nat.eq_of_beq_eq_true hok.1
    subst e
    simp only [runC] at hrun
    refine wp_block (code_sound hdraw hcall x _ hok.2 φ L s h a w _ r hrun I _ ?_)
    intro e s' h' φ' L' a' w' hk I'
    cases e with
    | normal => exact hQ .normal _ _ _ _ _ _ hk I'
    | exit i =>
      simp only at hk
      cases hb : Nat.beq i id with
      | true =>
        rw [hb] at hk
        have := Nat.eq_of_beq_eq_true hb
        subst this
        simp only [exOf, Exit.inBlock, if_true]
        exact hQ .normal _ _ _ _ _ _ hk I'
      | false =>
        rw [hb] at hk
        have := Nat.ne_of_beq_eq_false hb
        simp only [exOf, Exit.inBlock, if_neg this]
        exact hQ (.exit i) _ _ _ _ _ _ hk I'
    | ret => exact hQ .ret _ _ _ _ _ _ hk I'
  | .exit id, c, hok, φ, L, s, h, a, w, k, r, hrun, I, Q, hQ => by
    cases c <;> simp only [codeOk] at hok <;> first | (cases hok; done) | skip
    have e := Nat.eq_of_beq_eq_true hok
    subst e
    exact wp_exit (hQ (.exit id) _ _ _ _ _ _ hrun I)
  | .ret, c, hok, φ, L, s, h, a, w, k, r, hrun, I, Q, hQ => by
    cases c <;> simp only [codeOk] at hok <;> first | (cases hok; done) | skip
    exact wp_ret (hQ .ret _ _ _ _ _ _ hrun I)
  | .dead, c, hok, φ, L, s, h, a, w, k, r, hrun, I, Q, hQ => by
    simp [runC] at hrun
  | .join alts x, c, hok, φ, L, s, h, a, w, k, r, hrun, I, Q, hQ => by
    have hok' : codeOk P drawOk n x c = true := by
      cases c <;> exact hok
    simp only [runC, Option.bind_eq_some_iff] at hrun
    obtain ⟨r0, h1, h2⟩ := hrun
    refine code_sound hdraw hcall x c hok' φ L s h a w _ r0 h1 I Q ?_
    intro e s' h' φ' L' a' w' hk I'
    obtain ⟨_, s2, hk2, I2⟩ := leave_enter hk h2 I'
    exact hQ e _ _ _ _ _ _ hk2 I2
  | .loop live alts x, c, hok, φ, L, s, h, a, w, k, r, hrun, I, Q, hQ => by
    cases c <;> simp only [codeOk] at hok <;> first | (cases hok; done) | skip
    rename_i c
    simp only [runC, Option.bind_eq_some_iff] at hrun
    obtain ⟨xs, hxs, r0, hloop, hent⟩ := hrun
    obtain ⟨m, hm⟩ := lim_some hloop
    have key : ∀ (m : Nat) (xs : List AVal) (h : Heap) (φ : Phi) (L : Nat → Nat) (a : Act) (w : World), iter (fun xs h => runC call x (Env.mk' live xs) h (loopK live alts)) m xs h = some r0 → In B n φ0 h0 w0 φ L (Env.mk' live xs) h a w →
        ∀ (b : Frame) (kk : List Item) (cs : List Frame), ∃ e a' w', Q e a' w' ∧ Arrives P (lone (b.at a (.code c :: .inLoop c :: kk)) cs w) b kk cs e a' w' := by
      intro m
      induction m with
      | zero => intro xs h φ L a w hi; simp [iter] at hi
      | succ m ih =>
        intro xs h φ L a w hi I b kk cs
        simp only [iter] at hi
        split at hi
        · rename_i ys h1 hF
          have hbody := code_sound hdraw hcall x c hok φ L (Env.mk' live xs) h a w _ (0, ys, h1) hF I (Exit.then (fun a' w' => ∀ (b : Frame) (kk : List Item) (cs : List Frame), ∃ e a2 w2, Q e a2 w2 ∧ Arrives P (lone (b.at a' (.code c :: .inLoop c :: kk)) cs w') b kk cs e a2 w2) Q) ?_
          · obtain ⟨e, a1, w1, hq, harr⟩ := hbody b (.inLoop c :: kk) cs
            cases e with
            | normal =>
              obtain ⟨e2, a2, w2, hq2, harr2⟩ := hq b kk cs
              exact ⟨e2, a2, w2, hq2, .of_steps (Steps.trans harr (.one step_inLoop)) harr2⟩
            | exit id => exact ⟨_, a1, w1, hq, .pass (x := .inLoop c) rfl (fun _ _ => .inl (by simp)) harr⟩
            | goto l => exact ⟨_, a1, w1, hq, .pass (x := .inLoop c) rfl (fun _ _ => .inl (by simp)) harr⟩
            | ret => exact ⟨_, a1, w1, hq, .pass (x := .inLoop c) rfl (fun _ _ => .inl (by simp)) harr⟩
            | panic ch => exact ⟨_, a1, w1, hq, .pass (x := .inLoop c) rfl (fun _ _ => .inl (by simp)) harr⟩
            | outgrown => exact ⟨_, a1, w1, hq, .pass (x := .inLoop c) rfl (fun _ _ => .inl (by simp)) harr⟩
          · intro e s' h' φ' L' a' w' hk I'
            cases e with
            | normal =>
              simp only [loopK, Option.bind_eq_some_iff, Option.some.injEq, Prod.mk.injEq, true_and] at hk
              obtain ⟨zs, hzs, rfl, rfl⟩ := hk
              exact ih zs h' φ' L' a' w' hi (I'.weak (out_weak hzs))
            | exit id =>
              exfalso
              simp only [loopK, leave] at hk
              split at hk
              · rename_i i l ha
                simp only [Option.bind_eq_some_iff, Option.some.injEq, Prod.mk.injEq] at hk
                obtain ⟨_, _, rfl, _⟩ := hk
                have := (altOf_spec _ _ _ _ _ ha).1
                omega
              · cases hk
            | ret =>
              exfalso
              simp only [loopK, leave] at hk
              split at hk
              · rename_i i l ha
                simp only [Option.bind_eq_some_iff, Option.some.injEq, Prod.mk.injEq] at hk
                obtain ⟨_, _, rfl, _⟩ := hk
                have := (altOf_spec _ _ _ _ _ ha).1
                omega
              · cases hk
        · rename_i hne
          have hbody := code_sound hdraw hcall x c hok φ L (Env.mk' live xs) h a w _ r0 hi I (Exit.then (fun _ _ => False) Q) ?_
          · obtain ⟨e, a1, w1, hq, harr⟩ := hbody b (.inLoop c :: kk) cs
            cases e with
            | normal => exact hq.elim
            | exit id => exact ⟨_, a1, w1, hq, .pass (x := .inLoop c) rfl (fun _ _ => .inl (by simp)) harr⟩
            | goto l => exact ⟨_, a1, w1, hq, .pass (x := .inLoop c) rfl (fun _ _ => .inl (by simp)) harr⟩
            | ret => exact ⟨_, a1, w1, hq, .pass (x := .inLoop c) rfl (fun _ _ => .inl (by simp)) harr⟩
            | panic ch => exact ⟨_, a1, w1, hq, .pass (x := .inLoop c) rfl (fun _ _ => .inl (by simp)) harr⟩
            | outgrown => exact ⟨_, a1, w1, hq, .pass (x := .inLoop c) rfl (fun _ _ => .inl (by simp)) harr⟩
          · intro e s' h' φ' L' a' w' hk I'
            cases e with
            | normal =>
              simp only [loopK, Option.bind_eq_some_iff, Option.some.injEq] at hk
              obtain ⟨zs, _, rfl⟩ := hk
              exact absurd hi (hne _ _)
            | exit id =>
              obtain ⟨_, s2, hk2, I2⟩ := leave_enter hk hent I'
              exact hQ (.exit id) _ _ _ _ _ _ hk2 I2
            | ret =>
              obtain ⟨_, s2, hk2, I2⟩ := leave_enter hk hent I'
              exact hQ .ret _ _ _ _ _ _ hk2 I2
    intro b kk cs
    obtain ⟨e, a', w', hq, harr⟩ := key m xs h φ L a w hm (I.weak (out_weak hxs)) b kk cs
    exact ⟨e, a', w', hq, .of_steps (.one step_loop) harr⟩

end
end Go.Fw
