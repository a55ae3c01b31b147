/- The trajectory of a region's items. -/
import Derived.Test.YtfdhljghamkgjaaFwV
namespace Go.Fw
set_option linter.unusedSimpArgs false
set_option linter.unusedVariables false

def offEv (x : Option (Nat × Bool) × Nat × AOp) : Ev := ⟨x.1, x.2.1, x.2.2, false, false, ⟨[], [], [], [], 0⟩, ⟨0, fun _ => none⟩, .nop, ⟨0, fun _ => none⟩⟩

theorem offEv_V (x : Option (Nat × Bool) × Nat × AOp) (V : Nat → View) (t : Nat) : (offEv x).updV V t = if opDst x.2.2 = some t then (skipV, none) else V t := rfl

theorem run_append {as bs : List Ev} (V : Nat → View) (H : Heap) (l : List (Nat × List AVal)) : vRun V (as ++ bs) = vRun (vRun V as) bs ∧ hRun H (as ++ bs) = hRun (hRun H as) bs ∧ lRun l (as ++ bs) = lRun (lRun l as) bs := by
  simp [vRun, hRun, lRun, List.foldl_append]

theorem vRun_not : ∀ (evs : List Ev) (V : Nat → View) (t : Nat), (∀ e ∈ evs, opDst e.ao ≠ some t) → vRun V evs t = V t
  | [], _, _, _ => rfl
  | e :: r, V, t, h => by
    show vRun (e.updV V) r t = V t
    rw [vRun_not r _ t fun q hq => h q (List.mem_cons_of_mem _ hq)]
    simp [Ev.updV, h e List.mem_cons_self]

theorem mem_dsts_flat : ∀ (gd : Option (Nat × Bool)) (items : List AItem) (x : Option (Nat × Bool) × Nat × AOp) (t : Nat), x ∈ flatItems gd items → opDst x.2.2 = some t → t ∈ itemsDsts items
  | gd, [], x, t, h, _ => by simp [flatItems] at h
  | gd, .op i o :: r, x, t, h, ht => by
    simp only [flatItems, flatItem, List.cons_append, List.nil_append, List.mem_cons] at h
    simp only [itemsDsts, itemDsts, List.mem_append]
    rcases h with rfl | h
    · left; simp only at ht; rw [ht]; simp
    · exact .inr (mem_dsts_flat gd r x t h ht)
  | gd, .guard q w items ps live :: r, x, t, h, ht => by
    simp only [flatItems, flatItem, List.mem_append] at h
    simp only [itemsDsts, itemDsts, List.mem_append]
    rcases h with h | h
    · exact .inl (mem_dsts_flat _ items x t h ht)
    · exact .inr (mem_dsts_flat gd r x t h ht)

/-- What is skipped. -/
theorem off_items {call : Call} (H : Heap) (l : List (Nat × List AVal)) : ∀ (items : List AItem) (gd : Option (Nat × Bool)) (seen : List Nat) (V : Nat → View), guardsAll true seen items = true → (∀ t ∈ seen, V t = (skipV, none)) →
    (∃ t want, gd = some (t, want) ∧ (V t = (.bool !want, none) ∨ V t = (skipV, none))) →
    EvsOk call V H l ((flatItems gd items).map offEv) ∧ hRun H ((flatItems gd items).map offEv) = H ∧ lRun l ((flatItems gd items).map offEv) = l ∧ ∀ t, vRun V ((flatItems gd items).map offEv) t = if t ∈ itemsDsts items then (skipV, none) else V t
  | [], gd, seen, V, _, _, _ => ⟨trivial, rfl, rfl, fun t => by simp [itemsDsts, flatItems, vRun]⟩
  | .op i o :: r, gd, seen, V, hg, hs, hgd => by
    simp only [guardsAll, guardsOk, Bool.true_and] at hg
    obtain ⟨t, want, rfl, ht⟩ := hgd
    have h1 : ∀ q ∈ (opDst o).toList ++ seen, (offEv (some (t, want), i, o)).updV V q = (skipV, none) := by
      intro q hq
      rw [offEv_V]
      rcases List.mem_append.1 hq with hq | hq
      · rw [if_pos (by simpa using hq)]
      · by_cases hd : opDst o = some q
        · rw [if_pos hd]
        · rw [if_neg hd]; exact hs q hq
    have h2 : (offEv (some (t, want), i, o)).updV V t = (.bool !want, none) ∨ (offEv (some (t, want), i, o)).updV V t = (skipV, none) := by
      rw [offEv_V]
      by_cases hd : opDst o = some t
      · rw [if_pos hd]; exact .inr rfl
      · rw [if_neg hd]; exact ht
    obtain ⟨i1, i2, i3, i4⟩ := off_items (call := call) H l r (some (t, want)) _ _ hg h1 ⟨t, want, rfl, h2⟩
    have e0 : EvOk call V H l (offEv (some (t, want), i, o)) :=
      { h := fun h => absurd h Bool.false_ne_true
        l := fun h => absurd h Bool.false_ne_true
        step := fun h => absurd h Bool.false_ne_true
        opds := fun h => absurd h Bool.false_ne_true
        guard := fun t' want' e => by
          have e' : some (t, want) = some (t', want') := e
          simp only [Option.some.injEq, Prod.mk.injEq] at e'
          obtain ⟨rfl, rfl⟩ := e'
          exact .inr ⟨ht, rfl⟩
        free := fun e => by
          have e' : some (t, want) = none := e
          cases e' }
    refine ⟨⟨e0, i1⟩, i2, i3, fun q => ?_⟩
    · have := i4 q
      show vRun ((offEv (some (t, want), i, o)).updV V) ((flatItems (some (t, want)) r).map offEv) q = _
      rw [this, offEv_V]
      simp only [itemsDsts, itemDsts, List.mem_append]
      by_cases h3 : q ∈ itemsDsts r
      · simp [h3]
      · by_cases h4 : opDst o = some q
        · simp [h3, h4]
        · have : ¬ q ∈ (opDst o).toList := by simpa using h4
          simp [h3, h4]
  | .guard t2 want2 items ps live :: r, gd, seen, V, hg, hs, hgd => by
    simp only [guardsAll, guardsOk, Bool.and_eq_true, Bool.not_true, Bool.false_or] at hg
    obtain ⟨⟨⟨⟨_, hseen⟩, hin⟩, _⟩, hg⟩ := hg
    have hV2 : V t2 = (skipV, none) := hs t2 (by simpa using hseen)
    obtain ⟨i1, i2, i3, i4⟩ := off_items (call := call) H l items (some (t2, want2)) [] V hin (fun t ht => by cases ht) ⟨t2, want2, rfl, .inr hV2⟩
    have hs2 : ∀ q ∈ seen, vRun V ((flatItems (some (t2, want2)) items).map offEv) q = (skipV, none) := fun q hq => by
      rw [i4]; split
      · rfl
      · exact hs q hq
    obtain ⟨t, want, rfl, ht⟩ := hgd
    have ht2 : vRun V ((flatItems (some (t2, want2)) items).map offEv) t = (.bool !want, none) ∨ vRun V ((flatItems (some (t2, want2)) items).map offEv) t = (skipV, none) := by
      rw [i4]; split
      · exact .inr rfl
      · exact ht
    obtain ⟨j1, j2, j3, j4⟩ := off_items (call := call) H l r (some (t, want)) seen _ hg hs2 ⟨t, want, rfl, ht2⟩
    simp only [flatItems, flatItem, List.map_append]
    obtain ⟨a1, a2, a3⟩ := run_append (as := (flatItems (some (t2, want2)) items).map offEv) (bs := (flatItems (some (t, want)) r).map offEv) V H l
    refine ⟨EvsOk.append i1 (by rw [i2, i3]; exact j1), by rw [a2, i2, j2], by rw [a3, i3, j3], fun q => ?_⟩
    rw [a1, j4, i4]
    simp only [itemsDsts, itemDsts, List.mem_append]
    by_cases h1 : q ∈ itemsDsts items <;> by_cases h2 : q ∈ itemsDsts r <;> simp [h1, h2]

theorem stepR_locs {call : Call} {ao : AOp} {s : Env} {h : Heap} {u : Upd} {h' : Heap} (hr : stepR call true ao s h = some (u, h')) : (u.app s).locs = s.locs := by
  by_cases he : isEff ao = false
  · exact (stepR_pure he hr (s' := s) (k' := h)).2.1 s
  · cases ao with
    | box d loc x =>
      cases loc with
      | true => simp [stepR] at hr
      | false =>
        simp only [stepR, Option.bind_eq_some_iff, Option.some.injEq, Prod.mk.injEq] at hr
        obtain ⟨_, _, rfl, _⟩ := hr
        rfl
    | alloc d loc zero =>
      cases loc with
      | true => simp [stepR] at hr
      | false =>
        simp only [stepR, Option.some.injEq, Prod.mk.injEq] at hr
        obtain ⟨rfl, _⟩ := hr
        rfl
    | store agg m x v =>
      simp only [stepR, Option.bind_eq_some_iff] at hr
      obtain ⟨cs, _, hr⟩ := hr
      split at hr
      · simp at hr
      · simp only [Option.bind_eq_some_iff, Option.some.injEq, Prod.mk.injEq] at hr
        obtain ⟨_, _, rfl, _⟩ := hr
        rfl
    | conv d c x | buildSl d zero es len parts | mkSlice d es bytes zero len cap | call d f args | append d es bytes zero zeros sl x | copy d es dst src | clear d zero sl | fl d j sl zero parts =>
      simp only [stepR, Option.bind_eq_some_iff, Option.some.injEq, Prod.mk.injEq] at hr
      obtain ⟨_, _, rfl, _⟩ := hr
      rfl
    | callv d fn args | invoke d tbl recv args =>
      simp only [stepR, Option.bind_eq_some_iff, Option.some.injEq, Prod.mk.injEq] at hr
      obtain ⟨_, _, _, _, rfl, _⟩ := hr
      rfl
    | _ => exact (he rfl).elim

mutual
theorem scopeItem_mono : ∀ (x : AItem) (drop nl drop' nl' : List Nat), scopeItem drop nl x = some (drop', nl') → ∀ t ∈ drop, t ∈ drop'
  | .op i o, drop, nl, drop', nl', h, t, ht => by
    simp only [scopeItem] at h
    cases hc : ((aoTmps o).all (fun t => !drop.contains t) && (opDst o).toList.all (fun t => !drop.contains t)) with
    | false => rw [hc] at h; cases h
    | true => rw [hc] at h; cases h; exact ht
  | .guard q w items ps live, drop, nl, drop', nl', h, t, ht => by
    simp only [scopeItem] at h
    cases hc : (!drop.contains q && ps.all (fun p => (idxs items).contains p.1)) with
    | false => rw [hc] at h; cases h
    | true =>
      rw [hc] at h
      simp only [cond_true] at h
      split at h
      · rename_i d1 n1 hs
        cases hl : (live.all fun l => !d1.contains l) with
        | false => rw [hl] at h; cases h
        | true =>
          rw [hl] at h
          cases h
          exact List.mem_append_left _ (scopeItems_mono items drop nl d1 n1 hs t ht)
      · cases h
theorem scopeItems_mono : ∀ (xs : List AItem) (drop nl drop' nl' : List Nat), scopeItems drop nl xs = some (drop', nl') → ∀ t ∈ drop, t ∈ drop'
  | [], drop, nl, drop', nl', h, t, ht => by cases h; exact ht
  | x :: r, drop, nl, drop', nl', h, t, ht => by
    simp only [scopeItems] at h
    split at h
    · rename_i d n hx
      exact scopeItems_mono r d n drop' nl' h t (scopeItem_mono x drop nl d n hx t ht)
    · cases h
end

theorem nlOp_ok {call : Call} {g : Bool} {ao : AOp} {s : Env} {h : Heap} {u : Upd} {h' : Heap} (hr : stepR call g ao s h = some (u, h')) {V : Nat → View} {nl : List Nat} (hn : ∀ t ∈ nl, (V t).2 = none) (hv : ∀ t ∈ aoTmps ao, s.view t = V t) :
    ∀ t ∈ nlOp nl ao, ((if opDst ao = some t then u.view else V t)).2 = none := by
  have hlad : ∀ x, x ∈ aoOpds ao → nlOpd nl x = true → s.lad x = none := by
    intro x hx hx'
    cases x with
    | const v => rfl
    | tmp t =>
      have := hv t (List.mem_filterMap.2 ⟨.tmp t, hx, rfl⟩)
      have h2 := hn t (by simpa [nlOpd] using hx')
      rw [← this] at h2
      exact h2
  have hfil : ∀ d : Nat, ∀ t ∈ nl.filter (· != d), opDst ao = some d → ((if opDst ao = some t then u.view else V t)).2 = none := by
    intro d t ht hd
    simp only [List.mem_filter, bne_iff_ne, ne_eq] at ht
    rw [hd, if_neg (by simpa using fun e => ht.2 e.symm)]
    exact hn t ht.1
  have hcons : ∀ d : Nat, opDst ao = some d → (u.view).2 = none → ∀ t ∈ d :: nl, ((if opDst ao = some t then u.view else V t)).2 = none := by
    intro d hd hu t ht
    rw [hd]
    by_cases e : d = t
    · subst e; simp [hu]
    · rw [if_neg (by simpa using e)]
      rcases List.mem_cons.1 ht with rfl | ht
      · exact (e rfl).elim
      · exact hn t ht
  have hprop : ∀ d x, x ∈ aoOpds ao → opDst ao = some d → (s.lad x = none → (u.view).2 = none) → ∀ t ∈ (bif nlOpd nl x then d :: nl else nl.filter (· != d)), ((if opDst ao = some t then u.view else V t)).2 = none := by
    intro d x hx hd hh t ht
    cases hc : nlOpd nl x with
    | true =>
      rw [hc] at ht
      exact hcons d hd (hh (hlad x hx hc)) t ht
    | false =>
      rw [hc] at ht
      exact hfil d t ht hd
  have hset : ∀ d : Nat, opDst ao = some d → (u.view).2 = none → ∀ t ∈ (opDst ao).toList ++ nl, ((if opDst ao = some t then u.view else V t)).2 = none := by
    intro d hd hu t ht
    rw [hd] at ht
    exact hcons d hd hu t (by simpa using ht)
  cases ao with
  | mov d x =>
    refine hprop d x (by simp [aoOpds]) rfl fun hl => ?_
    simp only [stepR, hl, Option.some.injEq, Prod.mk.injEq] at hr
    obtain ⟨rfl, _⟩ := hr
    rfl
  | nilchk d x | faddr d off x =>
    refine hprop d x (by simp [aoOpds]) rfl fun hl => ?_
    simp only [stepR, hl, Option.bind_eq_some_iff, Option.some.injEq, Prod.mk.injEq] at hr
    obtain ⟨_, _, rfl, _⟩ := hr
    rfl
  | iaddr d arr es x i =>
    cases arr with
    | none =>
      simp only [stepR, Option.bind_eq_some_iff, Option.some.injEq, Prod.mk.injEq] at hr
      obtain ⟨_, _, rfl, _⟩ := hr
      exact hset d rfl rfl
    | some len =>
      refine hprop d x (by simp [aoOpds]) rfl fun hl => ?_
      simp only [stepR, hl, Option.bind_eq_some_iff, Option.some.injEq, Prod.mk.injEq] at hr
      obtain ⟨_, _, rfl, _⟩ := hr
      rfl
  | box d loc x =>
    cases loc with
    | true => exact fun t ht => hfil d t ht rfl
    | false =>
      simp only [stepR, Option.bind_eq_some_iff, Option.some.injEq, Prod.mk.injEq] at hr
      obtain ⟨_, _, rfl, _⟩ := hr
      exact hset d rfl rfl
  | alloc d loc zero =>
    cases loc with
    | true => exact fun t ht => hfil d t ht rfl
    | false =>
      simp only [stepR, Option.some.injEq, Prod.mk.injEq] at hr
      obtain ⟨rfl, _⟩ := hr
      exact hset d rfl rfl
  | store agg m x v =>
    intro t ht
    have : opDst (.store agg m x v) ≠ some t := by simp [opDst]
    rw [if_neg this]
    exact hn t (by simpa [nlOp, opDst] using ht)
  | clear d zero sl =>
    intro t ht
    have : opDst (.clear d zero sl) ≠ some t := by simp [opDst]
    rw [if_neg this]
    exact hn t (by simpa [nlOp, opDst] using ht)
  | load d agg m x =>
    simp only [stepR] at hr
    split at hr <;> simp only [Option.bind_eq_some_iff, Option.some.injEq, Prod.mk.injEq] at hr <;> obtain ⟨_, _, _, _, rfl, _⟩ := hr <;> exact hset d rfl rfl
  | index d kk x i =>
    cases kk <;> simp only [stepR, Option.bind_eq_some_iff, Option.some.injEq, Prod.mk.injEq] at hr
    · obtain ⟨_, _, _, _, rfl, _⟩ := hr
      exact hset d rfl rfl
    · obtain ⟨_, _, rfl, _⟩ := hr
      exact hset d rfl rfl
  | slice d kk x lo hi mx =>
    cases kk <;> simp only [stepR, Option.bind_eq_some_iff, Option.some.injEq, Prod.mk.injEq] at hr <;> obtain ⟨_, _, rfl, _⟩ := hr <;> exact hset d rfl rfl
  | field d agg off m x | callv d fn args | invoke d tbl recv args =>
    simp only [stepR, Option.bind_eq_some_iff, Option.some.injEq, Prod.mk.injEq] at hr
    obtain ⟨_, _, _, _, rfl, _⟩ := hr
    exact hset d rfl rfl
  | mkIface d t x | mkFunc d f caps =>
    simp only [stepR, Option.some.injEq, Prod.mk.injEq] at hr
    obtain ⟨rfl, _⟩ := hr
    exact hset d rfl rfl
  | pick d c a b | bin d op tag a b | un d op x | conv d c x | build d zero parts | buildSl d zero es len parts | mkSlice d es bytes zero len cap | extract d x i | call d f args | append d es bytes zero zeros sl x | copy d es dst src | len d str x | cap d x | minmax d mx xs | fl d j sl zero parts =>
    simp only [stepR, Option.bind_eq_some_iff, Option.some.injEq, Prod.mk.injEq] at hr
    obtain ⟨_, _, rfl, _⟩ := hr
    exact hset d rfl rfl

theorem flat_idx (gd gd' : Option (Nat × Bool)) : ∀ items : List AItem, (flatItems gd items).map (·.2.1) = (flatItems gd' items).map (·.2.1)
  | [] => rfl
  | .op i o :: r => by simp only [flatItems, flatItem, List.cons_append, List.nil_append, List.map_cons]; rw [flat_idx gd gd' r]
  | .guard t w items ps live :: r => by simp only [flatItems, flatItem, List.map_append]; rw [flat_idx gd gd' r]

theorem inner_idx : ∀ (drop nl : List Nat) (items : List AItem) (drop' nl' : List Nat), scopeItems drop nl items = some (drop', nl') → ∀ p ∈ innerPairs items, p.1 ∈ idxs items
  | drop, nl, [], drop', nl', h, p, hp => by rw [innerPairs] at hp; cases hp
  | drop, nl, .op i o :: r, drop', nl', h, p, hp => by
    simp only [scopeItems] at h
    split at h
    · rename_i d n hx
      rw [innerPairs_op] at hp
      have := inner_idx d n r drop' nl' h p hp
      simp only [idxs, flatItems, flatItem, List.cons_append, List.nil_append, List.map_cons, List.mem_cons]
      exact .inr this
    · cases h
  | drop, nl, .guard t w items ps live :: r, drop', nl', h, p, hp => by
    simp only [scopeItems] at h
    split at h
    · rename_i d n hx
      have hr := inner_idx d n r drop' nl' h p
      simp only [scopeItem] at hx
      cases hc : (!drop.contains t && ps.all (fun p => (idxs items).contains p.1)) with
      | false => rw [hc] at hx; cases hx
      | true =>
        rw [hc] at hx
        simp only [cond_true] at hx
        split at hx
        · rename_i d1 n1 hs
          simp only [Bool.and_eq_true, List.all_eq_true, List.contains_eq_mem, decide_eq_true_eq] at hc
          simp only [idxs, flatItems, flatItem, List.map_append, List.mem_append]
          rw [flat_idx (some (t, w)) none]
          simp only [innerPairs_guard, List.mem_append] at hp
          rcases hp with (hp | hp) | hp
          · exact .inl (hc.2 p hp)
          · exact .inl (inner_idx drop nl items d1 n1 hs p hp)
          · exact .inr (hr hp)
        · cases hx
    · cases h

end Go.Fw
