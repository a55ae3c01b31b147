/- The trajectory of a region's items, from its abstract run. -/
import Derived.Test.YtfdhljghamkgjaaFwW
namespace Go.Fw
set_option linter.unusedSimpArgs false
set_option linter.unusedVariables false

/-- What is known of a run of some items. -/
structure Traj (call : Call) (g : Bool) (gd : Option (Nat × Bool)) (items : List AItem) (V : Nat → View) (h : Heap) (s : Env) (drop' nl' : List Nat) (evs : List Ev) (sf : Env) (hf : Heap) : Prop where
  keys : evs.map Ev.key = flatItems gd items
  ok : EvsOk call V h s.locs evs
  heap : hRun h evs = hf
  locs : lRun s.locs evs = sf.locs
  gloc : g = true → sf.locs = s.locs
  scope : Scope sf (vRun V evs) drop' nl'
  inner : ∀ p ∈ innerPairs items, PairOk evs p
  log : ∀ i a, lookLog sf.log i = some a → (∃ e ∈ evs, e.i = i ∧ e.on = true ∧ a = e.logv) ∨ lookLog s.log i = some a
  base : ∀ e ∈ evs, e.on = true → e.s.base = s.base

theorem evs_dst {gd : Option (Nat × Bool)} {items : List AItem} {evs : List Ev} (hk : evs.map Ev.key = flatItems gd items) {t : Nat} (ht : t ∉ itemsDsts items) : ∀ e ∈ evs, opDst e.ao ≠ some t := by
  intro e he hd
  have : e.key ∈ flatItems gd items := hk ▸ List.mem_map_of_mem he
  exact ht (mem_dsts_flat gd items e.key t this hd)

theorem checkPairs_spec : ∀ {log : List (Nat × Option Log)} {ps : List (Nat × Nat)}, checkPairs log ps = true → ∀ p ∈ ps, ∃ a e, lookLog log p.1 = some a ∧ lookLog log p.2 = some e ∧ pairOk a e = true
  | _, [], _, p, hp => by cases hp
  | log, (i, q) :: r, h, p, hp => by
    simp only [checkPairs, Bool.and_eq_true] at h
    rcases List.mem_cons.1 hp with rfl | hp
    · have h1 := h.1
      split at h1
      · rename_i a e h2 h3
        exact ⟨a, e, h2, h3, h1⟩
      · cases h1
    · exact checkPairs_spec h.2 p hp

theorem level_pairs {evs : List Ev} {log : List (Nat × Option Log)} {ps : List (Nat × Nat)} (hc : checkPairs log ps = true) (hl : ∀ i a, lookLog log i = some a → ∃ e ∈ evs, e.i = i ∧ e.on = true ∧ a = e.logv) : ∀ p ∈ ps, PairOk evs p := by
  intro p hp
  obtain ⟨a, e, h1, h2, h3⟩ := checkPairs_spec hc p hp
  obtain ⟨ei, q1, q2, q3, rfl⟩ := hl _ _ h1
  obtain ⟨eq, r1, r2, r3, rfl⟩ := hl _ _ h2
  exact .inr ⟨ei, q1, eq, r1, q2, r2, q3, r3, h3⟩

theorem traj_items {call : Call} : ∀ (items : List AItem) (g : Bool) (pairs : List (Nat × Nat)) (gd : Option (Nat × Bool)) (inG : Bool) (seen drop nl drop' nl' : List Nat) (V : Nat → View) (s : Env) (h : Heap) (k : Env → Heap → Option J) (r : J),
    runItems call g pairs items s h k = some r → scopeItems drop nl items = some (drop', nl') → guardsAll inG seen items = true → Scope s V drop nl →
    (∀ t want, gd = some (t, want) → V t = (.bool want, none) ∧ t ∉ itemsDsts items) →
    ∃ evs sf hf, k sf hf = some r ∧ Traj call g gd items V h s drop' nl' evs sf hf
  | [], g, pairs, gd, inG, seen, drop, nl, drop', nl', V, s, h, k, r, hrun, hsc, hga, S, hgd => by
    simp only [scopeItems, Option.some.injEq, Prod.mk.injEq] at hsc
    obtain ⟨rfl, rfl⟩ := hsc
    exact ⟨[], s, h, hrun, ⟨rfl, trivial, rfl, rfl, fun _ => rfl, S, fun p hp => (by rw [innerPairs] at hp; cases hp), fun i a ha => .inr ha, fun e he => (by cases he)⟩⟩
  | .op i o :: rest, g, pairs, gd, inG, seen, drop, nl, drop', nl', V, s, h, k, r, hrun, hsc, hga, S, hgd => by
    simp only [runItems, runItem] at hrun
    rw [stepOp_eq] at hrun
    simp only [Option.bind_eq_some_iff] at hrun
    obtain ⟨⟨u, h1⟩, hu, hrun⟩ := hrun
    simp only at hrun
    simp only [scopeItems, scopeItem] at hsc
    cases hc : ((aoTmps o).all (fun t => !drop.contains t) && (opDst o).toList.all (fun t => !drop.contains t)) with
    | false => rw [hc] at hsc; cases hsc
    | true =>
      rw [hc] at hsc
      simp only [cond_true] at hsc
      simp only [Bool.and_eq_true, List.all_eq_true, Bool.not_eq_true', List.contains_eq_mem, decide_eq_false_iff_not] at hc
      let e : Ev := ⟨gd, i, o, true, g, s, h, u, h1⟩
      have hv : ∀ t ∈ aoTmps o, s.view t = V t := fun t ht => S.seen t (hc.1 t ht)
      have hok : EvOk call V h s.locs e :=
        { h := fun _ => rfl
          l := fun _ => rfl
          step := fun _ => hu
          opds := fun _ => hv
          guard := fun t want he => .inl ⟨(hgd t want he).1, rfl⟩
          free := fun _ => rfl }
      have hrec : ∀ t, e.updV V t = if opDst o = some t then u.view else V t := fun t => rfl
      let s2 : Env := bif inPairs pairs i then (u.app s).addLog i (logOf o s h (u.app s) h1) else u.app s
      have hs2v : ∀ t, s2.view t = (u.app s).view t := fun t => by
        show (bif inPairs pairs i then (u.app s).addLog i (logOf o s h (u.app s) h1) else u.app s).view t = _
        cases inPairs pairs i <;> rfl
      have hs2l : s2.locs = (u.app s).locs := by
        show (bif inPairs pairs i then (u.app s).addLog i (logOf o s h (u.app s) h1) else u.app s).locs = _
        cases inPairs pairs i <;> rfl
      have S2 : Scope s2 (e.updV V) drop (nlOp nl o) := by
        refine ⟨fun t ht => ?_, fun t => ?_, fun t ht => ?_⟩
        · rw [hs2v, view_app hu, hrec]
          split
          · rfl
          · exact S.seen t ht
        · rw [hs2v, view_app hu, hrec]
          split
          · exact .inl rfl
          · exact S.weak t
        · rw [hrec]; exact nlOp_ok hu S.nl hv t ht
      have hgd2 : ∀ t want, gd = some (t, want) → e.updV V t = (.bool want, none) ∧ t ∉ itemsDsts rest := by
        intro t want he
        obtain ⟨q1, q2⟩ := hgd t want he
        simp only [itemsDsts, itemDsts, List.mem_append, not_or] at q2
        refine ⟨?_, q2.2⟩
        rw [hrec, if_neg (by simpa using q2.1)]
        exact q1
      simp only [guardsAll, guardsOk, Bool.true_and] at hga
      obtain ⟨evs, sf, hf, hk, T⟩ := traj_items rest g pairs gd inG _ drop (nlOp nl o) drop' nl' _ s2 h1 k r hrun hsc hga S2 hgd2
      refine ⟨e :: evs, sf, hf, hk, ⟨?_, ⟨hok, ?_⟩, T.heap, ?_, ?_, T.scope, ?_, ?_, ?_⟩⟩
      · rw [List.map_cons, T.keys]; rfl
      · have := T.ok; rw [hs2l] at this; exact this
      · have := T.locs; rw [hs2l] at this; exact this
      · intro hg
        rw [T.gloc hg, hs2l]
        subst hg
        exact stepR_locs hu
      · intro p hp
        rw [innerPairs_op] at hp
        exact (T.inner p hp).mono fun q hq => List.mem_cons_of_mem _ hq
      · intro j a ha
        rcases T.log j a ha with ⟨q, h1, h2⟩ | hl
        · exact .inl ⟨q, List.mem_cons_of_mem _ h1, h2⟩
        · have hlog : (u.app s).log = s.log := by cases u <;> rfl
          have hl' : lookLog (bif inPairs pairs i then (u.app s).addLog i (logOf o s h (u.app s) h1) else u.app s).log j = some a := hl
          cases hp : inPairs pairs i with
          | false => rw [hp] at hl'; right; rw [← hlog]; exact hl'
          | true =>
            rw [hp] at hl'
            simp only [cond_true, Env.addLog, lookLog] at hl'
            cases hb : Nat.beq i j with
            | true =>
              rw [hb] at hl'
              simp only [cond_true, Option.some.injEq] at hl'
              exact .inl ⟨e, List.mem_cons_self, Nat.eq_of_beq_eq_true hb, rfl, hl'.symm⟩
            | false =>
              rw [hb] at hl'
              right; rw [← hlog]; exact hl'
      · intro q hq hon
        rcases List.mem_cons.1 hq with rfl | hq
        · rfl
        · rw [T.base q hq hon]
          show (bif inPairs pairs i then (u.app s).addLog i (logOf o s h (u.app s) h1) else u.app s).base = s.base
          cases inPairs pairs i <;> cases u <;> rfl
  | .guard t want items ps live :: rest, g, pairs, gd, inG, seen, drop, nl, drop', nl', V, s, h, k, r, hrun, hsc, hga, S, hgd => by
    simp only [runItems, runItem, Option.bind_eq_some_iff] at hrun
    obtain ⟨r1, hrun1, hrun⟩ := hrun
    simp only [scopeItems, scopeItem] at hsc
    cases hc : (!drop.contains t && ps.all (fun p => (idxs items).contains p.1)) with
    | false => rw [hc] at hsc; cases hsc
    | true =>
      rw [hc] at hsc
      simp only [cond_true] at hsc
      simp only [Bool.and_eq_true, Bool.not_eq_true', List.contains_eq_mem, decide_eq_false_iff_not, List.all_eq_true, decide_eq_true_eq] at hc
      obtain ⟨hdt, hpidx⟩ := hc
      cases hin : scopeItems drop nl items with
      | none => rw [hin] at hsc; simp at hsc
      | some dn =>
        obtain ⟨drop1, nl1⟩ := dn
        rw [hin] at hsc
        simp only at hsc
        cases hl : (live.all fun l => !drop1.contains l) with
        | false => rw [hl] at hsc; simp at hsc
        | true =>
          rw [hl] at hsc
          simp only [cond_true] at hsc
          simp only [List.all_eq_true, Bool.and_eq_true, Bool.not_eq_true', List.contains_eq_mem, decide_eq_false_iff_not, decide_eq_true_eq] at hl
          simp only [guardsAll, guardsOk, Bool.and_eq_true, Bool.not_eq_true', List.contains_eq_mem, decide_eq_false_iff_not, List.all_eq_true, decide_eq_true_eq] at hga
          obtain ⟨⟨⟨⟨hga1, hga2⟩, hga3⟩, hga4⟩, hga5⟩ := hga
          have hVt : s.view t = V t := S.seen t hdt
          have hmono := scopeItems_mono items drop nl drop1 nl1 hin
          have hview : ∀ (xs : List AVal) (q : Nat), (s.upd (itemsDsts items) live xs).view q = if q ∈ itemsDsts items then (look ((live.zipIdx.map fun p => (p.1, xs.getD p.2 .undef)) ++ ((itemsDsts items).map fun d => (d, AVal.undef)) ++ s.vals) q, none) else (if q ∈ live then (look ((live.zipIdx.map fun p => (p.1, xs.getD p.2 .undef)) ++ ((itemsDsts items).map fun d => (d, AVal.undef)) ++ s.vals) q, lookA s.lads q) else s.view q) := by
            intro xs q
            simp only [Env.view, Env.get, Env.upd, lookA_dropAs]
            by_cases h1 : q ∈ itemsDsts items
            · simp [h1]
            · have h2 : q ∉ live := fun hq => h1 (hga4 q hq)
              have hm1 : (live.zipIdx.map fun p => (p.1, xs.getD p.2 AVal.undef)).map (·.1) = live := by
                rw [List.map_map]
                have : ((fun x : Nat × AVal => x.1) ∘ fun p : Nat × Nat => (p.1, xs.getD p.2 AVal.undef)) = fun p => p.1 := rfl
                rw [this, List.zipIdx_map_fst]
              have hm2 : ((itemsDsts items).map fun d => (d, AVal.undef)).map (·.1) = itemsDsts items := by
                rw [List.map_map]
                have : ((fun x : Nat × AVal => x.1) ∘ fun d : Nat => (d, AVal.undef)) = id := rfl
                rw [this, List.map_id]
              rw [List.append_assoc, look_append, look_append, hm1, hm2]
              simp [h1, h2]
          have hlook : ∀ (xs : List AVal) (f : Nat → AVal), (∀ j l, live[j]? = some l → xs.getD j .undef = f l) → ∀ q ∈ live, look ((live.zipIdx.map fun p => (p.1, xs.getD p.2 .undef)) ++ ((itemsDsts items).map fun d => (d, AVal.undef)) ++ s.vals) q = f q := by
            intro xs f hf q hq
            have hm1 : (live.zipIdx.map fun p => (p.1, xs.getD p.2 AVal.undef)).map (·.1) = live := by
              rw [List.map_map]
              have : ((fun x : Nat × AVal => x.1) ∘ fun p : Nat × Nat => (p.1, xs.getD p.2 AVal.undef)) = fun p => p.1 := rfl
              rw [this, List.zipIdx_map_fst]
            rw [List.append_assoc, look_append, hm1, if_pos hq]
            exact look_zip f xs live 0 q (fun j l hj => by rw [Nat.zero_add]; exact hf j l hj) hq
          have hundef : ∀ (xs : List AVal) (q : Nat), q ∈ itemsDsts items → q ∉ live → look ((live.zipIdx.map fun p => (p.1, xs.getD p.2 .undef)) ++ ((itemsDsts items).map fun d => (d, AVal.undef)) ++ s.vals) q = .undef := by
            intro xs q h1 h2
            have hm1 : (live.zipIdx.map fun p => (p.1, xs.getD p.2 AVal.undef)).map (·.1) = live := by
              rw [List.map_map]
              have : ((fun x : Nat × AVal => x.1) ∘ fun p : Nat × Nat => (p.1, xs.getD p.2 AVal.undef)) = fun p => p.1 := rfl
              rw [this, List.zipIdx_map_fst]
            have hm2 : ((itemsDsts items).map fun d => (d, AVal.undef)).map (·.1) = itemsDsts items := by
              rw [List.map_map]
              have : ((fun x : Nat × AVal => x.1) ∘ fun d : Nat => (d, AVal.undef)) = id := rfl
              rw [this, List.map_id]
            rw [List.append_assoc, look_append, look_append, hm1, hm2, if_neg h2, if_pos h1, look_undef]
          -- what both ways share: behind the guard
          have key : ∀ (evs1 : List Ev) (xs : List AVal) (h1 : Heap), evs1.map Ev.key = flatItems (some (t, want)) items → EvsOk call V h s.locs evs1 → hRun h evs1 = h1 → lRun s.locs evs1 = s.locs →
              (∀ q ∈ live, vRun V evs1 q = (xs.getD (live.idxOf q) .undef, none)) → (∀ p ∈ ps ++ innerPairs items, PairOk evs1 p) → (∀ j l, live[j]? = some l → xs.getD j .undef = (vRun V evs1 l).1) → (∀ e ∈ evs1, e.on = true → e.s.base = s.base) →
              runItems call g pairs rest (s.upd (itemsDsts items) live xs) h1 k = some r → ∃ evs sf hf, k sf hf = some r ∧ Traj call g gd (.guard t want items ps live :: rest) V h s drop' nl' evs sf hf := by
            intro evs1 xs h1 hk1 hok1 hh1 hl1 hv1 hp1 hx hbs hrest
            have hdst := fun q hq => evs_dst hk1 (t := q) hq
            have S2 : Scope (s.upd (itemsDsts items) live xs) (vRun V evs1) (drop1 ++ (itemsDsts items).filter (fun d => !live.contains d)) (nl.filter fun d => !(itemsDsts items).contains d) := by
              refine ⟨fun q hq => ?_, fun q => ?_, fun q hq => ?_⟩
              · rw [hview]
                simp only [List.mem_append, List.mem_filter, Bool.not_eq_true', List.contains_eq_mem, decide_eq_false_iff_not, not_or, not_and, Decidable.not_not] at hq
                by_cases h1 : q ∈ itemsDsts items
                · have h2 := hq.2 h1
                  rw [if_pos h1, hlook xs (fun q => (vRun V evs1 q).1) hx q h2]
                  have := hv1 q h2
                  rw [this]
                · have h2 : q ∉ live := fun hq => h1 (hga4 q hq)
                  rw [if_neg h1, if_neg h2, vRun_not evs1 V q (hdst q h1)]
                  exact S.seen q fun hd => hq.1 (hmono q hd)
              · rw [hview]
                by_cases h1 : q ∈ itemsDsts items
                · rw [if_pos h1]
                  by_cases h2 : q ∈ live
                  · rw [hlook xs (fun q => (vRun V evs1 q).1) hx q h2, hv1 q h2]; exact .inl rfl
                  · rw [hundef xs q h1 h2]; exact .inr rfl
                · have h2 : q ∉ live := fun hq => h1 (hga4 q hq)
                  rw [if_neg h1, if_neg h2, vRun_not evs1 V q (hdst q h1)]
                  exact S.weak q
              · simp only [List.mem_filter, Bool.not_eq_true', List.contains_eq_mem, decide_eq_false_iff_not] at hq
                rw [vRun_not evs1 V q (hdst q hq.2)]
                exact S.nl q hq.1
            have hgd2 : ∀ t' want', gd = some (t', want') → vRun V evs1 t' = (.bool want', none) ∧ t' ∉ itemsDsts rest := by
              intro t' want' he
              obtain ⟨q1, q2⟩ := hgd t' want' he
              simp only [itemsDsts, itemDsts, List.mem_append, not_or] at q2
              exact ⟨by rw [vRun_not evs1 V t' (hdst t' q2.1)]; exact q1, q2.2⟩
            obtain ⟨evs, sf, hf, hk, T⟩ := traj_items rest g pairs gd inG _ _ _ drop' nl' _ (s.upd (itemsDsts items) live xs) h1 k r hrest hsc hga5 S2 hgd2
            obtain ⟨a1, a2, a3⟩ := run_append (as := evs1) (bs := evs) V h s.locs
            have hul : (s.upd (itemsDsts items) live xs).locs = s.locs := rfl
            refine ⟨evs1 ++ evs, sf, hf, hk, ⟨?_, EvsOk.append hok1 ?_, ?_, ?_, ?_, ?_, ?_, ?_, ?_⟩⟩
            · rw [List.map_append, hk1, T.keys]; rfl
            · rw [hh1, hl1]; exact T.ok
            · rw [a2, hh1]; exact T.heap
            · rw [a3, hl1]; exact T.locs
            · intro hg; rw [T.gloc hg]; rfl
            · rw [a1]; exact T.scope
            · intro p hp
              rw [innerPairs_guard] at hp
              rcases List.mem_append.1 hp with hp | hp
              · exact (hp1 p hp).mono fun q hq => List.mem_append_left _ hq
              · exact (T.inner p hp).mono fun q hq => List.mem_append_right _ hq
            · intro j a ha
              rcases T.log j a ha with ⟨q, h1, h2⟩ | hl
              · exact .inl ⟨q, List.mem_append_right _ h1, h2⟩
              · exact .inr hl
            · intro q hq hon
              rcases List.mem_append.1 hq with hq | hq
              · exact hbs q hq hon
              · exact T.base q hq hon
          -- the guard's answer
          have hskip : some (0, live.map fun _ => skipV, h) = some r1 → (V t = (.bool !want, none) ∨ V t = (skipV, none)) → ∃ evs sf hf, k sf hf = some r ∧ Traj call g gd (.guard t want items ps live :: rest) V h s drop' nl' evs sf hf := by
            intro hr1 hV
            cases hr1
            obtain ⟨i1, i2, i3, i4⟩ := off_items (call := call) h s.locs items (some (t, want)) [] V hga3 (fun t ht => by cases ht) ⟨t, want, rfl, hV⟩
            refine key _ (live.map fun _ => skipV) h ?_ i1 i2 i3 ?_ ?_ ?_ (fun e he hon => by obtain ⟨x, _, rfl⟩ := List.mem_map.1 he; cases hon) hrun
            · rw [List.map_map]
              have : (Ev.key ∘ offEv) = id := rfl
              rw [this, List.map_id]
            · intro q hq
              rw [i4, if_pos (hga4 q hq)]
              have hlt : live.idxOf q < live.length := List.idxOf_lt_length_of_mem hq
              simp [List.getD_eq_getElem?_getD, List.getElem?_map, List.getElem?_eq_getElem hlt]
            · intro p hp
              rcases List.mem_append.1 hp with hp | hp
              · have hx := hpidx p hp
                refine .inl ?_
                have : p.1 ∈ (flatItems (some (t, want)) items).map (·.2.1) := by
                  rw [idxs] at hx
                  rw [flat_idx (some (t, want)) none]; exact hx
                obtain ⟨x, hx1, hx2⟩ := List.mem_map.1 this
                exact ⟨offEv x, List.mem_map_of_mem hx1, hx2, rfl⟩
              · refine .inl ?_
                have := inner_idx drop nl items drop1 nl1 hin p hp
                rw [idxs, ← flat_idx (some (t, want)) none] at this
                obtain ⟨x, hx1, hx2⟩ := List.mem_map.1 this
                exact ⟨offEv x, List.mem_map_of_mem hx1, hx2, rfl⟩
            · intro j l hj
              have hlt : j < live.length := (List.getElem?_eq_some_iff.1 hj).1
              rw [i4, if_pos (hga4 l (List.mem_of_getElem? hj))]
              simp [List.getD_eq_getElem?_getD, List.getElem?_map, hj]
          have hview0 : ∀ v, v ≠ .undef → s.get t = v → V t = (v, none) := by
            intro v hv hg
            rw [← hVt]
            unfold Env.view
            rw [hg]
            unfold Env.get at hg
            split at hg
            · exact (hv hg.symm).elim
            · rename_i hn; rw [hn]
          unfold guardV at hrun1
          split at hrun1
          · rename_i x hx
            have hVx := hview0 _ (by simp) hx
            cases hxw : (x == want) with
            | false =>
              rw [hxw] at hrun1
              refine hskip hrun1 (.inl ?_)
              rw [hVx]
              cases x <;> cases want <;> simp_all
            | true =>
              rw [hxw] at hrun1
              have hxe : x = want := by simpa using hxw
              subst hxe
              simp only [cond_true] at hrun1
              obtain ⟨evs1, s1, h1, hk1, T⟩ := traj_items items true ps (some (t, x)) true [] drop nl drop1 nl1 V s.noLog h _ r1 hrun1 hin hga3 ⟨S.seen, S.weak, S.nl⟩ (fun t' want' e => by
                simp only [Option.some.injEq, Prod.mk.injEq] at e
                obtain ⟨rfl, rfl⟩ := e
                exact ⟨hVx, hga1⟩)
              cases hcp : (s1.noLads live && checkPairs s1.log ps) with
              | false => rw [hcp] at hk1; cases hk1
              | true =>
                rw [hcp] at hk1
                simp only [cond_true, Option.some.injEq] at hk1
                subst hk1
                simp only [Bool.and_eq_true] at hcp
                obtain ⟨hnl, hcp⟩ := hcp
                have hlv : ∀ q ∈ live, vRun V evs1 q = (s1.get q, none) := by
                  intro q hq
                  have h1 := T.scope.seen q (hl q hq)
                  have h2' : lookA s1.lads q = none := by
                    have := List.all_eq_true.1 hnl q hq
                    cases hh : lookA s1.lads q with
                    | none => rfl
                    | some p => rw [hh] at this; cases this
                  rw [← h1]
                  unfold Env.view
                  rw [h2']
                have hxs : ∀ j l, live[j]? = some l → (s1.vout live).getD j .undef = s1.get l := by
                  intro j l hj
                  simp [Env.vout, List.getD_eq_getElem?_getD, List.getElem?_map, hj]
                refine key evs1 (s1.vout live) h1 T.keys T.ok T.heap ?_ ?_ ?_ ?_ (fun e he hon => T.base e he hon) hrun
                · have := T.gloc rfl
                  have h2 := T.locs
                  rw [this] at h2
                  exact h2
                · intro q hq
                  rw [hlv q hq]
                  have hlt : live.idxOf q < live.length := List.idxOf_lt_length_of_mem hq
                  rw [hxs (live.idxOf q) q (by rw [List.getElem?_eq_getElem hlt, List.getElem_idxOf])]
                · intro p hp
                  rcases List.mem_append.1 hp with hp | hp
                  · refine level_pairs hcp (fun i a ha => ?_) p hp
                    rcases T.log i a ha with hh | hh
                    · exact hh
                    · cases hh
                  · exact T.inner p hp
                · intro j l hj
                  rw [hxs j l hj, hlv l (List.mem_of_getElem? hj)]
          · rename_i hx
            exact hskip hrun1 (.inr (hview0 skipV (fun e => by cases e) hx))
          · cases hrun1

end Go.Fw
