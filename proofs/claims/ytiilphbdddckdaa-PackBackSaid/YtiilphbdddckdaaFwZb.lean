/- Drawn regions: the check is enough. -/
import Derived.Test.YtiilphbdddckdaaFwZa
import Derived.Test.YtiilphbdddckdaaFwT
namespace Go.Fw

theorem In.drew {B n : Nat} {φ0 φ : Phi} {h0 h : Heap} {w0 w : World} {L : Nat → Nat} {s : Env} {a : Act} (I : In B n φ0 h0 w0 φ L s h a w) (k : Nat) : In B n φ0 h0 w0 φ L s h a { w with drawn := k } := by
  obtain ⟨⟨H, c1, c2, c3, c4, c5, c6⟩, S, b, d⟩ := I
  exact ⟨⟨H.world rfl, c1, c2, c3, c4, c5, c6⟩, ⟨S.ext, S.next, S.old, S.new, S.size, S.frame, S.os, S.tape, S.output⟩, b, d⟩

theorem flat_get {fl : List (Option (Nat × Bool) × Nat × AOp)} {evs : List Ev} (hk : evs.map Ev.key = fl) {i : Nat} {e : Ev} (he : evs[i]? = some e) : fl[i]? = some e.key := by
  rw [← hk, List.getElem?_map, he]; rfl

theorem filterMap_split {α β : Type} (f : α → Option β) : ∀ (l : List α) (i j : Nat) (x y : α) (bx b : β), i < j → l[i]? = some x → l[j]? = some y → f x = some bx → f y = some b → ∃ as bs cs, l.filterMap f = as ++ bx :: (bs ++ b :: cs)
  | [], i, j, x, y, bx, b, hij, hx, hy, _, _ => by simp at hx
  | z :: l, i, j, x, y, bx, b, hij, hx, hy, h1, h2 => by
    cases j with
    | zero => omega
    | succ j =>
      simp only [List.getElem?_cons_succ] at hy
      cases i with
      | zero =>
        simp only [List.getElem?_cons_zero, Option.some.injEq] at hx
        subst hx
        have hm : b ∈ l.filterMap f := List.mem_filterMap.2 ⟨y, List.mem_of_getElem? hy, h2⟩
        obtain ⟨bs, cs, e⟩ := List.append_of_mem hm
        exact ⟨[], bs, cs, by rw [List.filterMap_cons, h1]; simp [e]⟩
      | succ i =>
        simp only [List.getElem?_cons_succ] at hx
        obtain ⟨as, bs, cs, e⟩ := filterMap_split f l i j x y bx b (by omega) hx hy h1 h2
        cases hz : f z with
        | none => exact ⟨as, bs, cs, by rw [List.filterMap_cons, hz]; exact e⟩
        | some bz => exact ⟨bz :: as, bs, cs, by rw [List.filterMap_cons, hz]; simp [e]⟩

theorem draw_sound (P : Program) : DrawSound P (drawOk P) := by
  intro call hcall B n φ0 h0 w0 φ L s h a w ops id items pairs r k hok hrun I Q hQ
  simp only [drawOk, Bool.and_eq_true] at hok
  obtain ⟨⟨hmix, hreg⟩, hok⟩ := hok
  split at hok
  · rename_i ms sc hms hsc
    obtain ⟨drop', nl'⟩ := sc
    simp only [Bool.and_eq_true, List.all_eq_true] at hok
    obtain ⟨⟨⟨hnd, hnm⟩, hord⟩, hrd⟩ := hok
    simp only [regionOk, Bool.and_eq_true, decide_eq_true_eq, List.all_eq_true] at hreg
    obtain ⟨⟨hidx, hoper⟩, hgu⟩ := hreg
    obtain ⟨⟨t0, hms1, hms2⟩, hmsp⟩ := masks_spec hms
    have S0 : Scope s.noLog s.noLog.view [] [] := ⟨fun _ _ => rfl, fun _ => .inl rfl, fun t ht => by cases ht⟩
    obtain ⟨evs, sf, hf, hk, T⟩ := traj_items items false pairs none false [] [] [] drop' nl' s.noLog.view s.noLog h _ r hrun hsc hgu S0 (fun t want e => by cases e)
    have hlen : evs.length = ops.size := by
      have := congrArg List.length T.keys
      rw [List.length_map] at this
      have h2 := congrArg List.length hidx
      rw [List.length_map, List.length_range] at h2
      rw [this, h2]
    have hfi : ∀ (i : Nat) (e : Ev), evs[i]? = some e → e.i = i := by
      intro i e he
      have h1 := flat_get T.keys he
      have h2 : ((flatItems none items).map (·.2.1))[i]? = some e.i := by rw [List.getElem?_map, h1]; rfl
      rw [hidx] at h2
      have hlt : i < ops.size := by rw [← hlen]; exact (List.getElem?_eq_some_iff.1 he).1
      rw [List.getElem?_range hlt] at h2
      cases h2
      rfl
    have hmem : ∀ {i : Nat} {e : Ev}, evs[i]? = some e → e.key ∈ flatItems none items := fun he => List.mem_of_getElem? (flat_get T.keys he)
    have hpairs : ∀ p ∈ pairs ++ innerPairs items, PairOk evs p := by
      cases hcp : checkPairs sf.log pairs with
      | false => rw [hcp] at hk; cases hk
      | true =>
        intro p hp
        rcases List.mem_append.1 hp with hp | hp
        · refine level_pairs hcp (fun i a ha => ?_) p hp
          rcases T.log i a ha with hh | hh
          · exact hh
          · cases hh
        · exact T.inner p hp
    have C : Ctx P call n ops items pairs ms evs s.noLog h := by
      refine ⟨hlen, T.keys, hfi, fun i e he => hoper _ (hmem he), ?_, ?_, ?_, ?_, ?_, ?_, T.ok⟩
      · intro i o ho e he hb
        have := (hmsp i o (by rw [Array.getElem?_toList]; exact ho)).1 e he hb
        simpa using this
      · intro i o ho j hj
        have := (hmsp i o (by rw [Array.getElem?_toList]; exact ho)).2 j
        simp only [List.length_nil, Nat.zero_add] at this
        exact this hj
      · intro i j ei ej t hei hej hdi hdj
        have hnd' := nodupB_spec hnd
        rcases Nat.lt_trichotomy i j with hij | hij | hij
        · exfalso
          obtain ⟨as, bs, cs, e⟩ := filterMap_split (fun x : Option (Nat × Bool) × Nat × AOp => (opDst x.2.2).map fun d => (x.2.1, d)) _ i j _ _ (ei.i, t) (ej.i, t) hij (flat_get T.keys hei) (flat_get T.keys hej) (by simp [Ev.key, hdi]) (by simp [Ev.key, hdj])
          rw [e, List.map_append, List.map_cons, List.map_append, List.map_cons] at hnd'
          exact (List.nodup_cons.1 (List.nodup_append.1 hnd').2.1).1 (by simp)
        · exact hij
        · exfalso
          obtain ⟨as, bs, cs, e⟩ := filterMap_split (fun x : Option (Nat × Bool) × Nat × AOp => (opDst x.2.2).map fun d => (x.2.1, d)) _ j i _ _ (ej.i, t) (ei.i, t) hij (flat_get T.keys hej) (flat_get T.keys hei) (by simp [Ev.key, hdj]) (by simp [Ev.key, hdi])
          rw [e, List.map_append, List.map_cons, List.map_append, List.map_cons] at hnd'
          exact (List.nodup_cons.1 (List.nodup_append.1 hnd').2.1).1 (by simp)
      · intro i j ei ej t hei hej ht hdj
        have h1 := hnm _ (hmem hei)
        simp only [namesOk, List.all_eq_true] at h1
        have h2 := h1 t ht (ej.i, t) (List.mem_filterMap.2 ⟨ej.key, hmem hej, by simp [Ev.key, hdj]⟩)
        have e1 : ei.key.2.1 = i := hfi i ei hei
        have e2 : ej.i = j := hfi j ej hej
        rw [e1, e2] at h2
        simp only [Nat.beq_refl, Bool.not_true, Bool.false_or] at h2
        cases hb : Nat.blt j i with
        | true =>
          rw [hb] at h2
          have := Nat.le_of_ble_eq_true (show Nat.ble (j + 1) i = true from hb)
          exact .inl ⟨by omega, h2⟩
        | false =>
          rw [hb] at h2
          simp only [cond_false, Bool.and_eq_true] at h2
          have := Nat.le_of_ble_eq_true (show Nat.ble (i + 1) j = true from h2.1)
          exact .inr ⟨by omega, h2.2⟩
      · intro i j ei ej hei hej h1 h2 hij
        have e1 : ei.key.2.1 = i := hfi i ei hei
        have e2 : ej.key.2.1 = j := hfi j ej hej
        have hfm : ((flatItems none items).filter fun x => isEff x.2.2).map (·.2.1) = (flatItems none items).filterMap fun x => if isEff x.2.2 = true then some x.2.1 else none := by
          generalize flatItems none items = l
          induction l with
          | nil => rfl
          | cons x l ih =>
            rw [List.filter_cons, List.filterMap_cons]
            by_cases hx : isEff x.2.2 = true
            · rw [if_pos hx, if_pos hx, List.map_cons, ih]
            · rw [if_neg hx, if_neg hx, ih]
        rw [hfm] at hord
        obtain ⟨as, bs, cs, e⟩ := filterMap_split (fun x : Option (Nat × Bool) × Nat × AOp => if isEff x.2.2 = true then some x.2.1 else none) _ i j _ _ i j hij (flat_get T.keys hei) (flat_get T.keys hej) (by show (if isEff ei.ao = true then some ei.key.2.1 else none) = _; rw [if_pos h1, e1]) (by show (if isEff ej.ao = true then some ej.key.2.1 else none) = _; rw [if_pos h2, e2])
        exact orderedB_spec hord as i bs j cs e
      · intro i j ei ej hei hej h1 h2
        have e1 : ei.key.2.1 = i := hfi i ei hei
        have e2 : ej.key.2.1 = j := hfi j ej hej
        have h3 := hrd _ (hmem hei)
        have h1' : isRd ei.key.2.2 = true := h1
        rw [h1'] at h3
        simp only [Bool.not_true, Bool.false_or, List.all_eq_true] at h3
        have h4 := h3 j (List.mem_map.2 ⟨ej.key, List.mem_filter.2 ⟨hmem hej, h2⟩, e2⟩)
        rw [e1] at h4
        simp only [Bool.or_eq_true, List.any_eq_true, Bool.and_eq_true] at h4
        rcases h4 with (h4 | h4) | ⟨p, hp, hp1, hp2⟩
        · exact .inl h4
        · exact .inr (.inl h4)
        · refine .inr (.inr fun hon1 hon2 => ?_)
          have hp1' := Nat.eq_of_beq_eq_true hp1
          have hp2' := Nat.eq_of_beq_eq_true hp2
          have hat : ∀ q ∈ evs, evs[q.i]? = some q := by
            intro q hq
            obtain ⟨m, hm⟩ := List.getElem?_of_mem hq
            rw [hfi m q hm]; exact hm
          rcases hpairs p hp with ⟨q, hq, hqi, hqo⟩ | ⟨qi, hqi, qq, hqq, q1, q2, q3, q4, q5⟩
          · have h5 := hat q hq
            rw [hqi, hp1', hei] at h5
            cases h5
            rw [hon1] at hqo; cases hqo
          · have h5 := hat qi hqi
            rw [q1, hp1', hei] at h5
            cases h5
            have h6 := hat qq hqq
            rw [q2, hp2', hej] at h6
            cases h6
            exact q5
    refine wp_region_any hmix ?_
    refine C.any (B := B) (φ0 := φ0) (hb := h0) (w0 := w0) hcall Q ?_ ops.size (Array.replicate ops.size false) s.noLog 0 φ L a _ (by simp) ?_ ?_ ?_
    · intro S c φ' L' a' w' D hall TD
      have hend : hAt h evs c = hf ∧ lAt s.noLog.locs evs c = sf.locs := by
        have := C.same_heap c (evs.length - c) (by have := TD.le; omega) (fun q eq h1 h2 hq hef => by
          have h3 := TD.todo q eq h1 hq hef
          rw [hall q (by rw [← hlen]; exact (List.getElem?_eq_some_iff.1 hq).1)] at h3
          cases h3)
        rw [show c + (evs.length - c) = evs.length by have := TD.le; omega] at this
        rw [← this.1, ← this.2]
        unfold hAt lAt
        rw [List.take_length]
        exact ⟨T.heap, T.locs⟩
      have hview : ∀ t, S.view t = vRun s.noLog.view evs t := by
        intro t
        obtain ⟨v1, v2⟩ := C.vAt_spec evs.length (Nat.le_refl _)
        unfold vAt at v1 v2
        rw [List.take_length] at v1 v2
        by_cases hex : ∃ (j : Nat) (ej : Ev), evs[j]? = some ej ∧ opDst ej.ao = some t
        · obtain ⟨j, ej, hej, hd⟩ := hex
          have hjlt := (List.getElem?_eq_some_iff.1 hej).1
          rw [TD.seen j ej t (hall j (by omega)) hej hd, v1 j ej t hjlt hej hd]
        · have hno : ∀ (j : Nat) (ej : Ev), evs[j]? = some ej → opDst ej.ao ≠ some t := fun j ej hej hd => hex ⟨j, ej, hej, hd⟩
          rw [TD.rest t fun j ej _ hej => hno j ej hej, v2 t fun j ej _ hej => hno j ej hej]
      have hI := TD.rel
      rw [hend.1] at hI
      have hlocs : S.locs = sf.locs := by rw [TD.locs, hend.2]
      have hweak : Weak sf S := by
        refine ⟨fun t ht => ?_, fun t l off ht => ?_, fun l cs hl => by rw [hlocs]; exact hl⟩
        · have hg : look sf.vals t = sf.get t := by unfold Env.get; rw [ht]
          rcases T.scope.weak t with h1 | h1
          · right
            rw [← hview t] at h1
            simp only [Env.view, Prod.mk.injEq] at h1
            rw [hg, h1.1]
          · left
            simp only [Env.view, Prod.mk.injEq] at h1
            rw [hg, h1.1]
        · rcases T.scope.weak t with h1 | h1
          · rw [← hview t] at h1
            simp only [Env.view, Prod.mk.injEq] at h1
            have h2 : lookA S.lads t = some (l, off) := by rw [← h1.2]; exact ht
            obtain ⟨⟨cs, hcs⟩, _⟩ := hI.rel.lads t l off h2
            exact ⟨h2, cs, by rw [← hlocs]; exact hcs⟩
          · simp only [Env.view, Prod.mk.injEq] at h1
            rw [h1.2] at ht; cases ht
      have hI2 := hI.weak hweak
      cases hcp : checkPairs sf.log pairs with
      | false => rw [hcp] at hk; cases hk
      | true =>
        rw [hcp] at hk
        exact hQ sf.noLog hf φ' L' a' w' hk (hI2.env rfl rfl rfl)
    · refine Nat.le_trans (List.countP_le_length) ?_
      simp
    · intro i o ho hi
      have : (Array.replicate ops.size false).getD i false = false := by
        rw [Array.getD_eq_getD_getElem?, Array.getElem?_replicate]
        split <;> rfl
      have hi' : (Array.replicate ops.size false).getD i false = true := hi
      rw [this] at hi'; cases hi'
    · have hD0 : ∀ i, (Array.replicate ops.size false).getD i false = false := fun i => by
        rw [Array.getD_eq_getD_getElem?, Array.getElem?_replicate]
        split <;> rfl
      refine ⟨Nat.zero_le _, fun i e hi => by omega, fun i e _ _ _ => hD0 i, ?_, rfl, fun j e t hj => ?_, fun t _ => rfl⟩
      · exact (I.env (s' := s.noLog) rfl rfl rfl).drew _
      · have hj' : (Array.replicate ops.size false).getD j false = true := hj
        rw [hD0 j] at hj'; cases hj'
  · cases hok

/-- **What the abstract functions answer, the program's do.** -/
theorem E_ok {P : Program} {tbl : Nat → Option AFn} (htbl : ∀ f a, tbl f = some a → FnOk P (drawOk P) f a) : CallOk P (E tbl) := E_sound (draw_sound P) htbl

#print axioms E_ok
end Go.Fw
