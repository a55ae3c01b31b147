/- Drawn regions: the check is enough. -/
import Derived.Test.YtfdhljghamkgjaaFwZa
import Derived.Test.YtfdhljghamkgjaaFwT
namespace Go.Fw
set_option linter.unusedSimpArgs false
set_option linter.unusedVariables false

theorem In.drew {B n : Nat} {φ0 φ : Phi} {h0 h : Heap} {w0 w : World} {L : Nat → Nat} {s : Env} {a : Act} (I : In B n φ0 h0 w0 φ L s h a w) (k : Nat) : In B n φ0 h0 w0 φ L s h a { w with drawn := k } := by
  obtain ⟨⟨H, c1, c2, c3, c4, c5, c6⟩, S, b, d⟩ := I
  exact ⟨⟨H.world rfl, c1, c2, c3, c4, c5, c6⟩, ⟨S.ext, S.next, S.old, S.new, S.size, S.keep, S.frame, S.os, S.tape, S.output⟩, b, d⟩

/-- Names that are held ready change nothing. -/
theorem In.res {B n : Nat} {φ0 φ : Phi} {h0 h : Heap} {w0 w : World} {L : Nat → Nat} {s : Env} {a : Act} (I : In B n φ0 h0 w0 φ L s h a w) (m : Nat) : In B n φ0 h0 w0 φ L s (h.res m) a w := by
  have H := I.rel.heap
  have S := I.step
  refine ⟨⟨⟨fun b L hb => ?_, fun b x hx => ?_, H.blk, H.apart⟩, I.rel.size, I.rel.defers, I.rel.vals, I.rel.lads, I.rel.locs, I.rel.inj⟩, ⟨S.ext, ?_, S.old, S.new, S.size, S.keep, S.frame, S.os, S.tape, S.output⟩, I.base, I.dom⟩
  · have := H.dom b L hb
    exact ⟨by show b < h.next + m; omega, this.2⟩
  · have := H.live b x hx
    show b < h.next + m
    omega
  · have := S.next
    show h0.next ≤ h.next + m
    omega

theorem flat_get {fl : List (Option (Nat × Bool) × Nat × AOp)} {evs : List Ev} (hk : evs.map Ev.key = fl) {i : Nat} {e : Ev} (he : evs[i]? = some e) : fl[i]? = some e.key := by
  rw [← hk, List.getElem?_map, he]; rfl

theorem filterMap_split {α β : Type} (f : α → Option β) : ∀ (l : List α) (i j : Nat) (x y : α) (bx b : β), i < j → l[i]? = some x → l[j]? = some y → f x = some bx → f y = some b → ∃ as bs cs, l.filterMap f = as ++ bx :: (bs ++ b :: cs)
  | [], i, j, x, y, bx, b, hij, hx, hy, _, _ => by simp at hx
  | z :: l, i, j, x, y, bx, b, hij, hx, hy, h1, h2 => by
    cases j with
    | zero => omega
    | succ j =>
      simp only [List.getElem?_cons_succ] at hy
      cases i with
      | zero =>
        simp only [List.getElem?_cons_zero, Option.some.injEq] at hx
        subst hx
        have hm : b ∈ l.filterMap f := List.mem_filterMap.2 ⟨y, List.mem_of_getElem? hy, h2⟩
        obtain ⟨bs, cs, e⟩ := List.append_of_mem hm
        exact ⟨[], bs, cs, by rw [List.filterMap_cons, h1]; simp [e]⟩
      | succ i =>
        simp only [List.getElem?_cons_succ] at hx
        obtain ⟨as, bs, cs, e⟩ := filterMap_split f l i j x y bx b (by omega) hx hy h1 h2
        cases hz : f z with
        | none => exact ⟨as, bs, cs, by rw [List.filterMap_cons, hz]; exact e⟩
        | some bz => exact ⟨bz :: as, bs, cs, by rw [List.filterMap_cons, hz]; simp [e]⟩

theorem draw_sound (P : Program) : DrawSound P (drawOk P) := by
  intro call hcall B n φ0 h0 w0 φ L s h a w ops id items pairs r k m b hok hmb hrun I Q hQ
  obtain ⟨s1, hs1⟩ : ∃ s1 : Env, s1 = { s.noLog with base := b } := ⟨_, rfl⟩
  obtain ⟨h1, hh1⟩ : ∃ h1 : Heap, h1 = h.res m := ⟨_, rfl⟩
  rw [← hs1, ← hh1] at hrun
  simp only [drawOk, Bool.and_eq_true] at hok
  obtain ⟨⟨hmix, hreg⟩, hok⟩ := hok
  split at hok
  · rename_i ms sc hms hsc
    obtain ⟨drop', nl'⟩ := sc
    simp only [Bool.and_eq_true, List.all_eq_true] at hok
    obtain ⟨⟨⟨⟨⟨hnd, hnm⟩, hord⟩, hrd⟩, hjs⟩, hjm⟩ := hok
    simp only [regionOkF, Bool.and_eq_true, decide_eq_true_eq, List.all_eq_true] at hreg
    obtain ⟨⟨hidx, hoper⟩, hgu⟩ := hreg
    obtain ⟨⟨t0, hms1, hms2⟩, hmsp⟩ := masks_spec hms
    have S0 : Scope s1 s1.view [] [] := ⟨fun _ _ => rfl, fun _ => .inl rfl, fun t ht => by cases ht⟩
    obtain ⟨evs, sf, hf, hk, T⟩ := traj_items items false pairs none false [] [] [] drop' nl' s1.view s1 h1 _ r hrun hsc hgu S0 (fun t want e => by cases e)
    have hlen : evs.length = ops.size := by
      have := congrArg List.length T.keys
      rw [List.length_map] at this
      have h2 := congrArg List.length hidx
      rw [List.length_map, List.length_range] at h2
      rw [this, h2]
    have hfi : ∀ (i : Nat) (e : Ev), evs[i]? = some e → e.i = i := by
      intro i e he
      have h1 := flat_get T.keys he
      have h2 : ((flatItems none items).map (·.2.1))[i]? = some e.i := by rw [List.getElem?_map, h1]; rfl
      rw [hidx] at h2
      have hlt : i < ops.size := by rw [← hlen]; exact (List.getElem?_eq_some_iff.1 he).1
      rw [List.getElem?_range hlt] at h2
      cases h2
      rfl
    have hmem : ∀ {i : Nat} {e : Ev}, evs[i]? = some e → e.key ∈ flatItems none items := fun he => List.mem_of_getElem? (flat_get T.keys he)
    have hpairs : ∀ p ∈ pairs ++ innerPairs items, PairOk evs p := by
      cases hcp : checkPairs sf.log pairs with
      | false => rw [hcp] at hk; cases hk
      | true =>
        intro p hp
        rcases List.mem_append.1 hp with hp | hp
        · refine level_pairs hcp (fun i a ha => ?_) p hp
          rcases T.log i a ha with hh | hh
          · exact hh
          · rw [hs1] at hh; cases hh
        · exact T.inner p hp
    have C : Ctx P call n b ops items pairs ms evs s1 h1 := by
      refine ⟨hlen, T.keys, hfi, fun i e he => hoper _ (hmem he), ?_, ?_, ?_, ?_, ?_, ?_, ?_, fun i e he _ hon => by rw [T.base e (List.mem_of_getElem? he) hon, hs1], T.ok⟩
      · intro i o ho e he hb
        have := (hmsp i o (by rw [Array.getElem?_toList]; exact ho)).1 e he hb
        simpa using this
      · intro i o ho j hj
        have := (hmsp i o (by rw [Array.getElem?_toList]; exact ho)).2 j
        simp only [List.length_nil, Nat.zero_add] at this
        exact this hj
      · intro i j ei ej t hei hej hdi hdj
        have hnd' := nodupB_spec hnd
        rcases Nat.lt_trichotomy i j with hij | hij | hij
        · exfalso
          obtain ⟨as, bs, cs, e⟩ := filterMap_split (fun x : Option (Nat × Bool) × Nat × AOp => (opDst x.2.2).map fun d => (x.2.1, d)) _ i j _ _ (ei.i, t) (ej.i, t) hij (flat_get T.keys hei) (flat_get T.keys hej) (by simp [Ev.key, hdi]) (by simp [Ev.key, hdj])
          rw [e, List.map_append, List.map_cons, List.map_append, List.map_cons] at hnd'
          exact (List.nodup_cons.1 (List.nodup_append.1 hnd').2.1).1 (by simp)
        · exact hij
        · exfalso
          obtain ⟨as, bs, cs, e⟩ := filterMap_split (fun x : Option (Nat × Bool) × Nat × AOp => (opDst x.2.2).map fun d => (x.2.1, d)) _ j i _ _ (ej.i, t) (ei.i, t) hij (flat_get T.keys hej) (flat_get T.keys hei) (by simp [Ev.key, hdj]) (by simp [Ev.key, hdi])
          rw [e, List.map_append, List.map_cons, List.map_append, List.map_cons] at hnd'
          exact (List.nodup_cons.1 (List.nodup_append.1 hnd').2.1).1 (by simp)
      · intro i j ei ej t hei hej ht hdj
        have h1 := hnm _ (hmem hei)
        simp only [namesOk, List.all_eq_true] at h1
        have h2 := h1 t ht (ej.i, t) (List.mem_filterMap.2 ⟨ej.key, hmem hej, by simp [Ev.key, hdj]⟩)
        have e1 : ei.key.2.1 = i := hfi i ei hei
        have e2 : ej.i = j := hfi j ej hej
        rw [e1, e2] at h2
        simp only [Nat.beq_refl, Bool.not_true, Bool.false_or] at h2
        cases hb : Nat.blt j i with
        | true =>
          rw [hb] at h2
          have := Nat.le_of_ble_eq_true (show Nat.ble (j + 1) i = true from hb)
          exact .inl ⟨by omega, h2⟩
        | false =>
          rw [hb] at h2
          simp only [cond_false, Bool.and_eq_true] at h2
          have := Nat.le_of_ble_eq_true (show Nat.ble (i + 1) j = true from h2.1)
          exact .inr ⟨by omega, h2.2⟩
      · intro i j ei ej hei hej h1 h2 hij
        have e1 : ei.key.2.1 = i := hfi i ei hei
        have e2 : ej.key.2.1 = j := hfi j ej hej
        have hfm : ((flatItems none items).filter fun x => isEf x.2.2).map (·.2.1) = (flatItems none items).filterMap fun x => if isEf x.2.2 = true then some x.2.1 else none := by
          generalize flatItems none items = l
          induction l with
          | nil => rfl
          | cons x l ih =>
            rw [List.filter_cons, List.filterMap_cons]
            by_cases hx : isEf x.2.2 = true
            · rw [if_pos hx, if_pos hx, List.map_cons, ih]
            · rw [if_neg hx, if_neg hx, ih]
        rw [hfm] at hord
        obtain ⟨as, bs, cs, e⟩ := filterMap_split (fun x : Option (Nat × Bool) × Nat × AOp => if isEf x.2.2 = true then some x.2.1 else none) _ i j _ _ i j hij (flat_get T.keys hei) (flat_get T.keys hej) (by show (if isEf ei.ao = true then some ei.key.2.1 else none) = _; rw [if_pos h1, e1]) (by show (if isEf ej.ao = true then some ej.key.2.1 else none) = _; rw [if_pos h2, e2])
        exact orderedB_spec hord as i bs j cs e
      · intro i j ei ej hei hej h1 h2
        have e1 : ei.key.2.1 = i := hfi i ei hei
        have e2 : ej.key.2.1 = j := hfi j ej hej
        have h3 := hrd _ (hmem hei)
        have h1' : isRd ei.key.2.2 = true := h1
        rw [h1'] at h3
        simp only [Bool.not_true, Bool.false_or, List.all_eq_true] at h3
        have h4 := h3 j (List.mem_map.2 ⟨ej.key, List.mem_filter.2 ⟨hmem hej, h2⟩, e2⟩)
        rw [e1] at h4
        simp only [Bool.or_eq_true, List.any_eq_true, Bool.and_eq_true] at h4
        rcases h4 with (h4 | h4) | ⟨p, hp, hp1, hp2⟩
        · exact .inl h4
        · exact .inr (.inl h4)
        · refine .inr (.inr fun hon1 hon2 => ?_)
          have hp1' := Nat.eq_of_beq_eq_true hp1
          have hp2' := Nat.eq_of_beq_eq_true hp2
          have hat : ∀ q ∈ evs, evs[q.i]? = some q := by
            intro q hq
            obtain ⟨m, hm⟩ := List.getElem?_of_mem hq
            rw [hfi m q hm]; exact hm
          rcases hpairs p hp with ⟨q, hq, hqi, hqo⟩ | ⟨qi, hqi, qq, hqq, q1, q2, q3, q4, q5⟩
          · have h5 := hat q hq
            rw [hqi, hp1', hei] at h5
            cases h5
            rw [hon1] at hqo; cases hqo
          · have h5 := hat qi hqi
            rw [q1, hp1', hei] at h5
            cases h5
            have h6 := hat qq hqq
            rw [q2, hp2', hej] at h6
            cases h6
            exact q5
      · intro i j ei ej q hei hej hdi hdj
        have hjs' := nodupB_spec hjs
        rcases Nat.lt_trichotomy i j with hij | hij | hij
        · exfalso
          obtain ⟨as, bs, cs, e⟩ := filterMap_split (fun x : Option (Nat × Bool) × Nat × AOp => flId x.2.2) _ i j _ _ q q hij (flat_get T.keys hei) (flat_get T.keys hej) hdi hdj
          rw [e] at hjs'
          exact (List.nodup_cons.1 (List.nodup_append.1 hjs').2.1).1 (by simp)
        · exact hij
        · exfalso
          obtain ⟨as, bs, cs, e⟩ := filterMap_split (fun x : Option (Nat × Bool) × Nat × AOp => flId x.2.2) _ j i _ _ q q hij (flat_get T.keys hej) (flat_get T.keys hei) hdj hdi
          rw [e] at hjs'
          exact (List.nodup_cons.1 (List.nodup_append.1 hjs').2.1).1 (by simp)
    have hslot : ∀ k e, FlAt evs k e → h.next ≤ slot b e ∧ slot b e < h.next + m := by
      intro k e hf
      obtain ⟨q, hq⟩ := isFl_id hf.2.1
      have hqm := hjm q (List.mem_filterMap.2 ⟨e.key, hmem hf.1, hq⟩)
      have hqm := Nat.le_of_ble_eq_true (show Nat.ble (q + 1) m = true from hqm)
      have hb := hmb (by omega)
      unfold slot
      rw [hq]
      simp only [Option.getD_some]
      omega
    refine wp_region_any hmix ?_
    refine C.any (B := B) (φ0 := φ0) (hb := h0) (w0 := w0) hcall Q ?_ ops.size (Array.replicate ops.size false) s1 0 h1 φ L a _ (by simp) ?_ ?_ ?_
    · intro S c X φ' L' a' w' D hall TD
      have hno : ∀ q eq, c ≤ q → q < evs.length → evs[q]? = some eq → isEf eq.ao = true → False := fun q eq h1 h2 hq hef => by
        have h3 := TD.todo q eq h1 hq hef
        rw [hall q (by rw [← hlen]; exact h2)] at h3
        cases h3
      obtain ⟨X', TE⟩ := C.adv TD TD.le (Nat.le_refl _) hno
      have hend : hAt h1 evs evs.length = hf ∧ lAt s1.locs evs evs.length = sf.locs := by
        unfold hAt lAt
        rw [List.take_length]
        exact ⟨T.heap, T.locs⟩
      have hview : ∀ t, S.view t = vRun s1.view evs t := by
        intro t
        obtain ⟨v1, v2⟩ := C.vAt_spec evs.length (Nat.le_refl _)
        unfold vAt at v1 v2
        rw [List.take_length] at v1 v2
        by_cases hex : ∃ (j : Nat) (ej : Ev), evs[j]? = some ej ∧ opDst ej.ao = some t
        · obtain ⟨j, ej, hej, hd⟩ := hex
          have hjlt := (List.getElem?_eq_some_iff.1 hej).1
          rw [TD.seen j ej t (hall j (by omega)) hej hd, v1 j ej t hjlt hej hd]
        · have hno : ∀ (j : Nat) (ej : Ev), evs[j]? = some ej → opDst ej.ao ≠ some t := fun j ej hej hd => hex ⟨j, ej, hej, hd⟩
          rw [TD.rest t fun j ej _ hej => hno j ej hej, v2 t fun j ej _ hej => hno j ej hej]
      have hI := C.at_text TE
      rw [hend.1] at hI
      have hlocs : S.locs = sf.locs := by rw [TE.locs, hend.2]
      have hweak : Weak sf S := by
        refine ⟨fun t ht => ?_, fun t l off ht => ?_, fun l cs hl => by rw [hlocs]; exact hl⟩
        · have hg : look sf.vals t = sf.get t := by unfold Env.get; rw [ht]
          rcases T.scope.weak t with h1 | h1
          · right
            rw [← hview t] at h1
            simp only [Env.view, Prod.mk.injEq] at h1
            rw [hg, h1.1]
          · left
            simp only [Env.view, Prod.mk.injEq] at h1
            rw [hg, h1.1]
        · rcases T.scope.weak t with h1 | h1
          · rw [← hview t] at h1
            simp only [Env.view, Prod.mk.injEq] at h1
            have h2 : lookA S.lads t = some (l, off) := by rw [← h1.2]; exact ht
            obtain ⟨⟨cs, hcs⟩, _⟩ := hI.rel.lads t l off h2
            exact ⟨h2, cs, by rw [← hlocs]; exact hcs⟩
          · simp only [Env.view, Prod.mk.injEq] at h1
            rw [h1.2] at ht; cases ht
      have hI2 := hI.weak hweak
      cases hcp : checkPairs sf.log pairs with
      | false => rw [hcp] at hk; cases hk
      | true =>
        rw [hcp] at hk
        exact hQ sf.noLog hf φ' L' a' w' hk (hI2.env rfl rfl rfl)
    · refine Nat.le_trans (List.countP_le_length) ?_
      simp
    · intro i o ho hi
      have : (Array.replicate ops.size false).getD i false = false := by
        rw [Array.getD_eq_getD_getElem?, Array.getElem?_replicate]
        split <;> rfl
      have hi' : (Array.replicate ops.size false).getD i false = true := hi
      rw [this] at hi'; cases hi'
    · have hD0 : ∀ i, (Array.replicate ops.size false).getD i false = false := fun i => by
        rw [Array.getD_eq_getD_getElem?, Array.getElem?_replicate]
        split <;> rfl
      have H := I.rel.heap
      have hblk : ∀ k e, FlAt evs k e → h.blk (slot b e) = none := fun k e hf => by
        cases hh : h.blk (slot b e) with
        | none => rfl
        | some x => have := H.live _ x hh; have := (hslot k e hf).1; omega
      refine ⟨Nat.zero_le _, fun i e hi => by omega, fun i e _ _ _ => hD0 i, ⟨rfl, ?_, ?_, fun _ _ => rfl⟩, ?_, ?_, ?_, ?_, fun k e hk => by omega, fun k e hk => by omega, rfl, fun j e t hj => ?_, fun t _ => rfl⟩
      · intro k e _ _ hDk
        have hDk' : (Array.replicate ops.size false).getD k false = true := hDk
        rw [hD0 k] at hDk'; cases hDk'
      · intro k e _ hf _
        rw [hh1]
        exact hblk k e hf
      · rw [hs1, hh1]
        exact (((I.env (s' := { s.noLog with base := b }) rfl rfl rfl).res m).drew _)
      · intro k e hf
        obtain ⟨g1, g2⟩ := hslot k e hf
        have := I.step.next
        exact ⟨by omega, by show slot b e < h1.next; rw [hh1]; exact g2⟩
      · intro k e hf _
        cases hh : φ (slot b e) with
        | none => rfl
        | some L' => have := (H.dom _ L' hh).1; have := (hslot k e hf).1; omega
      · intro k e _ hf
        show h1.blk (slot b e) = none
        rw [hh1]
        exact hblk k e hf
      · have hj' : (Array.replicate ops.size false).getD j false = true := hj
        rw [hD0 j] at hj'; cases hj'
  · cases hok

/-- **What the abstract functions answer, the program's do.** -/
theorem E_ok {P : Program} {tbl : Nat → Option AFn} (htbl : ∀ f a, tbl f = some a → FnOk P (drawOk P) f a) : CallOk P (E tbl) := E_sound (draw_sound P) htbl

#print axioms E_ok
end Go.Fw
