import Derived.Test.YtllogmedpmanoaaFwY
import Derived.Test.YtllogmedpmanoaaFwP
import Derived.IntWalk
import Derived.Below
import Derived.ChangeSame
import Derived.Carry
import Derived.OpenShut
import Derived.SizedLaws
/- Drawn regions: the check is enough. -/
namespace Go.Fw
set_option linter.unusedSimpArgs false
set_option linter.unusedVariables false

theorem In.drew {B n : Nat} {φ0 φ : Phi} {h0 h : Heap} {w0 w : World} {L : Nat → Nat} {s : Env} {a : Act} (I : In B n φ0 h0 w0 φ L s h a w) (k : Nat) : In B n φ0 h0 w0 φ L s h a { w with drawn := k } := by
  obtain ⟨⟨H, c1, c2, c3, c4, c5, c6⟩, S, b, d⟩ := I
  exact ⟨⟨H.world rfl, c1, c2, c3, c4, c5, c6⟩, ⟨S.ext, S.next, S.old, S.new, S.size, S.keep, S.frame, S.os, S.tape, S.output⟩, b, d⟩

/-- Names that are held ready change nothing. -/
theorem In.res {B n : Nat} {φ0 φ : Phi} {h0 h : Heap} {w0 w : World} {L : Nat → Nat} {s : Env} {a : Act} (I : In B n φ0 h0 w0 φ L s h a w) (m : Nat) : In B n φ0 h0 w0 φ L s (h.res m) a w := by
  have H := I.rel.heap
  have S := I.step
  refine ⟨⟨⟨fun b L hb => ?_, fun b x hx => ?_, H.blk, H.apart, H.pin⟩, I.rel.size, I.rel.defers, I.rel.vals, I.rel.lads, I.rel.locs, I.rel.inj⟩, ⟨S.ext, ?_, S.old, S.new, S.size, S.keep, S.frame, S.os, S.tape, S.output⟩, I.base, I.dom⟩
  · have := H.dom b L hb
    exact ⟨by show b < h.next + m; omega, this.2⟩
  · have := H.live b x hx
    show b < h.next + m
    omega
  · have := S.next
    show h0.next ≤ h.next + m
    omega

theorem flat_get {fl : List (Option (Nat × Bool) × Nat × AOp)} {evs : List Ev} (hk : evs.map Ev.key = fl) {i : Nat} {e : Ev} (he : evs[i]? = some e) : fl[i]? = some e.key := by
  rw [← hk, List.getElem?_map, he]; rfl

theorem filterMap_split {α β : Type} (f : α → Option β) : ∀ (l : List α) (i j : Nat) (x y : α) (bx b : β), i < j → l[i]? = some x → l[j]? = some y → f x = some bx → f y = some b → ∃ as bs cs, l.filterMap f = as ++ bx :: (bs ++ b :: cs)
  | [], i, j, x, y, bx, b, hij, hx, hy, _, _ => by simp at hx
  | z :: l, i, j, x, y, bx, b, hij, hx, hy, h1, h2 => by
    cases j with
    | zero => omega
    | succ j =>
      simp only [List.getElem?_cons_succ] at hy
      cases i with
      | zero =>
        simp only [List.getElem?_cons_zero, Option.some.injEq] at hx
        subst hx
        have hm : b ∈ l.filterMap f := List.mem_filterMap.2 ⟨y, List.mem_of_getElem? hy, h2⟩
        obtain ⟨bs, cs, e⟩ := List.append_of_mem hm
        exact ⟨[], bs, cs, by rw [List.filterMap_cons, h1]; simp [e]⟩
      | succ i =>
        simp only [List.getElem?_cons_succ] at hx
        obtain ⟨as, bs, cs, e⟩ := filterMap_split f l i j x y bx b (by omega) hx hy h1 h2
        cases hz : f z with
        | none => exact ⟨as, bs, cs, by rw [List.filterMap_cons, hz]; exact e⟩
        | some bz => exact ⟨bz :: as, bs, cs, by rw [List.filterMap_cons, hz]; simp [e]⟩

theorem draw_sound (P : Program) : DrawSound P (drawOk P) := by
  intro call hcall B n φ0 h0 w0 φ L s h a w ops id items pairs r k m b hok hmb hrun I Q hQ
  obtain ⟨s1, hs1⟩ : ∃ s1 : Env, s1 = { s.noLog with base := b } := ⟨_, rfl⟩
  obtain ⟨h1, hh1⟩ : ∃ h1 : Heap, h1 = h.res m := ⟨_, rfl⟩
  rw [← hs1, ← hh1] at hrun
  simp only [drawOk, Bool.and_eq_true] at hok
  obtain ⟨⟨hmix, hreg⟩, hok⟩ := hok
  split at hok
  · rename_i ms sc hms hsc
    obtain ⟨drop', nl'⟩ := sc
    simp only [Bool.and_eq_true, List.all_eq_true] at hok
    obtain ⟨⟨⟨⟨⟨hnd, hnm⟩, hord⟩, hrd⟩, hjs⟩, hjm⟩ := hok
    simp only [regionOkF, Bool.and_eq_true, decide_eq_true_eq, List.all_eq_true] at hreg
    obtain ⟨⟨hidx, hoper⟩, hgu⟩ := hreg
    obtain ⟨⟨t0, hms1, hms2⟩, hmsp⟩ := masks_spec hms
    have S0 : Scope s1 s1.view [] [] := ⟨fun _ _ => rfl, fun _ => .inl rfl, fun t ht => by cases ht⟩
    obtain ⟨evs, sf, hf, hk, T⟩ := traj_items items false pairs none false [] [] [] drop' nl' s1.view s1 h1 _ r hrun hsc hgu S0 (fun t want e => by cases e)
    have hlen : evs.length = ops.size := by
      have := congrArg List.length T.keys
      rw [List.length_map] at this
      have h2 := congrArg List.length hidx
      rw [List.length_map, List.length_range] at h2
      rw [this, h2]
    have hfi : ∀ (i : Nat) (e : Ev), evs[i]? = some e → e.i = i := by
      intro i e he
      have h1 := flat_get T.keys he
      have h2 : ((flatItems none items).map (·.2.1))[i]? = some e.i := by rw [List.getElem?_map, h1]; rfl
      rw [hidx] at h2
      have hlt : i < ops.size := by rw [← hlen]; exact (List.getElem?_eq_some_iff.1 he).1
      rw [List.getElem?_range hlt] at h2
      cases h2
      rfl
    have hmem : ∀ {i : Nat} {e : Ev}, evs[i]? = some e → e.key ∈ flatItems none items := fun he => List.mem_of_getElem? (flat_get T.keys he)
    have hpairs : ∀ p ∈ pairs ++ innerPairs items, PairOk evs p := by
      cases hcp : checkPairs sf.log pairs with
      | false => rw [hcp] at hk; cases hk
      | true =>
        intro p hp
        rcases List.mem_append.1 hp with hp | hp
        · refine level_pairs hcp (fun i a ha => ?_) p hp
          rcases T.log i a ha with hh | hh
          · exact hh
          · rw [hs1] at hh; cases hh
        · exact T.inner p hp
    have C : Ctx P call n b ops items pairs ms evs s1 h1 := by
      refine ⟨hlen, T.keys, hfi, fun i e he => hoper _ (hmem he), ?_, ?_, ?_, ?_, ?_, ?_, ?_, fun i e he _ hon => by rw [T.base e (List.mem_of_getElem? he) hon, hs1], T.ok⟩
      · intro i o ho e he hb
        have := (hmsp i o (by rw [Array.getElem?_toList]; exact ho)).1 e he hb
        simpa using this
      · intro i o ho j hj
        have := (hmsp i o (by rw [Array.getElem?_toList]; exact ho)).2 j
        simp only [List.length_nil, Nat.zero_add] at this
        exact this hj
      · intro i j ei ej t hei hej hdi hdj
        have hnd' := nodupB_spec hnd
        rcases Nat.lt_trichotomy i j with hij | hij | hij
        · exfalso
          obtain ⟨as, bs, cs, e⟩ := filterMap_split (fun x : Option (Nat × Bool) × Nat × AOp => (opDst x.2.2).map fun d => (x.2.1, d)) _ i j _ _ (ei.i, t) (ej.i, t) hij (flat_get T.keys hei) (flat_get T.keys hej) (by simp [Ev.key, hdi]) (by simp [Ev.key, hdj])
          rw [e, List.map_append, List.map_cons, List.map_append, List.map_cons] at hnd'
          exact (List.nodup_cons.1 (List.nodup_append.1 hnd').2.1).1 (by simp)
        · exact hij
        · exfalso
          obtain ⟨as, bs, cs, e⟩ := filterMap_split (fun x : Option (Nat × Bool) × Nat × AOp => (opDst x.2.2).map fun d => (x.2.1, d)) _ j i _ _ (ej.i, t) (ei.i, t) hij (flat_get T.keys hej) (flat_get T.keys hei) (by simp [Ev.key, hdj]) (by simp [Ev.key, hdi])
          rw [e, List.map_append, List.map_cons, List.map_append, List.map_cons] at hnd'
          exact (List.nodup_cons.1 (List.nodup_append.1 hnd').2.1).1 (by simp)
      · intro i j ei ej t hei hej ht hdj
        have h1 := hnm _ (hmem hei)
        simp only [namesOk, List.all_eq_true] at h1
        have h2 := h1 t ht (ej.i, t) (List.mem_filterMap.2 ⟨ej.key, hmem hej, by simp [Ev.key, hdj]⟩)
        have e1 : ei.key.2.1 = i := hfi i ei hei
        have e2 : ej.i = j := hfi j ej hej
        rw [e1, e2] at h2
        simp only [Nat.beq_refl, Bool.not_true, Bool.false_or] at h2
        cases hb : Nat.blt j i with
        | true =>
          rw [hb] at h2
          have := Nat.le_of_ble_eq_true (show Nat.ble (j + 1) i = true from hb)
          exact .inl ⟨by omega, h2⟩
        | false =>
          rw [hb] at h2
          simp only [cond_false, Bool.and_eq_true] at h2
          have := Nat.le_of_ble_eq_true (show Nat.ble (i + 1) j = true from h2.1)
          exact .inr ⟨by omega, h2.2⟩
      · intro i j ei ej hei hej h1 h2 hij
        have e1 : ei.key.2.1 = i := hfi i ei hei
        have e2 : ej.key.2.1 = j := hfi j ej hej
        have hfm : ((flatItems none items).filter fun x => isEf x.2.2).map (·.2.1) = (flatItems none items).filterMap fun x => if isEf x.2.2 = true then some x.2.1 else none := by
          generalize flatItems none items = l
          induction l with
          | nil => rfl
          | cons x l ih =>
            rw [List.filter_cons, List.filterMap_cons]
            by_cases hx : isEf x.2.2 = true
            · rw [if_pos hx, if_pos hx, List.map_cons, ih]
            · rw [if_neg hx, if_neg hx, ih]
        rw [hfm] at hord
        obtain ⟨as, bs, cs, e⟩ := filterMap_split (fun x : Option (Nat × Bool) × Nat × AOp => if isEf x.2.2 = true then some x.2.1 else none) _ i j _ _ i j hij (flat_get T.keys hei) (flat_get T.keys hej) (by show (if isEf ei.ao = true then some ei.key.2.1 else none) = _; rw [if_pos h1, e1]) (by show (if isEf ej.ao = true then some ej.key.2.1 else none) = _; rw [if_pos h2, e2])
        exact orderedB_spec hord as i bs j cs e
      · intro i j ei ej hei hej h1 h2
        have e1 : ei.key.2.1 = i := hfi i ei hei
        have e2 : ej.key.2.1 = j := hfi j ej hej
        have h3 := hrd _ (hmem hei)
        have h1' : isRd ei.key.2.2 = true := h1
        rw [h1'] at h3
        simp only [Bool.not_true, Bool.false_or, List.all_eq_true] at h3
        have h4 := h3 j (List.mem_map.2 ⟨ej.key, List.mem_filter.2 ⟨hmem hej, h2⟩, e2⟩)
        rw [e1] at h4
        simp only [Bool.or_eq_true, List.any_eq_true, Bool.and_eq_true] at h4
        rcases h4 with (h4 | h4) | ⟨p, hp, hp1, hp2⟩
        · exact .inl h4
        · exact .inr (.inl h4)
        · refine .inr (.inr fun hon1 hon2 => ?_)
          have hp1' := Nat.eq_of_beq_eq_true hp1
          have hp2' := Nat.eq_of_beq_eq_true hp2
          have hat : ∀ q ∈ evs, evs[q.i]? = some q := by
            intro q hq
            obtain ⟨m, hm⟩ := List.getElem?_of_mem hq
            rw [hfi m q hm]; exact hm
          rcases hpairs p hp with ⟨q, hq, hqi, hqo⟩ | ⟨qi, hqi, qq, hqq, q1, q2, q3, q4, q5⟩
          · have h5 := hat q hq
            rw [hqi, hp1', hei] at h5
            cases h5
            rw [hon1] at hqo; cases hqo
          · have h5 := hat qi hqi
            rw [q1, hp1', hei] at h5
            cases h5
            have h6 := hat qq hqq
            rw [q2, hp2', hej] at h6
            cases h6
            exact q5
      · intro i j ei ej q hei hej hdi hdj
        have hjs' := nodupB_spec hjs
        rcases Nat.lt_trichotomy i j with hij | hij | hij
        · exfalso
          obtain ⟨as, bs, cs, e⟩ := filterMap_split (fun x : Option (Nat × Bool) × Nat × AOp => flId x.2.2) _ i j _ _ q q hij (flat_get T.keys hei) (flat_get T.keys hej) hdi hdj
          rw [e] at hjs'
          exact (List.nodup_cons.1 (List.nodup_append.1 hjs').2.1).1 (by simp)
        · exact hij
        · exfalso
          obtain ⟨as, bs, cs, e⟩ := filterMap_split (fun x : Option (Nat × Bool) × Nat × AOp => flId x.2.2) _ j i _ _ q q hij (flat_get T.keys hej) (flat_get T.keys hei) hdj hdi
          rw [e] at hjs'
          exact (List.nodup_cons.1 (List.nodup_append.1 hjs').2.1).1 (by simp)
    have hslot : ∀ k e, FlAt evs k e → h.next ≤ slot b e ∧ slot b e < h.next + m := by
      intro k e hf
      obtain ⟨q, hq⟩ := isFl_id hf.2.1
      have hqm := hjm q (List.mem_filterMap.2 ⟨e.key, hmem hf.1, hq⟩)
      have hqm := Nat.le_of_ble_eq_true (show Nat.ble (q + 1) m = true from hqm)
      have hb := hmb (by omega)
      unfold slot
      rw [hq]
      simp only [Option.getD_some]
      omega
    refine wp_region_any hmix ?_
    refine C.any (B := B) (φ0 := φ0) (hb := h0) (w0 := w0) hcall Q ?_ ops.size (Array.replicate ops.size false) s1 0 h1 φ L a _ (by simp) ?_ ?_ ?_
    · intro S c X φ' L' a' w' D hall TD
      have hno : ∀ q eq, c ≤ q → q < evs.length → evs[q]? = some eq → isEf eq.ao = true → False := fun q eq h1 h2 hq hef => by
        have h3 := TD.todo q eq h1 hq hef
        rw [hall q (by rw [← hlen]; exact h2)] at h3
        cases h3
      obtain ⟨X', TE⟩ := C.adv TD TD.le (Nat.le_refl _) hno
      have hend : hAt h1 evs evs.length = hf ∧ lAt s1.locs evs evs.length = sf.locs := by
        unfold hAt lAt
        rw [List.take_length]
        exact ⟨T.heap, T.locs⟩
      have hview : ∀ t, S.view t = vRun s1.view evs t := by
        intro t
        obtain ⟨v1, v2⟩ := C.vAt_spec evs.length (Nat.le_refl _)
        unfold vAt at v1 v2
        rw [List.take_length] at v1 v2
        by_cases hex : ∃ (j : Nat) (ej : Ev), evs[j]? = some ej ∧ opDst ej.ao = some t
        · obtain ⟨j, ej, hej, hd⟩ := hex
          have hjlt := (List.getElem?_eq_some_iff.1 hej).1
          rw [TD.seen j ej t (hall j (by omega)) hej hd, v1 j ej t hjlt hej hd]
        · have hno : ∀ (j : Nat) (ej : Ev), evs[j]? = some ej → opDst ej.ao ≠ some t := fun j ej hej hd => hex ⟨j, ej, hej, hd⟩
          rw [TD.rest t fun j ej _ hej => hno j ej hej, v2 t fun j ej _ hej => hno j ej hej]
      have hI := C.at_text TE
      rw [hend.1] at hI
      have hlocs : S.locs = sf.locs := by rw [TE.locs, hend.2]
      have hweak : Weak sf S := by
        refine ⟨fun t ht => ?_, fun t l off ht => ?_, fun l cs hl => by rw [hlocs]; exact hl⟩
        · have hg : look sf.vals t = sf.get t := by unfold Env.get; rw [ht]
          rcases T.scope.weak t with h1 | h1
          · right
            rw [← hview t] at h1
            simp only [Env.view, Prod.mk.injEq] at h1
            rw [hg, h1.1]
          · left
            simp only [Env.view, Prod.mk.injEq] at h1
            rw [hg, h1.1]
        · rcases T.scope.weak t with h1 | h1
          · rw [← hview t] at h1
            simp only [Env.view, Prod.mk.injEq] at h1
            have h2 : lookA S.lads t = some (l, off) := by rw [← h1.2]; exact ht
            obtain ⟨⟨cs, hcs⟩, _⟩ := hI.rel.lads t l off h2
            exact ⟨h2, cs, by rw [← hlocs]; exact hcs⟩
          · simp only [Env.view, Prod.mk.injEq] at h1
            rw [h1.2] at ht; cases ht
      have hI2 := hI.weak hweak
      cases hcp : checkPairs sf.log pairs with
      | false => rw [hcp] at hk; cases hk
      | true =>
        rw [hcp] at hk
        exact hQ sf.noLog hf φ' L' a' w' hk (hI2.env rfl rfl rfl)
    · refine Nat.le_trans (List.countP_le_length) ?_
      simp
    · intro i o ho hi
      have : (Array.replicate ops.size false).getD i false = false := by
        rw [Array.getD_eq_getD_getElem?, Array.getElem?_replicate]
        split <;> rfl
      have hi' : (Array.replicate ops.size false).getD i false = true := hi
      rw [this] at hi'; cases hi'
    · have hD0 : ∀ i, (Array.replicate ops.size false).getD i false = false := fun i => by
        rw [Array.getD_eq_getD_getElem?, Array.getElem?_replicate]
        split <;> rfl
      have H := I.rel.heap
      have hblk : ∀ k e, FlAt evs k e → h.blk (slot b e) = none := fun k e hf => by
        cases hh : h.blk (slot b e) with
        | none => rfl
        | some x => have := H.live _ x hh; have := (hslot k e hf).1; omega
      refine ⟨Nat.zero_le _, fun i e hi => by omega, fun i e _ _ _ => hD0 i, ⟨rfl, ?_, ?_, fun _ _ => rfl⟩, ?_, ?_, ?_, ?_, fun k e hk => by omega, fun k e hk => by omega, rfl, fun j e t hj => ?_, fun t _ => rfl⟩
      · intro k e _ _ hDk
        have hDk' : (Array.replicate ops.size false).getD k false = true := hDk
        rw [hD0 k] at hDk'; cases hDk'
      · intro k e _ hf _
        rw [hh1]
        exact hblk k e hf
      · rw [hs1, hh1]
        exact (((I.env (s' := { s.noLog with base := b }) rfl rfl rfl).res m).drew _)
      · intro k e hf
        obtain ⟨g1, g2⟩ := hslot k e hf
        have := I.step.next
        exact ⟨by omega, by show slot b e < h1.next; rw [hh1]; exact g2⟩
      · intro k e hf _
        cases hh : φ (slot b e) with
        | none => rfl
        | some L' => have := (H.dom _ L' hh).1; have := (hslot k e hf).1; omega
      · intro k e _ hf
        show h1.blk (slot b e) = none
        rw [hh1]
        exact hblk k e hf
      · have hj' : (Array.replicate ops.size false).getD j false = true := hj
        rw [hD0 j] at hj'; cases hj'
  · cases hok

/-- **What the abstract functions answer, the program's do.** -/
theorem E_ok {P : Program} {tbl : Nat → Option AFn} (htbl : ∀ f a, tbl f = some a → FnOk P (drawOk P) f a) : CallOk P (E tbl) := E_sound (draw_sound P) htbl

#print axioms E_ok
end Go.Fw

/- Handy: loops unrolled, operations on known values, calls from an empty heap. -/
namespace Go.Fw
set_option linter.unusedSimpArgs false
set_option linter.unusedVariables false

theorem loop_some {f : List AVal → Heap → Option J} {xs : List AVal} {h : Heap} {r : J} : loop f xs h = some r ↔ ∃ n, iter f n xs h = some r := by
  constructor
  · intro e; exact lim_some' e
  · rintro ⟨n, e⟩; exact lim_eq (g := fun n => iter f n xs h) (fun m r hh => iter_mono _ m xs h r hh) e

/-- One round. -/
theorem loop_eq (f : List AVal → Heap → Option J) (xs : List AVal) (h : Heap) : loop f xs h = match f xs h with | some (0, xs', h') => loop f xs' h' | r => r := by
  apply Option.ext
  intro r
  constructor
  · intro e
    obtain ⟨n, hn⟩ := loop_some.1 e
    cases n with
    | zero => simp [iter] at hn
    | succ n =>
      rw [iter] at hn
      split at hn
      · rename_i xs' h' hf
        rw [hf]
        exact loop_some.2 ⟨n, hn⟩
      · rename_i hne
        split
        · rename_i xs' h' hf
          exact (hne xs' h' hf).elim
        · exact hn
  · intro e
    split at e
    · rename_i xs' h' hf
      obtain ⟨n, hn⟩ := loop_some.1 e
      refine loop_some.2 ⟨n + 1, ?_⟩
      rw [iter, hf]
      exact hn
    · rename_i hne
      refine loop_some.2 ⟨1, ?_⟩
      rw [iter]
      split
      · rename_i xs' h' hf
        exact (hne xs' h' hf).elim
      · exact e

theorem loop_more {f : List AVal → Heap → Option J} {xs xs' : List AVal} {h h' : Heap} (e : f xs h = some (0, xs', h')) : loop f xs h = loop f xs' h' := by
  rw [loop_eq]
  simp only [e]
theorem loop_done {f : List AVal → Heap → Option J} {xs : List AVal} {h : Heap} {i : Nat} {ys : List AVal} {h' : Heap} (e : f xs h = some (i + 1, ys, h')) : loop f xs h = some (i + 1, ys, h') := by
  rw [loop_eq]
  simp only [e]

theorem beq_dec (a b : Nat) : Nat.beq a b = decide (a = b) := by
  cases h : Nat.beq a b with
  | true => simp [Nat.eq_of_beq_eq_true h]
  | false =>
    have : a ≠ b := fun e => by rw [e] at h; simp at h
    simp [this]

section ops
@[simp] theorem bin_add (k : IntKind) (a b : Int) : aBin .add .plain (.int k a) (.int k b) = some (.int k (k.wrap (a + b))) := by simp [aBin, aInt]
@[simp] theorem bin_sub (k : IntKind) (a b : Int) : aBin .sub .plain (.int k a) (.int k b) = some (.int k (k.wrap (a - b))) := by simp [aBin, aInt]
@[simp] theorem bin_mul (k : IntKind) (a b : Int) : aBin .mul .plain (.int k a) (.int k b) = some (.int k (k.wrap (a * b))) := by simp [aBin, aInt]
theorem bin_quo (k : IntKind) (a b : Int) : aBin .quo .plain (.int k a) (.int k b) = if b = 0 then none else some (.int k (k.wrap (a.tdiv b))) := by simp [aBin, aInt]
theorem bin_rem (k : IntKind) (a b : Int) : aBin .rem .plain (.int k a) (.int k b) = if b = 0 then none else some (.int k (a.tmod b)) := by simp [aBin, aInt]
@[simp] theorem bin_eql (k : IntKind) (a b : Int) : aBin .eql .plain (.int k a) (.int k b) = some (.bool (a == b)) := by simp [aBin, aInt]
@[simp] theorem bin_neq (k : IntKind) (a b : Int) : aBin .neq .plain (.int k a) (.int k b) = some (.bool (a != b)) := by simp [aBin, aInt]
@[simp] theorem bin_lss (k : IntKind) (a b : Int) : aBin .lss .plain (.int k a) (.int k b) = some (.bool (decide (a < b))) := by simp [aBin, aInt]
@[simp] theorem bin_leq (k : IntKind) (a b : Int) : aBin .leq .plain (.int k a) (.int k b) = some (.bool (decide (a ≤ b))) := by simp [aBin, aInt]
@[simp] theorem bin_gtr (k : IntKind) (a b : Int) : aBin .gtr .plain (.int k a) (.int k b) = some (.bool (decide (a > b))) := by simp [aBin, aInt]
@[simp] theorem bin_geq (k : IntKind) (a b : Int) : aBin .geq .plain (.int k a) (.int k b) = some (.bool (decide (a ≥ b))) := by simp [aBin, aInt]
@[simp] theorem bin_ptr_nil (b o : Nat) : aBin .eql .ptr (.ptr b o) .nilPtr = some (.bool false) := rfl
@[simp] theorem bin_ptr_nil' (b o : Nat) : aBin .neq .ptr (.ptr b o) .nilPtr = some (.bool true) := rfl
@[simp] theorem bin_bool_eql (a b : Bool) : aBin .eql .bool (.bool a) (.bool b) = some (.bool (a == b)) := rfl
@[simp] theorem bin_bool_neq (a b : Bool) : aBin .neq .bool (.bool a) (.bool b) = some (.bool !(a == b)) := rfl
@[simp] theorem un_not (b : Bool) : aUn .not (.bool b) = some (.bool !b) := rfl
@[simp] theorem guard_bool (x want : Bool) (a b : Option J) : guardV (.bool x) want a b = bif (x == want) then a else b := rfl
@[simp] theorem cond_bool (x : Bool) (a b : Option J) : condV (.bool x) a b = bif x then a else b := rfl
@[simp] theorem pick_bool (x : Bool) (a b : AVal) : aPick (.bool x) a b = some (bif x then a else b) := rfl
@[simp] theorem nilchk_ptr (b o : Nat) : aNilchk (.ptr b o) = some (.ptr b o) := rfl
@[simp] theorem faddr_ptr (f b o : Nat) : aFaddr f (.ptr b o) = some (.ptr b (o + f)) := rfl
@[simp] theorem from_one (v : AVal) : fromCells false [v] = some v := rfl
@[simp] theorem from_agg (cs : List AVal) : fromCells true cs = some (.agg cs) := rfl
@[simp] theorem load_ptr (h : Heap) (n b o : Nat) : aLoad h n (.ptr b o) = h.rd b o n := rfl
@[simp] theorem store_ptr (h : Heap) (b o : Nat) (cs : List AVal) : aStore h (.ptr b o) cs = h.wr b o cs := rfl
@[simp] theorem conv_int (k j : IntKind) (n : Int) (h : Heap) : aConv (.toInt k) (.int j n) h = some (.int k (k.wrap n), h) := rfl
@[simp] theorem aCells_int (k : IntKind) (a : Int) : aCells 1 (.int k a) = some [.int k a] := rfl
@[simp] theorem aCells_bool (a : Bool) : aCells 1 (.bool a) = some [.bool a] := rfl
@[simp] theorem cellsQ_agg (cs : List AVal) : AVal.cells? (.agg cs) = some cs := rfl
@[simp] theorem max_two (k : IntKind) (a b : Int) : aMinMaxL true [.int k a, .int k b] = some (.int k (max a b)) := by
  simp only [aMinMaxL, aMinMax, aMax2, cond_true, if_true, Option.bind_some, Option.some.injEq, AVal.int.injEq, true_and]
  split <;> omega
@[simp] theorem min_two (k : IntKind) (a b : Int) : aMinMaxL false [.int k a, .int k b] = some (.int k (min a b)) := by
  simp only [aMinMaxL, aMinMax, aMin2, cond_false, if_true, Option.bind_some, Option.some.injEq, AVal.int.injEq, true_and]
  split <;> omega
@[simp] theorem ans_one (i : Nat) (v : AVal) (h : Heap) : ansOf (i, [v], h) = some (v, h) := rfl
theorem rd_of {h : Heap} {b : Nat} {x : Blk} (hb : h.blk b = some x) (off n : Nat) (hn : off + n ≤ x.cells.length) : h.rd b off n = some ((x.cells.drop off).take n) := by
  unfold Heap.rd
  rw [hb]
  have : Nat.ble (off + n) x.cells.length = true := Nat.ble_eq_true_of_le hn
  simp [this]
theorem wr_of {h : Heap} {b : Nat} {cs : List AVal} (hb : h.blk b = some ⟨cs, true⟩) (off : Nat) (vs : List AVal) (hn : off + vs.length ≤ cs.length) : h.wr b off vs = some (h.setBlk b (some ⟨splice cs off vs, true⟩)) := by
  unfold Heap.wr
  rw [hb]
  have : Nat.ble (off + vs.length) cs.length = true := Nat.ble_eq_true_of_le hn
  simp [this]
@[simp] theorem setBlk_same (h : Heap) (b : Nat) (x : Option Blk) : (h.setBlk b x).blk b = x := by simp [Heap.setBlk]
theorem setBlk_ne (h : Heap) {b b' : Nat} (x : Option Blk) (hb : b' ≠ b) : (h.setBlk b x).blk b' = h.blk b' := by
  have : Nat.beq b' b = false := by
    cases hh : Nat.beq b' b with
    | false => rfl
    | true => exact (hb (Nat.eq_of_beq_eq_true hh)).elim
  simp [Heap.setBlk, this]
@[simp] theorem setBlk_next (h : Heap) (b : Nat) (x : Option Blk) : (h.setBlk b x).next = h.next := rfl
@[simp] theorem alloc_same (h : Heap) (cs : List AVal) : (h.alloc cs).blk h.next = some ⟨cs, true⟩ := by simp [Heap.alloc]
theorem alloc_old (h : Heap) (cs : List AVal) {b : Nat} (hb : b ≠ h.next) : (h.alloc cs).blk b = h.blk b := by
  have : Nat.beq b h.next = false := by
    cases hh : Nat.beq b h.next with
    | false => rfl
    | true => exact (hb (Nat.eq_of_beq_eq_true hh)).elim
  simp [Heap.alloc, this]
@[simp] theorem alloc_next (h : Heap) (cs : List AVal) : (h.alloc cs).next = h.next + 1 := rfl
end ops

def emptyHeap : Heap := ⟨0, fun _ => none⟩

theorem empty_rel (hp : pinsN = 0) (w : World) : HRel (fun _ => none) emptyHeap w where
  dom := fun b L h => by cases h
  live := fun b x h => by cases h
  blk := fun b x L h => by cases h
  apart := fun b b' x x' L L' _ h => by cases h
  pin := fun b hb => by rw [hp] at hb; cases hb

theorem below_of_step {w w' : World} {φ φ' : Phi} {h h' : Heap} (s : Step φ h w φ' h' w') (hno : ∀ b x, h.blk b = some x → x.rw = true → False) : Go.RowKit.Below w.heap.size w w' :=
  ⟨s.os, s.tape, s.output, s.size, fun k hk => s.frame k hk fun b x L hb hrw _ => (hno b x hb hrw).elim⟩

section
open Go.RowKit Go.WideShapes Go.ChangeShapes
variable {H : Type} {enc : TypeId × Value → H} {P : Program}
/-- The row's last step, where of the world behind the call no more is known than that what was there has not changed. -/
theorem post_below {f : Func} {s : ChangeSpec} {apart fresh handsOn again : Bool} {W W' : World} {args : Array Value} {v : Value} {ds gs : List (DataW H)} {before pa pv : List MemPlace}
    (hW : DataW.Whole enc P f.params.toList s.vars apart W args.toList ds gs before)
    (hres : ∀ (b : Nat) (sp : Nat → Bool) (hd : Bool), DataW.TrodAll enc P W' b sp hd f.resultTypes.toList (v.resultList f.resultTypes.size) (s.fn H (ds ++ gs)).results [])
    (hargs : ∀ sp : Nat → Bool, (∀ p ∈ before, sp p.block = true) → DataW.TrodAll enc P W' 0 sp true f.params.toList args.toList (s.fn H (ds ++ gs)).args pa)
    (hvars : ∀ sp : Nat → Bool, (∀ p ∈ before, sp p.block = true) → DataW.TrodVars enc P W' sp s.vars (s.fn H (ds ++ gs)).vars pv)
    (hps : before = pa ++ pv) (hb : Below W.heap.size W W')
    (hok : ∀ (j : Nat) (t : TypeId) (r : Value), f.resultTypes[j]? = some t → (v.resultList f.resultTypes.size)[j]? = some r → Value.okWide P W' .any 0 t r) :
    s.post enc P f apart fresh handsOn again W args v W' := by
  have hlt : ∀ p ∈ before, p.block < W.heap.size := fun p hp => hW.lt p hp
  have hold : ∀ p ∈ before, (fun b => decide (b < W.heap.size)) p.block = true := fun p hp => by simpa using hlt p hp
  refine ⟨ds, gs, before, [], pa, pv, hW, hres _ _ _, hargs _ hold, hvars _ hold, World.keptBut_mono (fun p hp => ⟨hp, ?_⟩) (hb.frame (· ∈ before)), fun _ => ?_⟩
  · rw [hps, List.mem_append] at hp
    exact Or.inr hp
  · obtain ⟨_, _, _, _, _, hz, hn⟩ := hW
    refine ⟨hok, _, _, ([] ++ pa) ++ pv, ⟨[] ++ pa, pv, trodAll_append (hargs _ (fun _ _ => rfl)) (hres _ _ _), hvars _ (fun _ _ => rfl), rfl, ?_, ?_⟩, ?_⟩
    · intro b off hp
      have hin : MemPlace.cell b off ∈ before := by rw [hps]; simpa using hp
      rw [hb.frozen (hlt _ hin)]
      exact hz b off hin
    · intro ha
      have := hn ha
      rw [hps] at this
      simpa using this
    · intro p hp _
      rw [hps]
      simpa using hp
end

/-- From the abstract answer to the call, where no memory comes in. -/
theorem call_of (hp : pinsN = 0) {P : Program} {call : Call} (hc : CallOk P call) {f : Nat} (hbody : hasBody P f = true) {args : List AVal} {vs : Array Value} (hargs : VRels (fun _ => none) args vs.toList) {v : AVal} {u : Value} {h' : Heap} (hr : call f args emptyHeap = some (v, h'))
    (hv : ∀ φ x, VRel φ v x → x = u) (w : World) : Calls P f vs w fun e w' => e = .returned u ∧ Go.RowKit.Below w.heap.size w w' := by
  refine (hc.enter hbody hr (empty_rel hp w) hargs).mono ?_
  rintro e w' ⟨φ', x, rfl, hx, _, S⟩
  exact ⟨by rw [hv φ' x hx], below_of_step S fun b x hb => by cases hb⟩

end Go.Fw

/- Rows of numbers in memory. -/
namespace Go.Fw
set_option linter.unusedSimpArgs false
set_option linter.unusedVariables false

/-- A slice of numbers. -/
def Ints (k : IntKind) (s : AVal) (h : Heap) (l : List Int) : Prop :=
  (s = .nilSlice ∧ l = []) ∨ ∃ b off cap ex, s = .slice b off l.length cap 1 ex ∧ h.rd b off l.length = some (l.map (.int k))

def slBlk : AVal → Option Nat
  | .slice b .. => some b
  | _ => none

theorem Ints.len {k : IntKind} {s : AVal} {h : Heap} {l : List Int} (H : Ints k s h l) : aLen false s = some (.int .i64 l.length) := by
  rcases H with ⟨rfl, rfl⟩ | ⟨b, off, cap, ex, rfl, _⟩ <;> rfl

theorem rd_inv {h : Heap} {b off n : Nat} {cs : List AVal} (e : h.rd b off n = some cs) : ∃ x, h.blk b = some x ∧ off + n ≤ x.cells.length ∧ cs = (x.cells.drop off).take n := by
  unfold Heap.rd at e
  split at e
  · rename_i x hx
    cases hb : Nat.ble (off + n) x.cells.length with
    | false => rw [hb] at e; cases e
    | true =>
      rw [hb] at e
      cases e
      exact ⟨x, hx, Nat.le_of_ble_eq_true hb, rfl⟩
  · cases e

theorem rd_at {h : Heap} {b off n : Nat} {cs : List AVal} (e : h.rd b off n = some cs) (i : Nat) (hi : i < n) : h.rd b (off + i) 1 = some [cs.getD i .undef] := by
  obtain ⟨x, hx, hl, rfl⟩ := rd_inv e
  rw [rd_of hx _ _ (by omega)]
  simp only [Option.some.injEq]
  have h1 : off + i < x.cells.length := by omega
  rw [List.drop_eq_getElem_cons h1]
  simp only [List.take_succ_cons, List.take_zero, List.cons.injEq, and_true]
  rw [List.getD_eq_getElem?_getD, List.getElem?_take, if_pos hi, List.getElem?_drop, List.getElem?_eq_getElem h1]
  rfl

theorem Ints.at {k : IntKind} {s : AVal} {h : Heap} {l : List Int} (H : Ints k s h l) (i : Nat) (hi : i < l.length) : ∃ p, aIaddr 1 s (.int .i64 i) = some p ∧ aLoad h 1 p = some [.int k (l.getD i 0)] := by
  rcases H with ⟨rfl, rfl⟩ | ⟨b, off, cap, ex, rfl, hr⟩
  · simp at hi
  · refine ⟨.ptr b (off + i), ?_, ?_⟩
    · have h1 : ((i : Int) < (l.length : Int)) := by omega
      simp [aIaddr, aIdx, h1]
    · rw [load_ptr, rd_at hr i hi]
      simp [List.getD_eq_getElem?_getD, List.getElem?_map, List.getElem?_eq_getElem hi]

theorem Ints.mono {k : IntKind} {s : AVal} {h h' : Heap} {l : List Int} (H : Ints k s h l) (hb : ∀ b, slBlk s = some b → h'.blk b = h.blk b) : Ints k s h' l := by
  rcases H with ⟨rfl, rfl⟩ | ⟨b, off, cap, ex, rfl, hr⟩
  · exact .inl ⟨rfl, rfl⟩
  · refine .inr ⟨b, off, cap, ex, rfl, ?_⟩
    unfold Heap.rd at hr ⊢
    rw [hb b rfl]
    exact hr

end Go.Fw

/- The row's last step, whatever the shapes of the arguments. -/
namespace Go.Fw
set_option linter.unusedSimpArgs false
set_option linter.unusedVariables false
open Go.RowKit Go.WideShapes Go.ChangeShapes

section
variable {H : Type} {enc : TypeId × Value → H} {P : Program}

theorem trodAll_keeps (hl : laidOutB P = true) {W W' : World} (hb : Below W.heap.size W W') : ∀ (ts : List TypeId) (vs : List Value) (ds : List (DataW H)) (ps : List MemPlace), (∀ t ∈ ts, P.readableRec t = true ∧ t < P.types.size) →
    DataW.TrodAll enc P W 0 (fun _ => true) true ts vs ds ps → (∀ x ∈ ps, x.block < W.heap.size) → ∀ sp : Nat → Bool, (∀ x ∈ ps, sp x.block = true) → DataW.TrodAll enc P W' 0 sp true ts vs ds ps
  | [], [], [], ps, _, h, _, _, _ => h
  | [], [], _ :: _, _, _, h, _, _, _ => h.elim
  | [], _ :: _, _, _, _, h, _, _, _ => h.elim
  | _ :: _, [], _, _, _, h, _, _, _ => h.elim
  | _ :: _, _ :: _, [], _, _, h, _, _, _ => h.elim
  | t :: ts, v :: vs, d :: ds, ps, hr, h, hlt, sp, hsp => by
    obtain ⟨p, q, h1, h2, rfl⟩ := h
    refine ⟨p, q, ?_, trodAll_keeps hl hb ts vs ds q (fun t ht => hr t (List.mem_cons_of_mem _ ht)) h2 (fun x hx => hlt x (List.mem_append_right _ hx)) sp (fun x hx => hsp x (List.mem_append_right _ hx)), rfl⟩
    exact WideElems.Trod_stays hl (hr t List.mem_cons_self).1 (hr t List.mem_cons_self).2 h1 (fun x hx => hb.same (hlt x (List.mem_append_left _ hx))) (fun x hx => hsp x (List.mem_append_left _ hx))

/-- A law's row: it answered true; what was there has not changed. -/
theorem law_post (hl : laidOutB P = true) {f : Func} {s : ChangeSpec} {apart fresh handsOn again : Bool} {W W' : World} {args : Array Value} {ds gs : List (DataW H)} {before : List MemPlace} {tb : TypeId}
    (hr : ∀ t ∈ f.params.toList, P.readableRec t = true ∧ t < P.types.size) (hres : f.resultTypes = #[tb]) (htb : P.underlying tb = some .bool) (hvars : s.vars = [])
    (hfn : s.fn H ds = { results := [.lit (.bool true)], args := ds })
    (hW : DataW.Whole enc P f.params.toList s.vars apart W args.toList ds gs before) (hb : Below W.heap.size W W') :
    s.post enc P f apart fresh handsOn again W args (.bool true) W' := by
  have hW0 := hW
  obtain ⟨p, q, hA, hV, rfl, hfz, hnd⟩ := hW
  rw [hvars] at hV
  obtain ⟨rfl, rfl⟩ := trodVars_none hV
  have hlt : ∀ x ∈ p, x.block < W.heap.size := fun x hx => hW0.lt x (by simpa using hx)
  refine post_below (pa := p) (pv := []) hW0 (fun b sp hd => ?_) (fun sp hsp => ?_) (fun sp hsp => ?_) rfl hb ?_
  · rw [List.append_nil, hfn, hres]
    exact trodAll_cons_mk (shut_bool htb _) trodAll_mk0
  · rw [List.append_nil, hfn]
    exact trodAll_keeps hl hb _ _ _ _ hr hA hlt sp (fun x hx => hsp x (by simpa using hx))
  · rw [List.append_nil, hfn, hvars]
    rfl
  · exact ok_one hres rfl (okWide_bool_mk htb _)
end

/-- From the abstract answer to the call, the arguments' memory being read only. -/
theorem call_with {P : Program} {call : Call} (hc : CallOk P call) {f : Nat} (hbody : hasBody P f = true) {args : List AVal} {vs : Array Value} {φ : Phi} {h : Heap} {w : World} (H : HRel φ h w) (hno : ∀ b x, h.blk b = some x → x.rw = true → False)
    (hargs : VRels φ args vs.toList) {v : AVal} {u : Value} {h' : Heap} (hr : call f args h = some (v, h')) (hv : ∀ φ x, VRel φ v x → x = u) :
    Calls P f vs w fun e w' => e = .returned u ∧ Go.RowKit.Below w.heap.size w w' := by
  refine (hc.enter hbody hr H hargs).mono ?_
  rintro e w' ⟨φ', x, rfl, hx, _, S⟩
  exact ⟨by rw [hv φ' x hx], below_of_step S hno⟩

theorem okWide_has {P : Program} {w : World} {base : Nat} {t e : TypeId} {a : Addr} {len cap : Nat} (ht : P.underlying t = some (.slice e)) (h : Value.okWide P w .any base t (.slice (some a) len cap)) :
    a.spot = none ∧ ∃ c el fz, w.heap[a.block]? = some (.cells c el fz) := by
  simp only [Value.okWide, ht, Cell.okWide, Cell.ok, World.has] at h
  obtain ⟨_, _, _, h1, row, cells, h2, _⟩ := h
  refine ⟨h1, ?_⟩
  unfold World.shape? at h2
  split at h2
  · rename_i c el fz hc
    exact ⟨c, el, fz, hc⟩
  · cases h2

/-- Blocks that are read only. -/
def roHeap (bs : List (Loc × List AVal)) : Heap := ⟨bs.length, fun i => (bs[i]?).map fun p => ⟨p.2, false⟩⟩
def roPhi (bs : List (Loc × List AVal)) : Phi := fun i => (bs[i]?).map (·.1)

structure RoOk (φ : Phi) (w : World) (p : Loc × List AVal) : Prop where
  blk : ∃ c e fz, w.heap[p.1.blk]? = some (.cells c e fz) ∧ c.size = p.1.size ∧ p.1.base + p.2.length ≤ p.1.size ∧ ∀ i v, p.2[i]? = some v → ∃ u, c[p.1.base + i]? = some u ∧ VRel φ v u ∧ u.oneCell' = true

/-- An argument that is a slice of numbers. -/
theorem arg_ints {H : Type} {enc : TypeId × Value → H} {P : Program} {w : World} {t e : TypeId} {k : IntKind} (ht : P.underlying t = some (.slice e)) (he : P.underlying e = some (.int k)) (hc : P.cellsOf e = 1) {v : Value} {d : DataW H} {ps : List MemPlace}
    (hv : Value.okWide P w .any 0 t v) (h : DataW.Trod enc P w 0 (fun _ => true) true t v d ps) :
    (v = .slice none 0 0 ∧ d = .nil) ∨ ∃ (L : Loc) (l : List Int) (rest : List (DataW H)), d = .slice (lits k l) rest ∧ (∀ x ∈ l, (Lit.int k x).wf = true) ∧ (∀ (φ : Phi) (i : Nat), φ i = some L → VRel φ (.slice i 0 l.length l.length 1 false) v) ∧ ∀ φ, RoOk φ w (L, l.map (.int k)) := by
  obtain ⟨a0, len, cap, rfl⟩ := okWide_slice ht hv
  obtain ⟨fuel, hf⟩ := h
  have hf' : DataW.trod enc P w 0 (fun _ => true) true fuel t [.slice a0 len cap] = some (d, ps) := hf
  rcases open_ints ht he hc hf' with ⟨h1, hd⟩ | ⟨a, len', cap', zs, h1, _, hl, hm, hz, hd, hcell, hwf⟩
  · left
    simp only [List.cons.injEq, and_true] at h1
    simp only [Prod.mk.injEq] at hd
    exact ⟨h1, hd.1⟩
  · right
    simp only [List.cons.injEq, Value.slice.injEq, and_true] at h1
    obtain ⟨rfl, rfl, rfl⟩ := h1
    simp only [Prod.mk.injEq] at hd
    obtain ⟨hs, c, el, fz, hcb⟩ := okWide_has ht hv
    simp only [if_true] at hz
    have hadd : ∀ i, (a.add i) = ⟨a.block, a.off + i, none⟩ := by
      intro i
      obtain ⟨b, off, sp⟩ := a
      simp only at hs
      subst hs
      exact add_plain b off i
    have hcell' : ∀ i, i < cap → c[a.off + i]? = some (.int k (zs.getD i 0)) := by
      intro i hi
      have := hcell i (by omega)
      rw [hadd] at this
      simp only [World.cell?, hcb] at this
      simpa using this
    by_cases h0 : cap = 0
    · have hl0 : len = 0 := by omega
      subst h0 hl0
      refine ⟨⟨a.block, 0, c.size⟩, [], _, by rw [hd.1, List.take_zero], by simp, fun φ i hi => ?_, fun φ => ⟨c, el, fz, hcb, rfl, by simp, by simp⟩⟩
      exact vrel_slice.2 ⟨_, a, 0, hi, rfl, Nat.le_refl _, Nat.le_refl _, (fun h => by cases h), (fun h => by omega)⟩
    · have hsz : a.off + cap ≤ c.size := by
        have := hcell' (cap - 1) (by omega)
        have := (Array.getElem?_eq_some_iff.1 this).1
        omega
      have hlen : (zs.take len).length = len := by simp; omega
      refine ⟨⟨a.block, a.off, c.size⟩, zs.take len, _, hd.1, fun x hx => hwf x (List.mem_of_mem_take hx), fun φ i hi => ?_, fun φ => ⟨c, el, fz, hcb, rfl, by simp only [List.length_map, hlen]; omega, ?_⟩⟩
      · rw [hlen]
        refine vrel_slice.2 ⟨_, a, cap, hi, rfl, Nat.le_refl _, hl, (fun h => by cases h), fun _ => ⟨?_, by simp only; omega⟩⟩
        obtain ⟨b, off, sp⟩ := a
        simp only at hs
        subst hs
        simp
      · intro i v hi
        rw [List.getElem?_map] at hi
        simp only [Option.map_eq_some_iff] at hi
        obtain ⟨x, hx, rfl⟩ := hi
        have hil : i < len := by
          have := (List.getElem?_eq_some_iff.1 hx).1
          omega
        rw [List.getElem?_take, if_pos hil] at hx
        refine ⟨_, hcell' i (by omega), ?_, rfl⟩
        unfold VRel
        rw [List.getD_eq_getElem?_getD, hx]
        rfl

/-- The same in one form: the blocks that it brings, and the value over the first of their numbers. -/
structure IntsArg (k : IntKind) (w : World) (v : Value) (bs : List (Loc × List AVal)) (mk : Nat → AVal) (l : List Int) : Prop where
  rel : ∀ (φ : Phi) (i : Nat), (∀ j p, bs[j]? = some p → φ (i + j) = some p.1) → VRel φ (mk i) v
  ro : ∀ φ, ∀ p ∈ bs, RoOk φ w p
  ints : ∀ (h : Heap) (i : Nat), (∀ j p, bs[j]? = some p → h.blk (i + j) = some ⟨p.2, false⟩) → Ints k (mk i) h l
  lt : ∀ i b, slBlk (mk i) = some b → b < i + bs.length
  wf : ∀ x ∈ l, (Lit.int k x).wf = true
  room : ∀ i b off n cap es ex, mk i = .slice b off n cap es ex → n ≤ cap

theorem ints_arg {H : Type} {enc : TypeId × Value → H} {P : Program} {w : World} {t e : TypeId} {k : IntKind} (ht : P.underlying t = some (.slice e)) (he : P.underlying e = some (.int k)) (hc : P.cellsOf e = 1) {v : Value} {d : DataW H} {ps : List MemPlace}
    (hv : Value.okWide P w .any 0 t v) (h : DataW.Trod enc P w 0 (fun _ => true) true t v d ps) :
    ∃ bs mk l, IntsArg k w v bs mk l ∧ ((∀ x ∈ d.weights P t, x ≤ reachBytes) → l.length * P.bytesOf e ≤ reachBytes) := by
  rcases arg_ints ht he hc hv h with ⟨rfl, rfl⟩ | ⟨L, l, rest, rfl, wf, r, o⟩
  · exact ⟨[], fun _ => .nilSlice, [], ⟨fun φ i _ => (by unfold VRel; rfl), fun φ p hp => (by cases hp), fun h i _ => .inl ⟨rfl, rfl⟩, fun i b hb => (by cases hb), fun x hx => (by cases hx), fun _ _ _ _ _ _ _ e => (by cases e)⟩, fun _ => by simp⟩
  · refine ⟨[(L, l.map (.int k))], fun i => .slice i 0 l.length l.length 1 false, l, ⟨fun φ i hi => r φ i (hi 0 _ rfl), fun φ p hp => ?_, fun h i hi => .inr ⟨i, 0, l.length, false, rfl, ?_⟩, fun i b hb => ?_, wf, fun _ _ _ _ _ _ _ e => (by cases e; exact Nat.le_refl _)⟩, fun hw => ?_⟩
    · rw [List.mem_singleton] at hp
      subst hp
      exact o φ
    · have this : h.blk i = some ⟨l.map (.int k), false⟩ := hi 0 _ rfl
      rw [rd_of this 0 l.length (by simp)]
      simp only [List.drop_zero]
      rw [← List.map_take, List.take_length]
    · cases hb; simp
    · have h1 := hw ((lits (H := H) k l).length * P.bytesOf e + rest.length * P.bytesOf e) (by
        simp only [DataW.weights, ht]
        rw [← Nat.add_mul]
        exact List.mem_cons_self)
      have h2 : (lits (H := H) k l).length = l.length := by simp [lits]
      rw [h2] at h1
      omega

theorem roHeap_no (bs : List (Loc × List AVal)) : ∀ b x, (roHeap bs).blk b = some x → x.rw = true → False := by
  intro b x hb hrw
  simp only [roHeap, Option.map_eq_some_iff] at hb
  obtain ⟨p, _, rfl⟩ := hb
  cases hrw

theorem roHeap_rel {bs : List (Loc × List AVal)} {w : World} (hp : ∀ b, b < pinsN → ∃ m, roPhi bs b = some ⟨b, 0, m⟩) (h : ∀ p ∈ bs, RoOk (roPhi bs) w p) : HRel (roPhi bs) (roHeap bs) w where
  pin := hp
  dom := fun b L hb => by
    simp only [roPhi, Option.map_eq_some_iff] at hb
    obtain ⟨p, hp, rfl⟩ := hb
    obtain ⟨c, e, fz, h1, _⟩ := (h p (List.mem_of_getElem? hp)).blk
    exact ⟨(List.getElem?_eq_some_iff.1 hp).1, (Array.getElem?_eq_some_iff.1 h1).1⟩
  live := fun b x hb => by
    simp only [roHeap, Option.map_eq_some_iff] at hb
    obtain ⟨p, hp, rfl⟩ := hb
    exact (List.getElem?_eq_some_iff.1 hp).1
  blk := fun b x L hb hL => by
    simp only [roHeap, Option.map_eq_some_iff] at hb
    obtain ⟨p, hp, rfl⟩ := hb
    simp only [roPhi, hp, Option.map_some, Option.some.injEq] at hL
    subst hL
    obtain ⟨c, e, fz, h1, h2, h3, h4⟩ := (h p (List.mem_of_getElem? hp)).blk
    exact ⟨c, e, fz, h1, h2, h3, fun hh => absurd hh Bool.false_ne_true, h4⟩
  apart := fun b b' x x' L L' _ hb _ hrw _ _ => (roHeap_no bs b x hb hrw).elim

end Go.Fw

/- Lists that grow by append. -/
namespace Go.Fw
set_option linter.unusedSimpArgs false
set_option linter.unusedVariables false

/-- A slice that was grown behind block n0: n elements. -/
def Grow (es : Nat) (s : AVal) (h : Heap) (n0 n : Nat) (cells : List AVal) : Prop :=
  cells.length = n * es ∧ ((s = .nilSlice ∧ n = 0) ∨ ∃ b, s = .slice b 0 n n es false ∧ n0 ≤ b ∧ b < h.next ∧ 0 < n ∧ h.blk b = some ⟨cells, true⟩)

theorem Grow.nil (es : Nat) (h : Heap) (n0 : Nat) : Grow es .nilSlice h n0 0 [] := ⟨by simp, .inl ⟨rfl, rfl⟩⟩

theorem Grow.len {es : Nat} {s : AVal} {h : Heap} {n0 n : Nat} {cells : List AVal} (G : Grow es s h n0 n cells) : aLen false s = some (.int .i64 n) := by
  obtain ⟨_, ⟨rfl, rfl⟩ | ⟨b, rfl, _⟩⟩ := G <;> rfl

theorem Grow.mono {es : Nat} {s : AVal} {h h' : Heap} {n0 n : Nat} {cells : List AVal} (G : Grow es s h n0 n cells) (hn : h.next ≤ h'.next) (hb : ∀ b, n0 ≤ b → b < h.next → h'.blk b = h.blk b) : Grow es s h' n0 n cells := by
  obtain ⟨hl, h1 | ⟨b, rfl, a1, a2, a3, a4⟩⟩ := G
  · exact ⟨hl, .inl h1⟩
  · exact ⟨hl, .inr ⟨b, rfl, a1, by omega, a3, by rw [hb b a1 a2, a4]⟩⟩

theorem Grow.ints {k : IntKind} {s : AVal} {h : Heap} {n0 n : Nat} {l : List Int} (G : Grow 1 s h n0 n (l.map (.int k))) : Ints k s h l ∧ l.length = n := by
  obtain ⟨hl, ⟨rfl, rfl⟩ | ⟨b, rfl, a1, a2, a3, a4⟩⟩ := G
  · have : l = [] := by
      cases l with
      | nil => rfl
      | cons a l => simp at hl
    exact ⟨.inl ⟨rfl, this⟩, by simp [this]⟩
  · have hln : l.length = n := by simpa using hl
    refine ⟨.inr ⟨b, 0, n, false, by rw [hln], ?_⟩, hln⟩
    rw [rd_of a4 0 l.length (by simp)]
    simp only [List.drop_zero, Option.some.injEq]
    rw [← List.map_take, List.take_length]

theorem Grow.blk_lt {es : Nat} {s : AVal} {h : Heap} {n0 n : Nat} {cells : List AVal} (G : Grow es s h n0 n cells) : ∀ b, slBlk s = some b → n0 ≤ b ∧ b < h.next := by
  intro b hb
  obtain ⟨_, ⟨rfl, _⟩ | ⟨b', rfl, a1, a2, _⟩⟩ := G
  · cases hb
  · cases hb; exact ⟨a1, a2⟩

theorem alloc_rd0 (h : Heap) (cs : List AVal) (n : Nat) (hn : n = cs.length) : (h.alloc cs).rd h.next 0 n = some cs := by
  rw [rd_of (alloc_same h cs) 0 n (by simp [hn])]
  simp [hn]

/-- One more element, from a row of one. -/
theorem Grow.one {es bytes : Nat} {zero : List AVal} {s : AVal} {h : Heap} {n0 n : Nat} {cells news : List AVal} (G : Grow es s h n0 n cells) (h0 : n0 ≤ h.next) (hn : news.length = es) (hb : (n + 1) * bytes ≤ 140737488355328) (hc : n + 1 ≤ 4611686018427387904) :
    ∃ s' h', aAppend es bytes zero false s (.slice h.next 0 1 1 es true) (h.alloc news) = some (s', h') ∧ Grow es s' h' n0 (n + 1) (cells ++ news) ∧ h'.next = h.next + 2 ∧ ∀ b, b < n0 → h'.blk b = h.blk b := by
  have hr : (h.alloc news).rd h.next 0 (1 * es) = some news := alloc_rd0 h news _ (by omega)
  have hes : Nat.beq es es = true := Nat.beq_refl es
  obtain ⟨hl, ⟨rfl, rfl⟩ | ⟨b, rfl, a1, a2, a3, a4⟩⟩ := G
  · have hcn : cells = [] := by
      cases cells with
      | nil => rfl
      | cons a l => simp at hl
    subst hcn
    refine ⟨.slice (h.next + 1) 0 1 1 es false, (h.alloc news).alloc news, ?_, ⟨by simp [hn], .inr ⟨h.next + 1, rfl, by omega, ?_, by omega, ?_⟩⟩, ?_, ?_⟩
    · simp only [aAppend, aNews, hes, hr, cond_true, Option.bind_some]
      have e1 : Nat.beq 1 0 = false := rfl
      rw [e1]
      simp only [cond_false, Option.bind_some]
      rw [if_pos (by omega)]
      rfl
    · simp
    · simp only [List.nil_append]
      exact alloc_same (h.alloc news) news
    · simp
    · intro b hb'
      rw [alloc_old _ _ (by simp; omega), alloc_old _ _ (by omega)]
  · have hold : (h.alloc news).rd b 0 (n * es) = some cells := by
      have : (h.alloc news).blk b = some ⟨cells, true⟩ := by rw [alloc_old _ _ (by omega)]; exact a4
      rw [rd_of this 0 _ (by simp [hl])]
      simp [← hl]
    have hbk : (h.alloc news).blk b = some ⟨cells, true⟩ := by rw [alloc_old _ _ (by omega)]; exact a4
    refine ⟨.slice (h.next + 1) 0 (n + 1) (n + 1) es false, ((h.alloc news).alloc (cells ++ news)).setBlk b none, ?_, ⟨by simp [hl, hn, Nat.add_mul], .inr ⟨h.next + 1, rfl, by omega, by simp, by omega, ?_⟩⟩, by simp, ?_⟩
    · simp only [aAppend, aNews, hes, hr, cond_true, Option.bind_some]
      have e1 : Nat.beq 1 0 = false := rfl
      have e2 : Nat.ble (n + 1) n = false := by
        cases hh : Nat.ble (n + 1) n with
        | false => rfl
        | true => have := Nat.le_of_ble_eq_true hh; omega
      rw [e1]
      simp only [cond_false, Option.bind_some, e2]
      rw [if_pos (by omega)]
      rw [hbk]
      simp only [hold, Option.bind_some]
      rfl
    · rw [setBlk_ne _ _ (by omega)]
      exact alloc_same (h.alloc news) (cells ++ news)
    · intro b' hb'
      rw [setBlk_ne _ _ (by omega), alloc_old _ _ (by simp; omega), alloc_old _ _ (by omega)]

theorem ro_at {B pre bs post : List (Loc × List AVal)} (hB : B = pre ++ (bs ++ post)) {j : Nat} {p : Loc × List AVal} (h : bs[j]? = some p) : B[pre.length + j]? = some p := by
  have hj : j < bs.length := (List.getElem?_eq_some_iff.1 h).1
  rw [hB, List.getElem?_append_right (by omega), show pre.length + j - pre.length = j by omega, List.getElem?_append_left hj, h]

theorem IntsArg.here {k : IntKind} {w : World} {v : Value} {bs : List (Loc × List AVal)} {mk : Nat → AVal} {l : List Int} (A : IntsArg k w v bs mk l) {B pre post : List (Loc × List AVal)} (hB : B = pre ++ (bs ++ post)) :
    VRel (roPhi B) (mk pre.length) v ∧ Ints k (mk pre.length) (roHeap B) l ∧ (∀ b, slBlk (mk pre.length) = some b → b < (roHeap B).next) ∧ ∀ p ∈ bs, RoOk (roPhi B) w p := by
  refine ⟨A.rel _ _ fun j p hp => ?_, A.ints _ _ fun j p hp => ?_, fun b hb => ?_, A.ro _⟩
  · simp only [roPhi, ro_at hB hp, Option.map_some]
  · simp only [roHeap, ro_at hB hp, Option.map_some]
  · have h1 := A.lt _ _ hb
    have h2 : B.length = pre.length + (bs.length + post.length) := by rw [hB]; simp
    show b < B.length
    omega

theorem wf64 {x : Int} (h : (Lit.int .i64 x).wf = true) : -9223372036854775808 ≤ x ∧ x ≤ 9223372036854775807 := by
  have h1 : IntKind.i64.min = -9223372036854775808 := by decide
  have h2 : IntKind.i64.max = 9223372036854775807 := by decide
  simp only [Lit.wf, h1, h2, Bool.and_eq_true, decide_eq_true_eq] at h
  exact h

theorem IntsArg.wf64 {w : World} {v : Value} {bs : List (Loc × List AVal)} {mk : Nat → AVal} {l : List Int} (A : IntsArg .i64 w v bs mk l) : ∀ x ∈ l, -9223372036854775808 ≤ x ∧ x ≤ 9223372036854775807 := by
  intro x hx
  exact Go.Fw.wf64 (A.wf x hx)

theorem weights_of {H : Type} {P : Program} {ts : List TypeId} {ds : List (DataW H)} (h : (DataW.weightsEach P ts ds).all (· ≤ reachBytes) = true) {j : Nat} {t : TypeId} {d : DataW H} (ht : ts[j]? = some t) (hd : ds[j]? = some d) : ∀ x ∈ d.weights P t, x ≤ reachBytes := by
  intro x hx
  simpa using List.all_eq_true.1 h _ (DataW.weights_mem_each ht hd x hx)


/-- A loop, with what holds ahead of each round. -/
theorem loop_ok {f : List AVal → Heap → Option J} (I : Nat → List AVal → Heap → Prop) (Q : J → Prop)
    (step : ∀ n xs h, I n xs h → (∃ xs' h', f xs h = some (0, xs', h') ∧ ∃ m, m < n ∧ I m xs' h') ∨ (∃ i ys h', f xs h = some (i + 1, ys, h') ∧ Q (i + 1, ys, h'))) :
    ∀ n xs h, I n xs h → ∃ r, loop f xs h = some r ∧ Q r := by
  intro n
  induction n using Nat.strongRecOn with
  | ind n ih =>
    intro xs h hI
    rcases step n xs h hI with ⟨xs', h', e, m, hm, hI'⟩ | ⟨i, ys, h', e, hq⟩
    · obtain ⟨r, e2, hq⟩ := ih m hm xs' h' hI'
      exact ⟨r, (loop_more e).trans e2, hq⟩
    · exact ⟨_, loop_done e, hq⟩

theorem Ints.lit (k : IntKind) (h : Heap) (l : List Int) (n : Nat) (hn : n = l.length) (ex : Bool) : Ints k (.slice h.next 0 n n 1 ex) (h.alloc (l.map (.int k))) l := by
  refine .inr ⟨h.next, 0, n, ex, by rw [hn], ?_⟩
  exact alloc_rd0 h _ _ (by simp)

theorem Ints.lt_of {k : IntKind} {s : AVal} {h : Heap} {l : List Int} {n : Nat} (_ : Ints k s h l) (hs : ∀ b, slBlk s = some b → b < n) {m : Nat} (hm : n ≤ m) : ∀ b, slBlk s = some b → b < m := fun b hb => Nat.lt_of_lt_of_le (hs b hb) hm

theorem rdL_one {cs : List AVal} {i : Nat} {v : AVal} (h : cs[i]? = some v) : rdL cs i 1 = some [v] := by
  have hi := (List.getElem?_eq_some_iff.1 h).1
  have : Nat.ble (i + 1) cs.length = true := Nat.ble_eq_true_of_le hi
  simp only [rdL, this, cond_true, Option.some.injEq]
  rw [List.drop_eq_getElem_cons hi]
  rw [List.getElem?_eq_getElem hi] at h
  cases h
  rfl

theorem aIdx_of (len : Nat) (k : IntKind) (i : Int) (h0 : 0 ≤ i) (h1 : i < len) : aIdx len (.int k i) = some i.toNat := by
  simp [aIdx, h0, h1]

theorem splice_set {cs : List AVal} {i : Nat} {v : AVal} (h : i < cs.length) : splice cs i [v] = cs.set i v := by
  unfold splice
  rw [List.set_eq_take_append_cons_drop]
  simp [h]

end Go.Fw

/- Handy: a value is like itself; numbers brought within bounds. -/
namespace Go.Fw
set_option linter.unusedSimpArgs false
set_option linter.unusedVariables false

mutual
theorem AVal.beq_refl : ∀ a : AVal, AVal.beq a a = true
  | .undef | .nilPtr | .nilSlice | .nilFunc | .nilIface => by simp [AVal.beq]
  | .mapv _ => by simp [AVal.beq]
  | .bool _ | .int _ _ | .str _ | .ptr _ _ | .slice .. => by simp [AVal.beq]
  | .func _ c => by simp [AVal.beq, AVal.beqL_refl c]
  | .iface _ v => by simp [AVal.beq, AVal.beq_refl v]
  | .agg c => by simp [AVal.beq, AVal.beqL_refl c]
  | .tuple c => by simp [AVal.beq, AVal.beqL_refl c]
theorem AVal.beqL_refl : ∀ a : List AVal, AVal.beqL a a = true
  | [] => rfl
  | a :: l => by simp [AVal.beqL, AVal.beq_refl a, AVal.beqL_refl l]
end
@[simp] theorem beqO_same (a : List AVal) : beqO (some a) (some a) = true := AVal.beqL_refl a

@[simp] theorem lookLog_nil (t : Nat) : lookLog [] t = none := rfl
@[simp] theorem lookLog_cons (u : Nat) (v : Option Log) (r : List (Nat × Option Log)) (t : Nat) : lookLog ((u, v) :: r) t = if u = t then some v else lookLog r t := by
  rw [lookLog, beq_dec]
  by_cases h : u = t <;> simp [h]
@[simp] theorem lookB_nil (t : Nat) : lookB [] t = none := rfl
@[simp] theorem lookB_if (u : Nat) (v : List AVal) (r : List (Nat × List AVal)) (t : Nat) : lookB ((u, v) :: r) t = if u = t then some v else lookB r t := by
  rw [lookB, beq_dec]
  by_cases h : u = t <;> simp [h]
@[simp] theorem pairOk_some (a e : Log) : pairOk (some a) (some e) = stays a e := rfl
@[simp] theorem logRd_ptr (b off n : Nat) : logRd (.ptr b off) n = some (.rd b off n) := rfl
@[simp] theorem stays_rd (b off n : Nat) (β β' : List (Nat × List AVal)) (h h' : Heap) : stays (.rd b off n) (.ef β h β' h') = beqO (h.rd b off n) (h'.rd b off n) := rfl
@[simp] theorem stays_lrd (l off n : Nat) (β β' : List (Nat × List AVal)) (h h' : Heap) : stays (.lrd l off n) (.ef β h β' h') = beqO ((lookB β l).bind fun c => rdL c off n) ((lookB β' l).bind fun c => rdL c off n) := rfl
@[simp] theorem checkPairs_nil (log : List (Nat × Option Log)) : checkPairs log [] = true := rfl
theorem checkPairs_cons {log : List (Nat × Option Log)} {i q : Nat} {r : List (Nat × Nat)} {a e : Log} (h1 : lookLog log i = some (some a)) (h2 : lookLog log q = some (some e)) : checkPairs log ((i, q) :: r) = (stays a e && checkPairs log r) := by
  rw [checkPairs, h1, h2]
  rfl
@[simp] theorem aggCells_agg (cs : List AVal) : AVal.aggCells (.agg cs) = cs := rfl

theorem wrap_succ (n : Nat) (h : n < 4611686018427387904) : IntKind.i64.wrap ((n : Int) + 1) = ((n + 1 : Nat) : Int) := by
  rw [IntWalk.i64_in _ (by omega)]; omega

theorem wrap64_range (x : Int) : -9223372036854775808 ≤ IntKind.i64.wrap x ∧ IntKind.i64.wrap x ≤ 9223372036854775807 := by
  rw [IntKind.wrap_i64]; omega

theorem and_eq (a m : Int) (h0 : 0 ≤ m) (h1 : m ≤ 9223372036854775807) : ∃ r, aBin .and .plain (.int .i64 a) (.int .i64 m) = some (.int .i64 r) ∧ 0 ≤ r ∧ r ≤ m := by
  have hm : (BitVec.ofInt 64 m).toNat = m.toNat := by
    rw [BitVec.toNat_ofInt]
    omega
  have hle : (BitVec.ofInt 64 a &&& BitVec.ofInt 64 m).toNat ≤ m.toNat := by
    rw [BitVec.toNat_and, hm]
    exact Nat.and_le_right
  refine ⟨((BitVec.ofInt 64 a &&& BitVec.ofInt 64 m).toNat : Int), ?_, by omega, by omega⟩
  show some (AVal.int .i64 (IntKind.i64.wrap (((BitVec.ofInt 64 a &&& BitVec.ofInt 64 m).toNat : Nat) : Int))) = _
  rw [IntWalk.i64_in _ (by omega)]

def within (a lo hi : Int) : Int := if lo ≤ a ∧ a ≤ hi then a else lo + (if a.tmod (hi - lo + 1) < 0 then a.tmod (hi - lo + 1) + hi - lo + 1 else a.tmod (hi - lo + 1))

theorem tmod_bounds (a n : Int) (hn : 0 < n) : -n < a.tmod n ∧ a.tmod n < n := by
  have h1 := Int.tmod_lt_of_pos a hn
  have h2 := Int.lt_tmod_of_pos a hn
  omega

theorem within_in (a lo hi : Int) (h : lo ≤ hi) : lo ≤ within a lo hi ∧ within a lo hi ≤ hi := by
  obtain ⟨m1, m2⟩ := tmod_bounds a (hi - lo + 1) (by omega)
  unfold within
  split
  · omega
  · split <;> omega

noncomputable def withinS (call : Go.Fw.Call) (a0 a1 a2 : AVal) (h : Heap) : Option J :=
 (aBin .geq .plain a0 a1).bind fun v1 =>
 (guardV v1 true
 ((aBin .leq .plain a0 a2).bind fun v2 =>
 some (0, [v2], h))
 (some (0, [skipV], h))).bind fun g3 =>
 (aPick v1 (g3.2.1.getD 0 .undef) (.bool false)).bind fun v4 =>
 condV v4
 (some (0, [a0], g3.2.2))
 ((aBin .sub .plain a2 a1).bind fun v5 =>
 (aBin .add .plain v5 (.int .i64 1)).bind fun v6 =>
 (aBin .rem .plain a0 v6).bind fun v7 =>
 (aBin .lss .plain v7 (.int .i64 0)).bind fun v8 =>
 (condV v8
 ((aBin .add .plain v7 a2).bind fun v9 =>
 (aBin .sub .plain v9 a1).bind fun v10 =>
 (aBin .add .plain v10 (.int .i64 1)).bind fun v11 =>
 some (0, [v11, a1], g3.2.2))
 (some (0, [v7, a1], g3.2.2))).bind fun x12 =>
 bif Nat.beq x12.1 0 then (aBin .add .plain (x12.2.1.getD 1 .undef) (x12.2.1.getD 0 .undef)).bind fun v13 =>
 some (0, [v13], x12.2.2) else
 none)

theorem withinS_eq (call : Go.Fw.Call) (a lo hi : Int) (h0 : -1000000000000 ≤ lo) (h1 : lo ≤ hi) (h2 : hi ≤ 1000000000000) (h : Heap) : withinS call (.int .i64 a) (.int .i64 lo) (.int .i64 hi) h = some (0, [.int .i64 (within a lo hi)], h) := by
  obtain ⟨m1, m2⟩ := tmod_bounds a (hi - lo + 1) (by omega)
  have hn : ¬ (hi - lo + 1 = 0) := by omega
  have w1 : IntKind.i64.wrap (hi - lo) = hi - lo := IntWalk.i64_in _ (by omega)
  have w2 : IntKind.i64.wrap (hi - lo + 1) = hi - lo + 1 := IntWalk.i64_in _ (by omega)
  have w3 : IntKind.i64.wrap (a.tmod (hi - lo + 1) + hi) = a.tmod (hi - lo + 1) + hi := IntWalk.i64_in _ (by omega)
  have w4 : IntKind.i64.wrap (a.tmod (hi - lo + 1) + hi - lo) = a.tmod (hi - lo + 1) + hi - lo := IntWalk.i64_in _ (by omega)
  have w5 : IntKind.i64.wrap (a.tmod (hi - lo + 1) + hi - lo + 1) = a.tmod (hi - lo + 1) + hi - lo + 1 := IntWalk.i64_in _ (by omega)
  have w6 : IntKind.i64.wrap (lo + (a.tmod (hi - lo + 1) + hi - lo + 1)) = lo + (a.tmod (hi - lo + 1) + hi - lo + 1) := IntWalk.i64_in _ (by omega)
  have w7 : IntKind.i64.wrap (lo + a.tmod (hi - lo + 1)) = lo + a.tmod (hi - lo + 1) := IntWalk.i64_in _ (by omega)
  unfold within
  by_cases ha : lo ≤ a <;> by_cases hb : a ≤ hi <;> by_cases hm : a.tmod (hi - lo + 1) < 0 <;> simp [withinS, ha, hb, bin_rem, w1, w2, hn, hm, w3, w4, w5, w6, w7]

end Go.Fw
