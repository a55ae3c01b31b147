/- Append, copy, clear, make and their like keep what the abstract heap says. -/
import Derived.Test.YtfdhljghamkgjaaFwK
namespace Go.Fw
set_option linter.unusedSimpArgs false
set_option linter.unusedVariables false

section
variable {P : Program}

/-- How 'append' runs with a second operand: where there is room; where there is none. -/
structure AppRun (P : Program) (φ : Phi) (w : World) (e : TypeId) (es bytes : Nat) (z : Value) (ts : Array TypeId) (ty : TypeId) (xv : Value) (n : Nat) (news : List AVal) : Prop where
  room : ∃ us : List Value, VRels φ news us ∧ (∀ u ∈ us, u.oneCell' = true) ∧ us.length = n * es ∧ ∀ (base : Option Addr) (len c : Nat), len + n ≤ c →
    (Builtin.append_ ts ty #[.slice base len c, xv]).run P w = (match base with | some a => (storeCells (a.add (len * es)) us).run P w | none => .ok () w).andThen fun _ w' => .ok (.slice base (len + n) c) w'
  grow : ∃ us : List Value, VRels φ news us ∧ (∀ u ∈ us, u.oneCell' = true) ∧ us.length = n * es ∧ ∀ (base : Option Addr) (len c : Nat) (old : List Value), ¬ len + n ≤ c →
    (Builtin.firstCells es len (.slice base len c)).run P w.drew = .ok old.toArray w.drew → (len + n) * bytes ≤ 140737488355328 → len + n ≤ 4611686018427387904 →
    ∃ cap, len + n ≤ cap ∧ (Builtin.append_ ts ty #[.slice base len c, xv]).run P w =
      .ok (.slice (some ⟨w.heap.size, 0, none⟩) (len + n) cap) (w.drew.alloc (.cells (old.toArray ++ us.toArray ++ Builtin.zeroCells z.cells (cap - (len + n))) e))

theorem appRun {φ : Phi} {h : Heap} {w : World} (H : HRel φ h w) {t e : TypeId} {ts : Array TypeId} {ty : TypeId} {es bytes : Nat} {zero : List AVal} {zeros : Bool} {z : Value} (ht : P.underlying t = some (.slice e)) (hs : (P.info? e).map (·.size) = some es)
    (hby : (P.info? e).map (·.bytes) = some bytes) (hzv : ∀ w, (zeroValue e).run P w = .ok z w) (hzr : VRels φ zero z.cells.toList) (hzo : ∀ u ∈ z.cells.toList, u.oneCell' = true) (hzl : zero.length = es) (hts : ts[0]? = some t)
    (hk : (zeros = false ∧ (ts[1]? = none ∨ ∃ u d, ts[1]? = some u ∧ P.underlying u = some d ∧ (∀ k, d ≠ .int k))) ∨ (zeros = true ∧ ∃ u ik, ts[1]? = some u ∧ P.underlying u = some (.int ik)))
    {x : AVal} {xv : Value} (hx : VRel φ x xv) {n : Nat} {news : List AVal} (en : aNews es bytes zero zeros x h = some (n, news)) : AppRun P φ w e es bytes z ts ty xv n news := by
  have hzs : z.cells.size = es := by have := VRels.length hzr; simp at this; omega
  rcases hk with ⟨rfl, hk⟩ | ⟨rfl, u, ik, h1, h2⟩
  · obtain ⟨a1, us, a2, a3, a4, a5⟩ := news_rel (P := P) H hx en
    obtain ⟨b1, us', b2, b3, b4, b5⟩ := news_rel (P := P) (w := w.drew) (H.world rfl) hx en
    exact ⟨⟨us, a3, a4, a5, fun base len c hr => append_room ht hs hts hk a1 a2 hr⟩,
      ⟨us', b3, b4, b5, fun base len c old hr ho hf hm => append_grow ht hs hby hzv hts hk a1 ho b2 hr hf hm⟩⟩
  · unfold aNews at en
    split at en
    · rename_i k _
      split at en
      · rename_i hc
        cases en
        have r1 := reps_rel hzr k.toNat
        have r2 := repsV_ones hzo k.toNat
        have r3 : (repsV z.cells.toList k.toNat).length = k.toNat * es := by rw [repsV_length]; simp [hzs]
        rw [vrel_int.1 hx]
        exact ⟨⟨_, r1, r2, r3, fun base len c hr => zeros_room ht hs hby hzv hzs hts h1 h2 hc.1 hc.2.1 hc.2.2 hr⟩,
          ⟨_, r1, r2, r3, fun base len c old hr ho hf hm => zeros_grow ht hs hby hzv hzs hts h1 h2 hc.1 hc.2.1 hc.2.2 hr ho hf hm⟩⟩
      · cases en
    all_goals first | (cases en; done) | exact absurd ‹true = false› (by simp)

/-- A new row for a slice. -/
theorem new_slice {φ : Phi} {h : Heap} {w : World} (H : HRel φ h w) {cs : List AVal} {us : List Value} (hr : VRels φ cs us) (ho : ∀ u ∈ us, u.oneCell' = true) {e : TypeId} {es n cap : Nat} (hl : us.length = n * es) (hcap : n ≤ cap) {rest : Array Value} (hrest : rest.size = (cap - n) * es)
    {w' : World} {fz : Nat × Nat} (hw : w'.heap = w.heap.push (.cells (us.toArray ++ rest) e fz)) (hfz : fz.1 = fz.2 ∨ cap * es ≤ fz.1) (hos : w'.os = w.os) (htape : w'.tape = w.tape) (hout : w'.output = w.output) (lb : Nat) (hlb1 : n ≤ lb) (hlb2 : lb ≤ cap) (ex : Bool) (hex : ex = true → cap = lb) :
    ∃ φ', VRel φ' (.slice h.next 0 n lb es ex) (.slice (some ⟨w.heap.size, 0, none⟩) n cap) ∧ HRel φ' (h.alloc cs) w' ∧ Step φ h w φ' (h.alloc cs) w' := by
  have hsz : (us.toArray ++ rest).size = cap * es := by
    simp only [Array.size_append, List.size_toArray, hl, hrest, ← Nat.add_mul]
    congr 1
    omega
  obtain ⟨h1, h2⟩ := H.alloc (cs := cs) (c := us.toArray ++ rest) e fz (by rw [hsz]; exact hfz) (by rw [VRels.length hr]; simp) (by
    intro i v hv
    obtain ⟨u, hu, hru⟩ := VRels.get hr i v hv
    refine ⟨u, ?_, hru, ho u (List.mem_of_getElem? hu)⟩
    have hlt : i < us.length := (List.getElem?_eq_some_iff.1 hu).1
    rw [Array.getElem?_append, if_pos (by simpa using hlt)]
    simpa using hu) hw hos htape hout
  refine ⟨_, vrel_slice.2 ⟨⟨w.heap.size, 0, (us.toArray ++ rest).size⟩, _, cap, by simp [Phi.set], rfl, hlb1, hlb2, hex, fun _ => ⟨rfl, ?_⟩⟩, h1, h2⟩
  simp only [hsz]
  omega

/-- An append in place onto a block whose room is not known: the block goes on under a new name. -/
theorem HRel.move {φ : Phi} {h : Heap} {w : World} (H : HRel φ h w) {b : Nat} {cs0 : List AVal} {L : Loc} (hx : h.blk b = some ⟨cs0, true⟩) (hb : φ b = some L) {off k : Nat} {old news : List AVal} (hold : h.rd b off k = some old)
    {us : List Value} (hr : VRels φ news us) (ho : ∀ u ∈ us, u.oneCell' = true) (hfit : L.base + off + k + us.length ≤ L.size) :
    ∃ w', (storeCells ⟨L.blk, L.base + off + k, none⟩ us).run P w = .ok () w' ∧ HRel (φ.set h.next ⟨L.blk, L.base + off, L.size⟩) ((h.alloc (old ++ news)).setBlk b none) w' ∧
      Step φ h w (φ.set h.next ⟨L.blk, L.base + off, L.size⟩) ((h.alloc (old ++ news)).setBlk b none) w' := by
  obtain ⟨c, t, fz, hg, hsz, hcf, hfree, hcells⟩ := H.blk b _ L hx hb
  have hfree := hfree rfl
  have hbn : b < h.next := H.live b _ hx
  have hnone : φ h.next = none := by
    cases hn : φ h.next with
    | none => rfl
    | some L => have := (H.dom _ _ hn).1; omega
  have hext : Ext φ (φ.set h.next ⟨L.blk, L.base + off, L.size⟩) := Phi.set_ext hnone
  have hk : off + k ≤ cs0.length ∧ old = (cs0.drop off).take k := by
    unfold Heap.rd at hold
    rw [hx] at hold
    simp only at hold
    cases hle : Nat.ble (off + k) cs0.length with
    | false => rw [hle] at hold; cases hold
    | true => rw [hle] at hold; cases hold; exact ⟨Nat.le_of_ble_eq_true hle, rfl⟩
  obtain ⟨hk, rfl⟩ := hk
  have holdlen : ((cs0.drop off).take k).length = k := by simp; omega
  have hlen := VRels.length hr
  generalize hc' : (c.toList.take (L.base + off + k + 0) ++ us ++ c.toList.drop (L.base + off + k + 0 + us.length)).toArray = c'
  have hsz' : c'.size = L.size := by
    rw [← hc']
    simp only [List.size_toArray, List.length_append, List.length_take, List.length_drop, Array.length_toList]; omega
  have hget : ∀ i v, ((cs0.drop off).take k ++ news)[i]? = some v → ∃ u, c'[L.base + off + i]? = some u ∧ VRel φ v u ∧ u.oneCell' = true := by
    intro i v hv
    rw [← hc']
    simp only [List.getElem?_toArray, List.getElem?_append, List.length_take, List.length_append, Array.length_toList, List.getElem?_take, List.getElem?_drop, Array.getElem?_toList]
    rw [List.getElem?_append, holdlen] at hv
    by_cases h1 : i < k
    · rw [if_pos h1, List.getElem?_take, if_pos h1, List.getElem?_drop] at hv
      rw [if_pos (by omega), if_pos (by omega), if_pos (by omega)]
      have := hcells _ _ hv
      rwa [← Nat.add_assoc] at this
    · rw [if_neg h1] at hv
      obtain ⟨u, hu, hru⟩ := VRels.get hr _ _ hv
      have hlt : i - k < us.length := (List.getElem?_eq_some_iff.1 hu).1
      rw [if_pos (by omega), if_neg (by omega)]
      refine ⟨u, ?_, hru, ho u (List.mem_of_getElem? hu)⟩
      rw [← hu]
      congr 1
      omega
  have hcase : ∀ b' x', ((h.alloc ((cs0.drop off).take k ++ news)).setBlk b none).blk b' = some x' → (b' = h.next ∧ x' = ⟨(cs0.drop off).take k ++ news, true⟩) ∨ (b' < h.next ∧ b' ≠ b ∧ h.blk b' = some x') := by
    intro b' x' e
    simp only [Heap.setBlk, Heap.alloc] at e
    cases hbe0 : Nat.beq b' b with
    | true => rw [hbe0] at e; cases e
    | false =>
      rw [hbe0] at e
      simp only [cond_false] at e
      cases hbe : Nat.beq b' h.next with
      | true =>
        rw [hbe] at e
        cases e
        exact .inl ⟨Nat.eq_of_beq_eq_true hbe, rfl⟩
      | false =>
        rw [hbe] at e
        exact .inr ⟨H.live b' x' e, Nat.ne_of_beq_eq_false hbe0, e⟩
  have hphi : ∀ b' L', (φ.set h.next ⟨L.blk, L.base + off, L.size⟩) b' = some L' → (b' = h.next ∧ L' = ⟨L.blk, L.base + off, L.size⟩) ∨ (b' ≠ h.next ∧ φ b' = some L') := by
    intro b' L' e
    unfold Phi.set at e
    split at e
    · cases e; exact .inl ⟨‹_›, rfl⟩
    · exact .inr ⟨‹_›, e⟩
  have hLlt := (H.dom b L hb).2
  refine ⟨w.setRow L.blk c', ?_, ⟨?_, ?_, ?_, ?_⟩, ⟨hext, by simp [Heap.alloc, Heap.setBlk], ?_, ?_, by simp, fun b' hb' hn => by rw [Heap.setBlk_other _ _ (fun e => by rw [e, hb] at hn; cases hn), h.alloc_other _ (by omega)], ?_, rfl, rfl, rfl⟩⟩
  · rw [← hc']
    exact run_storeCells_free L.blk (L.base + off + k) t fz us 0 c w hg (fz_free hfree) (by omega) ho
  · intro b' L' hb'
    rcases hphi b' L' hb' with ⟨rfl, rfl⟩ | ⟨_, hb'⟩
    · exact ⟨Nat.lt_succ_self _, by simpa using hLlt⟩
    · have := H.dom b' L' hb'
      exact ⟨Nat.lt_succ_of_lt this.1, by simpa using this.2⟩
  · intro b' x' hx'
    rcases hcase b' x' hx' with ⟨rfl, rfl⟩ | ⟨hlt, _, h2⟩
    · exact Nat.lt_succ_self _
    · exact Nat.lt_succ_of_lt hlt
  · intro b' x' L' hx' hb'
    rcases hcase b' x' hx' with ⟨rfl, rfl⟩ | ⟨hlt, hne, h2⟩
    · rcases hphi _ L' hb' with ⟨_, rfl⟩ | ⟨hne, _⟩
      · refine ⟨c', t, fz, setRow_heap w L.blk c c' t fz hg, hsz', ?_, fun _ => by have := hfree; omega, ?_⟩
        · simp only [List.length_append, holdlen]; omega
        · intro i v hv
          obtain ⟨u, hu, hru, hou⟩ := hget i v hv
          exact ⟨u, hu, VRel.ext hext v hru, hou⟩
      · exact absurd rfl hne
    · rcases hphi b' L' hb' with ⟨rfl, _⟩ | ⟨_, hb'⟩
      · omega
      · obtain ⟨c1, t1, fz1, hg1, h1, h2', h3, h4⟩ := H.blk b' x' L' h2 hb'
        have hne' : L'.blk ≠ L.blk := fun e => H.apart b b' _ x' L L' (Ne.symm hne) hx h2 rfl hb hb' e.symm
        refine ⟨c1, t1, fz1, by rw [setRow_other w L.blk L'.blk c' hne']; exact hg1, h1, h2', h3, ?_⟩
        intro i v hv
        obtain ⟨u, hu, hr, ho⟩ := h4 i v hv
        exact ⟨u, hu, VRel.ext hext v hr, ho⟩
  · intro b1 b2 x1 x2 L1 L2 hne h1 h2 hr p1 p2
    rcases hcase b1 x1 h1 with ⟨e1, e1'⟩ | ⟨hn1, hnb1, h1'⟩
    · rcases hcase b2 x2 h2 with ⟨e2, _⟩ | ⟨hn2, hnb2, h2'⟩
      · exact absurd (e1.trans e2.symm) hne
      · rcases hphi _ L1 p1 with ⟨_, rfl⟩ | ⟨hq, _⟩
        · rcases hphi b2 L2 p2 with ⟨e, _⟩ | ⟨_, p2⟩
          · omega
          · exact H.apart b b2 _ x2 L L2 (Ne.symm hnb2) hx h2' rfl hb p2
        · exact absurd e1 hq
    · rcases hphi b1 L1 p1 with ⟨e, _⟩ | ⟨_, p1⟩
      · omega
      · rcases hcase b2 x2 h2 with ⟨e2, _⟩ | ⟨hn2, hnb2, h2'⟩
        · rcases hphi _ L2 p2 with ⟨_, rfl⟩ | ⟨hq, _⟩
          · exact H.apart b1 b x1 _ L1 L hnb1 h1' hx hr p1 hb
          · exact absurd e2 hq
        · rcases hphi b2 L2 p2 with ⟨e, _⟩ | ⟨_, p2⟩
          · omega
          · exact H.apart b1 b2 x1 x2 L1 L2 hne h1' h2' hr p1 p2
  · intro b' x' hlt hx'
    rcases hcase b' x' hx' with ⟨rfl, rfl⟩ | ⟨_, _, h2⟩
    · omega
    · exact ⟨x', h2, rfl⟩
  · intro b' L' h1 h2
    rcases hphi b' L' h2 with ⟨rfl, rfl⟩ | ⟨_, h2⟩
    · exact ⟨Nat.le_refl _, .inr ⟨b, _, L, hx, rfl, hb, rfl⟩⟩
    · rw [h1] at h2; cases h2
  · intro q hq hfree'
    exact setRow_other w L.blk q c' fun e => hfree' b _ L hx rfl hb e.symm

theorem append_rel {φ : Phi} {h : Heap} {w : World} (H : HRel φ h w) {e : TypeId} {ts : Array TypeId} {ty : TypeId} {es bytes : Nat} {zero : List AVal} {zeros : Bool} {z : Value}
    (hzl : z.cells.size = es)
    {x s : AVal} {xv sv : Value} {r : AVal} {h' : Heap}
    (hs : VRel φ s sv) (hrun : ∀ n news, aNews es bytes zero zeros x h = some (n, news) → AppRun P φ w e es bytes z ts ty xv n news) (ea : aAppend es bytes zero zeros s x h = some (r, h')) :
    OkTo P φ h w (Builtin.append_ ts ty #[sv, xv]) r h' := by
  unfold aAppend at ea
  simp only [Option.bind_eq_some_iff] at ea
  obtain ⟨⟨n, news⟩, en, ea⟩ := ea
  have R := hrun n news en
  simp only at ea
  split at ea
  -- nil
  · rw [vrel_nilSlice.1 hs]
    cases hb : Nat.beq n 0 with
    | true =>
      rw [hb] at ea
      cases ea
      have := Nat.eq_of_beq_eq_true hb
      subst this
      obtain ⟨us, _, _, _, hr⟩ := R.room
      exact ⟨_, w, φ, by rw [hr none 0 0 (by omega)]; rfl, vrel_nilSlice.2 rfl, H, Step.refl _ _ _⟩
    | false =>
      rw [hb] at ea
      have hn := Nat.ne_of_beq_eq_false hb
      simp only [cond_false] at ea
      split at ea
      · rename_i hc
        cases ea
        obtain ⟨us, hur, huo, hul, hg⟩ := R.grow
        obtain ⟨cap, hcap, hrun⟩ := hg none 0 0 [] (by omega) (by simp [Builtin.firstCells]) (by simpa using hc.1) (by simpa using hc.2)
        simp only [Nat.zero_add] at hrun hcap
        obtain ⟨φ', v1, v2, v3⟩ := new_slice H hur huo (e := e) hul hcap (rest := Builtin.zeroCells z.cells (cap - n)) (w' := w.drew.alloc (.cells (us.toArray ++ Builtin.zeroCells z.cells (cap - n)) e)) (fz := (0, 0))
          (by simp [Builtin.zeroCells, hzl]) rfl (.inl rfl) rfl rfl rfl n (Nat.le_refl _) hcap false (by simp)
        refine ⟨_, _, φ', by rw [hrun]; simp, v1, v2, v3⟩
      · cases ea
  -- a slice
  · rename_i b off len cap0 es' ex
    cases hbe : Nat.beq es es' with
    | false => rw [hbe] at ea; cases ea
    | true =>
      have := Nat.eq_of_beq_eq_true hbe
      subst this
      rw [hbe] at ea
      simp only [cond_true] at ea
      obtain ⟨L, a, c, hbl, rfl, hl1, hl2, hex, hpos⟩ := vrel_slice.1 hs
      cases hb : Nat.beq n 0 with
      | true =>
        rw [hb] at ea
        cases ea
        have := Nat.eq_of_beq_eq_true hb
        subst this
        obtain ⟨us, _, _, hul, hr⟩ := R.room
        have hus : us = [] := List.eq_nil_of_length_eq_zero (by simpa using hul)
        subst hus
        exact ⟨_, w, φ, by rw [hr (some a) len c (by omega)]; rfl, hs, H, Step.refl _ _ _⟩
      | false =>
        rw [hb] at ea
        have hn := Nat.ne_of_beq_eq_false hb
        simp only [cond_false] at ea
        cases hle : Nat.ble (len + n) cap0 with
        | true =>
          rw [hle] at ea
          have hle := Nat.le_of_ble_eq_true hle
          simp only [cond_true, Option.bind_eq_some_iff, Option.some.injEq, Prod.mk.injEq] at ea
          obtain ⟨h1, hwr, rfl, rfl⟩ := ea
          obtain ⟨us, hur, huo, hul, hr⟩ := R.room
          obtain ⟨ha, hsz⟩ := hpos (by omega)
          obtain ⟨w', hst, H', S'⟩ := HRel.wr (P := P) H hwr hbl hur huo
          refine ⟨.slice (some a) (len + n) c, w', φ, ?_, ?_, H', S'⟩
          · rw [hr (some a) len c (by omega)]
            subst ha
            simp only [addr_add]
            rw [Nat.add_assoc, hst]
            rfl
          · exact vrel_slice.2 ⟨L, a, c, hbl, rfl, by omega, hl2, hex, hpos⟩
        | false =>
          rw [hle] at ea
          have hle : ¬ len + n ≤ cap0 := fun hh => by rw [Nat.ble_eq_true_of_le hh] at hle; cases hle
          simp only [cond_false] at ea
          split at ea
          · rename_i hfit
            cases ex with
            | true =>
              simp only [cond_true] at ea
              have hcc := hex rfl
              subst hcc
              obtain ⟨us, hur, huo, hul, hg⟩ := R.grow
              cases h0 : Nat.beq len 0 with
              | true =>
                rw [h0] at ea
                cases ea
                have := Nat.eq_of_beq_eq_true h0
                subst this
                obtain ⟨cap, hcap, hrun⟩ := hg (some a) 0 c [] (by omega) (by simp [Builtin.firstCells, loadCells, loadCellsFrom]) hfit.1 hfit.2
                simp only [Nat.zero_add] at hrun hcap
                obtain ⟨φ', v1, v2, v3⟩ := new_slice H hur huo (e := e) hul hcap (rest := Builtin.zeroCells z.cells (cap - n)) (w' := w.drew.alloc (.cells (us.toArray ++ Builtin.zeroCells z.cells (cap - n)) e)) (fz := (0, 0))
                  (by simp [Builtin.zeroCells, hzl]) rfl (.inl rfl) rfl rfl rfl n (Nat.le_refl _) hcap false (by simp)
                exact ⟨_, _, φ', by rw [hrun]; simp, v1, v2, v3⟩
              | false =>
                rw [h0] at ea
                have hlen0 := Nat.ne_of_beq_eq_false h0
                simp only [cond_false, Option.bind_eq_some_iff, Option.some.injEq, Prod.mk.injEq] at ea
                obtain ⟨old, hold, rfl, rfl⟩ := ea
                obtain ⟨ha, hsz⟩ := hpos (by omega)
                obtain ⟨os, o1, o2, o3, o4⟩ := HRel.rd (H.world (w' := w.drew) rfl) hold hbl
                subst ha
                obtain ⟨cap, hcap, hrun⟩ := hg (some ⟨L.blk, L.base + off, none⟩) len c os hle (by
                  simp only [Builtin.firstCells]
                  rw [← o3]
                  exact loadCells_of o4) hfit.1 hfit.2
                obtain ⟨φ', v1, v2, v3⟩ := new_slice H (VRels.append o1 hur) (by intro u hu; rcases List.mem_append.1 hu with hu | hu; exact o2 u hu; exact huo u hu) (e := e) (es := es) (n := len + n) (by simp [o3, hul, Nat.add_mul]) hcap (rest := Builtin.zeroCells z.cells (cap - (len + n)))
                  (w' := w.drew.alloc (.cells ((os ++ us).toArray ++ Builtin.zeroCells z.cells (cap - (len + n))) e)) (fz := (0, 0))
                  (by simp [Builtin.zeroCells, hzl]) rfl (.inl rfl) rfl rfl rfl (len + n) (Nat.le_refl _) hcap false (by simp)
                refine ⟨_, _, φ', by rw [hrun]; simp only [List.append_toArray], v1, v2, v3⟩
            | false =>
              simp only [cond_false] at ea
              split at ea
              · rename_i cs hblk
                simp only [Option.bind_eq_some_iff, Option.some.injEq, Prod.mk.injEq] at ea
                obtain ⟨old, hold, rfl, rfl⟩ := ea
                by_cases hroom : len + n ≤ c
                · -- in place
                  obtain ⟨us, hur, huo, hul, hr⟩ := R.room
                  obtain ⟨ha, hsz⟩ := hpos (by omega)
                  subst ha
                  have hes : (len + n) * es ≤ c * es := Nat.mul_le_mul_right _ hroom
                  rw [Nat.add_mul] at hes
                  obtain ⟨w', hst, H', S'⟩ := HRel.move (P := P) H hblk hbl hold hur huo (by omega)
                  refine ⟨.slice (some ⟨L.blk, L.base + off, none⟩) (len + n) c, w', _, ?_, ?_, H', S'⟩
                  · rw [hr _ len c hroom]
                    simp only [addr_add]
                    rw [hst]
                    rfl
                  · exact vrel_slice.2 ⟨⟨L.blk, L.base + off, L.size⟩, _, c, by simp [Phi.set], rfl, Nat.le_refl _, hroom, by simp, fun _ => ⟨rfl, by simp only [Nat.add_zero]; omega⟩⟩
                · obtain ⟨us, hur, huo, hul, hg⟩ := R.grow
                  by_cases h0 : len = 0
                  · subst h0
                    have hold0 : old = [] := by
                      unfold Heap.rd at hold
                      rw [hblk] at hold
                      simp only [Nat.zero_mul, List.take_zero] at hold
                      cases hq : Nat.ble (off + 0) cs.length with
                      | false => rw [hq] at hold; cases hold
                      | true => rw [hq] at hold; cases hold; rfl
                    subst hold0
                    obtain ⟨cap, hcap, hrun⟩ := hg (some a) 0 c [] (by omega) (by simp [Builtin.firstCells, loadCells, loadCellsFrom]) hfit.1 hfit.2
                    simp only [Nat.zero_add, List.nil_append] at hrun hcap ⊢
                    obtain ⟨φ', v1, v2, v3⟩ := new_slice H hur huo (e := e) hul hcap (rest := Builtin.zeroCells z.cells (cap - n)) (w' := w.drew.alloc (.cells (us.toArray ++ Builtin.zeroCells z.cells (cap - n)) e)) (fz := (0, 0))
                      (by simp [Builtin.zeroCells, hzl]) rfl (.inl rfl) rfl rfl rfl n (Nat.le_refl _) hcap false (by simp)
                    exact ⟨_, _, φ', by rw [hrun]; simp, v1, v2.drop b, v3.trans (fun b L e => (H.dom b L e).1) (Step.drop _ _ b (by rw [v3.ext b _ hbl]; simp))⟩
                  · obtain ⟨ha, hsz⟩ := hpos (by omega)
                    obtain ⟨os, o1, o2, o3, o4⟩ := HRel.rd (H.world (w' := w.drew) rfl) hold hbl
                    subst ha
                    obtain ⟨cap, hcap, hrun⟩ := hg (some ⟨L.blk, L.base + off, none⟩) len c os hroom (by
                      simp only [Builtin.firstCells]
                      rw [← o3]
                      exact loadCells_of o4) hfit.1 hfit.2
                    obtain ⟨φ', v1, v2, v3⟩ := new_slice H (VRels.append o1 hur) (by intro u hu; rcases List.mem_append.1 hu with hu | hu; exact o2 u hu; exact huo u hu) (e := e) (es := es) (n := len + n) (by simp [o3, hul, Nat.add_mul]) hcap (rest := Builtin.zeroCells z.cells (cap - (len + n)))
                      (w' := w.drew.alloc (.cells ((os ++ us).toArray ++ Builtin.zeroCells z.cells (cap - (len + n))) e)) (fz := (0, 0))
                      (by simp [Builtin.zeroCells, hzl]) rfl (.inl rfl) rfl rfl rfl (len + n) (Nat.le_refl _) hcap false (by simp)
                    exact ⟨_, _, φ', by rw [hrun]; simp only [List.append_toArray], v1, v2.drop b, v3.trans (fun b L e => (H.dom b L e).1) (Step.drop _ _ b (by rw [v3.ext b _ hbl]; simp))⟩
              · cases ea
          · cases ea
  · cases ea

end
end Go.Fw
