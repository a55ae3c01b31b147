/- Conversions between texts and bytes, literals of slices, loads and stores, boxes. -/
import Derived.Test.YtfdhljghamkgjaaFwM
namespace Go.Fw
set_option linter.unusedSimpArgs false
set_option linter.unusedVariables false

section
variable {P : Program}

theorem cellBytes_rel {φ : Phi} : ∀ {cs : List AVal} {l : List UInt8} {us : List Value}, cellBytes cs = some l → VRels φ cs us → ∃ ns : List Int, us = ns.map (Value.int .u8) ∧ l = ns.map fun n => UInt8.ofNat n.toNat
  | [], l, us, h, hr => by
    simp only [cellBytes, Option.some.injEq] at h
    subst h
    match us, hr with
    | [], _ => exact ⟨[], rfl, rfl⟩
    | _ :: _, hr => simp [VRels] at hr
  | c :: cs, l, us, h, hr => by
    unfold cellBytes at h
    split at h
    · rename_i heq; cases heq
    · rename_i n r heq
      injection heq with e1 e2
      subst e1; subst e2
      simp only [Option.bind_eq_some_iff, Option.some.injEq] at h
      obtain ⟨l', hl', rfl⟩ := h
      match us, hr with
      | [], hr => simp [VRels] at hr
      | u :: us, hr =>
        simp only [VRels] at hr
        obtain ⟨ns, rfl, rfl⟩ := cellBytes_rel hl' hr.2
        rw [vrel_int.1 hr.1]
        exact ⟨n :: ns, rfl, rfl⟩
    · cases h

theorem foldl_push : ∀ (ns : List Int) (b : ByteArray), ns.foldl (fun r n => r.push (UInt8.ofNat n.toNat)) b = ⟨b.data ++ (ns.map fun n => UInt8.ofNat n.toNat).toArray⟩
  | [], b => by apply ByteArray.ext; simp
  | n :: ns, b => by
    rw [List.foldl_cons, foldl_push ns]
    apply ByteArray.ext
    simp [ByteArray.push]

/-- A mark behind the end of a block that may be written. -/
theorem freeze_rel {φ : Phi} {h : Heap} {w : World} (H : HRel φ h w) {b : Nat} {x : Blk} {L : Loc} (hx : h.blk b = some x) (hrw : x.rw = true) (hφ : φ b = some L) {c : Array Value} {e : TypeId} {fz : Nat × Nat} (hg : w.heap[L.blk]? = some (.cells c e fz)) :
    HRel φ h (w.freeze ⟨L.blk, c.size, none⟩ 1) ∧ Step φ h w φ h (w.freeze ⟨L.blk, c.size, none⟩ 1) := by
  have hfw : ∀ k, (w.freeze ⟨L.blk, c.size, none⟩ 1).heap[k]? = if L.blk = k then some (.cells c e (if fz.1 == fz.2 then (c.size, c.size + 1) else (min fz.1 c.size, max fz.2 (c.size + 1)))) else w.heap[k]? := by
    intro k
    obtain ⟨lo, hi⟩ := fz
    simp only [World.freeze, Nat.one_ne_zero, if_false, Array.getElem?_modify]
    by_cases hk : L.blk = k
    · subst hk
      rw [if_pos rfl, if_pos rfl, hg]
      rfl
    · rw [if_neg hk, if_neg hk]
  have hsz : (w.freeze ⟨L.blk, c.size, none⟩ 1).heap.size = w.heap.size := by
    simp [World.freeze]
  refine ⟨⟨fun b' L' hb' => by rw [hsz]; exact H.dom b' L' hb', H.live, fun b' x' L' hx' hb' => ?_, H.apart⟩, ⟨Ext.refl _, Nat.le_refl _, fun _ x hx => fun h => ⟨x, h, rfl⟩, fun _ _ h1 h2 => (by rw [h1] at h2; cases h2), by rw [hsz]; exact Nat.le_refl _, fun _ _ _ => rfl, fun k _ hf => by rw [hfw, if_neg (hf b x L hx hrw hφ)], rfl, rfl, rfl⟩⟩
  by_cases hbb : b' = b
  · subst hbb
    rw [hx] at hx'
    cases hx'
    rw [hφ] at hb'
    cases hb'
    obtain ⟨c1, e1, fz1, hg1, k1, k2, k3, k4⟩ := H.blk b' x L hx hφ
    rw [hg] at hg1
    cases hg1
    refine ⟨c, e, _, by rw [hfw, if_pos rfl], k1, k2, fun _ => ?_, k4⟩
    have := k3 hrw
    by_cases hz : fz.1 = fz.2
    · rw [if_pos (by simpa using hz)]
      exact .inr (Nat.le_refl _)
    · rw [if_neg (by simpa using hz)]
      refine .inr ?_
      show c.size ≤ min fz.1 c.size
      omega
  · obtain ⟨c1, e1, fz1, hg1, k⟩ := H.blk b' x' L' hx' hb'
    have := H.apart b b' x x' L L' (Ne.symm hbb) hx hx' hrw hφ hb'
    exact ⟨c1, e1, fz1, by rw [hfw, if_neg this]; exact hg1, k⟩

/-- Conversions that read or make memory. -/
theorem conv_rel {φ : Phi} {h : Heap} {w : World} (H : HRel φ h w) {src dst : TypeId} {c : AConv} (hc : convOk P src dst c = true) {x : AVal} {v : Value} (hx : VRel φ x v) {r : AVal} {h' : Heap} (ea : aConv c x h = some (r, h')) :
    OkTo P φ h w (convert src dst v) r h' := by
  unfold aConv at ea
  split at ea
  · rename_i k k' n
    cases ea
    rw [vrel_int.1 hx]
    simp only [convOk] at hc
    split at hc
    · rename_i u d hu hd
      simp only [decide_eq_true_eq] at hc
      subst hc
      exact OkTo.same H (u := .int k (k.wrap n)) (by cases u <;> simp [convert, run_underlying hu, run_underlying hd, Conv.intToInt]) (vrel_int.2 rfl)
    · cases hc
  · rename_i l
    cases ea
    rw [vrel_str.1 hx]
    simp only [convOk] at hc
    split at hc
    · rename_i u e hu hd
      split at hc
      · rename_i he
        simp only [sizeIs, decide_eq_true_eq] at hc
        have hs' := fun w => run_sizeOf' (P := P) w hc
        have hsz : (ByteArray.mk l.toArray).size = l.length := by show l.toArray.size = _; simp
        generalize hcap : (Question.appendCap l.length 0 e).cut (w.tape w.drawn (.appendCap l.length 0 e)) = cap
        have hle : l.length ≤ cap := by rw [← hcap]; simp [Question.cut]
        have hq : (choose (.appendCap l.length 0 e)).run P w = .ok cap w.drew := by
          rw [run_choose]; simp [Question.forced, hcap]
        have hconv : (convert src dst (.string ⟨l.toArray⟩)).run P w = (Conv.stringToBytes e ⟨l.toArray⟩).run P w := by
          cases u <;> simp [convert, run_underlying hu, run_underlying hd, run_underlying he]
        let us : List Value := l.map fun b => .int .u8 b.toNat
        let rest : Array Value := Array.replicate (cap - l.length) (.int .u8 0)
        let w1 := w.drew.alloc (.cells (us.toArray ++ rest) e)
        have hcsz : (us.toArray ++ rest).size = cap := by simp [us, rest]; omega
        have hw1 : w1.heap[w.heap.size]? = some (.cells (us.toArray ++ rest) e (0, 0)) := heap_alloc_new w.drew _
        have hrun : (Conv.stringToBytes e ⟨l.toArray⟩).run P w = .ok (.slice (some ⟨w.heap.size, 0, none⟩) l.length cap) (w1.freeze ⟨w.heap.size, cap, none⟩ 1) := by
          have hdata : (ByteArray.mk l.toArray).data.map (fun b => Value.int .u8 b.toNat) = us.toArray := by
            apply Array.ext'; simp [us]
          have hshape : w1.shape? w.heap.size = some (e, cap) := by simp [World.shape?, hw1, hcsz]
          simp only [Conv.stringToBytes, hsz, Sem.run_bind, hq, Result.andThen_ok, hdata, newRow, run_newObj, Sem.run_pure, markStringish]
          rw [World.alloc_eq]
          have hsh : (Sem.run P (shape w.drew.heap.size) (w.drew.alloc (Obj.cells (us.toArray ++ Array.replicate (cap - l.length) (Value.int IntKind.u8 0)) e))) = .ok (some (e, cap)) w1 := by
            show Result.ok (w1.shape? w.heap.size) w1 = _
            rw [hshape]
          rw [hsh]
          rfl
        have hfw : (w1.freeze ⟨w.heap.size, cap, none⟩ 1).heap = w.heap.push (.cells (us.toArray ++ rest) e (cap, cap + 1)) := by
          apply Array.ext_getElem?
          intro i
          simp only [World.freeze, Nat.one_ne_zero, if_false, Array.getElem?_modify]
          by_cases hi : i = w.heap.size
          · subst hi
            rw [if_pos rfl, hw1, Array.getElem?_push, if_pos rfl]
            rfl
          · rw [if_neg (Ne.symm hi)]
            show (w.heap.push _)[i]? = _
            rw [Array.getElem?_push, Array.getElem?_push, if_neg hi, if_neg hi]
        obtain ⟨φ', v1, v2, v3⟩ := new_slice H (bytes_rel (φ := φ) l) (bytes_ones l) (e := e) (es := 1) (n := l.length) (cap := cap) (by simp) hle (rest := rest) (by simp [rest])
          (w' := w1.freeze ⟨w.heap.size, cap, none⟩ 1) (fz := (cap, cap + 1)) hfw (by first | exact .inl rfl | exact .inr (by simp; try omega)) rfl rfl rfl l.length (Nat.le_refl _) hle false (by simp)
        exact ⟨_, _, φ', by rw [hconv, hrun], v1, v2, v3⟩
      · cases hc
    · cases hc
  · cases ea
    rw [vrel_nilSlice.1 hx]
    simp only [convOk] at hc
    split at hc
    · rename_i e hu hd
      split at hc
      · rename_i he
        exact OkTo.same H (u := .string .empty) (by rw [run_convert_bytes_string w src dst e none 0 0 hu he hd]; rfl) (vrel_str.2 rfl)
      · cases hc
    · cases hc
  · rename_i b off len cap es ex
    cases hbe : Nat.beq es 1 with
    | false => rw [hbe] at ea; cases ea
    | true =>
      have := Nat.eq_of_beq_eq_true hbe
      subst this
      rw [hbe] at ea
      simp only [cond_true, Option.bind_eq_some_iff, Option.some.injEq, Prod.mk.injEq] at ea
      obtain ⟨cs, hcs, l, hl, rfl, rfl⟩ := ea
      obtain ⟨L, a, c, hbl, rfl, hl1, hl2, hex, hpos⟩ := vrel_slice.1 hx
      simp only [convOk] at hc
      split at hc
      · rename_i e hu hd
        split at hc
        · rename_i he
          obtain ⟨us, u1, u2, u3, u4⟩ := H.rd hcs hbl
          obtain ⟨ns, rfl, rfl⟩ := cellBytes_rel hl u1
          have hld : (loadCells a len).run P w = .ok (ns.map (Value.int .u8)).toArray w := by
            rcases Nat.eq_zero_or_pos c with h0 | h0
            · have : len = 0 := by omega
              subst this
              have : ns = [] := by simpa using u3
              subst this
              simp [loadCells, loadCellsFrom]
            · obtain ⟨ha, _⟩ := hpos h0
              subst ha
              rw [← u3]
              exact loadCells_of u4
          refine OkTo.same H (u := .string ⟨(ns.map fun n => UInt8.ofNat n.toNat).toArray⟩) ?_ (vrel_str.2 rfl)
          rw [run_convert_bytes_string w src dst e _ _ _ hu he hd, run_bytesToString w a len c ns hld, foldl_push]
          simp
        · cases hc
      · cases hc
  · rename_i l
    cases ea
    rw [vrel_str.1 hx]
    simp only [convOk] at hc
    split at hc
    · rename_i u hu hd
      exact OkTo.same H (u := .string ⟨l.toArray⟩) (by cases u <;> simp [convert, run_underlying hu, run_underlying hd]) (vrel_str.2 rfl)
    · cases hc
  · rename_i b off len cap es ex
    cases hz : Nat.beq len 0 with
    | true => rw [hz] at ea; cases ea
    | false =>
      rw [hz] at ea
      simp only [cond_false] at ea
      split at ea
      · rename_i cells hb
        cases ea
        obtain ⟨L, a, c, hbl, rfl, hl1, hl2, hex, hpos⟩ := vrel_slice.1 hx
        have hln : len ≠ 0 := by
          intro e0
          subst e0
          cases hz
        obtain ⟨rfl, hfit⟩ := hpos (by omega)
        obtain ⟨c1, e1, fz1, hg1, k1, _⟩ := H.blk b _ L hb hbl
        simp only [convOk, Bool.and_eq_true, decide_eq_true_eq] at hc
        obtain ⟨rfl, hc⟩ := hc
        split at hc
        · rename_i e hd
          split at hc
          · rename_i he
            obtain ⟨HH, S⟩ := freeze_rel H hb rfl hbl hg1
            refine ⟨_, _, φ, ?_, hx, HH, S⟩
            have hsh : (shape L.blk).run P w = .ok (some (e1, c1.size)) w := by
              show Result.ok (w.shape? L.blk) w = _
              simp [World.shape?, hg1]
            simp only [convert, Sem.run_bind, run_underlying hd, Result.andThen_ok, beq_self_eq_true, run_underlying he, markStringish, hsh]
            rfl
          · cases hc
        · cases hc
      · cases ea
  · rename_i k n
    cases ea
    rw [vrel_int.1 hx]
    simp only [convOk] at hc
    split at hc
    · rename_i j hu hd
      exact OkTo.same H (u := .string (Utf8.encode n)) (by simp [convert, run_underlying hu, run_underlying hd, Conv.intToString]) (vrel_str.2 rfl)
    · cases hc
  · cases ea

theorem slParts_rel {φ : Phi} {ev : AOpd → AVal} {ρ : Operand → Value} (hrel : ∀ x y, opdOk x y = true → VRel φ (ev y) (ρ x)) (es : Nat) :
    ∀ (ps : List (Nat × Operand)) (as : List (Nat × AOpd)), slPartsOk ps as = true →
      as.length = ps.length ∧ ∀ (j : Nat) i v off n x, (ps.map fun p => (p.1, ρ p.2))[j]? = some (i, v) → (as.map fun p => (p.1 * es, es, ev p.2))[j]? = some (off, n, x) → (fun i => some (i * es, es)) i = some (off, n) ∧ VRel φ x v
  | [], [], _ => ⟨rfl, by simp⟩
  | [], _ :: _, h => by simp [slPartsOk] at h
  | _ :: _, [], h => by simp [slPartsOk] at h
  | (i, x) :: ps, (i2, y) :: as, h => by
    simp only [slPartsOk, Bool.and_eq_true] at h
    obtain ⟨⟨h1, h2⟩, h3⟩ := h
    have h1 := Nat.eq_of_beq_eq_true h1
    subst h1
    obtain ⟨hl, hr⟩ := slParts_rel hrel es ps as h3
    refine ⟨by simp [hl], ?_⟩
    intro j i' v off' n' x' e1 e2
    cases j with
    | zero =>
      simp only [List.map_cons, List.getElem?_cons_zero, Option.some.injEq, Prod.mk.injEq] at e1 e2
      obtain ⟨rfl, rfl⟩ := e1
      obtain ⟨rfl, rfl, rfl⟩ := e2
      exact ⟨rfl, hrel _ _ h2⟩
    | succ j => exact hr j i' v off' n' x' (by simpa using e1) (by simpa using e2)

theorem buildSl_run {φ : Phi} {w : World} {ev : AOpd → AVal} {ρ : Operand → Value} (hrel : ∀ x y, opdOk x y = true → VRel φ (ev y) (ρ x)) {t e : TypeId} {len es : Nat} {parts : Array (Nat × Operand)} {zero : List AVal} {as : List (Nat × AOpd)}
    (ht : P.underlying t = some (.slice e)) (hs : (P.info? e).map (·.size) = some es) (hz : zeroOk P e zero = true) (hzl : zero.length = es) (hmost : len * es ≤ 16777216) (hp : slPartsOk parts.toList as = true)
    {cs : List AVal} (hf : aFill (reps zero len) (as.map fun p => (p.1 * es, es, ev p.2)) = some cs) :
    ∃ o : Array Value, (Instr.buildSlice t len (parts.map fun (i, x) => (i, ρ x))).run P w = .ok (.slice (some ⟨w.heap.size, 0, none⟩) len len) (w.alloc (.cells o e)) ∧ VRels φ cs o.toList ∧ (∀ u ∈ o.toList, u.oneCell' = true) ∧ cs.length = len * es := by
  have hs' := fun w => run_sizeOf' (P := P) w hs
  obtain ⟨z, hz1, hz2, hz3⟩ := zero_rel (P := P) w hz φ
  have hzs : z.cells.size = es := by have := VRels.length hz2; simp at this; omega
  have hmap : (parts.map fun (i, x) => (i, ρ x)).toList = parts.toList.map fun p => (p.1, ρ p.2) := by simp
  obtain ⟨hl, hpp⟩ := slParts_rel hrel es _ _ hp
  have hrow : ∀ zc : Array Value, zc = (if len * es = 0 then #[] else z.cells) → ((Array.range (len * es)).map (zc[· % zc.size]!)) = (repsV z.cells.toList len).toArray := by
    intro zc hzc
    apply Array.ext'
    split at hzc
    · rename_i h0
      rw [h0]
      have : repsV z.cells.toList len = [] := List.eq_nil_of_length_eq_zero (by rw [repsV_length]; simpa [hzs] using h0)
      simp [this]
    · subst hzc
      rw [← range_map_eq, hzs]
  obtain ⟨o, ho1, ho2, ho3⟩ := fill_rel (φ := φ) (fun i => some (i * es, es)) (parts.toList.map fun p => (p.1, ρ p.2)) _ (reps zero len) (repsV z.cells.toList len).toArray cs (by simpa using hl) hpp (by simpa using reps_rel hz2 len) (by simpa using repsV_ones hz3 len) hf
  have hrun : (Instr.buildSlice t len (parts.map fun (i, x) => (i, ρ x))).run P w = .ok (.slice (some ⟨w.heap.size, 0, none⟩) len len) (w.alloc (.cells o e)) := by
    simp only [Instr.buildSlice, Sem.run_bind, run_underlying ht, Result.andThen_ok, hs']
    rw [if_neg (by omega)]
    split
    · rename_i h0
      simp only [Sem.run_bind, Sem.run_pure, Result.andThen_ok]
      rw [hrow #[] (by rw [if_pos h0]), hmap, ho1]
      simp only [newRow, Sem.run_bind, run_newObj, Result.andThen_ok, Sem.run_pure]
      rfl
    · rename_i h0
      simp only [Sem.run_bind, Sem.run_pure, Result.andThen_ok, hz1]
      rw [hrow z.cells (by rw [if_neg h0]), hmap, ho1]
      simp only [newRow, Sem.run_bind, run_newObj, Result.andThen_ok, Sem.run_pure]
      rfl
  have hlen : cs.length = len * es := by
    have hlf : ∀ (ps : List (Nat × Nat × AVal)) (c0 out : List AVal), aFill c0 ps = some out → out.length = c0.length := by
      intro ps
      induction ps with
      | nil => intro c0 out hh; simp only [aFill, Option.some.injEq] at hh; rw [hh]
      | cons p ps ih =>
        intro c0 out hh
        obtain ⟨off, n, x⟩ := p
        simp only [aFill, Option.bind_eq_some_iff] at hh
        obtain ⟨vs, hvs, hh⟩ := hh
        cases hb : Nat.ble (off + n) c0.length with
        | false => rw [hb] at hh; cases hh
        | true =>
          rw [hb] at hh
          have hle := Nat.le_of_ble_eq_true hb
          have hvl : vs.length = n := by
            unfold aCells at hvs
            split at hvs
            · cases hq : Nat.beq _ n with
              | false => rw [hq] at hvs; cases hvs
              | true => rw [hq] at hvs; cases hvs; exact Nat.eq_of_beq_eq_true hq
            · cases hvs
          rw [ih _ _ hh]
          simp only [splice, List.length_append, List.length_take, List.length_drop]
          omega
    rw [hlf _ _ _ hf, reps_length, hzl]
  exact ⟨o, hrun, ho2, ho3, hlen⟩

theorem buildSl_rel {φ : Phi} {h : Heap} {w : World} (H : HRel φ h w) {ev : AOpd → AVal} {ρ : Operand → Value} (hrel : ∀ x y, opdOk x y = true → VRel φ (ev y) (ρ x)) {t e : TypeId} {len es : Nat} {parts : Array (Nat × Operand)} {zero : List AVal} {as : List (Nat × AOpd)}
    (ht : P.underlying t = some (.slice e)) (hs : (P.info? e).map (·.size) = some es) (hz : zeroOk P e zero = true) (hzl : zero.length = es) (hmost : len * es ≤ 16777216) (hp : slPartsOk parts.toList as = true)
    {cs : List AVal} (hf : aFill (reps zero len) (as.map fun p => (p.1 * es, es, ev p.2)) = some cs) :
    OkTo P φ h w (Instr.buildSlice t len (parts.map fun (i, x) => (i, ρ x))) (.slice h.next 0 len len es true) (h.alloc cs) := by
  obtain ⟨o, hrun, ho2, ho3, hlen⟩ := buildSl_run hrel ht hs hz hzl hmost hp (w := w) hf
  have ho4 := VRels.length ho2
  simp only [Array.length_toList] at ho4
  obtain ⟨h1, h2⟩ := H.alloc (cs := cs) (c := o) e (0, 0) (.inl rfl) (by omega) (by
    intro i v hv
    obtain ⟨u, hu, hru⟩ := VRels.get ho2 i v hv
    exact ⟨u, by simpa using hu, hru, ho3 u (List.mem_of_getElem? hu)⟩) (w' := w.alloc (.cells o e)) rfl rfl rfl rfl
  refine ⟨_, _, _, hrun, vrel_slice.2 ⟨⟨w.heap.size, 0, o.size⟩, _, len, by simp [Phi.set], rfl, Nat.le_refl _, Nat.le_refl _, fun _ => rfl, fun _ => ⟨rfl, ?_⟩⟩, h1, h2⟩
  simp only
  omega

/-- A load. -/
theorem load_rel {φ : Phi} {h : Heap} {w : World} (H : HRel φ h w) {t : TypeId} {agg : Bool} {n : Nat} (ht : aggOk P t agg n = true) {x : AVal} {v : Value} (hx : VRel φ x v) {cs : List AVal} (e : aLoad h n x = some cs) {r : AVal} (hf : fromCells agg cs = some r) :
    ∃ u, (Instr.loadAt t v).run P w = .ok u w ∧ VRel φ r u := by
  obtain ⟨h1, h2, h3⟩ := run_aggOk w ht
  unfold aLoad at e
  split at e
  · rename_i b off
    obtain ⟨L, hbl, rfl⟩ := vrel_ptr.1 hx
    obtain ⟨us, u1, u2, u3, u4⟩ := H.rd e hbl
    have hld : (loadCells ⟨L.blk, L.base + off, none⟩ n).run P w = .ok us.toArray w := by rw [← u3]; exact loadCells_of u4
    cases agg with
    | true =>
      simp only [fromCells, Option.some.injEq] at hf
      subst hf
      exact ⟨.agg us.toArray, by simp [Instr.loadAt, Instr.sureAddr, loadVar, h1, h2, hld], vrel_agg.2 ⟨_, rfl, by simpa using u1, by simpa using u2⟩⟩
    | false =>
      have hn := h3 rfl
      subst hn
      match us, u3 with
      | [u], _ =>
        match cs, u1 with
        | [c], u1 =>
          simp only [fromCells, Option.some.injEq] at hf
          subst hf
          simp only [VRels, and_true] at u1
          have hc := u4 0 u rfl
          simp only [Nat.add_zero] at hc
          exact ⟨u, by simp [Instr.loadAt, Instr.sureAddr, loadVar, h1, hc], u1⟩
        | [], u1 => simp [VRels] at u1
        | _ :: _ :: _, u1 => simp [VRels] at u1
  · cases e

/-- A store. -/
theorem store_rel {φ : Phi} {h h' : Heap} {w : World} (H : HRel φ h w) {t : TypeId} {agg : Bool} {n : Nat} (ht : aggOk P t agg n = true) {x y : AVal} {v u : Value} (hx : VRel φ x v) (hy : VRel φ y u) {cs : List AVal} (hc : aCells n y = some cs) (e : aStore h x cs = some h') :
    ∃ w', (Instr.storeAt t v u).run P w = .ok () w' ∧ HRel φ h' w' ∧ Step φ h w φ h' w' := by
  obtain ⟨h1, h2, h3⟩ := run_aggOk w ht
  obtain ⟨c1, c2, c3, c4⟩ := aCells_rel hy hc
  unfold aStore at e
  split at e
  · rename_i b off
    obtain ⟨L, hbl, rfl⟩ := vrel_ptr.1 hx
    obtain ⟨w', hst, H', S'⟩ := HRel.wr (P := P) H e hbl c1 c2
    refine ⟨w', ?_, H', S'⟩
    simp [Instr.storeAt, Instr.sureAddr, storeVar, h2, c3, hst]
  · cases e

/-- A box. -/
theorem box_rel {φ : Phi} {h : Heap} {w : World} (H : HRel φ h w) (t : TypeId) {x : AVal} {v : Value} (hx : VRel φ x v) {cs : List AVal} (hc : x.cells? = some cs) : OkTo P φ h w (Instr.box t v) (.ptr h.next 0) (h.alloc cs) := by
  obtain ⟨c1, c2⟩ := cells_rel hx hc
  obtain ⟨h1, h2⟩ := H.alloc (cs := cs) (c := v.cells) t (0, 0) (.inl rfl) (by rw [VRels.length c1]; simp) (by
    intro i a ha
    obtain ⟨u, hu, hru⟩ := VRels.get c1 i a ha
    exact ⟨u, by simpa using hu, hru, c2 u (List.mem_of_getElem? hu)⟩) (w' := w.alloc (.cells v.cells t)) rfl rfl rfl rfl
  exact ⟨.pointer (some ⟨w.heap.size, 0, none⟩), _, _, by simp [Instr.box, newVar, newRow], vrel_ptr.2 ⟨_, by simp [Phi.set]; rfl, rfl⟩, h1, h2⟩

theorem alloc_rel {φ : Phi} {h : Heap} {w : World} (H : HRel φ h w) {t : TypeId} {zero : List AVal} (hz : zeroOk P t zero = true) : OkTo P φ h w (Instr.alloc t true (.tuple #[])) (.ptr h.next 0) (h.alloc zero) := by
  obtain ⟨z, hz1, c1, c2⟩ := zero_rel (P := P) w hz φ
  obtain ⟨h1, h2⟩ := H.alloc (cs := zero) (c := z.cells) t (0, 0) (.inl rfl) (by rw [VRels.length c1]; simp) (by
    intro i a ha
    obtain ⟨u, hu, hru⟩ := VRels.get c1 i a ha
    exact ⟨u, by simpa using hu, hru, c2 u (List.mem_of_getElem? hu)⟩) (w' := w.alloc (.cells z.cells t)) rfl rfl rfl rfl
  exact ⟨.pointer (some ⟨w.heap.size, 0, none⟩), _, _, by simp [Instr.alloc, hz1, newVar, newRow], vrel_ptr.2 ⟨_, by simp [Phi.set]; rfl, rfl⟩, h1, h2⟩

/-- The same under names that were held ready. -/
theorem buildSl_at {φ : Phi} {h : Heap} {w : World} (H : HRel φ h w) {b : Nat} (hnone : φ b = none) (hlt : b < h.next) {ev : AOpd → AVal} {ρ : Operand → Value} (hrel : ∀ x y, opdOk x y = true → VRel φ (ev y) (ρ x)) {t e : TypeId} {len es : Nat} {parts : Array (Nat × Operand)} {zero : List AVal} {as : List (Nat × AOpd)}
    (ht : P.underlying t = some (.slice e)) (hs : (P.info? e).map (·.size) = some es) (hz : zeroOk P e zero = true) (hzl : zero.length = es) (hmost : len * es ≤ 16777216) (hp : slPartsOk parts.toList as = true)
    {cs : List AVal} (hf : aFill (reps zero len) (as.map fun p => (p.1 * es, es, ev p.2)) = some cs) :
    ∃ (c : Array Value) (u : Value), (Instr.buildSlice t len (parts.map fun (i, x) => (i, ρ x))).run P w = .ok u (w.alloc (.cells c e)) ∧ VRel (φ.set b ⟨w.heap.size, 0, c.size⟩) (.slice b 0 len len es true) u ∧ HRel (φ.set b ⟨w.heap.size, 0, c.size⟩) (h.setBlk b (some ⟨cs, true⟩)) (w.alloc (.cells c e)) := by
  obtain ⟨o, hrun, ho2, ho3, hlen⟩ := buildSl_run hrel ht hs hz hzl hmost hp (w := w) hf
  have ho4 := VRels.length ho2
  simp only [Array.length_toList] at ho4
  have h1 := H.allocAt hnone hlt (cs := cs) (c := o) e (0, 0) (.inl rfl) (by omega) (by
    intro i v hv
    obtain ⟨u, hu, hru⟩ := VRels.get ho2 i v hv
    exact ⟨u, by simpa using hu, hru, ho3 u (List.mem_of_getElem? hu)⟩) (w' := w.alloc (.cells o e)) rfl
  refine ⟨o, _, hrun, vrel_slice.2 ⟨⟨w.heap.size, 0, o.size⟩, _, len, by simp [Phi.set], rfl, Nat.le_refl _, Nat.le_refl _, fun _ => rfl, fun _ => ⟨rfl, ?_⟩⟩, h1⟩
  simp only
  omega

theorem alloc_at {φ : Phi} {h : Heap} {w : World} (H : HRel φ h w) {b : Nat} (hnone : φ b = none) (hlt : b < h.next) {t : TypeId} {zero : List AVal} (hz : zeroOk P t zero = true) :
    ∃ (c : Array Value) (u : Value), (Instr.alloc t true (.tuple #[])).run P w = .ok u (w.alloc (.cells c t)) ∧ VRel (φ.set b ⟨w.heap.size, 0, c.size⟩) (.ptr b 0) u ∧ HRel (φ.set b ⟨w.heap.size, 0, c.size⟩) (h.setBlk b (some ⟨zero, true⟩)) (w.alloc (.cells c t)) := by
  obtain ⟨z, hz1, c1, c2⟩ := zero_rel (P := P) w hz φ
  have h1 := H.allocAt hnone hlt (cs := zero) (c := z.cells) t (0, 0) (.inl rfl) (by rw [VRels.length c1]; simp) (by
    intro i a ha
    obtain ⟨u, hu, hru⟩ := VRels.get c1 i a ha
    exact ⟨u, by simpa using hu, hru, c2 u (List.mem_of_getElem? hu)⟩) (w' := w.alloc (.cells z.cells t)) rfl
  exact ⟨z.cells, .pointer (some ⟨w.heap.size, 0, none⟩), by simp [Instr.alloc, hz1, newVar, newRow], vrel_ptr.2 ⟨_, by simp [Phi.set]; rfl, rfl⟩, h1⟩

end
end Go.Fw
