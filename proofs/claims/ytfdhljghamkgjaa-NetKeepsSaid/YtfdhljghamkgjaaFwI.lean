/- The operations that only compute, all together. -/
import Derived.Test.YtfdhljghamkgjaaFwH
import Derived.Laws.Entries
namespace Go.Fw
set_option linter.unusedSimpArgs false
set_option linter.unusedVariables false

section
variable {P : Program} (w : World)

theorem parts_rel {φ : Phi} {ev : AOpd → AVal} {ρ : Operand → Value} (hrel : ∀ x y, opdOk x y = true → VRel φ (ev y) (ρ x)) (place : Nat → Option (Nat × Nat)) :
    ∀ (ps : List (Nat × Operand)) (as : List (Nat × Nat × AOpd)), partsOk place ps as = true →
      as.length = ps.length ∧ ∀ (j : Nat) i v off n x, (ps.map fun p => (p.1, ρ p.2))[j]? = some (i, v) → (as.map fun p => (p.1, p.2.1, ev p.2.2))[j]? = some (off, n, x) → place i = some (off, n) ∧ VRel φ x v
  | [], [], _ => ⟨rfl, by simp⟩
  | [], _ :: _, h => by simp [partsOk] at h
  | _ :: _, [], h => by simp [partsOk] at h
  | (i, x) :: ps, (off, n, y) :: as, h => by
    simp only [partsOk, Bool.and_eq_true, decide_eq_true_eq] at h
    obtain ⟨⟨h1, h2⟩, h3⟩ := h
    obtain ⟨hl, hr⟩ := parts_rel hrel place ps as h3
    refine ⟨by simp [hl], ?_⟩
    intro j i' v off' n' x' e1 e2
    cases j with
    | zero =>
      simp only [List.map_cons, List.getElem?_cons_zero, Option.some.injEq, Prod.mk.injEq] at e1 e2
      obtain ⟨rfl, rfl⟩ := e1
      obtain ⟨rfl, rfl, rfl⟩ := e2
      exact ⟨h1, hrel _ _ h2⟩
    | succ j => exact hr j i' v off' n' x' (by simpa using e1) (by simpa using e2)

theorem zero_rel {t : TypeId} {zero : List AVal} (h : zeroOk P t zero = true) (φ : Phi) : ∃ z, (zeroValue t).run P w = .ok z w ∧ VRels φ zero z.cells.toList ∧ ∀ u ∈ z.cells.toList, u.oneCell' = true := by
  unfold zeroOk at h
  split at h
  · rename_i z hz
    cases hi : P.info? t with
    | none => rw [hi] at hz; cases hz
    | some i =>
      rw [hi] at hz
      simp only [Option.bind_some] at hz
      refine ⟨z, ?_, constsOk_rel h φ⟩
      simp [zeroValue, run_typeInfo w hi, hz]
  · cases h

theorem build_rel {φ : Phi} {ev : AOpd → AVal} {ρ : Operand → Value} (hrel : ∀ x y, opdOk x y = true → VRel φ (ev y) (ρ x)) {t : TypeId} {parts : Array (Nat × Operand)} {zero : List AVal} {as : List (Nat × Nat × AOpd)}
    (hz : zeroOk P t zero = true) (hb : buildOk P t parts.toList as = true) {out : List AVal} (h : aFill zero (as.map fun p => (p.1, p.2.1, ev p.2.2)) = some out) :
    ∃ u, (Instr.build t (parts.map fun (i, x) => (i, ρ x))).run P w = .ok u w ∧ VRel φ (.agg out) u := by
  obtain ⟨z, hz1, hz2, hz3⟩ := zero_rel w hz φ
  have hmap : (parts.map fun (i, x) => (i, ρ x)).toList = parts.toList.map fun p => (p.1, ρ p.2) := by simp
  unfold buildOk at hb
  split at hb
  · rename_i fs hu
    simp only [Bool.and_eq_true, List.all_eq_true] at hb
    obtain ⟨hl, hp⟩ := parts_rel hrel _ _ _ hb.2
    obtain ⟨o, ho1, ho2, ho3⟩ := fill_rel (φ := φ) _ (parts.toList.map fun p => (p.1, ρ p.2)) _ zero z.cells out (by simpa using hl) hp hz2 hz3 h
    refine ⟨.agg o, ?_, vrel_agg.2 ⟨o, rfl, ho2, ho3⟩⟩
    have hmp := mapM_places w fs.toList hb.1
    have hm2 : (fs.mapM (fun f => (do pure (f.offset, ← sizeOf f.type) : Sem (Nat × Nat)))).run P w = .ok (fs.map fun f => (f.offset, P.cellsOf f.type)) w := by
      rw [Array.mapM_eq_mapM_toList]
      simp only [Sem.run_map, hmp, Result.andThen_ok]
      congr 1
      apply Array.ext'
      simp
    simp only [Instr.build, Sem.run_bind, hz1, Result.andThen_ok, run_underlying hu, hm2]
    have hpl : (fun x : Nat => (fs.map fun f => (f.offset, P.cellsOf f.type))[x]?) = fun i => (fs.toList[i]?).map fun f => (f.offset, P.cellsOf f.type) := by
      funext i; simp
    rw [hmap, hpl, ho1]
    rfl
  · rename_i n e hu
    simp only [Bool.and_eq_true] at hb
    obtain ⟨hl, hp⟩ := parts_rel hrel _ _ _ hb.2
    obtain ⟨o, ho1, ho2, ho3⟩ := fill_rel (φ := φ) _ (parts.toList.map fun p => (p.1, ρ p.2)) _ zero z.cells out (by simpa using hl) hp hz2 hz3 h
    refine ⟨.agg o, ?_, vrel_agg.2 ⟨o, rfl, ho2, ho3⟩⟩
    cases hi : P.info? e with
    | none => rw [hi] at hb; simp at hb
    | some i =>
      simp only [Instr.build, Sem.run_bind, hz1, Result.andThen_ok, run_underlying hu, run_sizeOf w hi, hmap, ho1]
      rfl
  · cases hb

theorem pure_exec {o : Oper} {ao : AOp} (hchk : chkOp P o.op ao = true) {ev : AOpd → AVal} {ρ : Operand → Value} {φ : Phi} (hrel : ∀ x y, opdOk x y = true → VRel φ (ev y) (ρ x)) {r : AVal}
    (h : pureOp ao ev = some r) : ∃ u, (execOp ρ o).run P w = .ok (.value u) w ∧ VRel φ r u := by
  obtain ⟨dst, op, type, pos, after, guard⟩ := o
  simp only at hchk
  unfold chkOp at hchk
  split at hchk
  -- move, assign
  · simp only [pureOp, Option.some.injEq] at h
    subst h
    exact ⟨_, rfl, hrel _ _ hchk⟩
  · simp only [pureOp, Option.some.injEq] at h
    subst h
    exact ⟨_, rfl, hrel _ _ hchk⟩
  -- pick
  · rename_i c a b d c' a' b'
    simp only [Bool.and_eq_true] at hchk
    simp only [pureOp] at h
    unfold aPick at h
    split at h
    · rename_i t ht
      cases h
      have hc := hrel _ _ hchk.1.1
      rw [ht, vrel_bool] at hc
      refine ⟨if t then ρ a else ρ b, by simp [execOp, hc, asBool], ?_⟩
      cases t
      · exact hrel _ _ hchk.2
      · exact hrel _ _ hchk.1.2
    · cases h
  -- binOp
  · rename_i op t x y _ d op' tag x' y'
    simp only [Bool.and_eq_true, decide_eq_true_eq] at hchk
    obtain ⟨⟨⟨rfl, h2⟩, h3⟩, h4⟩ := hchk
    obtain ⟨z, hz, hr⟩ := run_bin w h2 h (hrel _ _ h3) (hrel _ _ h4)
    refine ⟨z, ?_, hr⟩
    show ((do eqGuard op t x y (ρ x) (ρ y); binOp op t (ρ x) (ρ y) : Sem Value) >>= fun v => pure (Next.value v)).run P w = _
    rw [Sem.run_bind, hz]
    rfl
  -- unOp
  · rename_i op t x d op' y
    simp only [Bool.and_eq_true, decide_eq_true_eq] at hchk
    obtain ⟨rfl, h2⟩ := hchk
    have hx := hrel _ _ h2
    simp only [pureOp] at h
    unfold aUn at h
    split at h
    · rename_i k n hn
      cases h
      rw [hn, vrel_int] at hx
      exact ⟨_, by simp [execOp, hx, Op.unary, Op.intArith]; rfl, vrel_int.2 (by simp)⟩
    · rename_i k n hn
      cases h
      rw [hn, vrel_int] at hx
      refine ⟨_, ?_, vrel_int.2 rfl⟩
      simp only [execOp, hx, Op.unary, Op.intBits]
      rfl
    · rename_i b hb
      cases h
      rw [hb, vrel_bool] at hx
      exact ⟨_, by simp [execOp, hx, Op.unary], vrel_bool.2 rfl⟩
    · cases h
  -- convert
  · rename_i src dst' x d c y
    simp only [Bool.and_eq_true] at hchk
    have hx := hrel _ _ hchk.1
    have hc := hchk.2
    cases c with
    | toInt k =>
      simp only [pureOp] at h
      split at h
      · rename_i j n hn
        cases h
        rw [hn, vrel_int] at hx
        simp only [convOk] at hc
        split at hc
        · rename_i u v hu hv
          simp only [decide_eq_true_eq] at hc
          subst hc
          refine ⟨_, ?_, vrel_int.2 rfl⟩
          cases u <;> simp [execOp, hx, convert, run_underlying hu, run_underlying hv, Conv.intToInt]
        · cases hc
      · cases h
    | strStr =>
      simp only [pureOp] at h
      split at h
      · rename_i l hl
        cases h
        rw [hl, vrel_str] at hx
        simp only [convOk] at hc
        split at hc
        · rename_i u hu hv
          refine ⟨_, ?_, vrel_str.2 rfl⟩
          cases u <;> simp [execOp, hx, convert, run_underlying hu, run_underlying hv]
        · cases hc
      · cases h
    | strBytes => simp [pureOp] at h
    | bytesStr => simp [pureOp] at h
    | slBytes => simp [pureOp] at h
    | intStr =>
      simp only [pureOp] at h
      split at h
      · rename_i k n hn
        cases h
        rw [hn, vrel_int] at hx
        simp only [convOk] at hc
        split at hc
        · rename_i j hu hv
          refine ⟨_, ?_, vrel_str.2 rfl⟩
          simp [execOp, hx, convert, run_underlying hu, run_underlying hv, Conv.intToString]
        · cases hc
      · cases h
  -- box, alloc
  · cases h
  · cases h
  -- build
  · rename_i t parts d zero as
    simp only [Bool.and_eq_true] at hchk
    simp only [pureOp, Option.bind_eq_some_iff, Option.some.injEq] at h
    obtain ⟨cs, hcs, rfl⟩ := h
    obtain ⟨u, hu, hr⟩ := build_rel w hrel hchk.1 hchk.2 hcs
    exact ⟨u, by simp only [execOp, Sem.run_bind, hu]; rfl, hr⟩
  -- buildSlice, load, store
  · cases h
  · cases h
  · cases h
  -- nilCheck
  · rename_i x d y
    have hx := hrel _ _ hchk
    simp only [pureOp] at h
    unfold aNilchk at h
    split at h
    · rename_i b off hb
      cases h
      rw [hb] at hx
      obtain ⟨L, e, hv⟩ := vrel_ptr.1 hx
      exact ⟨_, by simp [execOp, hv], vrel_ptr.2 ⟨L, e, rfl⟩⟩
    · rename_i f c hb
      cases h
      rw [hb] at hx
      obtain ⟨cs, hv, hr⟩ := vrel_func.1 hx
      exact ⟨_, by simp [execOp, hv], vrel_func.2 ⟨cs, rfl, hr⟩⟩
    · rename_i t v hb
      cases h
      rw [hb] at hx
      obtain ⟨y', hv, hr⟩ := vrel_iface.1 hx
      exact ⟨_, by simp [execOp, hv], vrel_iface.2 ⟨y', rfl, hr⟩⟩
    · cases h
  -- field
  · rename_i t x f d agg off n y
    simp only [Bool.and_eq_true] at hchk
    have hx := hrel _ _ hchk.1
    have hc := hchk.2
    simp only [pureOp, Option.bind_eq_some_iff] at h
    obtain ⟨cs, h1, h2⟩ := h
    unfold aField at h1
    split at h1
    · rename_i as ha
      rw [ha] at hx
      obtain ⟨vs, hv, hr, ho⟩ := vrel_agg.1 hx
      split at hc
      · rename_i fs hu
        split at hc
        · rename_i fl hfl
          simp only [Bool.and_eq_true] at hc
          have e := Nat.eq_of_beq_eq_true hc.1
          subst e
          obtain ⟨u, hu1, hu2⟩ := part_rel w hc.2 hr ho h1 h2
          exact ⟨u, by simp [execOp, hv, Instr.field, run_underlying hu, hfl, asAgg, hu1], hu2⟩
        · cases hc
      · cases hc
    · cases h1
  -- fieldAddr
  · rename_i t x f d off y
    simp only [Bool.and_eq_true] at hchk
    have hx := hrel _ _ hchk.1
    have hc := hchk.2
    simp only [pureOp] at h
    unfold aFaddr at h
    split at h
    · rename_i b o hb
      cases h
      rw [hb] at hx
      obtain ⟨L, e, hv⟩ := vrel_ptr.1 hx
      split at hc
      · rename_i fs hu
        split at hc
        · rename_i fl hfl
          simp only [Bool.and_eq_true] at hc
          have e' := Nat.eq_of_beq_eq_true hc.1
          subst e'
          have hc2 := hc.2
          split at hc2
          · rename_i sz hsz
            have hs := run_sizeOf' w (n := sz + 1) hsz
            refine ⟨_, by simp [execOp, hv, Instr.fieldAt, run_underlying hu, hfl, Instr.sureAddr, fieldPlace, hs, addr_add]; rfl, vrel_ptr.2 ⟨L, e, by rw [Nat.add_assoc]⟩⟩
          · cases hc2
        · cases hc
      · cases hc
    · cases h
  -- indexAddr
  · rename_i t x i d arr es y j
    simp only [Bool.and_eq_true] at hchk
    have hx := hrel _ _ hchk.1.1
    have hi := hrel _ _ hchk.1.2
    have hc := hchk.2
    unfold iaddrOk at hc
    split at hc
    · rename_i len e len' hu
      simp only [Bool.and_eq_true, sizeIs, decide_eq_true_eq] at hc
      have e' := Nat.eq_of_beq_eq_true hc.1
      subst e'
      simp only [pureOp] at h
      unfold aIaddrA at h
      split at h
      · rename_i b o hb
        simp only [Option.bind_eq_some_iff, Option.some.injEq] at h
        obtain ⟨q, hq, rfl⟩ := h
        obtain ⟨k, n, hn, h0, h1, rfl⟩ := aIdx_spec hq
        rw [hb] at hx
        rw [hn, vrel_int] at hi
        obtain ⟨L, e2, hv⟩ := vrel_ptr.1 hx
        have hs := run_sizeOf' w hc.2
        refine ⟨.pointer (some ⟨L.blk, L.base + o + n.toNat * es, none⟩), ?_, vrel_ptr.2 ⟨L, e2, by rw [Nat.add_assoc]⟩⟩
        simp [execOp, hv, hi, Instr.indexAt, asIntOf, run_underlying hu, Instr.sureAddr, h0, h1, hs, addr_add]
      · cases h
    · rename_i e hu
      simp only [sizeIs, decide_eq_true_eq] at hc
      simp only [pureOp] at h
      unfold aIaddr at h
      split at h
      · rename_i b off len cap es' ex hb
        cases hbe : Nat.beq es es' with
        | false => rw [hbe] at h; cases h
        | true =>
          have := Nat.eq_of_beq_eq_true hbe
          subst this
          rw [hbe] at h
          simp only [cond_true, Option.bind_eq_some_iff, Option.some.injEq] at h
          obtain ⟨q, hq, rfl⟩ := h
          obtain ⟨k, n, hn, h0, h1, rfl⟩ := aIdx_spec hq
          rw [hb] at hx
          rw [hn, vrel_int] at hi
          obtain ⟨L, a, c, e2, hv, hl1, hl2, hex, hpos⟩ := vrel_slice.1 hx
          have hs := run_sizeOf' w hc
          obtain ⟨ha, _⟩ := hpos (by omega)
          refine ⟨.pointer (some ⟨L.blk, L.base + off + n.toNat * es, none⟩), ?_, vrel_ptr.2 ⟨L, e2, by rw [Nat.add_assoc]⟩⟩
          simp [execOp, hv, hi, Instr.indexAt, asIntOf, run_underlying hu, h0, h1, hs, ha, addr_add]
      · cases h
    · cases hc
  -- index
  · rename_i t x i d k y j
    simp only [Bool.and_eq_true] at hchk
    have hx := hrel _ _ hchk.1.1
    have hi := hrel _ _ hchk.1.2
    have hc := hchk.2
    split at hc
    · rename_i len e len' es agg hu
      simp only [Bool.and_eq_true, sizeIs, decide_eq_true_eq] at hc
      have e' := Nat.eq_of_beq_eq_true hc.1.1
      subst e'
      simp only [pureOp, Option.bind_eq_some_iff] at h
      obtain ⟨cs, h1, h2⟩ := h
      unfold aIndexArr at h1
      split at h1
      · rename_i as ha
        simp only [Option.bind_eq_some_iff] at h1
        obtain ⟨q, hq, h1⟩ := h1
        obtain ⟨k, n, hn, h0, hlt, rfl⟩ := aIdx_spec hq
        rw [ha] at hx
        rw [hn, vrel_int] at hi
        obtain ⟨vs, hv, hr, ho⟩ := vrel_agg.1 hx
        obtain ⟨u, hu1, hu2⟩ := part_rel w hc.2 hr ho h1 h2
        have hs := run_sizeOf' w hc.1.2
        exact ⟨u, by simp [execOp, hv, hi, Instr.index, asIntOf, run_underlying hu, h0, hlt, hs, hu1], hu2⟩
      · cases h1
    · rename_i hu
      simp only [pureOp] at h
      unfold aIndexStr at h
      split at h
      · rename_i l hl
        simp only [Option.bind_eq_some_iff, Option.some.injEq] at h
        obtain ⟨q, hq, rfl⟩ := h
        obtain ⟨k, n, hn, h0, hlt, rfl⟩ := aIdx_spec hq
        rw [hl, vrel_str] at hx
        rw [hn, vrel_int] at hi
        refine ⟨_, ?_, vrel_int.2 rfl⟩
        have hlt' : n.toNat < l.length := by omega
        have hget : (ByteArray.mk l.toArray)[n.toNat]? = some (l.getD n.toNat 0) := by
          rw [getElem?_pos (ByteArray.mk l.toArray) n.toNat (show n.toNat < l.toArray.size by simpa using hlt')]
          rw [List.getD_eq_getElem?_getD, List.getElem?_eq_getElem hlt']
          rfl
        simp only [execOp, hx, hi, Instr.index, asIntOf, Sem.run_bind, Sem.run_pure, Result.andThen_ok, run_underlying hu, h0, if_true, hget]
      · cases h
    · cases hc
  -- slice
  · rename_i t x lo hi mx d k y lo' hi' mx'
    simp only [Bool.and_eq_true] at hchk
    obtain ⟨⟨⟨⟨hx, hlo⟩, hhi⟩, hmx⟩, hc⟩ := hchk
    have hx := hrel _ _ hx
    have slo := optOk_spec hrel hlo
    have shi := optOk_spec hrel hhi
    have smx := optOk_spec hrel hmx
    split at hc
    · rename_i hu
      have hmn : mx = none := by simpa using hc
      subst hmn
      simp only [pureOp] at h
      unfold aSliceStr at h
      split at h
      · rename_i l hl
        simp only [Option.bind_eq_some_iff, Option.some.injEq] at h
        obtain ⟨hh, e2, ll, e3, rfl⟩ := h
        rw [hl, vrel_str] at hx
        obtain ⟨M, hM, _, _, _, _, hlh, hhm, _⟩ := bounds_rel (P := P) w (φ := φ) (mx := none) (amx := none) (len := l.length) (cap := l.length) (m := l.length) (c := l.length) false slo shi (.inl ⟨rfl, rfl⟩) (.inl rfl) (Nat.le_refl _) (Nat.le_refl _) rfl e2 e3
        refine ⟨_, ?_, vrel_str.2 rfl⟩
        have hsz : (ByteArray.mk l.toArray).size = l.length := by show l.toArray.size = _; simp
        simp only [execOp, hx, Instr.sliceAt, Sem.run_bind, run_underlying hu, Result.andThen_ok, Instr.slice, Option.map_none, Option.isSome_none, Bool.false_eq_true, if_false, hsz, Sem.run_pure, hM]
        rw [ByteArray.extract_mk]
        simp [List.drop_take]
      · cases h
    · rename_i e es hu
      simp only [Bool.and_eq_true, sizeIs, decide_eq_true_eq, Bool.or_eq_true] at hc
      have hs := run_sizeOf' w hc.1
      have hmh : Option.map ρ mx = none ∨ Option.map ρ hi ≠ none := by
        rcases hc.2 with hm | hm
        · left; simp at hm; simp [hm]
        · right; cases hi <;> simp_all
      simp only [pureOp] at h
      unfold aSliceSl at h
      split at h
      · rename_i b off len cap es' ex hb
        cases hbe : Nat.beq es es' with
        | false => rw [hbe] at h; cases h
        | true =>
          have := Nat.eq_of_beq_eq_true hbe
          subst this
          rw [hbe] at h
          simp only [cond_true, Option.bind_eq_some_iff, Option.some.injEq] at h
          obtain ⟨m, e1, hh, e2, ll, e3, rfl⟩ := h
          rw [hb] at hx
          obtain ⟨L, a, c, e4, hv, hl1, hl2, hex, hpos⟩ := vrel_slice.1 hx
          obtain ⟨M, hM, hmM, hMc, hMn, hMs, hlh, hhm, hmc⟩ := bounds_rel (P := P) w (φ := φ) true slo shi smx hmh hl2 hl1 e1 e2 e3
          refine ⟨.slice (if M = ll then some a else some (a.add (ll * es))) (hh - ll) (M - ll), ?_, ?_⟩
          · simp [execOp, hv, Instr.sliceAt, run_underlying hu, Instr.slice, hM, hs]
          · have hsel : (if M = ll then some a else some (a.add (ll * es))) = some (if M = ll then a else a.add (ll * es)) := by split <;> rfl
            rw [hsel]
            refine vrel_slice.2 ⟨L, _, _, e4, rfl, by omega, by omega, ?_, ?_⟩
            · intro hor
              simp only [Bool.or_eq_true] at hor
              rcases hor with hor | hor
              · have hcc := hex hor
                cases hmx' : Option.map ρ mx with
                | none =>
                  rcases smx with ⟨_, hm2⟩ | ⟨_, _, hm1, _⟩
                  · rw [hm2] at e1
                    simp only [aBound, Option.some.injEq] at e1
                    have := hMn hmx'
                    omega
                  · rw [hm1] at hmx'; cases hmx'
                | some v =>
                  have := hMs (by rw [hmx']; simp)
                  omega
              · rcases smx with ⟨_, hm2⟩ | ⟨_, _, hm1, hm2, _⟩
                · rw [hm2] at hor; simp at hor
                · have := hMs (by rw [hm1]; simp)
                  omega
            · intro hp
              have hne : ¬ M = ll := by omega
              rw [if_neg hne]
              obtain ⟨ha, hb2⟩ := hpos (by omega)
              rw [ha, addr_add]
              refine ⟨by rw [Nat.add_assoc], ?_⟩
              have : ll * es + (M - ll) * es ≤ c * es := by rw [← Nat.add_mul]; exact Nat.mul_le_mul_right _ (by omega)
              omega
      · rename_i hb
        simp only [Option.bind_eq_some_iff, Option.some.injEq] at h
        obtain ⟨m, e1, hh, e2, ll, e3, rfl⟩ := h
        rw [hb, vrel_nilSlice] at hx
        obtain ⟨M, hM, hmM, hMc, hMn, hMs, hlh, hhm, hmc⟩ := bounds_rel (P := P) w (φ := φ) (c := 0) true slo shi smx hmh (Nat.le_refl _) (Nat.le_refl _) e1 e2 e3
        have h1 : M = 0 := by omega
        have h2 : hh = 0 := by omega
        have h3 : ll = 0 := by omega
        subst h1; subst h2; subst h3
        refine ⟨_, ?_, vrel_nilSlice.2 rfl⟩
        simp only [execOp, hx, Instr.sliceAt, Sem.run_bind, run_underlying hu, Result.andThen_ok, Instr.slice]
        rw [hM]
        simp [hs]
      · cases h
    · rename_i n e n' es hu
      simp only [Bool.and_eq_true, sizeIs, decide_eq_true_eq, Bool.or_eq_true] at hc
      have e' := Nat.eq_of_beq_eq_true hc.1.1
      subst e'
      simp [pureOp, aSliceArr] at h
    · cases hc
  -- makeSlice
  · cases h
  -- makeInterface
  · rename_i t x d t' y
    simp only [Bool.and_eq_true] at hchk
    have e := Nat.eq_of_beq_eq_true hchk.1.1
    subst e
    simp only [pureOp, Option.some.injEq] at h
    subst h
    exact ⟨_, by simp [execOp, run_makeInterface w t (ρ x) hchk.2], vrel_iface.2 ⟨_, rfl, hrel _ _ hchk.1.2⟩⟩
  -- extract
  · rename_i x i d y i'
    simp only [Bool.and_eq_true] at hchk
    have e := Nat.eq_of_beq_eq_true hchk.1
    subst e
    have hx := hrel _ _ hchk.2
    simp only [pureOp] at h
    unfold aExtract at h
    split at h
    · rename_i vs hv
      rw [hv] at hx
      obtain ⟨us, hu, hr⟩ := vrel_tuple.1 hx
      obtain ⟨u, hu1, hu2⟩ := VRels.get hr _ _ h
      refine ⟨u, ?_, hu2⟩
      have : us[i]? = some u := by simpa using hu1
      simp [execOp, hu, Instr.extract, this]
    · cases h
  -- makeFunc
  · rename_i f first caps d f' caps'
    simp only [Bool.and_eq_true, Array.isEmpty_iff] at hchk
    obtain ⟨⟨e, e2⟩, e3⟩ := hchk
    have e := Nat.eq_of_beq_eq_true e
    subst e; subst e2
    simp only [pureOp, Option.some.injEq] at h
    subst h
    refine ⟨.func (.func f) #[] (caps.map ρ), by simp [execOp, Instr.makeFunc], vrel_func.2 ⟨_, rfl, ?_⟩⟩
    rw [Array.toList_map]
    exact opds_rel hrel e3
  -- calls of what is built in
  · rename_i ao' c
    have hargs : (c.args.map ρ).toList = c.args.toList.map ρ := by simp
    unfold chkCall at hchk
    split at hchk
    · cases h
    · cases h
    · cases h
    · cases h
    · cases h
    · cases h
    -- len
    · rename_i d str x
      split at hchk
      · rename_i x' t ts h1 h2 h3
        simp only [Bool.and_eq_true] at hchk
        have hx := hrel _ _ hchk.1
        have hc := hchk.2
        have ha : c.args.map ρ = #[ρ x'] := by apply Array.ext'; rw [hargs, h2]; rfl
        have ht : c.argTypes[0]? = some t := by rw [← Array.getElem?_toList, h3]; rfl
        simp only [pureOp] at h
        unfold aLen at h
        split at h
        · rename_i l hl
          cases h
          rw [hl, vrel_str] at hx
          split at hc
          · rename_i hu
            refine ⟨_, ?_, vrel_int.2 rfl⟩
            simp only [execOp, resolve, h1, invoke, builtin, Sem.run_bind, Sem.run_pure, Result.andThen_ok, ha, Builtin.len_, ht, hx]
            have hsz : (ByteArray.mk l.toArray).size = l.length := by show l.toArray.size = _; simp
            simp [run_underlying hu, goInt, hsz]
          · cases hc
          · cases hc
        · rename_i b off len cap es ex hb
          cases h
          rw [hb] at hx
          obtain ⟨L, a, cc, e4, hv, _⟩ := vrel_slice.1 hx
          split at hc
          · cases hc
          · rename_i e hu
            refine ⟨_, ?_, vrel_int.2 rfl⟩
            simp only [execOp, resolve, h1, invoke, builtin, Sem.run_bind, Sem.run_pure, Result.andThen_ok, ha, Builtin.len_, ht, hv]
            simp [run_underlying hu, goInt]
          · cases hc
        · rename_i hb
          cases h
          rw [hb, vrel_nilSlice] at hx
          split at hc
          · cases hc
          · rename_i e hu
            refine ⟨_, ?_, vrel_int.2 rfl⟩
            simp only [execOp, resolve, h1, invoke, builtin, Sem.run_bind, Sem.run_pure, Result.andThen_ok, ha, Builtin.len_, ht, hx]
            simp [run_underlying hu, goInt]
          · cases hc
        · cases h
      · cases hchk
    -- cap
    · rename_i d x
      split at hchk
      · rename_i x' t ts h1 h2 h3
        simp only [Bool.and_eq_true] at hchk
        have hx := hrel _ _ hchk.1
        have hc := hchk.2
        have ha : c.args.map ρ = #[ρ x'] := by apply Array.ext'; rw [hargs, h2]; rfl
        have ht : c.argTypes[0]? = some t := by rw [← Array.getElem?_toList, h3]; rfl
        simp only [pureOp] at h
        unfold aCap at h
        split at hc
        · rename_i e hu
          split at h
          · rename_i b off len cap es hb
            cases h
            rw [hb] at hx
            obtain ⟨L, a, cc, e4, hv, _, _, hex, _⟩ := vrel_slice.1 hx
            have := hex rfl
            subst this
            refine ⟨_, ?_, vrel_int.2 rfl⟩
            simp only [execOp, resolve, h1, invoke, builtin, Sem.run_bind, Sem.run_pure, Result.andThen_ok, ha, Builtin.cap_, ht, hv]
            simp [run_underlying hu, goInt]
          · rename_i hb
            cases h
            rw [hb, vrel_nilSlice] at hx
            refine ⟨_, ?_, vrel_int.2 rfl⟩
            simp only [execOp, resolve, h1, invoke, builtin, Sem.run_bind, Sem.run_pure, Result.andThen_ok, ha, Builtin.cap_, ht, hx]
            simp [run_underlying hu, goInt]
          · cases h
        · cases hc
      · cases hchk
    -- min, max
    · rename_i d mx xs
      have hmm : ∀ (m : Bool), c.callee = .builtin (if m then .max else .min) → opdsOk c.args.toList xs = true → aMinMaxL m (xs.map ev) = some r →
          ∃ u, (execOp ρ { dst := dst, op := .call c, type := type, pos := pos, after := after, guard := guard }).run P w = .ok (.value u) w ∧ VRel φ r u := by
        intro m hcal hops hr
        have hv := opds_rel hrel hops
        rw [← hargs] at hv
        generalize hvs : (c.args.map ρ).toList = vs at hv
        generalize xs.map ev = as at hv hr
        cases as with
        | nil => simp [aMinMaxL] at hr
        | cons a as =>
          cases vs with
          | nil => simp [VRels] at hv
          | cons v vs =>
            simp only [VRels] at hv
            obtain ⟨u, hu1, hu2⟩ := minmax_rel (P := P) w m as vs a v r hv.1 hv.2 hr
            refine ⟨u, ?_, hu2⟩
            cases m with
            | true =>
              simp only [if_true] at hcal hu1
              simp only [execOp, resolve, hcal, invoke, builtin, Sem.run_bind, Sem.run_pure, Result.andThen_ok, Builtin.max_, hvs, hu1]
            | false =>
              simp only [Bool.false_eq_true, if_false] at hcal hu1
              simp only [execOp, resolve, hcal, invoke, builtin, Sem.run_bind, Sem.run_pure, Result.andThen_ok, Builtin.min_, hvs, hu1]
      simp only [pureOp] at h
      split at hchk
      · rename_i h1
        simp only [Bool.and_eq_true] at hchk
        obtain ⟨rfl, h2⟩ := hchk
        exact hmm true h1 h2 h
      · rename_i h1
        simp only [Bool.and_eq_true, Bool.not_eq_true'] at hchk
        obtain ⟨rfl, h2⟩ := hchk
        exact hmm false h1 h2 h
      · cases hchk
    · cases hchk
  · cases hchk

end
end Go.Fw
