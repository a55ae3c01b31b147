/- Copy, clear, make, conversions between texts and bytes, loads and stores. -/
import Derived.Test.YtfdhljghamkgjaaFwL
namespace Go.Fw
set_option linter.unusedSimpArgs false
set_option linter.unusedVariables false

section
variable {P : Program}

theorem OkTo.same {φ : Phi} {h : Heap} {w : World} (H : HRel φ h w) {sem : Sem Value} {r : AVal} {u : Value} (e : sem.run P w = .ok u w) (hr : VRel φ r u) : OkTo P φ h w sem r h :=
  ⟨u, w, φ, e, hr, H, Step.refl _ _ _⟩

theorem copy_rel {φ : Phi} {h : Heap} {w : World} (H : HRel φ h w) {t e : TypeId} {ts : Array TypeId} {ty : TypeId} {es : Nat} (hts : ts[0]? = some t) (ht : P.underlying t = some (.slice e)) (hs : (P.info? e).map (·.size) = some es)
    {d s : AVal} {dv sv : Value} (hd : VRel φ d dv) (hsv : VRel φ s sv) {r : AVal} {h' : Heap} (ea : aCopy es d s h = some (r, h')) : OkTo P φ h w (Builtin.copy_ ts ty #[dv, sv]) r h' := by
  have hs' := fun w => run_sizeOf' (P := P) w hs
  have hrun : ∀ (base : Option Addr) (dl dc n : Nat) (us : List Value), (Builtin.lenOf sv).run P w = .ok n w → (Builtin.firstCells es (Nat.min n dl) sv).run P w = .ok us.toArray w →
      (Builtin.copy_ ts ty #[.slice base dl dc, sv]).run P w = (match base with | some a => (storeCells a us).run P w | none => .ok () w).andThen fun _ w' => .ok (.int .i64 (Nat.min n dl : Nat)) w' := by
    intro base dl dc n us h1 h2
    cases base <;> simp [Builtin.copy_, hts, run_underlying ht, h1, h2, hs', goInt]
  unfold aCopy at ea
  split at ea
  · rw [vrel_nilSlice.1 hd]
    have hlen : ∃ n, (Builtin.lenOf sv).run P w = .ok n w ∧ ((Builtin.firstCells es 0 sv).run P w = .ok #[] w) ∧ r = .int .i64 0 ∧ h' = h := by
      split at ea
      · cases ea
        obtain ⟨_, _, _, _, rfl, _⟩ := vrel_slice.1 hsv
        exact ⟨_, rfl, by simp [Builtin.firstCells, loadCells, loadCellsFrom], rfl, rfl⟩
      · cases ea
        rw [vrel_nilSlice.1 hsv]
        exact ⟨_, rfl, by simp [Builtin.firstCells], rfl, rfl⟩
      · cases ea
        rw [vrel_str.1 hsv]
        refine ⟨_, rfl, ?_, rfl, rfl⟩
        simp only [Builtin.firstCells]
        rw [ByteArray.extract_mk]
        simp
      · cases ea
    obtain ⟨n, h1, h2, rfl, rfl⟩ := hlen
    have := hrun none 0 0 n [] h1 (by simpa using h2)
    exact OkTo.same H this (vrel_int.2 (by simp))
  · rename_i b off len cap es' ex
    cases hbe : Nat.beq es es' with
    | false => rw [hbe] at ea; cases ea
    | true =>
      have := Nat.eq_of_beq_eq_true hbe
      subst this
      rw [hbe] at ea
      simp only [cond_true] at ea
      obtain ⟨L, a, c, hbl, rfl, hl1, hl2, hex, hpos⟩ := vrel_slice.1 hd
      split at ea
      · cases ea
        rw [vrel_nilSlice.1 hsv] at hrun ⊢
        have := hrun (some a) len c 0 [] rfl (by simp [Builtin.firstCells])
        exact OkTo.same H (u := .int .i64 0) (by rw [this]; simp [storeCells]) (vrel_int.2 rfl)
      · rename_i b2 off2 len2 cap2 es2 ex2
        cases hbe2 : Nat.beq es es2 with
        | false => rw [hbe2] at ea; cases ea
        | true =>
          have := Nat.eq_of_beq_eq_true hbe2
          subst this
          rw [hbe2] at ea
          simp only [cond_true] at ea
          obtain ⟨L2, a2, c2, hbl2, rfl, hl3, hl4, hex2, hpos2⟩ := vrel_slice.1 hsv
          cases h0 : Nat.beq (Nat.min len2 len) 0 with
          | true =>
            rw [h0] at ea
            cases ea
            have h0 := Nat.eq_of_beq_eq_true h0
            have := hrun (some a) len c len2 [] rfl (by rw [h0]; simp [Builtin.firstCells, loadCells, loadCellsFrom])
            exact OkTo.same H (u := .int .i64 0) (by rw [this, h0]; simp [storeCells]) (vrel_int.2 rfl)
          | false =>
            rw [h0] at ea
            have h0 := Nat.ne_of_beq_eq_false h0
            simp only [cond_false, Option.bind_eq_some_iff, Option.some.injEq, Prod.mk.injEq] at ea
            obtain ⟨cs, hcs, h1, hwr, rfl, rfl⟩ := ea
            have hm1 : Nat.min len2 len ≤ len2 := Nat.min_le_left _ _
            have hm2 : Nat.min len2 len ≤ len := Nat.min_le_right _ _
            obtain ⟨ha2, _⟩ := hpos2 (by omega)
            obtain ⟨ha, _⟩ := hpos (by omega)
            obtain ⟨us, u1, u2, u3, u4⟩ := H.rd hcs hbl2
            subst ha2; subst ha
            have := hrun (some ⟨L.blk, L.base + off, none⟩) len c len2 us rfl (by simp only [Builtin.firstCells]; rw [← u3]; exact loadCells_of u4)
            obtain ⟨w', hst, H', S'⟩ := HRel.wr (P := P) H hwr hbl u1 u2
            exact ⟨_, w', φ, by rw [this]; simp only []; rw [hst]; rfl, vrel_int.2 rfl, H', S'⟩
      · rename_i l
        cases hbe2 : Nat.beq es 1 with
        | false => rw [hbe2] at ea; cases ea
        | true =>
          have := Nat.eq_of_beq_eq_true hbe2
          subst this
          rw [hbe2] at ea
          simp only [cond_true] at ea
          have hsz : (ByteArray.mk l.toArray).size = l.length := by show l.toArray.size = _; simp
          rw [vrel_str.1 hsv] at hrun ⊢
          have hlen : (Builtin.lenOf (.string ⟨l.toArray⟩)).run P w = .ok l.length w := by simp [Builtin.lenOf, hsz]
          have hfc : (Builtin.firstCells 1 (Nat.min l.length len) (.string ⟨l.toArray⟩)).run P w = .ok ((l.take (Nat.min l.length len)).map fun b => .int .u8 b.toNat).toArray w := by
            simp only [Builtin.firstCells]
            rw [ByteArray.extract_mk]
            simp
          cases h0 : Nat.beq (Nat.min l.length len) 0 with
          | true =>
            rw [h0] at ea
            cases ea
            have h0 := Nat.eq_of_beq_eq_true h0
            have := hrun (some a) len c l.length [] hlen (by rw [hfc, h0]; simp)
            exact OkTo.same H (u := .int .i64 0) (by rw [this, h0]; simp [storeCells]) (vrel_int.2 rfl)
          | false =>
            rw [h0] at ea
            have h0 := Nat.ne_of_beq_eq_false h0
            simp only [cond_false, Option.bind_eq_some_iff, Option.some.injEq, Prod.mk.injEq] at ea
            obtain ⟨h1, hwr, rfl, rfl⟩ := ea
            have hm2 : Nat.min l.length len ≤ len := Nat.min_le_right _ _
            obtain ⟨ha, _⟩ := hpos (by omega)
            subst ha
            have := hrun (some ⟨L.blk, L.base + off, none⟩) len c l.length _ hlen hfc
            obtain ⟨w', hst, H', S'⟩ := HRel.wr (P := P) H hwr hbl (bytes_rel _) (bytes_ones _)
            exact ⟨_, w', φ, by rw [this]; simp only []; rw [hst]; rfl, vrel_int.2 rfl, H', S'⟩
      · cases ea
  · cases ea

theorem clear_rel {φ : Phi} {h : Heap} {w : World} (H : HRel φ h w) {t e : TypeId} {ts : Array TypeId} {ty : TypeId} {zero : List AVal} (hts : ts[0]? = some t) (ht : P.underlying t = some (.slice e)) (hz : zeroOk P e zero = true)
    {s : AVal} {sv : Value} (hsv : VRel φ s sv) {r : AVal} {h' : Heap} (ea : aClear zero s h = some (r, h')) : OkTo P φ h w (Builtin.clear_ ts ty #[sv]) r h' := by
  obtain ⟨z, hz1, hz2, hz3⟩ := zero_rel w hz φ
  unfold aClear at ea
  split at ea
  · cases ea
    rw [vrel_nilSlice.1 hsv]
    exact OkTo.same H (u := .tuple #[]) (by simp [Builtin.clear_, hts, run_underlying ht]) (vrel_tuple.2 ⟨_, rfl, by simp [VRels]⟩)
  · rename_i b off len cap es ex
    obtain ⟨L, a, c, hbl, rfl, hl1, hl2, hex, hpos⟩ := vrel_slice.1 hsv
    cases h0 : Nat.beq len 0 with
    | true =>
      rw [h0] at ea
      cases ea
      have := Nat.eq_of_beq_eq_true h0
      subst this
      exact OkTo.same H (u := .tuple #[]) (by simp [Builtin.clear_, hts, run_underlying ht]) (vrel_tuple.2 ⟨_, rfl, by simp [VRels]⟩)
    | false =>
      rw [h0] at ea
      have h0 := Nat.ne_of_beq_eq_false h0
      simp only [cond_false] at ea
      cases hbe : Nat.beq es zero.length with
      | false => rw [hbe] at ea; cases ea
      | true =>
        rw [hbe] at ea
        simp only [cond_true, Option.bind_eq_some_iff, Option.some.injEq, Prod.mk.injEq] at ea
        obtain ⟨h1, hwr, rfl, rfl⟩ := ea
        obtain ⟨ha, _⟩ := hpos (by omega)
        subst ha
        obtain ⟨w', hst, H', S'⟩ := HRel.wr (P := P) H hwr hbl (reps_rel hz2 len) (repsV_ones hz3 len)
        refine ⟨.tuple #[], w', φ, ?_, vrel_tuple.2 ⟨_, rfl, by simp [VRels]⟩, H', S'⟩
        have hzc : (Builtin.zeroCells z.cells len).toList = repsV z.cells.toList len := zeroCells_eq _ _
        cases len with
        | zero => exact absurd rfl h0
        | succ m => simp [Builtin.clear_, hts, run_underlying ht, hz1, hzc, hst]
  · cases ea

theorem make_rel {φ : Phi} {h : Heap} {w : World} (H : HRel φ h w) {t e : TypeId} {es bytes : Nat} {zero : List AVal} (ht : P.underlying t = some (.slice e)) (hs : (P.info? e).map (·.size) = some es) (hby : (P.info? e).map (·.bytes) = some bytes) (hz : zeroOk P e zero = true) (hzl : zero.length = es)
    {l c : AVal} {lv cv : Value} (hl : VRel φ l lv) (hc : VRel φ c cv) {r : AVal} {h' : Heap} (ea : aMkSlice es bytes zero l c h = some (r, h')) : OkTo P φ h w (Instr.makeSlice t lv cv) r h' := by
  have hs' := fun w => run_sizeOf' (P := P) w hs
  obtain ⟨i, hi, hib⟩ : ∃ i, P.info? e = some i ∧ i.bytes = bytes := by
    cases hi : P.info? e with
    | none => rw [hi] at hby; cases hby
    | some i => rw [hi] at hby; exact ⟨i, rfl, by simpa using hby⟩
  have hti : ∀ w, (typeInfo e).run P w = .ok i w := fun w => run_typeInfo w hi
  have hzz := fun w => zero_rel (P := P) w hz φ
  obtain ⟨z, hz1, hz2, hz3⟩ := hzz w
  have hzs : z.cells.size = es := by have := VRels.length hz2; simp at this; omega
  unfold aMkSlice at ea
  split at ea
  · rename_i lk ck
    split at ea
    · rename_i hcond
      obtain ⟨c1, c2, c3, c4⟩ := hcond
      cases ea
      rw [vrel_int.1 hl, vrel_int.1 hc]
      have hw1 : IntKind.i64.wrap ck = ck := by
        have h2 : ck % (2 ^ 64 : Int) = ck := Int.emod_eq_of_lt (by omega) (by omega)
        show (if (true && decide (ck % (2 ^ 64 : Int) ≥ (2 ^ 63 : Int))) = true then ck % (2 ^ 64 : Int) - 2 ^ 64 else ck % (2 ^ 64 : Int)) = ck
        simp only [h2, Bool.true_and, decide_eq_true_eq]
        rw [if_neg (by omega)]
      have hw2 : IntKind.i64.wrap lk = lk := by
        have h2 : lk % (2 ^ 64 : Int) = lk := Int.emod_eq_of_lt (by omega) (by omega)
        show (if (true && decide (lk % (2 ^ 64 : Int) ≥ (2 ^ 63 : Int))) = true then lk % (2 ^ 64 : Int) - 2 ^ 64 else lk % (2 ^ 64 : Int)) = lk
        simp only [h2, Bool.true_and, decide_eq_true_eq]
        rw [if_neg (by omega)]
      have hcond : ¬ ((decide (ck < 0) || decide ((bytes : Int) * ck > 2 ^ 48) || decide (lk < 0) || decide (lk > ck)) = true) := by
        have : (bytes : Int) * ck ≤ 140737488355328 := by rw [Int.mul_comm]; exact c3
        simp only [Bool.or_eq_true, decide_eq_true_eq]
        omega
      have hrow : ∀ zc : Array Value, zc = (if ck.toNat * es = 0 then #[] else z.cells) → ((Array.range (ck.toNat * es)).map (zc[· % zc.size]!)) = (repsV z.cells.toList ck.toNat).toArray := by
        intro zc hzc
        apply Array.ext'
        split at hzc
        · rename_i h0
          rw [h0]
          have : repsV z.cells.toList ck.toNat = [] := List.eq_nil_of_length_eq_zero (by rw [repsV_length]; simpa [hzs] using h0)
          simp [this]
        · subst hzc
          rw [← range_map_eq, hzs]
      have hrun : (Instr.makeSlice t (.int .i64 lk) (.int .i64 ck)).run P w = .ok (.slice (some ⟨w.heap.size, 0, none⟩) lk.toNat ck.toNat) (w.alloc (.cells (repsV z.cells.toList ck.toNat).toArray e)) := by
        simp only [Instr.makeSlice, Sem.run_bind, run_underlying ht, Result.andThen_ok, asInt, asIntOf, Sem.run_pure, hti, hib, hw1, hw2]
        rw [if_neg hcond]
        simp only [Sem.run_bind, run_askRoom, Result.andThen_ok, hs', Sem.run_pure]
        split
        · rename_i h0
          simp only [Sem.run_bind, Sem.run_pure, Result.andThen_ok, newRow, run_newObj]
          rw [hrow #[] (by rw [if_pos h0])]
          rfl
        · rename_i h0
          simp only [Sem.run_bind, Sem.run_pure, Result.andThen_ok, hz1, newRow, run_newObj]
          rw [hrow z.cells (by rw [if_neg h0])]
          rfl
      have hlc : (repsV z.cells.toList ck.toNat).length = ck.toNat * es := by rw [repsV_length]; simp [hzs]
      obtain ⟨h1, h2⟩ := H.alloc (cs := reps zero ck.toNat) (c := (repsV z.cells.toList ck.toNat).toArray) e (0, 0) (.inl rfl) (by rw [reps_length, hzl]; simp [hlc]) (by
        intro i v hv
        obtain ⟨u, hu, hru⟩ := VRels.get (reps_rel hz2 ck.toNat) i v hv
        exact ⟨u, by simpa using hu, hru, repsV_ones hz3 _ u (List.mem_of_getElem? hu)⟩) (w' := w.alloc (.cells (repsV z.cells.toList ck.toNat).toArray e)) rfl rfl rfl rfl
      refine ⟨_, _, _, hrun, vrel_slice.2 ⟨⟨w.heap.size, 0, (repsV z.cells.toList ck.toNat).toArray.size⟩, _, ck.toNat, by simp [Phi.set], rfl, by omega, Nat.le_refl _, fun _ => rfl, fun _ => ⟨rfl, ?_⟩⟩, h1, h2⟩
      simp [hlc]
    · cases ea
  · cases ea

end
end Go.Fw
