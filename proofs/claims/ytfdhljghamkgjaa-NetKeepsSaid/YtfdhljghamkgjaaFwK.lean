/- What appending, copying, making of slices does in the model. -/
import Derived.Test.YtfdhljghamkgjaaFwJ
import Derived.Laws.Append
import Derived.Laws.MakeOwn
import Derived.Laws.BytesString
namespace Go.Fw
set_option linter.unusedSimpArgs false
set_option linter.unusedVariables false

section
variable {P : Program}

def OkTo (P : Program) (φ : Phi) (h : Heap) (w : World) (sem : Sem Value) (r : AVal) (h' : Heap) : Prop :=
  ∃ u w' φ', sem.run P w = .ok u w' ∧ VRel φ' r u ∧ HRel φ' h' w' ∧ Step φ h w φ' h' w'

theorem reps_length (z : List AVal) : ∀ n, (reps z n).length = n * z.length
  | 0 => by simp [reps]
  | n + 1 => by simp [reps, reps_length z n, Nat.add_mul, Nat.add_comm]

def repsV (z : List Value) : Nat → List Value
  | 0 => []
  | n + 1 => z ++ repsV z n
theorem repsV_length (z : List Value) : ∀ n, (repsV z n).length = n * z.length
  | 0 => by simp [repsV]
  | n + 1 => by simp [repsV, repsV_length z n, Nat.add_mul, Nat.add_comm]
theorem reps_rel {φ : Phi} {z : List AVal} {v : List Value} (h : VRels φ z v) : ∀ n, VRels φ (reps z n) (repsV v n)
  | 0 => by simp [reps, repsV, VRels]
  | n + 1 => VRels.append h (reps_rel h n)
theorem repsV_ones {v : List Value} (h : ∀ u ∈ v, u.oneCell' = true) : ∀ n, ∀ u ∈ repsV v n, u.oneCell' = true
  | 0, u, hu => by simp [repsV] at hu
  | n + 1, u, hu => by
    rcases List.mem_append.1 hu with hu | hu
    · exact h u hu
    · exact repsV_ones h n u hu

theorem repsV_get (v : List Value) : ∀ (n i : Nat), i < n * v.length → (repsV v n)[i]? = v[i % v.length]?
  | 0, i, h => by simp at h
  | n + 1, i, h => by
    rw [repsV, List.getElem?_append]
    split
    · rename_i hlt; rw [Nat.mod_eq_of_lt hlt]
    · rename_i hge
      have hge : v.length ≤ i := by omega
      rw [repsV_get v n (i - v.length) (by rw [Nat.add_mul] at h; omega)]
      rw [← Nat.mod_eq_sub_mod hge]

theorem zeroCells_eq (z : Array Value) (n : Nat) : (Builtin.zeroCells z n).toList = repsV z.toList n := by
  apply List.ext_getElem?
  intro i
  unfold Builtin.zeroCells
  rw [Array.toList_map, Array.toList_range, List.getElem?_map]
  by_cases h : i < n * z.size
  · rw [List.getElem?_range h, repsV_get _ _ _ (by simpa using h)]
    have hpos : 0 < z.size := by
      rcases Nat.eq_zero_or_pos z.size with h0 | h0
      · rw [h0] at h; simp at h
      · exact h0
    have hm : i % z.size < z.size := Nat.mod_lt _ hpos
    simp [hm]
  · rw [List.getElem?_eq_none (by simpa using h), List.getElem?_eq_none (by rw [repsV_length]; simpa using h)]
    rfl

theorem range_map_eq (z : Array Value) (n : Nat) : ((Array.range (n * z.size)).map (z[· % z.size]!)).toList = repsV z.toList n := zeroCells_eq z n

theorem bytes_rel {φ : Phi} : ∀ (l : List UInt8), VRels φ (byteCells l) (l.map fun b => .int .u8 b.toNat)
  | [] => by simp [byteCells, VRels]
  | b :: l => by
    simp only [byteCells, List.map_cons, VRels]
    exact ⟨vrel_int.2 rfl, bytes_rel l⟩
theorem bytes_ones (l : List UInt8) : ∀ u ∈ (l.map fun b => (.int .u8 b.toNat : Value)), u.oneCell' = true := by
  intro u hu
  obtain ⟨b, _, rfl⟩ := List.mem_map.1 hu
  rfl

/-- What is appended. -/
theorem news_rel {φ : Phi} {h : Heap} {w : World} (H : HRel φ h w) {es bytes : Nat} {zero : List AVal} {x : AVal} {v : Value} (hx : VRel φ x v) {n : Nat} {news : List AVal} (e : aNews es bytes zero false x h = some (n, news)) :
    (Builtin.lenOf v).run P w = .ok n w ∧ ∃ us : List Value, (Builtin.firstCells es n v).run P w = .ok us.toArray w ∧ VRels φ news us ∧ (∀ u ∈ us, u.oneCell' = true) ∧ us.length = n * es := by
  unfold aNews at e
  split at e
  · exact absurd ‹false = true› (by simp)
  · cases e
    rw [vrel_nilSlice.1 hx]
    exact ⟨rfl, [], by simp [Builtin.firstCells], by simp [VRels], by simp, by simp⟩
  · rename_i l _
    cases hb : Nat.beq es 1 with
    | false => rw [hb] at e; cases e
    | true =>
      rw [hb] at e
      have := Nat.eq_of_beq_eq_true hb
      subst this
      cases e
      rw [vrel_str.1 hx]
      have hsz : (ByteArray.mk l.toArray).size = l.length := by show l.toArray.size = _; simp
      refine ⟨by simp [Builtin.lenOf, hsz], l.map (fun b => .int .u8 b.toNat), ?_, bytes_rel l, bytes_ones l, by simp⟩
      simp only [Builtin.firstCells]
      rw [ByteArray.extract_mk]
      simp
  · rename_i b off len cap es' ex _
    obtain ⟨L, a, c, hb, rfl, hl1, hl2, hex, hpos⟩ := vrel_slice.1 hx
    cases h0 : Nat.beq len 0 with
    | true =>
      rw [h0] at e
      cases e
      have := Nat.eq_of_beq_eq_true h0
      subst this
      exact ⟨rfl, [], by simp [Builtin.firstCells, loadCells, loadCellsFrom], by simp [VRels], by simp, by simp⟩
    | false =>
      rw [h0] at e
      have hne : len ≠ 0 := Nat.ne_of_beq_eq_false h0
      cases hbe : Nat.beq es es' with
      | false => rw [hbe] at e; cases e
      | true =>
        rw [hbe] at e
        simp only [cond_true, cond_false, Option.bind_eq_some_iff, Option.some.injEq, Prod.mk.injEq] at e
        obtain ⟨cs, hcs, rfl, rfl⟩ := e
        obtain ⟨ha, _⟩ := hpos (by omega)
        obtain ⟨us, h1, h2, h3, h4⟩ := H.rd hcs hb
        refine ⟨rfl, us, ?_, h1, h2, h3⟩
        subst ha
        simp only [Builtin.firstCells]
        rw [← h3]
        exact loadCells_of h4
  · cases e

theorem wrap64_small {n : Int} (h0 : 0 ≤ n) (h1 : n ≤ 140737488355328) : IntKind.i64.wrap n = n := by
  have h2 : n % (2 ^ 64 : Int) = n := Int.emod_eq_of_lt h0 (by omega)
  show (if (true && decide (n % (2 ^ 64 : Int) ≥ (2 ^ 63 : Int))) = true then n % (2 ^ 64 : Int) - 2 ^ 64 else n % (2 ^ 64 : Int)) = n
  simp only [h2, Bool.true_and, decide_eq_true_eq]
  rw [if_neg (by omega)]

theorem nextcap_fits {need old bytes : Nat} (h : old < need) (hb : need * bytes ≤ 140737488355328) (hn : need ≤ 4611686018427387904) : ¬ (Builtin.nextslicecap need old * bytes > 2 ^ 48) := by
  have := growslice_fits h hb
  omega

/-- Append, where there is room. -/
theorem append_room {w : World} {t : TypeId} {ts : Array TypeId} {ty e : TypeId} {es : Nat} (ht : P.underlying t = some (.slice e)) (hs : (P.info? e).map (·.size) = some es)
    {base : Option Addr} {len c : Nat} {v : Value} {n : Nat} {us : List Value} (hts : ts[0]? = some t)
    (hz : (ts[1]? = none) ∨ ∃ u d, ts[1]? = some u ∧ P.underlying u = some d ∧ (∀ k, d ≠ .int k))
    (hlen : (Builtin.lenOf v).run P w = .ok n w) (hnews : (Builtin.firstCells es n v).run P w = .ok us.toArray w) (hroom : len + n ≤ c) :
    (Builtin.append_ ts ty #[.slice base len c, v]).run P w = (match base with | some a => (storeCells (a.add (len * es)) us).run P w | none => .ok () w).andThen fun _ w' => .ok (.slice base (len + n) c) w' := by
  have hs' := run_sizeOf' w hs
  rcases hz with hz | ⟨u, d, hz, hu, hd⟩
  · cases base <;> simp [Builtin.append_, hts, hz, run_underlying ht, hs', hlen, hroom, hnews]
  · have hm : (match d with | .int _ => true | _ => false) = false := by cases d <;> first | rfl | exact (hd _ rfl).elim
    cases base <;> simp [Builtin.append_, hts, hz, run_underlying ht, run_underlying hu, hm, hs', hlen, hroom, hnews]

/-- Append, where there is no room. -/
theorem append_grow {w : World} {t : TypeId} {ts : Array TypeId} {ty e : TypeId} {es bytes : Nat} {z : Value} (ht : P.underlying t = some (.slice e)) (hs : (P.info? e).map (·.size) = some es) (hby : (P.info? e).map (·.bytes) = some bytes)
    (hzv : ∀ w, (zeroValue e).run P w = .ok z w)
    {base : Option Addr} {len c : Nat} {v : Value} {n : Nat} {us old : List Value} (hts : ts[0]? = some t)
    (hz : (ts[1]? = none) ∨ ∃ u d, ts[1]? = some u ∧ P.underlying u = some d ∧ (∀ k, d ≠ .int k))
    (hlen : (Builtin.lenOf v).run P w = .ok n w) (hold : (Builtin.firstCells es len (.slice base len c)).run P w.drew = .ok old.toArray w.drew) (hnews : (Builtin.firstCells es n v).run P w.drew = .ok us.toArray w.drew) (hroom : ¬ len + n ≤ c)
    (hfit : (len + n) * bytes ≤ 140737488355328) (hmost : len + n ≤ 4611686018427387904) :
    ∃ cap, len + n ≤ cap ∧ (Builtin.append_ ts ty #[.slice base len c, v]).run P w =
      .ok (.slice (some ⟨w.heap.size, 0, none⟩) (len + n) cap) (w.drew.alloc (.cells (old.toArray ++ us.toArray ++ Builtin.zeroCells z.cells (cap - (len + n))) e)) := by
  have hs' : ∀ w, (sizeOf e).run P w = .ok es w := fun w => run_sizeOf' w hs
  obtain ⟨i, hi, hib⟩ : ∃ i, P.info? e = some i ∧ i.bytes = bytes := by
    cases hi : P.info? e with
    | none => rw [hi] at hby; cases hby
    | some i => rw [hi] at hby; exact ⟨i, rfl, by simpa using hby⟩
  have hti : ∀ w, (typeInfo e).run P w = .ok i w := fun w => run_typeInfo w hi
  have h2 := nextcap_fits (old := c) (by omega) hfit hmost
  refine ⟨(Question.appendCap (len + n) c e).cut (w.tape w.drawn (.appendCap (len + n) c e)), by simp [Question.cut], ?_⟩
  have hq : (choose (.appendCap (len + n) c e)).run P w = .ok ((Question.appendCap (len + n) c e).cut (w.tape w.drawn (.appendCap (len + n) c e))) w.drew := by
    rw [run_choose]; simp [Question.forced]
  have h64 : ¬ (((len + n : Nat) : Int) > IntKind.i64.max ∧ (False ∨ bytes = 0)) := by
    intro h3
    have : ((len + n : Nat) : Int) > 9223372036854775807 := h3.1
    omega
  rcases hz with hz | ⟨u, d, hz, hu, hd⟩
  · simp only [Builtin.append_, List.getElem?_toArray, List.getElem?_cons_zero, List.getElem?_cons_succ, hts, hz, Sem.run_bind, run_underlying ht, hs', Result.andThen_ok, Sem.run_pure, hlen, Bool.false_eq_true, if_false, hroom, hti, hib]
    rw [if_neg h64]
    simp only [Sem.run_bind, hti, Result.andThen_ok, hib]
    rw [if_neg h2]
    simp only [Sem.run_bind, hti, Result.andThen_ok, hq, run_askRoom, hold, Bool.not_false, if_true, hnews, hzv, newRow, run_newObj, Sem.run_pure]
    rfl
  · have hm : (match d with | .int _ => true | _ => false) = false := by cases d <;> first | rfl | exact (hd _ rfl).elim
    simp only [Builtin.append_, List.getElem?_toArray, List.getElem?_cons_zero, List.getElem?_cons_succ, hts, hz, Sem.run_bind, run_underlying ht, run_underlying hu, hm, hs', Result.andThen_ok, Sem.run_pure, hlen, Bool.false_eq_true, if_false, hroom, hti, hib]
    rw [if_neg h64]
    simp only [Sem.run_bind, hti, Result.andThen_ok, hib]
    rw [if_neg h2]
    simp only [Sem.run_bind, hti, Result.andThen_ok, hq, run_askRoom, hold, Bool.not_false, if_true, hnews, hzv, newRow, run_newObj, Sem.run_pure]
    rfl

/-- The zeros that 'append(s, make(..)..)' lays. -/
theorem zeros_room {w : World} {t u : TypeId} {ik : IntKind} {ts : Array TypeId} {ty e : TypeId} {es bytes : Nat} {z : Value} (ht : P.underlying t = some (.slice e)) (hs : (P.info? e).map (·.size) = some es) (hby : (P.info? e).map (·.bytes) = some bytes)
    (hzv : ∀ w, (zeroValue e).run P w = .ok z w) (hzs : z.cells.size = es)
    {base : Option Addr} {len c : Nat} {k : Int} (hts : ts[0]? = some t) (hz : ts[1]? = some u) (hu : P.underlying u = some (.int ik))
    (h0 : 0 ≤ k) (h1 : k ≤ 140737488355328) (hkb : k * bytes ≤ 140737488355328) (hroom : len + k.toNat ≤ c) :
    (Builtin.append_ ts ty #[.slice base len c, .int .i64 k]).run P w = (match base with | some a => (storeCells (a.add (len * es)) (repsV z.cells.toList k.toNat)).run P w | none => .ok () w).andThen fun _ w' => .ok (.slice base (len + k.toNat) c) w' := by
  have hs' : ∀ w, (sizeOf e).run P w = .ok es w := fun w => run_sizeOf' w hs
  obtain ⟨i, hi, hib⟩ : ∃ i, P.info? e = some i ∧ i.bytes = bytes := by
    cases hi : P.info? e with
    | none => rw [hi] at hby; cases hby
    | some i => rw [hi] at hby; exact ⟨i, rfl, by simpa using hby⟩
  have hti : ∀ w, (typeInfo e).run P w = .ok i w := fun w => run_typeInfo w hi
  have hw := wrap64_small h0 h1
  have hz0 : ¬ k < 0 := by omega
  have hb0 : ¬ k * (bytes : Int) > 2 ^ 48 := by omega
  have happ : ∀ w, (if k.toNat * es = 0 then (pure #[] : Sem (Array Value)) else do pure (Builtin.zeroCells (← zeroValue e).cells k.toNat)).run P w = .ok (repsV z.cells.toList k.toNat).toArray w := by
    intro w
    split
    · rename_i hh
      have : repsV z.cells.toList k.toNat = [] := List.eq_nil_of_length_eq_zero (by rw [repsV_length]; simpa [hzs] using hh)
      rw [this]; rfl
    · simp only [Sem.run_bind, hzv, Result.andThen_ok, Sem.run_pure]
      congr 1
      apply Array.ext'
      rw [zeroCells_eq]
  simp only [Builtin.append_, List.getElem?_toArray, List.getElem?_cons_zero, List.getElem?_cons_succ, hts, hz, Sem.run_bind, run_underlying ht, run_underlying hu, hs', Result.andThen_ok, Sem.run_pure, asInt, asIntOf, hw, if_true, hz0, if_false, hti, hib]
  rw [if_neg hb0]
  simp only [Sem.run_bind, Sem.run_pure, Result.andThen_ok]
  rw [if_pos hroom]
  cases base <;> simp only [Sem.run_bind, Bool.not_true, Bool.false_eq_true, if_false, happ, Result.andThen_ok, Sem.run_pure, List.toList_toArray]

theorem zeros_grow {w : World} {t u : TypeId} {ik : IntKind} {ts : Array TypeId} {ty e : TypeId} {es bytes : Nat} {z : Value} (ht : P.underlying t = some (.slice e)) (hs : (P.info? e).map (·.size) = some es) (hby : (P.info? e).map (·.bytes) = some bytes)
    (hzv : ∀ w, (zeroValue e).run P w = .ok z w) (hzs : z.cells.size = es)
    {base : Option Addr} {len c : Nat} {k : Int} {old : List Value} (hts : ts[0]? = some t) (hz : ts[1]? = some u) (hu : P.underlying u = some (.int ik))
    (h0 : 0 ≤ k) (h1 : k ≤ 140737488355328) (hkb : k * bytes ≤ 140737488355328) (hroom : ¬ len + k.toNat ≤ c)
    (hold : (Builtin.firstCells es len (.slice base len c)).run P w.drew = .ok old.toArray w.drew)
    (hfit : (len + k.toNat) * bytes ≤ 140737488355328) (hmost : len + k.toNat ≤ 4611686018427387904) :
    ∃ cap, len + k.toNat ≤ cap ∧ (Builtin.append_ ts ty #[.slice base len c, .int .i64 k]).run P w =
      .ok (.slice (some ⟨w.heap.size, 0, none⟩) (len + k.toNat) cap) (w.drew.alloc (.cells (old.toArray ++ (repsV z.cells.toList k.toNat).toArray ++ Builtin.zeroCells z.cells (cap - (len + k.toNat))) e)) := by
  have hs' : ∀ w, (sizeOf e).run P w = .ok es w := fun w => run_sizeOf' w hs
  obtain ⟨i, hi, hib⟩ : ∃ i, P.info? e = some i ∧ i.bytes = bytes := by
    cases hi : P.info? e with
    | none => rw [hi] at hby; cases hby
    | some i => rw [hi] at hby; exact ⟨i, rfl, by simpa using hby⟩
  have hti : ∀ w, (typeInfo e).run P w = .ok i w := fun w => run_typeInfo w hi
  have hw := wrap64_small h0 h1
  have hz0 : ¬ k < 0 := by omega
  have hb0 : ¬ k * (bytes : Int) > 2 ^ 48 := by omega
  have happ : ∀ w, (if k.toNat * es = 0 then (pure #[] : Sem (Array Value)) else do pure (Builtin.zeroCells (← zeroValue e).cells k.toNat)).run P w = .ok (repsV z.cells.toList k.toNat).toArray w := by
    intro w
    split
    · rename_i hh
      have : repsV z.cells.toList k.toNat = [] := List.eq_nil_of_length_eq_zero (by rw [repsV_length]; simpa [hzs] using hh)
      rw [this]; rfl
    · simp only [Sem.run_bind, hzv, Result.andThen_ok, Sem.run_pure]
      congr 1
      apply Array.ext'
      rw [zeroCells_eq]
  have h2 := nextcap_fits (old := c) (by omega) hfit hmost
  refine ⟨(Question.appendCap (len + k.toNat) c e).cut (w.tape w.drawn (.appendCap (len + k.toNat) c e)), by simp [Question.cut], ?_⟩
  have hq : (choose (.appendCap (len + k.toNat) c e)).run P w = .ok ((Question.appendCap (len + k.toNat) c e).cut (w.tape w.drawn (.appendCap (len + k.toNat) c e))) w.drew := by
    rw [run_choose]; simp [Question.forced]
  have h64 : ¬ (((len + k.toNat : Nat) : Int) > IntKind.i64.max ∧ (True ∨ bytes = 0)) := by
    intro h3
    have : ((len + k.toNat : Nat) : Int) > 9223372036854775807 := h3.1
    omega
  simp only [Builtin.append_, List.getElem?_toArray, List.getElem?_cons_zero, List.getElem?_cons_succ, hts, hz, Sem.run_bind, run_underlying ht, run_underlying hu, hs', Result.andThen_ok, Sem.run_pure, asInt, asIntOf, hw, if_true, hz0, if_false, hti, hib]
  rw [if_neg hb0]
  simp only [Sem.run_bind, Sem.run_pure, Result.andThen_ok]
  rw [if_neg hroom]
  simp only [Sem.run_bind, hti, Result.andThen_ok, hib]
  rw [if_neg h64]
  simp only [Sem.run_bind, hti, Result.andThen_ok, hib]
  rw [if_neg h2]
  simp only [Sem.run_bind, hti, Result.andThen_ok, hq, run_askRoom, hold, Bool.not_true, Bool.false_eq_true, if_false, happ, hzv, newRow, run_newObj, Sem.run_pure]
  rfl

end
end Go.Fw
