/- The map's operations. -/
import Derived.Test.YtllogmedpmanoaaMapA
import Derived.Test.YtllogmedpmanoaaProg
import Derived.KernelRfl
namespace Go.Fw
set_option linter.unusedSimpArgs false
set_option linter.unusedVariables false
open Go.ChangeMaps (setBlock)

noncomputable abbrev PP : Program := Go.Proofs.Try.prog
abbrev Tx2 : Type := List UInt8 × List UInt8
def kv (k : Tx2) : Value := .agg #[.string ⟨k.1.toArray⟩, .string ⟨k.2.toArray⟩]
def ent (p : (Tx2 × Int) × Nat) : MapEntry := { key := kv p.1.1, val := .int .i64 p.1.2, born := p.2 }
def entL (L : List (Tx2 × Int)) (i : Nat) : List MapEntry := (L.zipIdx i).map ent
def ents (L : List (Tx2 × Int)) : Array MapEntry := (entL L 0).toArray
def MapAt (w : World) (r : Nat) (L : List (Tx2 × Int)) : Prop := w.heap[r]? = some (.map (ents L) L.length)

theorem flat36 : flatK PP 20 36 = some [2, 2] := by kernel_rfl
theorem under36 (l : List Value) : valOf PP 36 l = some (.agg l.toArray) := by kernel_rfl
theorem under34 : PP.underlying 34 = some (.map 36 3) := by kernel_rfl

theorem kv_rel (k : Tx2) : VRels (fun _ => none) [.str k.1, .str k.2] [.string ⟨k.1.toArray⟩, .string ⟨k.2.toArray⟩] := by
  simp only [VRels, vrel_str, and_true]
theorem kv_eq (k j : Tx2) (w : World) : (Op.equal 36 (kv k) (kv j)).run PP w = .ok (k == j) w := by
  have h := run_flat (P := PP) w (φ := fun _ => none) 20 (Op.maxDepth - 20) 36 [2, 2] flat36 [.str k.1, .str k.2] [.str j.1, .str j.2] _ _ (kv k) (kv j) (k.1 == j.1 && k.2 == j.2) (kv_rel k) (kv_rel j) (under36 _) (under36 _) (by simp [cellsEq])
  exact h
theorem check_ok (e : Bool) (k : Tx2) (w : World) : (Instr.checkKey e 10000 36 (kv k)).run PP w = .ok () w := by
  kernel_rfl
theorem zero3 (w : World) : (zeroValue 3).run PP w = .ok (.int .i64 0) w := by kernel_rfl
theorem und34 (w : World) : (underlying 34).run PP w = .ok (.map 36 3) w := by kernel_rfl
theorem und36 (w : World) : (underlying 36).run PP w = .ok (.struct (PP.fieldsOf 36)) w := by kernel_rfl
theorem same_self (k : Tx2) : Instr.sameBits 10000 (kv k) (kv k) = true := by
  have e : ∀ l : List UInt8, ((⟨l.toArray⟩ : ByteArray) == ⟨l.toArray⟩) = true := fun l => by rw [beq_toListBytes]; exact beq_self_eq_true _
  simp [Instr.sameBits, kv, e]

/-- Where a key lies, and its count. -/
def idxOf (k : Tx2) : List (Tx2 × Int) → Nat → Option (Nat × Int)
  | [], _ => none
  | e :: L, i => bif k == e.1 then some (i, e.2) else idxOf k L (i + 1)

theorem asking (k : Tx2) (w : World) : ∀ (L : List (Tx2 × Int)) (b i : Nat), (Instr.findAsking 36 (kv k) (entL L b) i).run PP w = .ok ((idxOf k L i).map fun p => (p.1, .int .i64 p.2)) w
  | [], _, _ => rfl
  | e :: L, b, i => by
    have ih := asking k w L (b + 1) (i + 1)
    unfold entL at *
    rw [List.zipIdx_cons, List.map_cons]
    unfold Instr.findAsking
    simp only [Sem.run_bind, ent, kv_eq, Result.andThen_ok, idxOf]
    cases h : k == e.1 with
    | true => rfl
    | false => simpa using ih
theorem findKey_ok (k : Tx2) (w : World) (L : List (Tx2 × Int)) : (Instr.findKey 36 (kv k) (ents L).toList).run PP w = .ok ((idxOf k L 0).map fun p => (p.1, .int .i64 p.2)) w := by
  unfold Instr.findKey
  simp only [Sem.run_bind, und36, Result.andThen_ok]
  generalize PP.fieldsOf 36 = fs
  cases L with
  | nil => rfl
  | cons e L =>
    have : Instr.findNow (.struct fs) (kv k) (ents (e :: L)).toList 0 = none := rfl
    rw [this]
    exact asking k w _ 0 0

def cntOf (k : Tx2) (L : List (Tx2 × Int)) : Int := ((idxOf k L 0).map (·.2)).getD 0
theorem lookup_run {w : World} {r : Nat} {L : List (Tx2 × Int)} (M : MapAt w r L) (k : Tx2) : (Instr.lookup 34 (.map (some r)) (kv k) false).run PP w = .ok (.int .i64 (cntOf k L)) w := by
  unfold MapAt at M
  simp only [Instr.lookup, Sem.run_bind, und34, Result.andThen_ok, getObj, Sem.run, M, check_ok, findKey_ok]
  unfold cntOf
  simp only [Sem.run_pure, Result.andThen_ok, findKey_ok]
  cases idxOf k L 0 with
  | none => simp [Sem.run_bind, zero3]
  | some p => simp

/-- A place for a key. -/
def placed (k : Tx2) (L : List (Tx2 × Int)) : List (Tx2 × Int) := match idxOf k L 0 with | some _ => L | none => L ++ [(k, 0)]
def placeOf (k : Tx2) (L : List (Tx2 × Int)) : Nat := match idxOf k L 0 with | some p => p.1 | none => L.length
theorem idxOf_spec (k : Tx2) : ∀ (L : List (Tx2 × Int)) (i : Nat) (p : Nat × Int), idxOf k L i = some p → ∃ j, p.1 = i + j ∧ L[j]? = some (k, p.2)
  | [], i, p, h => by simp [idxOf] at h
  | e :: L, i, p, h => by
    unfold idxOf at h
    cases hk : k == e.1 with
    | true =>
      rw [hk] at h
      cases h
      refine ⟨0, rfl, ?_⟩
      have := eq_of_beq hk
      simp [this]
    | false =>
      rw [hk] at h
      obtain ⟨j, h1, h2⟩ := idxOf_spec k L (i + 1) p h
      exact ⟨j + 1, by omega, by simpa using h2⟩
theorem ents_get (L : List (Tx2 × Int)) (i : Nat) : (ents L)[i]? = (L[i]?).map fun e => ent (e, i) := by
  simp [ents, entL]
  rfl
theorem ents_app (L : List (Tx2 × Int)) (e : Tx2 × Int) : ents (L ++ [e]) = (ents L).push (ent (e, L.length)) := by
  simp [ents, entL, List.zipIdx_append]
theorem mapEntry_run {w : World} {r : Nat} {L : List (Tx2 × Int)} (M : MapAt w r L) (k : Tx2) : ∃ v, (Instr.mapEntry 34 (.map (some r)) (kv k)).run PP w = .ok (.tuple #[v, .int .i64 (placeOf k L)]) (setBlock w r (.map (ents (placed k L)) (placed k L).length)) := by
  have hM := M
  unfold MapAt at M
  have so : ∀ o' : Obj, (setObj r o').run PP w = .ok () (setBlock w r o') := fun o' => by simp [setObj, Sem.run, M, setBlock]
  simp only [Instr.mapEntry, Sem.run_bind, und34, Result.andThen_ok, getObj, Sem.run, M, check_ok, findKey_ok]
  unfold placed placeOf
  cases hi : idxOf k L 0 with
  | none =>
    refine ⟨.int .i64 0, ?_⟩
    simp only [Option.map_none, Sem.run_bind, zero3, Result.andThen_ok, so]
    simp only [Sem.run_pure, goInt, ents_app, List.length_append, List.length_singleton]
    rfl
  | some p =>
    obtain ⟨j, h1, h2⟩ := idxOf_spec k L 0 p hi
    rw [Nat.zero_add] at h1
    have hg := ents_get L p.1
    rw [h1, h2] at hg
    refine ⟨.int .i64 p.2, ?_⟩
    simp only [Option.map_some, h1, hg, Option.getD_some, ent, Instr.keyThatStays, same_self, if_true, Sem.run_bind, Sem.run_pure, Result.andThen_ok, so]
    have hm : (ents L).modify j (fun e => { e with key := kv k }) = ents L := by
      apply Array.ext_getElem?
      intro i
      rw [Array.getElem?_modify]
      split
      · rename_i e
        subst e
        rw [hg]
        rfl
      · rfl
    rw [hm]
    rfl
theorem store_run {w : World} {r : Nat} {L : List (Tx2 × Int)} (M : MapAt w r L) (p : Nat) (hp : p < L.length) (v : Int) :
    (Instr.entryStore 34 (.map (some r)) (.int .i64 p) (.int .i64 v)).run PP w = .ok () (setBlock w r (.map (ents (L.set p (L[p].1, v))) L.length)) := by
  unfold MapAt at M
  have so : ∀ o' : Obj, (setObj r o').run PP w = .ok () (setBlock w r o') := fun o' => by simp [setObj, Sem.run, M, setBlock]
  have hf : (ents L).findIdx? (fun e => (e.born : Int) == (p : Int)) = some p := by
    rw [Array.findIdx?_eq_some_iff_getElem]
    refine ⟨by simpa [ents, entL] using hp, ?_, ?_⟩
    · simp [ents, entL, ent]
    · intro j hj
      simp [ents, entL, ent]
      omega
  simp only [Instr.entryStore, Sem.run_bind, Result.andThen_ok, getObj, Sem.run, M, asInt, asIntOf, Sem.run_pure, hf, so]
  congr 3
  apply Array.ext_getElem?
  intro i
  rw [Array.getElem?_modify, ents_get, ents_get, List.getElem?_set]
  by_cases e : p = i
  · subst e
    simp [hp, ent]
  · simp [e]
theorem make_run (w : World) : (Instr.makeMap 34 none).run PP w = .ok (.map (some w.heap.size)) (w.alloc (.map #[] 0)) := by
  kernel_rfl
theorem range_run {w : World} {r : Nat} {L : List (Tx2 × Int)} (M : MapAt w r L) : (Instr.range 34 (.map (some r))).run PP w = .ok (.pointer (some ⟨w.heap.size, 0, none⟩)) (w.alloc (.mapIter (some r) L.length #[] L.length)) := by
  unfold MapAt at M
  simp only [Instr.range, Sem.run_bind, und34, Result.andThen_ok, getObj, Sem.run, M]
  rfl
end Go.Fw
