/- Chapter 7: what the functions answer. -/
import Derived.Test.YtdikkeicdofdiaaCode
import Derived.Test.YtdikkeicdofdiaaFwZg
namespace Go.Proofs.Ytdikkeicdofdiaa.Code
open Go.Fw

/-- Clocks in memory: the row at b, its owner behind it. -/
structure Ck (b : Nat) (l : List Int) (h : Heap) : Prop where
  row : h.blk b = some ⟨l.map (.int .i64), true⟩
  own : h.blk (b + 1) = some ⟨[.slice b 0 l.length l.length 1 true], true⟩

def rowB (l : List Int) : Option Blk := some ⟨l.map (.int .i64), true⟩

theorem Ck.rd {b : Nat} {l : List Int} {h : Heap} (C : Ck b l h) : h.rd (b + 1) 0 1 = some [.slice b 0 l.length l.length 1 true] := rd_of C.own 0 1 (by simp)
theorem Ck.ints {b : Nat} {l : List Int} {h : Heap} (C : Ck b l h) : Ints .i64 (.slice b 0 l.length l.length 1 true) h l := by
  refine .inr ⟨b, 0, l.length, true, rfl, ?_⟩
  rw [rd_of C.row 0 _ (by simp)]
  simp [← List.map_take]
theorem Ck.set {b : Nat} {l : List Int} {h : Heap} (C : Ck b l h) (l' : List Int) (hl : l'.length = l.length) : Ck b l' (h.setBlk b (rowB l')) where
  row := setBlk_same _ _ _
  own := by rw [setBlk_ne _ _ (by omega), C.own, hl]
theorem Ck.mono {b : Nat} {l : List Int} {h h' : Heap} (C : Ck b l h) (hh : ∀ i, i < h.next → h'.blk i = h.blk i) (hb : b + 1 < h.next) : Ck b l h' := ⟨by rw [hh _ (by omega)]; exact C.row, by rw [hh _ hb]; exact C.own⟩

def have_ (l : List Int) (k : Int) : Bool := decide (0 ≤ k) && decide (k < l.length)
def now (l : List Int) (k : Int) : Int := if have_ l k then l.getD k.toNat 0 else 0

theorem new_ok (n : Int) (h1 : 1 ≤ n) (h6 : n ≤ 6) (h : Heap) : ∃ h', E tbl 10 [.int .i64 n] h = some (.ptr (h.next + 1) 0, h') ∧ Ck h.next (List.replicate n.toNat 0) h' ∧ h'.next = h.next + 2 ∧ ∀ i, i < h.next → h'.blk i = h.blk i := by
  have e : reps [AVal.int .i64 0] n.toNat = (List.replicate n.toNat (0 : Int)).map (.int .i64) := by
    generalize n.toNat = m
    induction m with
    | zero => rfl
    | succ m ih => simp [reps, List.replicate_succ, ih]
  refine ⟨(h.alloc (reps [AVal.int .i64 0] n.toNat)).alloc [.slice h.next 0 n.toNat n.toNat 1 true], ?_, ⟨?_, ?_⟩, by simp, ?_⟩
  · have a1 : ¬ n < 1 := by omega
    have a2 : ¬ n > 6 := by omega
    have a3 : (0 ≤ n ∧ n ≤ n ∧ n * 8 ≤ 140737488355328 ∧ n ≤ 4611686018427387904) := by omega
    rw [c10]
    have f1 : aFill [AVal.nilSlice] [(0, 1, .slice h.next 0 n.toNat n.toNat 1 true)] = some [.slice h.next 0 n.toNat n.toNat 1 true] := rfl
    simp [S10, a1, a2, aMkSlice, a3, f1]
  · rw [alloc_old _ _ (by simp), alloc_same, e]
  · simp only [List.length_replicate]
    exact alloc_same (h.alloc _) _
  · intro i hi
    rw [alloc_old _ _ (by simp; omega), alloc_old _ _ (by omega)]

theorem new_bad (n : Int) (hn : n < 1 ∨ 6 < n) (h : Heap) : E tbl 10 [.int .i64 n] h = some (.nilPtr, h) := by
  rw [c10]
  by_cases a1 : n < 1
  · simp [S10, a1]
  · have a2 : n > 6 := by omega
    simp [S10, a1, a2]

section
variable {b : Nat} {l : List Int} {h : Heap} (C : Ck b l h)
include C

theorem there_eq (k : Int) : E tbl 14 [.ptr (b + 1) 0, .int .i64 k] h = some (.bool (have_ l k), h) := by
  rw [c14]
  unfold have_
  by_cases a1 : 0 ≤ k <;> simp [S14, a1, C.rd, aLen]

theorem now_eq (k : Int) : E tbl 12 [.ptr (b + 1) 0, .int .i64 k] h = some (.int .i64 (now l k), h) := by
  rw [c12]
  unfold now
  cases hh : have_ l k with
  | false => simp [S12, there_eq C, hh]
  | true =>
    have hh' := hh
    simp only [have_, Bool.and_eq_true, decide_eq_true_eq] at hh'
    obtain ⟨p, e1, e2⟩ := C.ints.at k.toNat (by omega)
    have ek : ((k.toNat : Nat) : Int) = k := by omega
    rw [ek] at e1
    generalize l.getD k.toNat 0 = x at e2
    simp [S12, there_eq C, hh, C.rd, e1, e2]

theorem tick_range (k n : Int) (hk : have_ l k = false) : E tbl 11 [.ptr (b + 1) 0, .int .i64 k, .int .i64 n] h = some (.int .i64 23, h) := by
  rw [c11]
  simp [S11, there_eq C, hk]

theorem tick_arg (k n : Int) (hk : have_ l k = true) (hn : n < 1 ∨ 1024 < n) : E tbl 11 [.ptr (b + 1) 0, .int .i64 k, .int .i64 n] h = some (.int .i64 1, h) := by
  rw [c11]
  by_cases a1 : n < 1
  · simp [S11, there_eq C, hk, a1]
  · have a2 : n > 1024 := by omega
    simp [S11, there_eq C, hk, a1, a2]

theorem tick_ok (k n : Int) (hk : have_ l k = true) (h1 : 1 ≤ n) (h2 : n ≤ 1024) : E tbl 11 [.ptr (b + 1) 0, .int .i64 k, .int .i64 n] h = some (.int .i64 0, h.setBlk b (rowB (l.set k.toNat (IntKind.i64.wrap (l.getD k.toNat 0 + n))))) := by
  rw [c11]
  have a1 : ¬ n < 1 := by omega
  have a2 : ¬ n > 1024 := by omega
  have hh' := hk
  simp only [have_, Bool.and_eq_true, decide_eq_true_eq] at hh'
  have hr : h.rd b k.toNat 1 = some [.int .i64 (l.getD k.toNat 0)] := by
    rw [rd_of C.row _ _ (by simp; omega)]
    simp only [Option.some.injEq]
    have hlt : k.toNat < l.length := by omega
    rw [List.drop_eq_getElem_cons (by simpa using hlt)]
    simp [List.getD_eq_getElem?_getD, List.getElem?_eq_getElem hlt]
  have hw : ∀ x, h.wr b k.toNat [.int .i64 x] = some (h.setBlk b (rowB (l.set k.toNat x))) := by
    intro x
    rw [wr_of C.row _ _ (by simp; omega)]
    simp only [Option.some.injEq]
    unfold rowB
    rw [splice_set (by simp; omega), List.map_set]
  generalize l.getD k.toNat 0 = x at *
  simp [S11, there_eq C, hk, a1, a2, C.rd, aIaddr, aIdx, hh', hr, hw]

end

def maxL (x : Int) (l : List Int) : Int := l.foldl max x
def minL (x : Int) (l : List Int) : Int := l.foldl min x

theorem fold_eq {s : AVal} {l : List Int} {h : Heap} (I : Ints .i64 s h l) (h0 : l ≠ []) (hb : l.length ≤ 1000000) (op : Int → Int → Int) (mx : Bool) (L : List AVal → Heap → Option J)
    (hL : ∀ (x : Int) (i : Nat), L [s, .int .i64 x, .int .i64 i] h = (if i < l.length then some (0, [s, .int .i64 (op x (l.getD i 0)), .int .i64 ((i + 1 : Nat) : Int)], h) else some (1, [.int .i64 x], h))) :
    loop L [s, .int .i64 (l.getD 0 0), .int .i64 1] h = some (1, [.int .i64 ((l.drop 1).foldl op (l.getD 0 0))], h) := by
  have hl : 0 < l.length := List.length_pos_iff.2 h0
  obtain ⟨r, e, hr⟩ := loop_ok (f := L) (fun n xs h' => ∃ (i : Nat) (x : Int), i + n = l.length ∧ 1 ≤ i ∧ xs = [s, .int .i64 x, .int .i64 i] ∧ h' = h ∧ (l.drop i).foldl op x = (l.drop 1).foldl op (l.getD 0 0)) (fun r => r = (1, [.int .i64 ((l.drop 1).foldl op (l.getD 0 0))], h)) (by
    rintro n xs h' ⟨i, x, hn, hi, rfl, rfl, hm⟩
    by_cases q : i < l.length
    · left
      have hd : l.drop i = l.getD i 0 :: l.drop (i + 1) := by
        rw [List.drop_eq_getElem_cons q, List.getD_eq_getElem?_getD, List.getElem?_eq_getElem q]
        rfl
      rw [hd] at hm
      refine ⟨_, _, by rw [hL, if_pos q], n - 1, by omega, i + 1, op x (l.getD i 0), by omega, by omega, rfl, rfl, hm⟩
    · right
      have hd : l.drop i = [] := List.drop_eq_nil_of_le (by omega)
      rw [hd] at hm
      simp only [List.foldl_nil] at hm
      exact ⟨0, _, _, by rw [hL, if_neg q], by rw [hm]⟩) (l.length - 1) [s, .int .i64 (l.getD 0 0), .int .i64 1] h ⟨1, l.getD 0 0, by omega, Nat.le_refl _, rfl, rfl, rfl⟩
  rw [e, hr]

theorem max_eq {s : AVal} {l : List Int} {h : Heap} (I : Ints .i64 s h l) (h0 : l ≠ []) (hb : l.length ≤ 1000000) : E tbl 15 [s] h = some (.int .i64 (maxL (l.getD 0 0) (l.drop 1)), h) := by
  have hl : 0 < l.length := List.length_pos_iff.2 h0
  have e := fold_eq I h0 hb max true (L15_0 (E tbl)) (by
    intro x i
    split
    · rename_i q
      obtain ⟨p, e1, e2⟩ := I.at i q
      have q' : (i : Int) < l.length := by omega
      generalize l.getD i 0 = y at *
      simp [L15_0, I.len, q', e1, e2, wrap_succ i (by omega)]
    · rename_i q
      have q' : ¬ (i : Int) < l.length := by omega
      simp [L15_0, I.len, q'])
  rw [c15]
  obtain ⟨p, e1, e2⟩ := I.at 0 hl
  have a1 : ¬ (l.length : Int) < 1 := by omega
  have z : ((0 : Nat) : Int) = 0 := rfl
  rw [z] at e1
  unfold maxL
  generalize l.getD 0 0 = y at *
  simp [S15, I.len, a1, e1, e2, e]

theorem min_eq {s : AVal} {l : List Int} {h : Heap} (I : Ints .i64 s h l) (h0 : l ≠ []) (hb : l.length ≤ 1000000) : E tbl 16 [s] h = some (.int .i64 (minL (l.getD 0 0) (l.drop 1)), h) := by
  have hl : 0 < l.length := List.length_pos_iff.2 h0
  have e := fold_eq I h0 hb min true (L16_0 (E tbl)) (by
    intro x i
    split
    · rename_i q
      obtain ⟨p, e1, e2⟩ := I.at i q
      have q' : (i : Int) < l.length := by omega
      generalize l.getD i 0 = y at *
      simp [L16_0, I.len, q', e1, e2, wrap_succ i (by omega)]
    · rename_i q
      have q' : ¬ (i : Int) < l.length := by omega
      simp [L16_0, I.len, q'])
  rw [c16]
  obtain ⟨p, e1, e2⟩ := I.at 0 hl
  have a1 : ¬ (l.length : Int) < 1 := by omega
  have z : ((0 : Nat) : Int) = 0 := rfl
  rw [z] at e1
  unfold minL
  generalize l.getD 0 0 = y at *
  simp [S16, I.len, a1, e1, e2, e]

def mxOf (l : List Int) : Int := maxL (l.getD 0 0) (l.drop 1)
def mnOf (l : List Int) : Int := minL (l.getD 0 0) (l.drop 1)
def apart (l : List Int) : Int := IntKind.i64.wrap (mxOf l - mnOf l)

theorem apart_eq {b : Nat} {l : List Int} {h : Heap} (C : Ck b l h) (h0 : l ≠ []) (hb : l.length ≤ 1000000) : E tbl 13 [.ptr (b + 1) 0] h = some (.int .i64 (apart l), h) := by
  rw [c13]
  simp [S13, C.rd, max_eq C.ints h0 hb, min_eq C.ints h0 hb, checkPairs, lookLog, pairOk, stays, logRd, beq_dec, apart, mxOf, mnOf]

theorem within_eq (a lo hi : Int) (h0 : -1000000000 ≤ lo) (h1 : lo ≤ hi) (h2 : hi ≤ 1000000000) (h : Heap) : E tbl 9 [.int .i64 a, .int .i64 lo, .int .i64 hi] h = some (.int .i64 (within a lo hi), h) := by
  rw [c9]
  have e : S9 (E tbl) (.int .i64 a) (.int .i64 lo) (.int .i64 hi) h = some (0, [.int .i64 (within a lo hi)], h) := withinS_eq (E tbl) a lo hi h0 h1 h2 h
  rw [e]
  rfl

end Go.Proofs.Ytdikkeicdofdiaa.Code
