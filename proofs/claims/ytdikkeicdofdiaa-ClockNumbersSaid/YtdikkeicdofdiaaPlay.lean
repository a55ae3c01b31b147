/- Chapter 7: a run of ticks, beside times kept in a row of six. -/
import Derived.Test.YtdikkeicdofdiaaLaw
namespace Go.Proofs.Ytdikkeicdofdiaa.Code
open Go.Fw


/-- The row of six beside the clocks. -/
structure AR (l A : List Int) : Prop where
  len : A.length = 6
  le : l.length ≤ 6
  pos : 1 ≤ l.length
  at' : ∀ k, k < l.length → A.getD k 0 = l.getD k 0

theorem getD_set' (l : List Int) (i j : Nat) (x : Int) (hi : i < l.length) : (l.set i x).getD j 0 = if j = i then x else l.getD j 0 := by
  simp only [List.getD_eq_getElem?_getD, List.getElem?_set]
  by_cases h : i = j
  · subst h; simp [hi]
  · have : ¬ j = i := fun e => h e.symm
    simp [h, this]

theorem AR.set {l A : List Int} (R : AR l A) (k : Nat) (x : Int) (hk : k < l.length) : AR (l.set k x) (A.set k x) where
  len := by simp [R.len]
  le := by simp [R.le]
  pos := by simp [R.pos]
  at' := fun j hj => by
    have hj' : j < l.length := by simpa using hj
    have hA : k < A.length := by rw [R.len]; have := R.le; omega
    rw [getD_set' _ _ _ _ hk, getD_set' _ _ _ _ hA]
    split
    · rfl
    · exact R.at' j hj'

theorem AR.rd {l A : List Int} (R : AR l A) (k : Nat) (hk : k < 6) : rdL (A.map (.int .i64)) k 1 = some [.int .i64 (A.getD k 0)] := by
  apply rdL_one
  have : k < A.length := by rw [R.len]; exact hk
  simp [List.getElem?_map, List.getD_eq_getElem?_getD, List.getElem?_eq_getElem this]

theorem now_at {l : List Int} {k : Nat} (hk : k < l.length) : now l k = l.getD k 0 := by
  have : have_ l (k : Int) = true := by simp [have_, hk]
  simp [now, this]

theorem maxL_first (l : List Int) (hl : 1 ≤ l.length) : maxL (l.getD 0 0) l = maxL (l.getD 0 0) (l.drop 1) ∧ minL (l.getD 0 0) l = minL (l.getD 0 0) (l.drop 1) := by
  cases l with
  | nil => simp at hl
  | cons a l => simp [maxL, minL]

theorem inner_eq {b : Nat} {l A : List Int} {h : Heap} (C : Ck b l h) (R : AR l A) (sa sn : AVal) (i : Nat) :
    loop (L7_1 (E tbl)) [.int .i64 l.length, sa, sn, .ptr (b + 1) 0, .int .i64 i, .int .i64 (l.getD 0 0), .int .i64 (l.getD 0 0), .int .i64 0, .agg (A.map (.int .i64))] h =
      some (1, [.int .i64 l.length, sa, sn, .ptr (b + 1) 0, .int .i64 i, .int .i64 (mnOf l), .int .i64 (mxOf l), .agg (A.map (.int .i64))], h) := by
  obtain ⟨r, e, hr⟩ := loop_ok (f := L7_1 (E tbl)) (fun n xs h' => ∃ (k : Nat) (lo hi : Int), k + n = l.length ∧ xs = [.int .i64 l.length, sa, sn, .ptr (b + 1) 0, .int .i64 i, .int .i64 lo, .int .i64 hi, .int .i64 k, .agg (A.map (.int .i64))] ∧ h' = h ∧
      maxL hi (l.drop k) = maxL (l.getD 0 0) (l.drop 1) ∧ minL lo (l.drop k) = minL (l.getD 0 0) (l.drop 1))
      (fun r => r = (1, [.int .i64 l.length, sa, sn, .ptr (b + 1) 0, .int .i64 i, .int .i64 (mnOf l), .int .i64 (mxOf l), .agg (A.map (.int .i64))], h)) (by
    rintro n xs h' ⟨k, lo, hi, hn, rfl, rfl, hM, hm⟩
    by_cases q : k < l.length
    · left
      have q' : (k : Int) < l.length := by omega
      have hd : l.drop k = l.getD k 0 :: l.drop (k + 1) := by
        rw [List.drop_eq_getElem_cons q, List.getD_eq_getElem?_getD, List.getElem?_eq_getElem q]
        rfl
      rw [hd] at hM hm
      have k6 : k < 6 := by have := R.le; omega
      have e1 : aIdx 6 (.int .i64 (k : Int)) = some k := by rw [aIdx_of _ _ _ (by omega) (by omega)]; simp
      have e2 := R.rd k k6
      rw [R.at' k q] at e2
      have e3 := now_eq C (k : Int)
      rw [now_at q] at e3
      refine ⟨_, _, ?_, n - 1, by omega, k + 1, min lo (l.getD k 0), max hi (l.getD k 0), by omega, rfl, rfl, hM, hm⟩
      generalize l.getD k 0 = x at *
      simp [L7_1, q', e1, e2, e3, wrap_succ k (by omega), checkPairs]
    · right
      have q' : ¬ (k : Int) < l.length := by omega
      have hd : l.drop k = [] := List.drop_eq_nil_of_le (by omega)
      rw [hd] at hM hm
      simp only [maxL, minL, List.foldl_nil] at hM hm
      refine ⟨0, _, _, ?_, rfl⟩
      simp [L7_1, q', maxL, minL, mxOf, mnOf, hM, hm]) l.length _ h ⟨0, l.getD 0 0, l.getD 0 0, by omega, rfl, rfl, (maxL_first l R.pos).1, (maxL_first l R.pos).2⟩
  rw [hr] at e
  exact e

/-- One round. -/
theorem round_eq {h0 : Heap} {b : Nat} {l A : List Int} {h : Heap} (C : Ck b l h) (R : AR l A) {sa sn : AVal} {la ln : List Int} (Ia : Ints .i64 sa h la) (In : Ints .i64 sn h ln)
    (ba : ∀ c, slBlk sa = some c → c < h0.next) (bn : ∀ c, slBlk sn = some c → c < h0.next) (hb : h0.next ≤ b) (hn : b + 1 < h.next) (ho : ∀ c, c < h0.next → h.blk c = h0.blk c) (i : Nat) (h1 : i < la.length) (h2 : i < ln.length) (h3 : i < 60) :
    ∃ l' A' h', Ck b l' h' ∧ AR l' A' ∧ l'.length = l.length ∧ h'.next = h.next ∧ (∀ c, c < h0.next → h'.blk c = h0.blk c) ∧
      L7_0 (E tbl) [.int .i64 l.length, sa, sn, .ptr (b + 1) 0, .int .i64 i, .agg (A.map (.int .i64))] h = some (0, [.int .i64 l.length, sa, sn, .ptr (b + 1) 0, .int .i64 ((i + 1 : Nat) : Int), .agg (A'.map (.int .i64))], h') := by
  obtain ⟨p1, a1, l1⟩ := Ia.at i h1
  obtain ⟨p2, a2, l2⟩ := In.at i h2
  have q1 : ((i : Int) < (la.length : Int)) := by omega
  have q2 : ((i : Int) < (ln.length : Int)) := by omega
  have q3 : ((i : Int) < 60) := by omega
  have ws := wrap_succ i (by omega)
  have z0 : aIdx 6 (.int .i64 0) = some 0 := rfl
  have tail : ∀ (l' A' : List Int) (h' : Heap), Ck b l' h' → AR l' A' → l'.length = l.length →
      E tbl 13 [.ptr (b + 1) 0] h' = some (.int .i64 (apart l'), h') ∧ E tbl 12 [.ptr (b + 1) 0, .int .i64 l.length] h' = some (.int .i64 0, h') ∧ rdL (A'.map (.int .i64)) 0 1 = some [.int .i64 (l'.getD 0 0)] := by
    intro l' A' h' C' R' hl
    refine ⟨apart_eq C' (by intro e; have := R'.pos; rw [e] at this; simp at this) (by have := R'.le; omega), ?_, ?_⟩
    · have := now_eq C' (l.length : Int)
      have hh : have_ l' (l.length : Int) = false := by simp [have_, hl]
      rw [this]
      simp [now, hh]
    · rw [R'.rd 0 (by omega), R'.at' 0 (by have := R'.pos; omega)]
  have inn := fun (l' A' : List Int) (h' : Heap) (C' : Ck b l' h') (R' : AR l' A') => inner_eq C' R' sa sn i
  have l1s : ∀ (h' : Heap), (∀ c, c < h0.next → h'.blk c = h0.blk c) → aLoad h' 1 p1 = some [.int .i64 (la.getD i 0)] := by
    intro h' ho'
    obtain ⟨p, b1, b2⟩ := (Ia.mono (h' := h') fun c hc => by rw [ho c (ba c hc), ho' c (ba c hc)]).at i h1
    rw [a1] at b1
    cases b1
    exact b2
  generalize la.getD i 0 = x at *
  have l2s : ∀ (h' : Heap), (∀ c, c < h0.next → h'.blk c = h0.blk c) → aLoad h' 1 p2 = some [.int .i64 (ln.getD i 0)] := by
    intro h' ho'
    obtain ⟨p, b1, b2⟩ := (In.mono (h' := h') fun c hc => by rw [ho c (bn c hc), ho' c (bn c hc)]).at i h2
    rw [a2] at b1
    cases b1
    exact b2
  generalize ln.getD i 0 = y at *
  by_cases c1 : have_ l x = false
  · obtain ⟨t1, t2, t3⟩ := tail l A h C R rfl
    have tk := tick_range C x y c1
    have inn' := inn l A h C R
    refine ⟨l, A, h, C, R, rfl, rfl, ho, ?_⟩
    generalize l.getD 0 0 = z at *
    by_cases c2 : x < 0
    · simp [L7_0, Ia.len, In.len, q1, q2, q3, a1, l1, a2, l2, c2, tk, z0, t3, inn', t1, t2, apart, ws]
    · have c3 : (l.length : Int) ≤ x := by
        simp only [have_, Bool.and_eq_false_iff, decide_eq_false_iff_not] at c1
        omega
      simp [L7_0, Ia.len, In.len, q1, q2, q3, a1, l1, a2, l2, c2, c3, tk, z0, t3, inn', t1, t2, apart, ws]
  · have c1' : have_ l x = true := by simpa using c1
    have c2 := c1'
    simp only [have_, Bool.and_eq_true, decide_eq_true_eq] at c2
    have c3 : ¬ x < 0 := by omega
    have c4 : ¬ (l.length : Int) ≤ x := by omega
    by_cases d1 : y < 1 ∨ 1024 < y
    · obtain ⟨t1, t2, t3⟩ := tail l A h C R rfl
      have tk := tick_arg C x y c1' d1
      have inn' := inn l A h C R
      refine ⟨l, A, h, C, R, rfl, rfl, ho, ?_⟩
      generalize l.getD 0 0 = z at *
      by_cases d2 : y < 1
      · simp [L7_0, Ia.len, In.len, q1, q2, q3, a1, l1, a2, l2, c3, c4, d2, tk, z0, t3, inn', t1, t2, apart, ws]
      · have d3 : 1024 < y := by omega
        simp [L7_0, Ia.len, In.len, q1, q2, q3, a1, l1, a2, l2, c3, c4, d2, d3, tk, z0, t3, inn', t1, t2, apart, ws]
    · have d2 : ¬ y < 1 := by omega
      have d3 : ¬ 1024 < y := by omega
      have tk := tick_ok C x y c1' (by omega) (by omega)
      have xk : x.toNat < l.length := by omega
      obtain ⟨l', hl'⟩ : ∃ l', l' = l.set x.toNat (IntKind.i64.wrap (l.getD x.toNat 0 + y)) := ⟨_, rfl⟩
      obtain ⟨A', hA'⟩ : ∃ A', A' = A.set x.toNat (IntKind.i64.wrap (l.getD x.toNat 0 + y)) := ⟨_, rfl⟩
      have ll : l'.length = l.length := by simp [hl']
      have C' := C.set l' ll
      have R' := R.set x.toNat (IntKind.i64.wrap (l.getD x.toNat 0 + y)) xk
      rw [← hl', ← hA'] at R'
      have x6 : x.toNat < 6 := by have := R.le; omega
      have e1 : aIdx 6 (.int .i64 x) = some x.toNat := aIdx_of _ _ _ (by omega) (by have := R.le; omega)
      have e2 := R.rd x.toNat x6
      rw [R.at' _ xk] at e2
      have e3 : Nat.ble (x.toNat + 1) A.length = true := Nat.ble_eq_true_of_le (by rw [R.len]; omega)
      have e4 : splice (A.map (.int .i64)) x.toNat [.int .i64 (IntKind.i64.wrap (l.getD x.toNat 0 + y))] = A'.map (.int .i64) := by
        rw [splice_set (by simp [R.len]; omega), hA', List.map_set]
      rw [← hl'] at tk
      clear hl' hA'
      obtain ⟨t1, t2, t3⟩ := tail _ _ _ C' R' ll
      have inn' := inn _ _ _ C' R'
      have hob : ∀ c, c < h0.next → (h.setBlk b (rowB l')).blk c = h0.blk c := fun c hc => by rw [setBlk_ne _ _ (by omega)]; exact ho c hc
      rw [ll] at inn'
      refine ⟨l', A', h.setBlk b (rowB l'), C', R', ll, rfl, hob, ?_⟩
      have l1' := l1s _ hob
      have l2' := l2s _ hob
      generalize h.setBlk b (rowB l') = H at *
      generalize l'.getD 0 0 = z at *
      generalize l.getD x.toNat 0 = lx at *
      simp [L7_0, Ia.len, In.len, q1, q2, q3, a1, l1, a2, l2, l1', l2', c3, c4, d2, d3, tk, z0, t3, inn', t1, t2, apart, ws, e1, e2, e3, e4]

end Go.Proofs.Ytdikkeicdofdiaa.Code
