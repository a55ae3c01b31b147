/- Chapter 7: ClockPlays, ClockNumbers, ClockSums. -/
import Derived.Test.YtdikkeicdofdiaaLaws
namespace Go.Proofs.Ytdikkeicdofdiaa.Code
open Go.Fw

/-- What a loop that fills a row keeps. -/
structure Fill (h0 : Heap) (n : Nat) (s : AVal) (h : Heap) (l : List Int) : Prop where
  grow : Grow 1 s h h0.next n (l.map (.int .i64))
  next : h0.next ≤ h.next
  old : ∀ b, b < h0.next → h.blk b = h0.blk b

theorem plays0 (h0 : Heap) (a0 s2 : AVal) {s1 : AVal} {l1 : List Int} (I1 : Ints .i64 s1 h0 l1) (b1 : ∀ b, slBlk s1 = some b → b < h0.next) (hb : l1.length * 8 ≤ 140737488355328) :
    ∃ h' s' l', loop (L4_0 (E tbl)) [a0, s1, s2, .nilSlice, .nilSlice, .int .i64 l1.length, .int .i64 0] h0 = some (1, [a0, s1, s2, s', .nilSlice], h') ∧ Fill h0 l1.length s' h' l' := by
  obtain ⟨r, e, h', s', l', hr, F⟩ := loop_ok (f := L4_0 (E tbl)) (fun n xs h => ∃ (i : Nat) (s : AVal) (l : List Int), i + n = l1.length ∧ Fill h0 i s h l ∧ xs = [a0, s1, s2, s, .nilSlice, .int .i64 l1.length, .int .i64 i])
      (fun r => ∃ (h' : Heap) (s' : AVal) (l' : List Int), r = (1, [a0, s1, s2, s', .nilSlice], h') ∧ Fill h0 l1.length s' h' l') (by
    rintro n xs h ⟨i, s, l, hi, F, rfl⟩
    by_cases q : i < l1.length
    · left
      have q' : (i : Int) < l1.length := by omega
      have I := I1.mono (h' := h) fun b hb => F.old b (b1 b hb)
      obtain ⟨p, e1, e2⟩ := I.at i q
      generalize l1.getD i 0 = x at e2
      have e3 := within_eq x (-1) 6 (by omega) (by omega) (by omega) h
      generalize within x (-1) 6 = y at *
      obtain ⟨s', h', e4, G', n', o'⟩ := F.grow.one (bytes := 8) (zero := [.int .i64 0]) (news := [.int .i64 y]) F.next rfl (by omega) (by omega)
      have f1 : aFill (reps [AVal.int .i64 0] 1) [(0, 1, .int .i64 y)] = some [.int .i64 y] := rfl
      refine ⟨_, h', ?_, n - 1, by omega, i + 1, s', l ++ [y], by omega, ⟨by simpa using G', by have := F.next; omega, fun b hb => (o' b hb).trans (F.old b hb)⟩, rfl⟩
      simp [L4_0, q', e1, e2, e3, f1, e4, wrap_succ i (by omega)]
    · right
      have q' : ¬ (i : Int) < l1.length := by omega
      have : i = l1.length := by omega
      subst this
      exact ⟨0, _, h, by simp [L4_0], h, s, l, rfl, F⟩) l1.length _ h0 ⟨0, .nilSlice, [], by omega, ⟨Grow.nil 1 h0 h0.next, Nat.le_refl _, fun _ _ => rfl⟩, rfl⟩
  subst hr
  exact ⟨h', s', l', e, F⟩

theorem plays1 (h0 : Heap) (a0 s1 s3 : AVal) {s2 : AVal} {l2 : List Int} (I2 : Ints .i64 s2 h0 l2) (b2 : ∀ b, slBlk s2 = some b → b < h0.next) (hb : l2.length * 8 ≤ 140737488355328) :
    ∃ h' s' l', loop (L4_1 (E tbl)) [a0, s1, s2, s3, .nilSlice, .int .i64 l2.length, .int .i64 0] h0 = some (1, [a0, s1, s2, s3, s'], h') ∧ Fill h0 l2.length s' h' l' := by
  obtain ⟨r, e, h', s', l', hr, F⟩ := loop_ok (f := L4_1 (E tbl)) (fun n xs h => ∃ (i : Nat) (s : AVal) (l : List Int), i + n = l2.length ∧ Fill h0 i s h l ∧ xs = [a0, s1, s2, s3, s, .int .i64 l2.length, .int .i64 i])
      (fun r => ∃ (h' : Heap) (s' : AVal) (l' : List Int), r = (1, [a0, s1, s2, s3, s'], h') ∧ Fill h0 l2.length s' h' l') (by
    rintro n xs h ⟨i, s, l, hi, F, rfl⟩
    by_cases q : i < l2.length
    · left
      have q' : (i : Int) < l2.length := by omega
      have I := I2.mono (h' := h) fun b hb => F.old b (b2 b hb)
      obtain ⟨p, e1, e2⟩ := I.at i q
      generalize l2.getD i 0 = x at e2
      obtain ⟨y, e3, _, _⟩ := and_eq x 1023 (by omega) (by omega)
      obtain ⟨s', h', e4, G', n', o'⟩ := F.grow.one (bytes := 8) (zero := [.int .i64 0]) (news := [.int .i64 y]) F.next rfl (by omega) (by omega)
      have f1 : aFill (reps [AVal.int .i64 0] 1) [(0, 1, .int .i64 y)] = some [.int .i64 y] := rfl
      refine ⟨_, h', ?_, n - 1, by omega, i + 1, s', l ++ [y], by omega, ⟨by simpa using G', by have := F.next; omega, fun b hb => (o' b hb).trans (F.old b hb)⟩, rfl⟩
      simp [L4_1, q', e1, e2, e3, f1, e4, wrap_succ i (by omega)]
    · right
      have q' : ¬ (i : Int) < l2.length := by omega
      have : i = l2.length := by omega
      subst this
      exact ⟨0, _, h, by simp [L4_1], h, s, l, rfl, F⟩) l2.length _ h0 ⟨0, .nilSlice, [], by omega, ⟨Grow.nil 1 h0 h0.next, Nat.le_refl _, fun _ _ => rfl⟩, rfl⟩
  subst hr
  exact ⟨h', s', l', e, F⟩

theorem clockPlays_law (h0 : Heap) (a0 : Int) (_ : (Lit.int .i64 a0).wf = true) {s1 s2 : AVal} {l1 l2 : List Int} (I1 : Ints .i64 s1 h0 l1) (b1 : ∀ b, slBlk s1 = some b → b < h0.next) (_ : ∀ x ∈ l1, (Lit.int .i64 x).wf = true) (z1 : l1.length * 8 ≤ 140737488355328)
    (I2 : Ints .i64 s2 h0 l2) (b2 : ∀ b, slBlk s2 = some b → b < h0.next) (_ : ∀ x ∈ l2, (Lit.int .i64 x).wf = true) (z2 : l2.length * 8 ≤ 140737488355328) : ∃ h', E tbl 4 [.int .i64 a0, s1, s2] h0 = some (.bool true, h') := by
  obtain ⟨h1, s3, l3, e1, F1⟩ := plays0 h0 (.int .i64 a0) s2 I1 b1 z1
  have J2 := I2.mono (h' := h1) fun b hb => F1.old b (b2 b hb)
  have c2 : ∀ b, slBlk s2 = some b → b < h1.next := fun b hb => by have := b2 b hb; have := F1.next; omega
  obtain ⟨h2, s4, l4, e2, F2⟩ := plays1 h1 (.int .i64 a0) s1 s3 J2 c2 z2
  obtain ⟨y, e3, _, _⟩ := and_eq a0 7 (by omega) (by omega)
  have K3 := F1.grow.ints.1.mono (h' := h2) fun b hb => F2.old b (F1.grow.blk_lt b hb).2
  have d3 : ∀ b, slBlk s3 = some b → b < h2.next := fun b hb => by have := (F1.grow.blk_lt b hb).2; have := F2.next; omega
  obtain ⟨h3, p1, n3, o3⟩ := play_eq h2 (IntKind.i64.wrap (1 + y)) K3 F2.grow.ints.1 d3 (fun b hb => (F2.grow.blk_lt b hb).2)
  have o31 : ∀ b, b < h0.next → h3.blk b = h0.blk b := fun b hb => by
    have := F1.next; have := F2.next
    rw [o3 b (by omega), F2.old b (by omega), F1.old b hb]
  have M1 := I1.mono (h' := h3) fun b hb => o31 b (b1 b hb)
  have M2 := I2.mono (h' := h3) fun b hb => o31 b (b2 b hb)
  have n31 : h0.next ≤ h3.next := by have := F1.next; have := F2.next; omega
  obtain ⟨h4, p2, n4, o4⟩ := play_eq h3 a0 M1 M2 (fun b hb => Nat.lt_of_lt_of_le (b1 b hb) n31) (fun b hb => Nat.lt_of_lt_of_le (b2 b hb) n31)
  obtain ⟨h5, kn⟩ := known_eq h4
  refine ⟨h5, ?_⟩
  rw [c4]
  simp [S4, I1.len, e1, I2.len, e2, e3, p1, p2, kn]

theorem play_lit (nodes : Int) (la ln : List Int) (n m : Nat) (ha : n = la.length) (hn : m = ln.length) (h : Heap) :
    ∃ H, E tbl 7 [.int .i64 nodes, .slice h.next 0 n n 1 true, .slice (h.next + 1) 0 m m 1 true] ((h.alloc (la.map (.int .i64))).alloc (ln.map (.int .i64))) = some (.bool true, H) := by
  have i1 : Ints .i64 (.slice h.next 0 n n 1 true) ((h.alloc (la.map (.int .i64))).alloc (ln.map (.int .i64))) la := (Ints.lit .i64 h la n ha true).mono fun b hb => by
    cases hb
    exact alloc_old _ _ (by simp)
  have i2 := Ints.lit .i64 (h.alloc (la.map (.int .i64))) ln m hn true
  obtain ⟨H, e, _, _⟩ := play_eq _ nodes i1 i2 (fun b hb => by cases hb; simp; omega) (fun b hb => by cases hb; simp)
  exact ⟨H, e⟩

theorem numbers1 (n : Int) (h : Heap) : ∃ H, loop (L3_1 (E tbl)) [.int .i64 n, .int .i64 (-1)] h = some (1, [.int .i64 n], H) := by
  obtain ⟨r, e, H, hr⟩ := loop_ok (f := L3_1 (E tbl)) (fun m xs _ => ∃ k : Int, k + m = 9 ∧ -1 ≤ k ∧ xs = [.int .i64 n, .int .i64 k]) (fun r => ∃ H, r = (1, [.int .i64 n], H)) (by
    rintro m xs h ⟨k, hk, h1, rfl⟩
    by_cases q : k < 9
    · left
      obtain ⟨H, e⟩ := play_lit n [k, k, 0, k, 1] [1, 1024, 7, 1025, 0] 5 5 rfl rfl h
      simp only [List.map_cons, List.map_nil] at e
      have f1 : aFill (reps [AVal.int .i64 0] 5) [(0, 1, .int .i64 k), (1, 1, .int .i64 k), (2, 1, .int .i64 0), (3, 1, .int .i64 k), (4, 1, .int .i64 1)] = some [.int .i64 k, .int .i64 k, .int .i64 0, .int .i64 k, .int .i64 1] := rfl
      have f2 : aFill (reps [AVal.int .i64 0] 5) [(0, 1, .int .i64 1), (1, 1, .int .i64 1024), (2, 1, .int .i64 7), (3, 1, .int .i64 1025), (4, 1, .int .i64 0)] = some [.int .i64 1, .int .i64 1024, .int .i64 7, .int .i64 1025, .int .i64 0] := rfl
      have w : IntKind.i64.wrap (k + 1) = k + 1 := IntWalk.i64_in _ (by omega)
      exact ⟨_, H, by simp [L3_1, q, f1, f2, e, w], m - 1, by omega, k + 1, by omega, by omega, rfl⟩
    · right
      exact ⟨0, _, h, by simp [L3_1, q], h, rfl⟩) 10 _ h ⟨-1, by omega, by omega, rfl⟩
  subst hr
  exact ⟨H, e⟩

theorem clockNumbers_law (h0 : Heap) : ∃ h', E tbl 3 [] h0 = some (.bool true, h') := by
  obtain ⟨r, e, H, hr⟩ := loop_ok (f := L3_0 (E tbl)) (fun m xs _ => ∃ k : Int, k + m = 9 ∧ -1 ≤ k ∧ xs = [.int .i64 k]) (fun r => ∃ H, r = (1, [], H)) (by
    rintro m xs h ⟨k, hk, h1, rfl⟩
    by_cases q : k < 9
    · left
      obtain ⟨H, e⟩ := numbers1 k h
      have w : IntKind.i64.wrap (k + 1) = k + 1 := IntWalk.i64_in _ (by omega)
      exact ⟨_, H, by simp [L3_0, q, e, w], m - 1, by omega, k + 1, by omega, by omega, rfl⟩
    · right
      exact ⟨0, _, h, by simp [L3_0, q], h, rfl⟩) 10 _ h0 ⟨-1, by omega, by omega, rfl⟩
  subst hr
  obtain ⟨h1, e1⟩ := play_lit 3 [0, 1, 4611686018427387904, -9223372036854775808] [-9223372036854775808, 9223372036854775807, 1, 1] 4 4 rfl rfl H
  simp only [List.map_cons, List.map_nil] at e1
  obtain ⟨h2, kn⟩ := known_eq h1
  refine ⟨h2, ?_⟩
  rw [c3]
  have f1 : aFill (reps [AVal.int .i64 0] 4) [(0, 1, .int .i64 0), (1, 1, .int .i64 1), (2, 1, .int .i64 4611686018427387904), (3, 1, .int .i64 (-9223372036854775808))] = some [.int .i64 0, .int .i64 1, .int .i64 4611686018427387904, .int .i64 (-9223372036854775808)] := rfl
  have f2 : aFill (reps [AVal.int .i64 0] 4) [(0, 1, .int .i64 (-9223372036854775808)), (1, 1, .int .i64 9223372036854775807), (2, 1, .int .i64 1), (3, 1, .int .i64 1)] = some [.int .i64 (-9223372036854775808), .int .i64 9223372036854775807, .int .i64 1, .int .i64 1] := rfl
  simp [S3, e, f1, f2, e1, kn]

theorem rd4 {l : List Int} (hl : l.length = 4) (k : Nat) (hk : k < 4) : rdL (l.map (.int .i64)) k 1 = some [.int .i64 (l.getD k 0)] := by
  apply rdL_one
  have : k < l.length := by omega
  simp [List.getElem?_map, List.getD_eq_getElem?_getD, List.getElem?_eq_getElem this]

theorem clockSums_law (h0 : Heap) {s1 s2 : AVal} {l1 l2 : List Int} (I1 : Ints .i64 s1 h0 l1) (b1 : ∀ b, slBlk s1 = some b → b < h0.next) (_ : ∀ x ∈ l1, (Lit.int .i64 x).wf = true) (z1 : l1.length * 8 ≤ 140737488355328)
    (I2 : Ints .i64 s2 h0 l2) (b2 : ∀ b, slBlk s2 = some b → b < h0.next) (_ : ∀ x ∈ l2, (Lit.int .i64 x).wf = true) (z2 : l2.length * 8 ≤ 140737488355328) : ∃ h', E tbl 5 [s1, s2] h0 = some (.bool true, h') := by
  obtain ⟨h1, e1, C, n1, o1⟩ := new_ok 4 (by omega) (by omega) h0
  have C0 : Ck h0.next [0, 0, 0, 0] h1 := C
  obtain ⟨r, e2, H, l, hr, hl, CH⟩ := loop_ok (f := L5_0 (E tbl)) (fun n xs h => ∃ (i : Nat) (l : List Int), i + n = min (min l1.length l2.length) 50 ∧ l.length = 4 ∧ Ck h0.next l h ∧ (∀ b, b < h0.next → h.blk b = h0.blk b) ∧ xs = [s1, s2, .ptr (h0.next + 1) 0, .int .i64 i, .agg (l.map (.int .i64))])
      (fun r => ∃ (H : Heap) (l : List Int), r = (1, [.ptr (h0.next + 1) 0, .agg (l.map (.int .i64))], H) ∧ l.length = 4 ∧ Ck h0.next l H) (by
    rintro n xs h ⟨i, l, hi, hl, C, ho, rfl⟩
    have J1 := I1.mono (h' := h) fun b hb => ho b (b1 b hb)
    have J2 := I2.mono (h' := h) fun b hb => ho b (b2 b hb)
    by_cases q : i < min (min l1.length l2.length) 50
    · left
      have q1 : (i : Int) < l1.length := by omega
      have q2 : (i : Int) < l2.length := by omega
      have q3 : (i : Int) < 50 := by omega
      obtain ⟨p1, a1, g1⟩ := J1.at i (by omega)
      obtain ⟨p2, a2, g2⟩ := J2.at i (by omega)
      have pp : ∃ b off, p1 = .ptr b off := by
        cases p1 <;> simp [aLoad] at g1
        exact ⟨_, _, rfl⟩
      obtain ⟨pb, po, rfl⟩ := pp
      generalize l1.getD i 0 = x at g1
      generalize l2.getD i 0 = y at g2
      have e3 := within_eq y 0 3 (by omega) (by omega) (by omega) h
      have ki := within_in y 0 3 (by omega)
      generalize within y 0 3 = k at *
      obtain ⟨v, e4, v0, v1⟩ := and_eq x 1023 (by omega) (by omega)
      have w : IntKind.i64.wrap (1 + v) = 1 + v := IntWalk.i64_in _ (by omega)
      have hk : have_ l k = true := by simp [have_, hl]; omega
      have e5 := tick_ok C k (1 + v) hk (by omega) (by omega)
      have ei : aIdx 4 (.int .i64 k) = some k.toNat := aIdx_of _ _ _ (by omega) (by omega)
      have er := rd4 hl k.toNat (by omega)
      obtain ⟨l', hl'⟩ : ∃ l', l' = l.set k.toNat (IntKind.i64.wrap (l.getD k.toNat 0 + (1 + v))) := ⟨_, rfl⟩
      have ll : l'.length = l.length := by simp [hl']
      have C' := C.set l' ll
      have e6 : splice (l.map (.int .i64)) k.toNat [.int .i64 (IntKind.i64.wrap (l.getD k.toNat 0 + (1 + v)))] = l'.map (.int .i64) := by
        rw [splice_set (by simp; omega), hl', List.map_set]
      rw [← hl'] at e5
      clear hl'
      have e7 : Nat.ble (k.toNat + 1) l.length = true := Nat.ble_eq_true_of_le (by omega)
      generalize l.getD k.toNat 0 = lk at *
      simp only [load_ptr] at g1
      refine ⟨_, _, ?_, n - 1, by omega, i + 1, l', by omega, by omega, C', fun b hb => by rw [setBlk_ne _ _ (by omega)]; exact ho b hb, rfl⟩
      simp [L5_0, J1.len, J2.len, q1, q2, q3, a1, g1, a2, g2, e3, e4, w, checkPairs, e5, ei, er, e6, e7, wrap_succ i (by omega)]
    · right
      refine ⟨0, _, h, ?_, h, l, rfl, hl, C⟩
      by_cases q1 : (i : Int) < l1.length
      · by_cases q2 : (i : Int) < l2.length
        · have q3 : ¬ (i : Int) < 50 := by omega
          simp [L5_0, J1.len, J2.len, q1, q2, q3]
        · simp [L5_0, J1.len, J2.len, q1, q2]
      · simp [L5_0, J1.len, J2.len, q1]) (min (min l1.length l2.length) 50) _ h1 ⟨0, [0, 0, 0, 0], by omega, rfl, C0, o1, rfl⟩
  subst hr
  obtain ⟨r, e3, hr⟩ := loop_ok (f := L5_1 (E tbl)) (fun n xs h => ∃ (k : Nat), k + n = 4 ∧ h = H ∧ xs = [.ptr (h0.next + 1) 0, .int .i64 k, .agg (l.map (.int .i64))])
      (fun r => r = (1, [.ptr (h0.next + 1) 0, .agg (l.map (.int .i64))], H)) (by
    rintro n xs h ⟨k, hk, rfl, rfl⟩
    by_cases q : k < 4
    · left
      have q' : (k : Int) < 4 := by omega
      have e := now_eq CH (k : Int)
      rw [now_at (by omega)] at e
      have ei : aIdx 4 (.int .i64 (k : Int)) = some k := by rw [aIdx_of _ _ _ (by omega) (by omega)]; simp
      have er := rd4 hl k q
      generalize l.getD k 0 = x at *
      refine ⟨_, _, ?_, n - 1, by omega, k + 1, by omega, rfl, rfl⟩
      simp [L5_1, q', e, ei, er, checkPairs, wrap_succ k (by omega)]
    · right
      have q' : ¬ (k : Int) < 4 := by omega
      exact ⟨0, _, h, by simp [L5_1, q'], rfl⟩) 4 _ H ⟨0, by omega, rfl, rfl⟩
  subst hr
  have e4 := apart_eq CH (by intro h; rw [h] at hl; simp at hl) (by omega)
  obtain ⟨h5, kn⟩ := known_eq H
  refine ⟨h5, ?_⟩
  obtain ⟨x0, x1, x2, x3, rfl⟩ : ∃ x0 x1 x2 x3, l = [x0, x1, x2, x3] := by
    match l, hl with
    | [a, b, c, d], _ => exact ⟨a, b, c, d, rfl⟩
  have z : ((0 : Nat) : Int) = 0 := rfl
  simp only [List.map_cons, List.map_nil, z] at e2 e3
  have r0 : ∀ (a b c d : AVal), rdL [a, b, c, d] 0 1 = some [a] ∧ rdL [a, b, c, d] 1 1 = some [b] ∧ rdL [a, b, c, d] 2 1 = some [c] ∧ rdL [a, b, c, d] 3 1 = some [d] := fun a b c d => ⟨rfl, rfl, rfl, rfl⟩
  have i0 : aIdx 4 (.int .i64 0) = some 0 := rfl
  have i1 : aIdx 4 (.int .i64 1) = some 1 := rfl
  have i2 : aIdx 4 (.int .i64 2) = some 2 := rfl
  have i3 : aIdx 4 (.int .i64 3) = some 3 := rfl
  have mx : aMinMaxL true [.int .i64 x0, .int .i64 x1, .int .i64 x2, .int .i64 x3] = some (.int .i64 (mxOf [x0, x1, x2, x3])) := by
    simp only [aMinMaxL, aMinMax, aMax2, mxOf, maxL, cond_true, if_true, Option.bind_some, List.drop_succ_cons, List.drop_zero, List.foldl_cons, List.foldl_nil, List.getD_cons_zero, Option.some.injEq, AVal.int.injEq, true_and]
    repeat' split
    all_goals omega
  have mn : aMinMaxL false [.int .i64 x0, .int .i64 x1, .int .i64 x2, .int .i64 x3] = some (.int .i64 (mnOf [x0, x1, x2, x3])) := by
    simp only [aMinMaxL, aMinMax, aMin2, mnOf, minL, cond_false, if_true, Option.bind_some, List.drop_succ_cons, List.drop_zero, List.foldl_cons, List.foldl_nil, List.getD_cons_zero, Option.some.injEq, AVal.int.injEq, true_and]
    repeat' split
    all_goals omega
  rw [c5]
  simp [S5, e1, e2, e3, e4, r0, i0, i1, i2, i3, mx, mn, apart, kn, checkPairs]

end Go.Proofs.Ytdikkeicdofdiaa.Code
