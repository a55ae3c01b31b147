/- Chapter 4: StampNumbers. -/
import Derived.Test.YtbfemhpgiilimaaMore
namespace Go.Proofs.Ytbfemhpgiilimaa.Code
open Go.Fw

def rows (L : List St) : List AVal := L.flatMap St.cells
theorem rows_snoc (L : List St) (s : St) : rows L ++ s.cells = rows (L ++ [s]) := by simp [rows]
theorem rows_at : ∀ (L : List St) (i : Nat) (hi : i < L.length), ((rows L).drop (i * 3)).take 3 = (L[i]).cells
  | [], i, hi => by simp at hi
  | s :: L, 0, _ => by simp [rows, St.cells]
  | s :: L, i + 1, hi => by
    have := rows_at L i (by simpa using hi)
    rw [show (i + 1) * 3 = 3 + i * 3 by omega, ← List.drop_drop]
    simpa [rows, St.cells] using this

def okN (s : St) : Prop := -9223372036854775808 ≤ s.n ∧ s.n ≤ 9223372036854775807

/-- A list of stamps that grows behind n0. -/
structure SL (n0 : Nat) (o : AVal) (h : Heap) (L : List St) : Prop where
  grow : Grow 3 o h n0 L.length (rows L)
  next : n0 ≤ h.next
  ok : ∀ s ∈ L, okN s

theorem kept_ints {hs h : Heap} {os o : AVal} (K : Kept hs os h o) {c : Nat} {k : IntKind} {l : List Int} {n : Nat} {ex : Bool} (I : Ints k (.slice c 0 n n 1 ex) hs l) (hc : c < hs.next) (ho : slBlk os ≠ some c) : Ints k (.slice c 0 n n 1 ex) h l :=
  I.mono fun b hb => by cases hb; exact K.old c hc ho

theorem fill4 (a b c d : Int) : aFill (reps [.int .i64 0] 4) [(0, 1, .int .i64 a), (1, 1, .int .i64 b), (2, 1, .int .i64 c), (3, 1, .int .i64 d)] = some ([a, b, c, d].map (.int .i64)) := rfl

theorem in2 (n0 : Nat) (hs : Heap) (os : AVal) (L0 : List St) (S0 : SL n0 os hs L0) (hL : L0.length ≤ 1000) (t n : Int) (hn : -9223372036854775808 ≤ n ∧ n ≤ 9223372036854775807) (p1 p2 p3 p4 p5 p6 : AVal) (c : Nat) (hc : c < hs.next) (ho : slBlk os ≠ some c) (l : List Int) (h4 : l.length = 4) (I : Ints .i64 (.slice c 0 4 4 1 true) hs l) :
    ∃ h o L, loop (L7_2 (E tbl)) [os, .int .i64 t, .int .i64 n, p1, p2, p3, p4, p5, p6, .slice c 0 4 4 1 true, .int .i64 4, .int .i64 0] hs = some (1, [o, .int .i64 t, p1, p2, p3, p4, p5, p6], h) ∧ SL n0 o h L ∧ L.length = L0.length + 4 ∧ Kept hs os h o := by
  obtain ⟨r, e, h, o, L, rfl, S, hLn, K⟩ := loop_ok (f := L7_2 (E tbl)) (fun m xs h => ∃ (i : Nat) (o : AVal) (L : List St), i + m = 4 ∧ SL n0 o h L ∧ L.length = L0.length + i ∧ Kept hs os h o ∧ xs = [o, .int .i64 t, .int .i64 n, p1, p2, p3, p4, p5, p6, .slice c 0 4 4 1 true, .int .i64 4, .int .i64 i])
      (fun r => ∃ (h : Heap) (o : AVal) (L : List St), r = (1, [o, .int .i64 t, p1, p2, p3, p4, p5, p6], h) ∧ SL n0 o h L ∧ L.length = L0.length + 4 ∧ Kept hs os h o) (by
    rintro m xs h ⟨i, o, L, hi, S, hLi, K, rfl⟩
    by_cases q : i < 4
    · left
      have q' : (i : Int) < 4 := by omega
      have J := kept_ints K I hc ho
      obtain ⟨p, e1, e2⟩ := J.at i (by omega)
      generalize l.getD i 0 = x at e2
      obtain ⟨s', h', e3, G', K'⟩ := S.grow.one' (bytes := 24) (zero := [.int .i64 0, .int .i64 0, .int .i64 0]) (news := [.int .i64 t, .int .i64 x, .int .i64 n]) S.next rfl (by omega) (by omega)
      have f1 : aFill [.int .i64 0, .int .i64 0, .int .i64 0] [(0, 1, .int .i64 t), (2, 1, .int .i64 n), (1, 1, .int .i64 x)] = some [AVal.int .i64 t, .int .i64 x, .int .i64 n] := rfl
      have f2 : aFill (reps [.int .i64 0, .int .i64 0, .int .i64 0] 1) [(0, 3, .agg [AVal.int .i64 t, .int .i64 x, .int .i64 n])] = some [AVal.int .i64 t, .int .i64 x, .int .i64 n] := rfl
      have G2 : Grow 3 s' h' n0 (L ++ [(⟨t, x, n⟩ : St)]).length (rows (L ++ [⟨t, x, n⟩])) := by
        rw [← rows_snoc]
        simpa [St.cells] using G'
      refine ⟨_, h', ?_, m - 1, by omega, i + 1, s', L ++ [⟨t, x, n⟩], by omega, ⟨G2, by have := S.next; have := K'.next; omega, ?_⟩, by simp [hLi]; omega, K.trans K', rfl⟩
      · simp [L7_2, q', e1, e2, f1, f2, e3, wrap_succ i (by omega)]
      · intro s hs
        rcases List.mem_append.1 hs with hs | hs
        · exact S.ok s hs
        · rw [List.mem_singleton] at hs
          rw [hs]
          exact hn
    · right
      have q' : ¬ (i : Int) < 4 := by omega
      exact ⟨0, _, h, by simp [L7_2, q'], h, o, L, rfl, S, by omega, K⟩) 4 _ hs ⟨0, os, L0, by omega, S0, by simp, Kept.refl _ _, rfl⟩
  exact ⟨h, o, L, e, S, hLn, K⟩

theorem in1 (n0 : Nat) (hs : Heap) (os : AVal) (L0 : List St) (S0 : SL n0 os hs L0) (hL : L0.length ≤ 100) (t : Int) (p1 p2 p3 : AVal) (c : Nat) (hc : c < hs.next) (ho : slBlk os ≠ some c) (l : List Int) (h4 : l.length = 4) (hl : ∀ x ∈ l, -9223372036854775808 ≤ x ∧ x ≤ 9223372036854775807) (I : Ints .i64 (.slice c 0 4 4 1 true) hs l) :
    ∃ h o L, loop (L7_1 (E tbl)) [os, .int .i64 t, p1, p2, p3, .slice c 0 4 4 1 true, .int .i64 4, .int .i64 0] hs = some (1, [o, p1, p2, p3], h) ∧ SL n0 o h L ∧ L.length = L0.length + 16 ∧ Kept hs os h o := by
  obtain ⟨r, e, h, o, L, rfl, S, hLn, K⟩ := loop_ok (f := L7_1 (E tbl)) (fun m xs h => ∃ (i : Nat) (o : AVal) (L : List St), i + m = 4 ∧ SL n0 o h L ∧ L.length = L0.length + 4 * i ∧ Kept hs os h o ∧ xs = [o, .int .i64 t, p1, p2, p3, .slice c 0 4 4 1 true, .int .i64 4, .int .i64 i])
      (fun r => ∃ (h : Heap) (o : AVal) (L : List St), r = (1, [o, p1, p2, p3], h) ∧ SL n0 o h L ∧ L.length = L0.length + 16 ∧ Kept hs os h o) (by
    rintro m xs h ⟨i, o, L, hi, S, hLi, K, rfl⟩
    by_cases q : i < 4
    · left
      have q' : (i : Int) < 4 := by omega
      have J := kept_ints K I hc ho
      obtain ⟨p, e1, e2⟩ := J.at i (by omega)
      have hx : -9223372036854775808 ≤ l.getD i 0 ∧ l.getD i 0 ≤ 9223372036854775807 := by
        apply hl
        rw [List.getD_eq_getElem?_getD, List.getElem?_eq_getElem (by omega)]
        exact List.getElem_mem _
      generalize l.getD i 0 = x at e2 hx
      have Ka := Kept.alloc h o ([-1, 0, 1, 6].map (.int .i64))
      have Sa : SL n0 o (h.alloc ([-1, 0, 1, 6].map (.int .i64))) L := ⟨S.grow.kept Ka.next fun b hb => alloc_old _ _ (by have := (S.grow.blk_lt b hb).2; omega), by have := S.next; have := Ka.next; omega, S.ok⟩
      obtain ⟨h', o', L', e3, S', hL', K'⟩ := in2 n0 _ o L Sa (by omega) t x hx p1 p2 p3 (.slice c 0 4 4 1 true) (.int .i64 4) (.int .i64 i) h.next (by simp) (fun hb => by have := (S.grow.blk_lt _ hb).2; omega) [-1, 0, 1, 6] rfl (Ints.lit .i64 h [-1, 0, 1, 6] 4 rfl true)
      have f := fill4 (-1) 0 1 6
      have ln : aLen false (.slice h.next 0 4 4 1 true) = some (.int .i64 4) := rfl
      refine ⟨_, h', ?_, m - 1, by omega, i + 1, o', L', by omega, S', by omega, K.trans (Ka.trans K'), rfl⟩
      simp only [List.map_cons, List.map_nil] at e3 f
      simp [L7_1, q', e1, e2, f, ln, e3, wrap_succ i (by omega)]
    · right
      have q' : ¬ (i : Int) < 4 := by omega
      exact ⟨0, _, h, by simp [L7_1, q'], h, o, L, rfl, S, by omega, K⟩) 4 _ hs ⟨0, os, L0, by omega, S0, by simp, Kept.refl _ _, rfl⟩
  exact ⟨h, o, L, e, S, hLn, K⟩

theorem SL.alloc {n0 : Nat} {o : AVal} {h : Heap} {L : List St} (S : SL n0 o h L) (cs : List AVal) : SL n0 o (h.alloc cs) L := by
  have Ka := Kept.alloc h o cs
  exact ⟨S.grow.kept Ka.next fun b hb => alloc_old _ _ (by have := (S.grow.blk_lt b hb).2; omega), by have := S.next; have := Ka.next; omega, S.ok⟩

theorem in0 (n0 : Nat) (hs : Heap) (os : AVal) (L0 : List St) (S0 : SL n0 os hs L0) (hL : L0.length ≤ 10) (c : Nat) (hc : c < hs.next) (ho : slBlk os ≠ some c) (l : List Int) (h4 : l.length = 4) (I : Ints .i64 (.slice c 0 4 4 1 true) hs l) :
    ∃ h o L, loop (L7_0 (E tbl)) [os, .slice c 0 4 4 1 true, .int .i64 4, .int .i64 0] hs = some (1, [o], h) ∧ SL n0 o h L ∧ L.length = L0.length + 64 ∧ Kept hs os h o := by
  obtain ⟨r, e, h, o, L, rfl, S, hLn, K⟩ := loop_ok (f := L7_0 (E tbl)) (fun m xs h => ∃ (i : Nat) (o : AVal) (L : List St), i + m = 4 ∧ SL n0 o h L ∧ L.length = L0.length + 16 * i ∧ Kept hs os h o ∧ xs = [o, .slice c 0 4 4 1 true, .int .i64 4, .int .i64 i])
      (fun r => ∃ (h : Heap) (o : AVal) (L : List St), r = (1, [o], h) ∧ SL n0 o h L ∧ L.length = L0.length + 64 ∧ Kept hs os h o) (by
    rintro m xs h ⟨i, o, L, hi, S, hLi, K, rfl⟩
    by_cases q : i < 4
    · left
      have q' : (i : Int) < 4 := by omega
      have J := kept_ints K I hc ho
      obtain ⟨p, e1, e2⟩ := J.at i (by omega)
      generalize l.getD i 0 = x at e2
      have Ka := Kept.alloc h o ([-1, 0, 1, 9223372036854775807].map (.int .i64))
      have Sa := S.alloc ([-1, 0, 1, 9223372036854775807].map (.int .i64))
      obtain ⟨h', o', L', e3, S', hL', K'⟩ := in1 n0 _ o L Sa (by omega) x (.slice c 0 4 4 1 true) (.int .i64 4) (.int .i64 i) h.next (by simp) (fun hb => by have := (S.grow.blk_lt _ hb).2; omega) [-1, 0, 1, 9223372036854775807] rfl (by simp) (Ints.lit .i64 h [-1, 0, 1, 9223372036854775807] 4 rfl true)
      have f := fill4 (-1) 0 1 9223372036854775807
      have ln : aLen false (.slice h.next 0 4 4 1 true) = some (.int .i64 4) := rfl
      refine ⟨_, h', ?_, m - 1, by omega, i + 1, o', L', by omega, S', by omega, K.trans (Ka.trans K'), rfl⟩
      simp only [List.map_cons, List.map_nil] at e3 f
      simp [L7_0, q', e1, e2, f, ln, e3, wrap_succ i (by omega)]
    · right
      have q' : ¬ (i : Int) < 4 := by omega
      exact ⟨0, _, h, by simp [L7_0, q'], h, o, L, rfl, S, by omega, K⟩) 4 _ hs ⟨0, os, L0, by omega, S0, by simp, Kept.refl _ _, rfl⟩
  exact ⟨h, o, L, e, S, hLn, K⟩

theorem stamps_eq (h0 : Heap) : ∃ h o L, E tbl 7 [] h0 = some (o, h) ∧ SL h0.next o h L ∧ L.length = 64 := by
  have S0 : SL h0.next .nilSlice h0 [] := ⟨Grow.nil 3 h0 h0.next, Nat.le_refl _, by simp⟩
  obtain ⟨h', o', L', e3, S', hL', K'⟩ := in0 h0.next _ .nilSlice [] (S0.alloc ([-1, 0, 1, 9223372036854775807].map (.int .i64))) (by simp) h0.next (by simp) (by simp [slBlk]) [-1, 0, 1, 9223372036854775807] rfl (Ints.lit .i64 h0 [-1, 0, 1, 9223372036854775807] 4 rfl true)
  refine ⟨h', o', L', ?_, S', by simpa using hL'⟩
  have f := fill4 (-1) 0 1 9223372036854775807
  have ln : aLen false (.slice h0.next 0 4 4 1 true) = some (.int .i64 4) := rfl
  simp only [List.map_cons, List.map_nil] at e3 f
  rw [c7]
  simp [S7, f, ln, e3]

theorem SL.went {n0 : Nat} {o : AVal} {h h' : Heap} {L : List St} (S : SL n0 o h L) (W : Went h h') : SL n0 o h' L :=
  ⟨S.grow.kept W.next fun b hb => W.old b (S.grow.blk_lt b hb).2, by have := S.next; have := W.next; omega, S.ok⟩

theorem SL.at {n0 : Nat} {o : AVal} {h : Heap} {L : List St} (S : SL n0 o h L) (i : Nat) (hi : i < L.length) : ∃ p s, aIaddr 3 o (.int .i64 i) = some p ∧ aLoad h 3 p = some [.int .i64 s.t, .int .i64 s.k, .int .i64 s.n] ∧ okN s := by
  obtain ⟨p, e1, e2⟩ := S.grow.at i hi
  rw [rows_at L i hi] at e2
  exact ⟨p, L[i], e1, e2, S.ok _ (List.getElem_mem _)⟩

theorem numbers1 (n0 : Nat) (o : AVal) (L : List St) (hs : Heap) (S : SL n0 o hs L) (hL : L.length = 64) (a : St) (ha : okN a) (p1 p2 p3 p4 : AVal) :
    ∃ h, loop (L3_1 (E tbl)) [p1, p2, p3, p4, o, .int .i64 64, .int .i64 0, .agg [.int .i64 a.t, .int .i64 a.k, .int .i64 a.n]] hs = some (1, [p1, p2, p3, p4], h) ∧ Went hs h := by
  obtain ⟨r, e, h, rfl, W⟩ := loop_ok (f := L3_1 (E tbl)) (fun m xs h => ∃ (i : Nat), i + m = 64 ∧ Went hs h ∧ xs = [p1, p2, p3, p4, o, .int .i64 64, .int .i64 i, .agg [.int .i64 a.t, .int .i64 a.k, .int .i64 a.n]])
      (fun r => ∃ (h : Heap), r = (1, [p1, p2, p3, p4], h) ∧ Went hs h) (by
    rintro m xs h ⟨i, hi, W, rfl⟩
    by_cases q : i < 64
    · left
      have q' : (i : Int) < 64 := by omega
      obtain ⟨p, s, e1, e2, _⟩ := (S.went W).at i (by omega)
      obtain ⟨h', e3, W'⟩ := same_eq a s ha.1 s.t a.k h
      refine ⟨_, h', ?_, m - 1, by omega, i + 1, by omega, W.trans W', rfl⟩
      simp [L3_1, q', e1, e2, rd3, ble3, sp3, e3, wrap_succ i (by omega)]
    · right
      have q' : ¬ (i : Int) < 64 := by omega
      exact ⟨0, _, h, by simp [L3_1, q'], h, rfl, W⟩) 64 _ hs ⟨0, by omega, Went.refl _, rfl⟩
  exact ⟨h, e, W⟩

theorem stampNumbers_law (h0 : Heap) : ∃ h', E tbl 3 [] h0 = some (.bool true, h') := by
  obtain ⟨h1, o, L, e1, S, hL⟩ := stamps_eq h0
  obtain ⟨r, e, h, rfl⟩ := loop_ok (f := L3_0 (E tbl)) (fun m xs h => ∃ (i : Nat), i + m = 64 ∧ Went h1 h ∧ xs = [o, o, .int .i64 64, .int .i64 i])
      (fun r => ∃ (h : Heap), r = (1, [], h)) (by
    rintro m xs h ⟨i, hi, W, rfl⟩
    have S' := S.went W
    by_cases q : i < 64
    · left
      have q' : (i : Int) < 64 := by omega
      obtain ⟨p, s, e1, e2, hs⟩ := S'.at i (by omega)
      have ln := S'.grow.len
      rw [hL] at ln
      obtain ⟨h', e3, W'⟩ := numbers1 h0.next o L h S' hL s hs o o (.int .i64 64) (.int .i64 i)
      have ln' : aLen false o = some (.int .i64 64) := ln
      refine ⟨_, h', ?_, m - 1, by omega, i + 1, by omega, W.trans W', rfl⟩
      simp [L3_0, q', e1, e2, ln', rd3, ble3, sp3, e3, wrap_succ i (by omega)]
    · right
      have q' : ¬ (i : Int) < 64 := by omega
      exact ⟨0, _, h, by simp [L3_0, q'], h, rfl⟩) 64 _ h1 ⟨0, by omega, Went.refl _, rfl⟩
  have ln := S.grow.len
  rw [hL] at ln
  have ln' : aLen false o = some (.int .i64 64) := ln
  obtain ⟨h2, kn⟩ := known_eq h
  refine ⟨h2, ?_⟩
  rw [c3]
  have z : ((0 : Nat) : Int) = 0 := rfl
  rw [z] at e
  simp [S3, e1, ln', e, kn]

end Go.Proofs.Ytbfemhpgiilimaa.Code
