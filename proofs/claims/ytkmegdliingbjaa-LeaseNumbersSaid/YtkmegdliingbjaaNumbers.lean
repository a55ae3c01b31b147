/- Chapter 9: LeaseSeen, LeaseNumbers. -/
import Derived.Test.YtkmegdliingbjaaLaws
namespace Go.Proofs.Ytkmegdliingbjaa.Code
open Go.Fw

theorem seen_loop {s : AVal} {l : List Int} {h : Heap} (I : Ints .i64 s h l) (hl : l.length < 4611686018427387904) (a i : List UInt8) (st le t k n : Int) (o : Int) :
    ∀ m xs H, (∃ (j : Nat) (most : Int), H = h ∧ m + j = l.length ∧ xs = [s, .int .i64 most, .int .i64 j, ent a i st o le t k n false most]) → ∃ r, loop (L7_0 (E tbl)) xs H = some r ∧ r = (1, [], h) := by
  refine loop_ok _ _ ?_
  rintro m xs H ⟨j, most, rfl, hj, rfl⟩
  by_cases h1 : j < l.length
  · by_cases h2 : j < 20
    · left
      obtain ⟨p, q1, q2⟩ := I.at j h1
      generalize l.getD j 0 = x at q2
      obtain ⟨y, f1, _, _⟩ := and_eq x 65535 (by omega) (by omega)
      have i1 : ((j : Int) < (l.length : Int)) := by omega
      have i2 : ((j : Int) < 20) := by omega
      have w1 : IntKind.i64.wrap ((j : Int) + 1) = (j : Int) + 1 := IntWalk.i64_in _ (by omega)
      refine ⟨_, _, ?_, m - 1, by omega, j + 1, max most y, rfl, by omega, rfl⟩
      simp [L7_0, I.len, i1, i2, q1, q2, f1, renew_eq, w1]
    · right
      have i1 : ((j : Int) < (l.length : Int)) := by omega
      have i2 : ¬ ((j : Int) < 20) := by omega
      exact ⟨0, [], H, by simp [L7_0, I.len, i1, i2], rfl⟩
  · right
    have i1 : ¬ ((j : Int) < (l.length : Int)) := by omega
    exact ⟨0, [], H, by simp [L7_0, I.len, i1], rfl⟩

set_option maxRecDepth 20000 in
theorem leaseSeen_law (h0 : Heap) {s : AVal} {l : List Int} (I : Ints .i64 s h0 l) (lt : ∀ b, slBlk s = some b → b < h0.next) (_ : ∀ x ∈ l, (Lit.int .i64 x).wf = true) (sz : l.length * 8 ≤ 140737488355328)
    {u : AVal} {r : List Int} (I2 : Ints .i64 u h0 r) (lt2 : ∀ b, slBlk u = some b → b < h0.next) (_ : ∀ x ∈ r, (Lit.int .i64 x).wf = true) (sz2 : r.length * 8 ≤ 140737488355328) :
    ∃ h', E tbl 7 [s, u] h0 = some (.bool true, h') := by
  have T1 := Tape.make I lt (by omega)
  obtain ⟨a, i, st, o, le, t, k, n, g, H2, e2, C, T2, O2⟩ := card_ok T1
  have J : Ints .i64 u H2 r := (I2.keeps lt2 (Keeps.alloc h0 [s, .int .i64 0])).mono fun b hb => O2.old b (by have := lt2 b hb; simp; omega) (by have := lt2 b hb; omega)
  obtain ⟨_, e3, rfl⟩ := seen_loop J (by omega) a i st le t k n 0 r.length _ _ ⟨0, 5, rfl, by omega, rfl⟩
  obtain ⟨H3, e4, _⟩ := known_eq H2
  refine ⟨H3, ?_⟩
  rw [c7]
  simp only [Int.ofNat_eq_natCast, Int.cast_ofNat_Int] at e3
  simp [S7, checkPairs, I.cell, e2, register_eq, e3, e4]

theorem l3 (seen d now : Int) (r4 r5 r6 r7 r8 r9 r10 r11 r12 : AVal) (H : Heap) :
    ∃ h', loop (L4_3 (E tbl)) [.int .i64 seen, .int .i64 d, .int .i64 now, .int .i64 (-1), r4, r5, r6, r7, r8, r9, r10, r11, r12] H = some (1, [.int .i64 seen, .int .i64 d, r4, r5, r6, r7, r8, r9, r10, r11, r12], h') ∧ Keeps H h' := by
  refine loop_up 6 (fun i => [.int .i64 seen, .int .i64 d, .int .i64 now, .int .i64 (-1 + i), r4, r5, r6, r7, r8, r9, r10, r11, r12]) _ (Keeps H) ?_ ?_ H (Keeps.refl H)
  · intro i h hi K
    have i1 : (-1 + (i : Int)) < 5 := by omega
    obtain ⟨y, f1, _, _⟩ := and_eq (-1 + (i : Int)) 1 (by omega) (by omega)
    obtain ⟨h', e, K'⟩ := same_eq [] [] 1 2 d 0 0 0 (-1 + (i : Int) == 3) seen (y == 0) [] [] 0 3 7 0 0 0 (-1 + (i : Int) == 2) (-1 + (i : Int)) now 0 0 now h
    have w1 : IntKind.i64.wrap (-1 + (i : Int) + 1) = -1 + ((i + 1 : Nat) : Int) := by rw [IntWalk.i64_in _ (by omega)]; omega
    refine ⟨h', ?_, K.trans K'⟩
    simp only [L4_3, List.getD_cons_succ, List.getD_cons_zero, bin_lss, Option.bind_some, i1, decide_true, cond_bool, cond_true, bin_eql, f1, w1, bin_add]
    simp [e]
  · intro h K
    exact ⟨h, by simp [L4_3], K⟩

theorem l2 (seen d : Int) (r2 r3 r4 r5 r6 r7 : AVal) (s : AVal) (l : List Int) (hl : l.length = 7) (H : Heap) (I : Ints .i64 s H l) (lt : ∀ b, slBlk s = some b → b < H.next) :
    ∃ h', loop (L4_2 (E tbl)) [.int .i64 seen, .int .i64 d, r2, r3, r4, r5, r6, r7, s, .int .i64 7, .int .i64 0] H = some (1, [.int .i64 seen, r2, r3, r4, r5, r6, r7], h') ∧ Keeps H h' := by
  refine loop_up 7 (fun i => [.int .i64 seen, .int .i64 d, r2, r3, r4, r5, r6, r7, s, .int .i64 7, .int .i64 i]) _ (Keeps H) ?_ ?_ H (Keeps.refl H)
  · intro i h hi K
    have i1 : (i : Int) < 7 := by omega
    obtain ⟨p, q1, q2⟩ := (I.keeps lt K).at i (by omega)
    generalize l.getD i 0 = x at q2
    obtain ⟨h', e, K'⟩ := l3 seen d x r2 r3 r4 r5 r6 r7 s (.int .i64 7) (.int .i64 i) h
    have w1 : IntKind.i64.wrap ((i : Int) + 1) = ((i + 1 : Nat) : Int) := wrap_succ _ (by omega)
    refine ⟨h', ?_, K.trans K'⟩
    simp only [L4_2, List.getD_cons_succ, List.getD_cons_zero, bin_lss, Option.bind_some, i1, decide_true, cond_bool, cond_true, q1, q2, from_one, e, bin_add, w1, show Nat.beq 1 1 = true from rfl]
  · intro h K
    exact ⟨h, by simp [L4_2], K⟩

theorem l1 (seen : Int) (r1 r2 r3 : AVal) (s : AVal) (l : List Int) (hl : l.length = 6) (H : Heap) (I : Ints .i64 s H l) (lt : ∀ b, slBlk s = some b → b < H.next) :
    ∃ h', loop (L4_1 (E tbl)) [.int .i64 seen, r1, r2, r3, s, .int .i64 6, .int .i64 0] H = some (1, [r1, r2, r3], h') ∧ Keeps H h' := by
  refine loop_up 6 (fun i => [.int .i64 seen, r1, r2, r3, s, .int .i64 6, .int .i64 i]) _ (Keeps H) ?_ ?_ H (Keeps.refl H)
  · intro i h hi K
    have i1 : (i : Int) < 6 := by omega
    obtain ⟨p, q1, q2⟩ := (I.keeps lt K).at i (by omega)
    generalize l.getD i 0 = x at q2
    have I2 := Ints.lit .i64 h [-9223372036854775808, 0, 4, 8, 9, 2199023255552, 9223372036854775807] 7 rfl true
    obtain ⟨h', e, K'⟩ := l2 seen x r1 r2 r3 s (.int .i64 6) (.int .i64 i) _ _ rfl _ I2 (fun b hb => by cases hb; simp)
    have w1 : IntKind.i64.wrap ((i : Int) + 1) = ((i + 1 : Nat) : Int) := wrap_succ _ (by omega)
    refine ⟨h', ?_, (K.trans (Keeps.alloc _ _)).trans K'⟩
    have fl : aFill (reps [.int .i64 0] 7) [(0, 1, (.int .i64 (-9223372036854775808))), (1, 1, (.int .i64 0)), (2, 1, (.int .i64 4)), (3, 1, (.int .i64 8)), (4, 1, (.int .i64 9)), (5, 1, (.int .i64 2199023255552)), (6, 1, (.int .i64 9223372036854775807))] = some ([-9223372036854775808, 0, 4, 8, 9, 2199023255552, 9223372036854775807].map (.int .i64)) := rfl
    have ln : aLen false (.slice h.next 0 7 7 1 true) = some (.int .i64 7) := rfl
    simp only [L4_1, List.getD_cons_succ, List.getD_cons_zero, bin_lss, Option.bind_some, i1, decide_true, cond_bool, cond_true, q1, q2, from_one, fl, ln, e, bin_add, w1, show Nat.beq 1 1 = true from rfl]
  · intro h K
    exact ⟨h, by simp [L4_1], K⟩

theorem l0 (s : AVal) (l : List Int) (hl : l.length = 7) (H : Heap) (I : Ints .i64 s H l) (lt : ∀ b, slBlk s = some b → b < H.next) :
    ∃ h', loop (L4_0 (E tbl)) [s, .int .i64 7, .int .i64 0] H = some (1, [], h') ∧ Keeps H h' := by
  refine loop_up 7 (fun i => [s, .int .i64 7, .int .i64 i]) _ (Keeps H) ?_ ?_ H (Keeps.refl H)
  · intro i h hi K
    have i1 : (i : Int) < 7 := by omega
    obtain ⟨p, q1, q2⟩ := (I.keeps lt K).at i (by omega)
    generalize l.getD i 0 = x at q2
    have I2 := Ints.lit .i64 h [1, 5, 1048576, 4611686018427387904, -1, 9223372036854775807] 6 rfl true
    obtain ⟨h', e, K'⟩ := l1 x s (.int .i64 7) (.int .i64 i) _ _ rfl _ I2 (fun b hb => by cases hb; simp)
    have w1 : IntKind.i64.wrap ((i : Int) + 1) = ((i + 1 : Nat) : Int) := wrap_succ _ (by omega)
    refine ⟨h', ?_, (K.trans (Keeps.alloc _ _)).trans K'⟩
    have fl : aFill (reps [.int .i64 0] 6) [(0, 1, (.int .i64 1)), (1, 1, (.int .i64 5)), (2, 1, (.int .i64 1048576)), (3, 1, (.int .i64 4611686018427387904)), (4, 1, (.int .i64 (-1))), (5, 1, (.int .i64 9223372036854775807))] = some ([1, 5, 1048576, 4611686018427387904, -1, 9223372036854775807].map (.int .i64)) := rfl
    have ln : aLen false (.slice h.next 0 6 6 1 true) = some (.int .i64 6) := rfl
    simp only [L4_0, List.getD_cons_succ, List.getD_cons_zero, bin_lss, Option.bind_some, i1, decide_true, cond_bool, cond_true, q1, q2, from_one, fl, ln, e, bin_add, w1, show Nat.beq 1 1 = true from rfl]
  · intro h K
    exact ⟨h, by simp [L4_0], K⟩

theorem leaseNumbers_law (h0 : Heap) : ∃ h', E tbl 4 [] h0 = some (.bool true, h') := by
  have fl : aFill (reps [.int .i64 0] 7) [(0, 1, (.int .i64 (-9223372036854775808))), (1, 1, (.int .i64 (-5))), (2, 1, (.int .i64 0)), (3, 1, (.int .i64 3)), (4, 1, (.int .i64 1099511627776)), (5, 1, (.int .i64 4611686018427387904)), (6, 1, (.int .i64 9223372036854775807))] = some ([-9223372036854775808, -5, 0, 3, 1099511627776, 4611686018427387904, 9223372036854775807].map (.int .i64)) := rfl
  have ln : aLen false (.slice h0.next 0 7 7 1 true) = some (.int .i64 7) := rfl
  have I2 := Ints.lit .i64 h0 [-9223372036854775808, -5, 0, 3, 1099511627776, 4611686018427387904, 9223372036854775807] 7 rfl true
  obtain ⟨H, e, _⟩ := l0 _ _ rfl _ I2 (fun b hb => by cases hb; simp)
  have e1 : E tbl 14 [.nilSlice, .nilSlice] H = some (.bool true, H) := by
    have x0 : L24_0 (E tbl) [.nilSlice, .nilSlice, .int .i64 0, .int .i64 0] H = some (1, [], H) := by simp [L24_0]
    have x1 := loop_done x0
    have ln : aLen false .nilSlice = some (.int .i64 0) := rfl
    rw [c14]
    simp only [S14]
    rw [c24]
    simp [S24, ln, x1]
  let H2 := H.alloc (reps [.str [], .str [], .int .i64 0, .int .i64 0, .int .i64 0, .int .i64 0, .int .i64 0, .int .i64 0, .bool false, .int .i64 0] 1)
  have e2 : aMkSlice 10 96 [.str [], .str [], .int .i64 0, .int .i64 0, .int .i64 0, .int .i64 0, .int .i64 0, .int .i64 0, .bool false, .int .i64 0] (.int .i64 1) (.int .i64 1) H = some (.slice H.next 0 1 1 10 true, H2) := rfl
  have e3 : E tbl 14 [.nilSlice, .slice H.next 0 1 1 10 true] H2 = some (.bool false, H2) := by
    have ln : aLen false .nilSlice = some (.int .i64 0) := rfl
    have ln2 : aLen false (.slice H.next 0 1 1 10 true) = some (.int .i64 1) := rfl
    rw [c14]
    simp only [S14]
    rw [c24]
    simp [S24, ln, ln2]
  obtain ⟨H3, e4, _⟩ := known_eq H2
  refine ⟨H3, ?_⟩
  rw [c4]
  simp only [S4, fl, ln, Option.bind_some, e, show Nat.beq 1 1 = true from rfl, cond_true, e1, e2, e3]
  simp [e4]

end Go.Proofs.Ytkmegdliingbjaa.Code
