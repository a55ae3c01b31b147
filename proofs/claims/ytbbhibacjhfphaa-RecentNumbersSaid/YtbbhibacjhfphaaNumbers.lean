/- Chapter 13: RecentPlays, RecentNumbers. -/
import Derived.Test.YtbbhibacjhfphaaLaws
namespace Go.Proofs.Ytbbhibacjhfphaa.Code
set_option linter.unusedSimpArgs false
set_option linter.unusedVariables false
open Go.Fw

theorem wf_of {x : Int} (h0 : -9223372036854775808 ≤ x) (h1 : x ≤ 9223372036854775807) : (Lit.int .i64 x).wf = true := by
  have h2 : IntKind.i64.min = -9223372036854775808 := by decide
  have h3 : IntKind.i64.max = 9223372036854775807 := by decide
  simp only [Lit.wf, h2, h3, Bool.and_eq_true, decide_eq_true_eq]
  exact ⟨h0, h1⟩

theorem some_loop {v : AVal} {r : List Int} {h : Heap} (I : Ints .i64 v h r) (lt : ∀ b, slBlk v = some b → b < h.next) (sz : r.length * 8 ≤ 140737488355328) (a0 a1 : AVal) :
    ∃ o H m, loop (L4_0 (E tbl)) [a0, a1, v, .nilSlice, .int .i64 r.length, .int .i64 0] h = some (1, [a0, a1, v, o], H) ∧ Ints .i64 o H m ∧ (∀ b, slBlk o = some b → b < H.next) ∧ (∀ x ∈ m, (Lit.int .i64 x).wf = true) ∧ Went h H := by
  have key : ∃ res, loop (L4_0 (E tbl)) [a0, a1, v, .nilSlice, .int .i64 r.length, .int .i64 0] h = some res ∧ ∃ o H, ∃ m : List Int, res = (1, [a0, a1, v, o], H) ∧ Own 1 o H h.next r.length (m.map (.int .i64)) ∧ (∀ x ∈ m, (Lit.int .i64 x).wf = true) ∧ Went h H := by
    refine loop_ok (fun q xs G => ∃ (i : Nat) (o : AVal) (m : List Int), q + i = r.length ∧ Own 1 o G h.next i (m.map (.int .i64)) ∧ (∀ x ∈ m, (Lit.int .i64 x).wf = true) ∧ Went h G ∧ xs = [a0, a1, v, o, .int .i64 r.length, .int .i64 i]) _ ?_ r.length _ _ ⟨0, .nilSlice, [], by omega, Own.nil _ _ _, (fun x hx => by cases hx), Went.refl h, rfl⟩
    rintro q xs G ⟨i, o, m, hi, O, hm, W, rfl⟩
    by_cases h1 : i < r.length
    · left
      have i1 : ((i : Int) < (r.length : Int)) := by omega
      have I' : Ints .i64 v G r := I.mono fun b hb => W.old b (lt b hb)
      obtain ⟨p, q1, q2⟩ := I'.at i h1
      generalize r.getD i 0 = x at q2
      have hw := within_ok x (-1) 45 G (by omega) (by omega) (by omega)
      obtain ⟨g0, g1⟩ := within_in x (-1) 45 (by omega)
      generalize within x (-1) 45 = y at hw g0 g1
      obtain ⟨o', H', q3, O', K⟩ := O.snoc (bytes := 8) (zero := [.int .i64 0]) (news := [.int .i64 y]) (by omega) rfl W.next (by omega) (by omega)
      have w1 : IntKind.i64.wrap ((i : Int) + 1) = ((i + 1 : Nat) : Int) := wrap_succ _ (by omega)
      refine ⟨_, _, ?_, q - 1, by omega, i + 1, o', m ++ [y], by omega, by simpa using O', ?_, K.went W fun b hb => (O.blk b hb).1, rfl⟩
      · simp only [L4_0, List.getD_cons_succ, List.getD_cons_zero, bin_lss, Option.bind_some, i1, decide_true, cond_bool, cond_true, q1, q2, from_one, hw, reps_s, reps_z, List.append_nil, aFill_cons, aFill_nil, aCells_int, List.length_cons, List.length_nil, Nat.zero_add, Nat.reduceAdd, if_pos, Nat.le_refl, splice_t, splice_n, q3, bin_add, w1]
      · intro z hz
        rcases List.mem_append.1 hz with hz | hz
        · exact hm z hz
        · rw [List.mem_singleton.1 hz]
          exact wf_of (by omega) (by omega)
    · right
      have i1 : ¬ ((i : Int) < (r.length : Int)) := by omega
      obtain rfl : i = r.length := by omega
      exact ⟨0, _, G, by simp [L4_0], o, G, m, rfl, O, hm, W⟩
  obtain ⟨_, e, o, H, m, rfl, O, hm, W⟩ := key
  exact ⟨o, H, m, e, O.src.ints, fun b hb => (O.blk b hb).2, hm, W⟩

theorem recentPlays_law (h0 : Heap) {s : AVal} {l : List Int} (I : Ints .i64 s h0 l) (lt : ∀ b, slBlk s = some b → b < h0.next) (_ : ∀ x ∈ l, (Lit.int .i64 x).wf = true) (sz : l.length * 8 ≤ 140737488355328)
    {u : AVal} {R : List (List AVal)} (S : Src 2 u h0 R.length R.flatten) (leaf : ∀ r ∈ R, ∃ vs, LeafsOk [.str, .str] r vs) (_ : R.length * 32 ≤ 140737488355328)
    {v : AVal} {r : List Int} (I2 : Ints .i64 v h0 r) (lt2 : ∀ b, slBlk v = some b → b < h0.next) (wf2 : ∀ x ∈ r, (Lit.int .i64 x).wf = true) (sz2 : r.length * 8 ≤ 140737488355328) :
    ∃ h', E tbl 4 [s, u, v] h0 = some (.bool true, h') := by
  obtain ⟨ks, hl, hf⟩ := keys_of leaf
  rw [hf, ← hl] at S
  obtain ⟨o, H1, m, e1, J, jlt, jwf, W1⟩ := some_loop I2 lt2 sz2 s u
  have I1 : Ints .i64 s H1 l := I.mono fun b hb => W1.old b (lt b hb)
  obtain ⟨o2, ks2, H2, e2, O2, _, W2⟩ := keys_eq I1 (fun b hb => by have := lt b hb; have := W1.next; omega) (by omega)
  obtain ⟨H3, e3, W3⟩ := play_eq O2.src (J.mono fun b hb => W2.old b (jlt b hb)) (fun b hb => by have := jlt b hb; have := W2.next; omega) jwf
  have W13 := (W1.trans W2).trans W3
  have I3 : Ints .i64 v H3 r := I2.mono fun b hb => W13.old b (lt2 b hb)
  have lt3 : ∀ b, slBlk v = some b → b < H3.next := fun b hb => by have := lt2 b hb; have := W13.next; omega
  obtain ⟨H4, e4, W4⟩ := play_eq (W13.src S) I3 lt3 wf2
  have W14 := W13.trans W4
  obtain ⟨o5, ks5, H5, e5, O5, _, W5⟩ := keys_eq (I.mono fun b hb => W14.old b (lt b hb)) (fun b hb => by have := lt b hb; have := W14.next; omega) (by omega)
  have W15 := W14.trans W5
  obtain ⟨H6, e6, W6⟩ := play_eq O5.src (I2.mono fun b hb => W15.old b (lt2 b hb)) (fun b hb => by have := lt2 b hb; have := W15.next; omega) wf2
  obtain ⟨H7, e7, _⟩ := known_eq H6
  refine ⟨H7, ?_⟩
  rw [c4]
  simp only [S4, I2.len, Option.bind_some, e1, show Nat.beq 1 1 = true from rfl, cond_true, List.getD_cons_succ, List.getD_cons_zero, e2, e3, guard_bool, show (true == true) = true from rfl, e4, pick_bool, e5, e6, e7, ans_one]

theorem nums_loop (k : Int) (h : Heap) :
    ∃ o H m, loop (L3_1 (E tbl)) [.int .i64 k, .nilSlice, .int .i64 0] h = some (1, [.int .i64 k, o], H) ∧ Ints .i64 o H m ∧ m.length = 90 ∧ (∀ b, slBlk o = some b → b < H.next) := by
  have key : ∃ res, loop (L3_1 (E tbl)) [.int .i64 k, .nilSlice, .int .i64 0] h = some res ∧ ∃ o H, ∃ m : List Int, res = (1, [.int .i64 k, o], H) ∧ Own 1 o H h.next 90 (m.map (.int .i64)) := by
    refine loop_ok (fun q xs G => ∃ (i : Nat) (o : AVal) (m : List Int), q + i = 90 ∧ h.next ≤ G.next ∧ Own 1 o G h.next i (m.map (.int .i64)) ∧ xs = [.int .i64 k, o, .int .i64 i]) _ ?_ 90 _ _ ⟨0, .nilSlice, [], rfl, Nat.le_refl _, Own.nil _ _ _, rfl⟩
    rintro q xs G ⟨i, o, m, hi, hn, O, rfl⟩
    by_cases h1 : i < 90
    · left
      have i1 : ((i : Int) < 90) := by omega
      have w1 : IntKind.i64.wrap ((i : Int) + 1) = ((i + 1 : Nat) : Int) := wrap_succ _ (by omega)
      generalize hy : (IntKind.i64.wrap (IntKind.i64.wrap (IntKind.i64.wrap (IntKind.i64.wrap ((i : Int) * i) * 7) + IntKind.i64.wrap (k * 37)) + IntKind.i64.wrap ((i : Int) * k))).tmod 211 = y
      obtain ⟨o', H', q3, O', K⟩ := O.snoc (bytes := 8) (zero := [.int .i64 0]) (news := [.int .i64 y]) (by omega) rfl hn (by omega) (by omega)
      refine ⟨_, H', ?_, q - 1, by omega, i + 1, o', m ++ [y], by omega, by have := K.next; omega, by simpa using O', rfl⟩
      simp only [L3_1, List.getD_cons_succ, List.getD_cons_zero, bin_lss, Option.bind_some, i1, decide_true, cond_bool, cond_true, bin_mul, bin_add, bin_rem, show ¬ ((211 : Int) = 0) by decide, if_false, hy, reps_s, reps_z, List.append_nil, aFill_cons, aFill_nil, aCells_int, List.length_cons, List.length_nil, Nat.zero_add, Nat.reduceAdd, if_pos, Nat.le_refl, splice_t, splice_n, q3, w1]
    · right
      obtain rfl : i = 90 := by omega
      exact ⟨0, _, G, by simp [L3_1], o, G, m, rfl, O⟩
  obtain ⟨_, e, o, H, m, rfl, O⟩ := key
  exact ⟨o, H, m, e, O.src.ints, by simpa using O.1, fun b hb => (O.blk b hb).2⟩

theorem sinces_loop (k : AVal) {o : AVal} {m : List Int} {H : Heap} (I : Ints .i64 o H m) (lt : ∀ b, slBlk o = some b → b < H.next) (hm : m.length = 90) :
    ∃ H', loop (L3_2 (E tbl)) [k, o, .int .i64 (-2)] H = some (1, [k], H') ∧ Went H H' := by
  refine loop_up (f := L3_2 (E tbl)) 9 (fun j : Nat => [k, o, .int .i64 (-2 + 6 * (j : Int))]) _ (Went H) ?_ ?_ H (Went.refl H)
  · intro j G hj W
    have i1 : (-2 + 6 * (j : Int)) < 50 := by omega
    obtain ⟨o2, ks2, H2, e2, O2, _, W2⟩ := keys_eq (I.mono fun b hb => W.old b (lt b hb)) (fun b hb => by have := lt b hb; have := W.next; omega) (by omega)
    have w (x : Int) (h0 : 0 ≤ x) (h1 : x ≤ 6) : IntKind.i64.wrap (-2 + 6 * (j : Int) + x) = -2 + 6 * (j : Int) + x := IntWalk.i64_in _ (by omega)
    have L := Ints.lit .i64 H2 [-2 + 6 * (j : Int), -2 + 6 * (j : Int) + 1, -2 + 6 * (j : Int) + 2, -2 + 6 * (j : Int) + 3, -2 + 6 * (j : Int) + 4, -2 + 6 * (j : Int) + 5, -9223372036854775808, 9223372036854775807] 8 rfl true
    have W3 := Went.alloc H2 ([-2 + 6 * (j : Int), -2 + 6 * (j : Int) + 1, -2 + 6 * (j : Int) + 2, -2 + 6 * (j : Int) + 3, -2 + 6 * (j : Int) + 4, -2 + 6 * (j : Int) + 5, -9223372036854775808, 9223372036854775807].map (.int .i64))
    obtain ⟨H4, e4, W4⟩ := play_eq (W3.src O2.src) L (fun b hb => by cases hb; simp) (by
      intro x hx
      simp only [List.mem_cons, List.not_mem_nil, or_false] at hx
      rcases hx with rfl | rfl | rfl | rfl | rfl | rfl | rfl | rfl <;> exact wf_of (by omega) (by omega))
    have c1 : -2 + 6 * ((j + 1 : Nat) : Int) = -2 + 6 * (j : Int) + 6 := by omega
    refine ⟨H4, ?_, ((W.trans W2).trans W3).trans W4⟩
    have fl : aFill (reps [.int .i64 0] 8) [(0, 1, .int .i64 (-2 + 6 * (j : Int))), (1, 1, .int .i64 (-2 + 6 * (j : Int) + 1)), (2, 1, .int .i64 (-2 + 6 * (j : Int) + 2)), (3, 1, .int .i64 (-2 + 6 * (j : Int) + 3)), (4, 1, .int .i64 (-2 + 6 * (j : Int) + 4)), (5, 1, .int .i64 (-2 + 6 * (j : Int) + 5)), (6, 1, (.int .i64 (-9223372036854775808))), (7, 1, (.int .i64 9223372036854775807))] = some ([-2 + 6 * (j : Int), -2 + 6 * (j : Int) + 1, -2 + 6 * (j : Int) + 2, -2 + 6 * (j : Int) + 3, -2 + 6 * (j : Int) + 4, -2 + 6 * (j : Int) + 5, -9223372036854775808, 9223372036854775807].map (.int .i64)) := by simp
    simp only [L3_2, List.getD_cons_succ, List.getD_cons_zero, bin_lss, Option.bind_some, i1, decide_true, cond_bool, cond_true, e2, bin_add, w 1 (by omega) (by omega), w 2 (by omega) (by omega), w 3 (by omega) (by omega), w 4 (by omega) (by omega), w 5 (by omega) (by omega), w 6 (by omega) (by omega), fl, e4, un_not, Bool.not_true, cond_false, c1]
  · intro G W
    exact ⟨G, by simp [L3_2], W⟩

theorem recentNumbers_law (h0 : Heap) : ∃ h', E tbl 3 [] h0 = some (.bool true, h') := by
  obtain ⟨H, e, _⟩ := loop_up (f := L3_0 (E tbl)) 20 (fun j : Nat => [.int .i64 (j : Int)]) [] (fun _ => True) (by
    intro j G hj _
    have i1 : ((j : Int) < 20) := by omega
    obtain ⟨o, H1, m, e1, I, hm, lt⟩ := nums_loop j G
    obtain ⟨H2, e2, _⟩ := sinces_loop (.int .i64 j) I lt hm
    have w1 : IntKind.i64.wrap ((j : Int) + 1) = ((j + 1 : Nat) : Int) := wrap_succ _ (by omega)
    refine ⟨H2, ?_, trivial⟩
    simp only [L3_0, List.getD_cons_succ, List.getD_cons_zero, bin_lss, Option.bind_some, i1, decide_true, cond_bool, cond_true, e1, show Nat.beq 1 1 = true from rfl, e2, bin_add, w1]) (by
    intro G _
    exact ⟨G, by simp [L3_0], trivial⟩) h0 trivial
  obtain ⟨H2, e2, _⟩ := known_eq H
  refine ⟨H2, ?_⟩
  simp only [Int.cast_ofNat_Int] at e
  rw [c3]
  simp [S3, e, e2, beq_dec]

end Go.Proofs.Ytbbhibacjhfphaa.Code
