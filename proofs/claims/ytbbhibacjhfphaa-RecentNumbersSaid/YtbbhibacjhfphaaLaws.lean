/- Chapter 13: the laws. -/
import Derived.Test.YtbbhibacjhfphaaPlay
namespace Go.Proofs.Ytbbhibacjhfphaa.Code
set_option linter.unusedSimpArgs false
set_option linter.unusedVariables false
open Go.Fw

structure One (h0 : Heap) (pr : Nat) (sl : AVal) (H : Heap) (W : List KeyT) : Prop where
  row : RowAt pr sl H W.length (last16 W)
  went : Went h0 H
  pr0 : h0.next ≤ pr
  sl0 : ∀ b, slBlk sl = some b → h0.next ≤ b

theorem One.more {h0 : Heap} {pr : Nat} {sl : AVal} {H H' : Heap} {W : List KeyT} (B : One h0 pr sl H W) (K : Went H H') : One h0 pr sl H' W :=
  ⟨B.row.went K, B.went.trans K, B.pr0, B.sl0⟩

theorem One.add {h0 : Heap} {pr : Nat} {sl : AVal} {H : Heap} {W : List KeyT} (B : One h0 pr sl H W) (hW : W.length ≤ 100) (k : KeyT) :
    ∃ sl' H1, E tbl 12 [.ptr pr 0, .agg [.str k.1, .str k.2]] H = some (.int .i64 ((W.length : Int) + 1), H1) ∧ One h0 pr sl' H1 (W ++ [k]) := by
  obtain ⟨R, V, p0, s0⟩ := B
  obtain ⟨sl', H1, e1, R1, F1, n1⟩ := add_eq R (by rw [last16_len]; omega) (by omega) k
  rw [last16_snoc] at R1
  refine ⟨sl', H1, e1, ⟨R1.lt, by rw [R1.blk]; simp, R1.own, R1.ne⟩, F1.went V p0 s0, p0, fun b hb => by have := n1 b hb; have := V.next; omega⟩

theorem One.since {h0 : Heap} {pr : Nat} {sl : AVal} {H : Heap} {W : List KeyT} (B : One h0 pr sl H W) (hW : W.length ≤ 100) (n : Int) (hn : -9223372036854775808 ≤ n ∧ n ≤ 9223372036854775807) :
    ∃ o H1, E tbl 13 [.ptr pr 0, .int .i64 n] H = some (.tuple [o, .bool (sinceN W.length n)], H1) ∧ Went H H1 ∧ OwnK o H1 H.next (if sinceN W.length n = true then lasts (W.drop n.toNat) else []) := by
  obtain ⟨o, H1, e1, O1, W1⟩ := since_eq B.row (by omega) (by rw [last16_len]; omega) n hn
  refine ⟨o, H1, e1, W1, ?_⟩
  by_cases hs : sinceN W.length n = true
  · rw [if_pos hs] at O1 ⊢
    have e : (last16 W).drop (((last16 W).length : Int) - ((W.length : Int) - n)).toNat = W.drop n.toNat := by
      have h3 : 0 ≤ n ∧ n ≤ W.length ∧ (W.length : Int) - n ≤ 16 := by
        simp only [sinceN, Bool.not_eq_true', Bool.or_eq_false_iff, decide_eq_false_iff_not] at hs
        omega
      rw [last16_len]
      unfold last16
      rw [List.drop_drop]
      congr 1
      omega
    rw [e] at O1
    exact O1
  · rw [if_neg hs] at O1 ⊢
    exact O1

theorem One.new (h : Heap) : ∃ H0, E tbl 11 [] h = some (.ptr h.next 0, H0) ∧ One h h.next .nilSlice H0 [] := by
  obtain ⟨e0, R0⟩ := row_new h
  exact ⟨_, e0, R0, Went.alloc _ _, Nat.le_refl _, fun b hb => by cases hb⟩

theorem take_snoc {ks : List KeyT} {k : Nat} (h1 : k < ks.length) : ks.take k ++ [ks[k]] = ks.take (k + 1) := by
  rw [List.take_add_one, List.getElem?_eq_getElem h1]; rfl

theorem each_add (a1 o : AVal) (h : Heap) (ks : List KeyT) (hk : ks.length ≤ 50) (S : SrcK o h ks) {H0 : Heap} (B0 : One h h.next .nilSlice H0 []) :
    ∃ H sl, loop (L5_0 (E tbl)) [a1, o, .ptr h.next 0, .int .i64 ks.length, .int .i64 0] H0 = some (1, [a1, o, .ptr h.next 0], H) ∧ One h h.next sl H ks := by
  have key : ∃ res, loop (L5_0 (E tbl)) [a1, o, .ptr h.next 0, .int .i64 ks.length, .int .i64 0] H0 = some res ∧ ∃ H sl, res = (1, [a1, o, .ptr h.next 0], H) ∧ One h h.next sl H ks := by
    refine loop_ok (fun m xs G => ∃ (i : Nat) (sl : AVal), m + i = ks.length ∧ One h h.next sl G (ks.take i) ∧ xs = [a1, o, .ptr h.next 0, .int .i64 ks.length, .int .i64 i]) _ ?_ ks.length _ _ ⟨0, .nilSlice, by omega, B0, rfl⟩
    rintro m xs G ⟨i, sl, hi, B, rfl⟩
    by_cases h1 : i < ks.length
    · left
      have i1 : ((i : Int) < (ks.length : Int)) := by omega
      have hlen : (ks.take i).length = i := by rw [List.length_take]; omega
      obtain ⟨p, q1, q2⟩ := (B.went.src S).key i h1
      obtain ⟨sl', H1, e1, B1⟩ := B.add (by omega) ks[i]
      rw [take_snoc h1] at B1
      have w1 : IntKind.i64.wrap ((i : Int) + 1) = ((i + 1 : Nat) : Int) := wrap_succ _ (by omega)
      refine ⟨_, _, ?_, m - 1, by omega, i + 1, sl', by omega, B1, rfl⟩
      simp only [L5_0, List.getD_cons_succ, List.getD_cons_zero, bin_lss, Option.bind_some, i1, decide_true, cond_bool, cond_true, q1, q2, from_agg, e1, bin_add, w1]
    · right
      have i1 : ¬ ((i : Int) < (ks.length : Int)) := by omega
      rw [List.take_of_length_le (by omega)] at B
      exact ⟨0, _, G, by simp [L5_0, i1], G, sl, rfl, B⟩
  obtain ⟨_, e, H, sl, rfl, B⟩ := key
  exact ⟨H, sl, e, B⟩

theorem mem_lasts : ∀ {l : List KeyT} {x : KeyT}, x ∈ lasts l → x ∈ l
  | [], _, h => by simp [lasts] at h
  | k :: r, x, h => by
    unfold lasts at h
    split at h
    · exact List.mem_cons_of_mem _ (mem_lasts h)
    · rcases List.mem_cons.1 h with rfl | h
      · exact List.mem_cons_self
      · exact List.mem_cons_of_mem _ (mem_lasts h)

theorem lasts_count : ∀ {l : List KeyT} {x : KeyT}, x ∈ l → (lasts l).count x = 1
  | [], _, h => by simp at h
  | k :: r, x, h => by
    unfold lasts
    split
    · rename_i hk
      rcases List.mem_cons.1 h with rfl | h
      · exact lasts_count hk
      · exact lasts_count h
    · rename_i hk
      by_cases e : k = x
      · subst e
        rw [List.count_cons_self, List.count_eq_zero.2 fun h => hk (mem_lasts h)]
      · rcases List.mem_cons.1 h with rfl | h
        · exact (e rfl).elim
        · rw [List.count_cons_of_ne e, lasts_count h]

theorem count_loop {got : AVal} {H : Heap} {gl : List KeyT} (S : SrcK got H gl) (hl : gl.length ≤ 100) (x : KeyT) (x0 x1 x2 x4 x5 x6 : AVal) :
    loop (L5_2 (E tbl)) [x0, x1, x2, .int .i64 0, x4, x5, x6, got, .int .i64 gl.length, .int .i64 0, .agg [.str x.1, .str x.2]] H = some (1, [x0, x1, x2, .int .i64 (gl.count x), x4, x5, x6], H) := by
  have key : ∃ h', loop (L5_2 (E tbl)) ((fun j : Nat => [x0, x1, x2, .int .i64 ((gl.take j).count x), x4, x5, x6, got, .int .i64 gl.length, .int .i64 j, .agg [.str x.1, .str x.2]]) 0) H = some (1, [x0, x1, x2, .int .i64 (gl.count x), x4, x5, x6], h') ∧ h' = H := by
    refine loop_up (f := L5_2 (E tbl)) gl.length (fun j : Nat => [x0, x1, x2, .int .i64 ((gl.take j).count x), x4, x5, x6, got, .int .i64 gl.length, .int .i64 j, .agg [.str x.1, .str x.2]]) _ (fun G => G = H) ?_ ?_ H rfl
    · rintro j G hj rfl
      have i1 : ((j : Int) < (gl.length : Int)) := by omega
      obtain ⟨p, q1, q2⟩ := S.key j hj
      have w1 : IntKind.i64.wrap ((j : Int) + 1) = ((j + 1 : Nat) : Int) := wrap_succ _ (by omega)
      have hc : (gl.take j).count x ≤ j := Nat.le_trans List.count_le_length (by rw [List.length_take]; omega)
      have w2 : IntKind.i64.wrap (((gl.take j).count x : Int) + 1) = (((gl.take j).count x + 1 : Nat) : Int) := wrap_succ _ (by omega)
      refine ⟨G, ?_, rfl⟩
      rw [← take_snoc hj, List.count_append]
      by_cases hx : x = gl[j]
      · have hx' : (x.1, x.2) = (gl[j].1, gl[j].2) := hx
        have c1 : [gl[j]].count x = 1 := by rw [hx]; simp
        simp only [L5_2, List.getD_cons_succ, List.getD_cons_zero, bin_lss, Option.bind_some, i1, decide_true, cond_bool, cond_true, q1, q2, from_agg, aCells_agg, List.length_cons, List.length_nil, Nat.zero_add, Nat.reduceAdd, if_pos, ble_dec, Nat.le_refl, aggCells_agg, rdL_t, rdL_z, Option.map_some, splice_t, splice_n, eq_key, hx', bin_add, w1, w2, show Nat.beq 0 0 = true from rfl, c1]
      · have hx' : ¬ (x.1, x.2) = (gl[j].1, gl[j].2) := hx
        have c1 : [gl[j]].count x = 0 := by rw [List.count_eq_zero]; simpa using hx
        simp only [L5_2, List.getD_cons_succ, List.getD_cons_zero, bin_lss, Option.bind_some, i1, decide_true, cond_bool, cond_true, q1, q2, from_agg, aCells_agg, List.length_cons, List.length_nil, Nat.zero_add, Nat.reduceAdd, if_pos, ble_dec, Nat.le_refl, aggCells_agg, rdL_t, rdL_z, Option.map_some, splice_t, splice_n, eq_key, hx', decide_false, cond_false, bin_add, w1, show Nat.beq 0 0 = true from rfl, c1, Nat.add_zero]
    · rintro G rfl
      refine ⟨G, ?_, rfl⟩
      simp [L5_2]
  obtain ⟨h', e, rfl⟩ := key
  simpa using e

theorem once_loop {o got s2 : AVal} {H : Heap} {l : List KeyT} (k : AVal) (hl : l.length ≤ 50) (Sg : SrcK got H (lasts l)) (S2 : SrcK s2 H l) :
    loop (L5_1 (E tbl)) [o, k, got, s2, .int .i64 l.length, .int .i64 0] H = some (1, [o, k, got], H) := by
  have key : ∃ h', loop (L5_1 (E tbl)) ((fun j : Nat => [o, k, got, s2, .int .i64 l.length, .int .i64 j]) 0) H = some (1, [o, k, got], h') ∧ h' = H := by
    refine loop_up (f := L5_1 (E tbl)) l.length (fun j : Nat => [o, k, got, s2, .int .i64 l.length, .int .i64 j]) _ (fun G => G = H) ?_ ?_ H rfl
    · rintro j G hj rfl
      have i1 : ((j : Int) < (l.length : Int)) := by omega
      obtain ⟨p, q1, q2⟩ := S2.key j hj
      have w1 : IntKind.i64.wrap ((j : Int) + 1) = ((j + 1 : Nat) : Int) := wrap_succ _ (by omega)
      have q3 := count_loop Sg (by have := lasts_len l; omega) l[j] o k got s2 (.int .i64 l.length) (.int .i64 j)
      rw [lasts_count (List.getElem_mem hj)] at q3
      refine ⟨G, ?_, rfl⟩
      simp only [L5_1, List.getD_cons_succ, List.getD_cons_zero, bin_lss, Option.bind_some, i1, decide_true, cond_bool, cond_true, q1, q2, from_agg, aCells_agg, List.length_cons, List.length_nil, Nat.zero_add, Nat.reduceAdd, if_pos, ble_dec, Nat.le_refl, splice_t, splice_n, Sg.len, q3, show Nat.beq 1 1 = true from rfl, bin_neq, bin_add, w1]
      simp
    · rintro G rfl
      refine ⟨G, ?_, rfl⟩
      simp [L5_1]
  obtain ⟨h', e, rfl⟩ := key
  exact e

theorem recentEach_law (h0 : Heap) {s : AVal} {l : List Int} (I : Ints .i64 s h0 l) (lt : ∀ b, slBlk s = some b → b < h0.next) (_ : ∀ x ∈ l, (Lit.int .i64 x).wf = true) (sz : l.length * 8 ≤ 140737488355328)
    (from_ : Int) (_ : (Lit.int .i64 from_).wf = true) :
    ∃ h', E tbl 5 [s, .int .i64 from_] h0 = some (.bool true, h') := by
  obtain ⟨o, ks, h1, e1, O1, hk, _⟩ := keys_eq I lt (by omega)
  obtain ⟨H0, e2, B0⟩ := One.new h1
  obtain ⟨H, sl, e3, B⟩ := each_add (.int .i64 from_) o h1 ks hk O1.src B0
  have hw := within_ok from_ 0 ks.length H (by omega) (by omega) (by omega)
  obtain ⟨g0, g1⟩ := within_in from_ 0 ks.length (by omega)
  generalize within from_ 0 ks.length = k at hw g0 g1
  obtain ⟨got, H2, e4, W4, O4⟩ := B.since (by omega) k (by omega)
  obtain ⟨H3, e5, _⟩ := known_eq H2
  have Ss : SrcK o H2 ks := W4.src (B.went.src O1.src)
  have w1 : IntKind.i64.wrap ((ks.length : Int) - k) = (ks.length : Int) - k := IntWalk.i64_in _ (by omega)
  refine ⟨H3, ?_⟩
  by_cases hc : (ks.length : Int) - k > 16
  · have hs : sinceN ks.length k = false := by
      have hc' : 16 < (ks.length : Int) - k := hc
      simp [sinceN, hc']
    rw [hs] at e4 O4
    have ln := O4.src.len
    have hc' : 16 < (ks.length : Int) - k := hc
    simp only [Bool.false_eq_true, if_false, List.length_nil, Int.cast_ofNat_Int] at ln
    rw [c5]
    simp [S5, e1, e2, O1.src.len, e3, hw, e4, w1, hc', ln, e5, beq_dec]
  · have hc' : ¬ 16 < (ks.length : Int) - k := hc
    have hs : sinceN ks.length k = true := by
      have a1 : ¬ k < 0 := by omega
      have a2 : ¬ (ks.length : Int) < k := by omega
      simp [sinceN, hc', a1, a2]
    rw [hs] at e4 O4
    rw [if_pos rfl] at O4
    obtain ⟨j, rfl⟩ : ∃ j : Nat, k = (j : Int) := ⟨k.toNat, by omega⟩
    rw [Int.toNat_natCast] at O4
    obtain ⟨s2, q1, S2, _⟩ := Ss.restK j (by omega)
    have hld : (ks.drop j).length = ks.length - j := by simp
    have q2 := once_loop (o := o) (.int .i64 j) (by omega) O4.src S2
    have ll := lasts_len (ks.drop j)
    have hle : ((lasts (ks.drop j)).length : Int) ≤ (ks.length : Int) - j := by omega
    have hc2 : (ks.length : Int) - j ≤ 16 := by omega
    have l2 := S2.len
    have lg := O4.src.len
    rw [c5]
    simp only [S5, e1, e2, Option.bind_some, bin_ptr_nil, cond_bool, cond_false, O1.src.len, e3, show Nat.beq 1 1 = true from rfl, cond_true, List.getD_cons_succ, List.getD_cons_zero, Int.cast_ofNat_Int, hw, e4, ext_0, ext_1, un_not, Bool.not_true, q1, l2, q2, lg, bin_sub, w1, bin_leq, hle, decide_true, guard_bool, show (true == true) = true from rfl, pick_bool, hc2, e5, ans_one]

theorem sinceN_same (n : Nat) (hn : n ≤ 100) : sinceN n n = true ∧ sinceN (n + 1 : Nat) n = true ∧ sinceN n ((n : Int) + 1) = false := by
  refine ⟨?_, ?_, ?_⟩ <;> simp [sinceN] <;> omega

theorem now_loop (o : AVal) (h : Heap) (ks : List KeyT) (hk : ks.length ≤ 50) (S : SrcK o h ks) {H0 : Heap} (B0 : One h h.next .nilSlice H0 []) :
    ∃ H sl, loop (L6_0 (E tbl)) [o, .ptr h.next 0, .int .i64 ks.length, .int .i64 0] H0 = some (1, [o, .ptr h.next 0], H) ∧ One h h.next sl H ks := by
  have key : ∃ res, loop (L6_0 (E tbl)) [o, .ptr h.next 0, .int .i64 ks.length, .int .i64 0] H0 = some res ∧ ∃ H sl, res = (1, [o, .ptr h.next 0], H) ∧ One h h.next sl H ks := by
    refine loop_ok (fun m xs G => ∃ (i : Nat) (sl : AVal), m + i = ks.length ∧ One h h.next sl G (ks.take i) ∧ xs = [o, .ptr h.next 0, .int .i64 ks.length, .int .i64 i]) _ ?_ ks.length _ _ ⟨0, .nilSlice, by omega, B0, rfl⟩
    rintro m xs G ⟨i, sl, hi, B, rfl⟩
    by_cases h1 : i < ks.length
    · left
      have i1 : ((i : Int) < (ks.length : Int)) := by omega
      have hlen : (ks.take i).length = i := by rw [List.length_take]; omega
      have hlen2 : (ks.take (i + 1)).length = i + 1 := by rw [List.length_take]; omega
      obtain ⟨p, q1, q2⟩ := (B.went.src S).key i h1
      obtain ⟨sl', H1, e1, B1⟩ := B.add (by omega) ks[i]
      rw [take_snoc h1] at B1
      rw [hlen] at e1
      have w1 : IntKind.i64.wrap ((i : Int) + 1) = (i : Int) + 1 := IntWalk.i64_in _ (by omega)
      have w2 : IntKind.i64.wrap (i : Int) = (i : Int) := IntWalk.i64_in _ (by omega)
      have w3 : IntKind.i64.wrap ((i : Int) + 1 + 1) = (i : Int) + 1 + 1 := IntWalk.i64_in _ (by omega)
      have c1 : ((i + 1 : Nat) : Int) = (i : Int) + 1 := by omega
      obtain ⟨oa, H2, e2, V2, O2⟩ := B1.since (by omega) ((i : Int) + 1) (by omega)
      obtain ⟨ob, H3, e3, V3, O3⟩ := (B1.more V2).since (by omega) (i : Int) (by omega)
      obtain ⟨oc, H4, e4, V4, O4⟩ := ((B1.more V2).more V3).since (by omega) ((i : Int) + 1 + 1) (by omega)
      have t1 := (sinceN_same (i + 1) (by omega)).1
      have t2 := (sinceN_same i (by omega)).2.1
      have t3 := (sinceN_same (i + 1) (by omega)).2.2
      rw [hlen2] at e2 e3 e4 O2 O3
      rw [c1] at e2 e3 e4 O2 O3 t1 t2 t3
      rw [t1] at e2 O2
      rw [t2] at e3 O3
      rw [t3] at e4
      rw [if_pos rfl] at O2 O3
      rw [show ((i : Int) + 1).toNat = i + 1 by omega, List.drop_of_length_le (by omega)] at O2
      have hdrop : (ks.take (i + 1)).drop i = [ks[i]] := by
        rw [← take_snoc h1, List.drop_append_of_le_length (by omega), List.drop_of_length_le (by omega)]; rfl
      rw [Int.toNat_natCast, hdrop] at O3
      have la := O2.src.len
      have O3' : OwnK ob H3 H2.next [ks[i]] := O3
      have lb := O3'.src.len
      obtain ⟨p2, q3, q4⟩ := (V4.src O3'.src).key 0 (by simp)
      have B4 := ((B1.more V2).more V3).more V4
      obtain ⟨p3, q5, q6⟩ := (B4.went.src S).key i h1
      rw [q1] at q5
      cases q5
      simp only [lasts, List.length_nil, List.length_cons, Nat.zero_add, Int.cast_ofNat_Int, List.getElem_cons_zero] at la lb q3 q4
      refine ⟨_, _, ?_, m - 1, by omega, i + 1, sl', by omega, B4, rfl⟩
      rw [c1]
      simp [L6_0, i1, q1, q2, e1, e2, e3, e4, w1, w2, w3, la, lb, q3, q4, q6]
    · right
      have i1 : ¬ ((i : Int) < (ks.length : Int)) := by omega
      rw [List.take_of_length_le (by omega)] at B
      exact ⟨0, _, G, by simp [L6_0, i1], G, sl, rfl, B⟩
  obtain ⟨_, e, H, sl, rfl, B⟩ := key
  exact ⟨H, sl, e, B⟩

theorem recentNow_law (h0 : Heap) {s : AVal} {l : List Int} (I : Ints .i64 s h0 l) (lt : ∀ b, slBlk s = some b → b < h0.next) (_ : ∀ x ∈ l, (Lit.int .i64 x).wf = true) (sz : l.length * 8 ≤ 140737488355328) :
    ∃ h', E tbl 6 [s] h0 = some (.bool true, h') := by
  obtain ⟨o, ks, h1, e1, O1, hk, _⟩ := keys_eq I lt (by omega)
  obtain ⟨H0, e2, B0⟩ := One.new h1
  obtain ⟨H, sl, e3, B⟩ := now_loop o h1 ks hk O1.src B0
  obtain ⟨got, H2, e4, W4, O4⟩ := B.since (by omega) 0 (by omega)
  have e5 := seq_eq (B.more W4).row
  obtain ⟨H3, e6, _⟩ := known_eq H2
  have hs : sinceN ks.length 0 = decide ((ks.length : Int) ≤ 16) := by
    rw [Bool.eq_iff_iff]
    simp [sinceN]
  rw [hs] at e4
  refine ⟨H3, ?_⟩
  rw [c6]
  simp only [S6, e1, e2, Option.bind_some, bin_ptr_nil, cond_bool, cond_false, O1.src.len, e3, show Nat.beq 1 1 = true from rfl, cond_true, List.getD_cons_succ, List.getD_cons_zero, e4, ext_0, ext_1, bin_leq, bin_bool_eql, beq_self_eq_true, guard_bool, e5, bin_eql, pick_bool, e6, ans_one]

end Go.Proofs.Ytbbhibacjhfphaa.Code
