/- Chapter 11: GuardNumbers. -/
import Derived.Test.YtdphaonogpaedaaPlay
namespace Go.Proofs.Ytdphaonogpaedaa.Code
open Go.Fw

theorem fill7 (a b c d e f g : Int) : aFill (reps [.int .i64 0] 7) [(0, 1, .int .i64 a), (1, 1, .int .i64 b), (2, 1, .int .i64 c), (3, 1, .int .i64 d), (4, 1, .int .i64 e), (5, 1, .int .i64 f), (6, 1, .int .i64 g)] = some ([a, b, c, d, e, f, g].map (.int .i64)) := rfl

theorem play_lit (now : Int) (hnow : -9223372036854775808 ≤ now ∧ now ≤ 9223372036854775807) (ks ns : List Int) (hk : ks.length = 7) (hn : ns.length = 7) (wf : ∀ x ∈ ns, -9223372036854775808 ≤ x ∧ x ≤ 9223372036854775807) (h : Heap) :
    ∃ H, E tbl 9 [.int .i64 now, .slice h.next 0 7 7 1 true, .slice (h.next + 1) 0 7 7 1 true] ((h.alloc (ks.map (.int .i64))).alloc (ns.map (.int .i64))) = some (.bool true, H) ∧ h.next < H.next ∧ ∀ b, b < h.next → H.blk b = h.blk b := by
  have i1 : Ints .i64 (.slice h.next 0 7 7 1 true) ((h.alloc (ks.map (.int .i64))).alloc (ns.map (.int .i64))) ks := by
    refine .inr ⟨h.next, 0, 7, true, by rw [hk], ?_⟩
    rw [rd_of (x := ⟨ks.map (.int .i64), true⟩) (by rw [alloc_old _ _ (by simp)]; exact alloc_same _ _) _ _ (by simp)]
    simp [← List.map_take]
  have i2 : Ints .i64 (.slice (h.next + 1) 0 7 7 1 true) ((h.alloc (ks.map (.int .i64))).alloc (ns.map (.int .i64))) ns := by
    refine .inr ⟨h.next + 1, 0, 7, true, by rw [hn], ?_⟩
    have hs : ((h.alloc (ks.map (.int .i64))).alloc (ns.map (.int .i64))).blk (h.next + 1) = some ⟨ns.map (.int .i64), true⟩ := alloc_same _ _
    rw [rd_of hs _ _ (by simp)]
    simp [← List.map_take]
  obtain ⟨H, e, e2, e3⟩ := play_eq _ now hnow i1 i2 (fun b hb => by cases hb; simp; omega) (fun b hb => by cases hb; simp) wf
  refine ⟨H, e, by rw [e2]; simp; omega, fun b hb => ?_⟩
  rw [e3 b (by simp; omega), alloc_old _ _ (by simp; omega), alloc_old _ _ (by omega)]

theorem numbers0 : ∀ (m : Nat) (n : Int) (h : Heap), n + m = 200 → -2 ≤ n → ∃ H, loop (L3_0 (E tbl)) [.int .i64 n] h = some (1, [], H)
  | 0, n, h, hm, hn => by
    have e : n = 200 := by omega
    subst e
    exact ⟨h, loop_done (i := 0) (by simp [L3_0])⟩
  | m + 1, n, h, hm, hn => by
    obtain ⟨H, e, _, _⟩ := play_lit 3 (by omega) [0, 0, 4, 0, 4, 0, 4] [0, 0, n, 0, 2 * n, 0, 3 * n + 7] rfl rfl (by simp; omega) h
    obtain ⟨H2, e2⟩ := numbers0 m (n + 1) H (by omega) (by omega)
    refine ⟨H2, (loop_more ?_).trans e2⟩
    have q : n < 200 := by omega
    have w1 : IntKind.i64.wrap (2 * n) = 2 * n := IntWalk.i64_in _ (by omega)
    have w2 : IntKind.i64.wrap (3 * n) = 3 * n := IntWalk.i64_in _ (by omega)
    have w3 : IntKind.i64.wrap (3 * n + 7) = 3 * n + 7 := IntWalk.i64_in _ (by omega)
    have w4 : IntKind.i64.wrap (n + 1) = n + 1 := IntWalk.i64_in _ (by omega)
    simp only [List.map_cons, List.map_nil] at e
    simp [L3_0, q, need_eq, ref_need_eq, fill7, w1, w2, w3, w4, e]

theorem numbers2 (b : Nat) : ∀ (m : Nat) (i : Int) (h : Heap), i + m = 1048581 → 0 ≤ i → Gd h b 0 0 (min i 1048576) → ∃ H, loop (L3_2 (E tbl)) [.ptr b 0, .int .i64 i] h = some (1, [.ptr b 0], H) ∧ Gd H b 0 0 1048576
  | 0, i, h, hm, hi, G => by
    have e : i = 1048581 := by omega
    subst e
    exact ⟨h, loop_done (i := 0) (by simp [L3_2]), G⟩
  | m + 1, i, h, hm, hi, G => by
    have q : i < 1048581 := by omega
    have w1 : IntKind.i64.wrap (i + 1) = i + 1 := IntWalk.i64_in _ (by omega)
    have w2 : min (IntKind.i64.wrap (min i 1048576 + 1)) 1048576 = min (i + 1) 1048576 := by rw [IntWalk.i64_in _ (by omega)]; omega
    obtain ⟨H, e1, e2⟩ := numbers2 b m (i + 1) (h.setBlk b (gd 0 0 (min (i + 1) 1048576))) (by omega) (by omega) (Gd.set _ _ _ _ _)
    refine ⟨H, (loop_more ?_).trans e1, e2⟩
    have r := renew_eq G
    rw [w2] at r
    simp [L3_2, q, r, w1]

theorem numbers1 (b : Nat) (ts : List Int) (hts : ts.length = 7) (wf : ∀ x ∈ ts, -9223372036854775808 ≤ x ∧ x ≤ 9223372036854775807) : ∀ (m i : Nat) (h : Heap), i + m = 7 → b < h.next → Ints .i64 (.slice b 0 7 7 1 true) h ts →
    ∃ H, loop (L3_1 (E tbl)) [.slice b 0 7 7 1 true, .int .i64 7, .int .i64 i] h = some (1, [], H)
  | 0, i, h, hm, hb, I => by
    have e : i = 7 := by omega
    subst e
    exact ⟨h, loop_done (i := 0) (by simp [L3_1])⟩
  | m + 1, i, h, hm, hb, I => by
    obtain ⟨p, a1, l1⟩ := I.at i (by omega)
    have hx : -9223372036854775808 ≤ ts.getD i 0 ∧ ts.getD i 0 ≤ 9223372036854775807 := by
      apply wf
      rw [List.getD_eq_getElem?_getD, List.getElem?_eq_getElem (by omega)]
      exact List.getElem_mem _
    generalize ts.getD i 0 = x at *
    have hw : ∀ y : Int, -9223372036854775808 ≤ IntKind.i64.wrap y ∧ IntKind.i64.wrap y ≤ 9223372036854775807 := fun y => by rw [IntKind.wrap_i64]; omega
    obtain ⟨H, e, e1, e2⟩ := play_lit x hx [0, 4, 0, 4, 4, 0, 4] [1, IntKind.i64.wrap (x + 59), 2, IntKind.i64.wrap (x + 60), IntKind.i64.wrap (x + 61), 3, 9223372036854775807] rfl rfl (by
      intro y hy
      have h1 := hw (x + 59)
      have h2 := hw (x + 60)
      have h3 := hw (x + 61)
      simp only [List.mem_cons, List.not_mem_nil, or_false] at hy
      omega) h
    obtain ⟨H2, e3⟩ := numbers1 b ts hts wf m (i + 1) H (by omega) (by omega) (I.mono fun c hc => by cases hc; exact e2 b hb)
    refine ⟨H2, (loop_more ?_).trans e3⟩
    have q : (i : Int) < 7 := by omega
    have w4 : IntKind.i64.wrap ((i : Int) + 1) = (i : Int) + 1 := IntWalk.i64_in _ (by omega)
    simp only [List.map_cons, List.map_nil] at e
    simp [L3_1, q, a1, l1, need_eq, ref_need_eq, fill7, w4, e]

theorem numbers_eq (h : Heap) : ∃ h', E tbl 3 [] h = some (.bool true, h') := by
  rw [c3]
  obtain ⟨H0, e0⟩ := numbers0 202 (-2) h (by omega) (by omega)
  have i1 : Ints .i64 (.slice H0.next 0 7 7 1 true) (H0.alloc ([-9223372036854775808, -61, -1, 0, 1099511627776, 9223372036854775747, 9223372036854775807].map (.int .i64))) [-9223372036854775808, -61, -1, 0, 1099511627776, 9223372036854775747, 9223372036854775807] := by
    refine .inr ⟨H0.next, 0, 7, true, rfl, ?_⟩
    rw [rd_of (alloc_same _ _) _ _ (by simp)]
    rfl
  obtain ⟨H1, e1⟩ := numbers1 H0.next _ rfl (by simp) 7 0 _ (by omega) (by simp) i1
  have G : Gd (H1.alloc [.int .i64 0, .int .i64 0, .int .i64 0]) H1.next 0 0 0 := alloc_same _ _
  obtain ⟨H2, e2, G2⟩ := numbers2 H1.next 1048581 0 _ (by omega) (by omega) G
  obtain ⟨H3, e3⟩ := known_eq H2
  refine ⟨H3, ?_⟩
  have e1' : loop (L3_1 (E tbl)) [.slice H0.next 0 7 7 1 true, .int .i64 7, .int .i64 0] (H0.alloc ([-9223372036854775808, -61, -1, 0, 1099511627776, 9223372036854775747, 9223372036854775807].map (.int .i64))) = some (1, [], H1) := e1
  simp only [List.map_cons, List.map_nil] at e1'
  simp [S3, e0, fill7, aLen, e1', new_eq, e2, this_eq G2, e3]

end Go.Proofs.Ytdphaonogpaedaa.Code
