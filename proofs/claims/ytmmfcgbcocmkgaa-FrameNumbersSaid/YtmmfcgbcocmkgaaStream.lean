/- Chapter 3: the document's own stream; both, fed. -/
import Derived.Test.YtmmfcgbcocmkgaaFeed
namespace Go.Proofs.Ytmmfcgbcocmkgaa.Code
set_option linter.unusedSimpArgs false
set_option linter.unusedVariables false
open Go.Fw

theorem _root_.Go.Fw.Outs.ge {n0 : Nat} {G : Heap} {o : AVal} {fs : List (List UInt8)} (O : Outs n0 G o fs) : ∀ b, slBlk o = some b → n0 ≤ b ∧ b < G.next := by
  obtain ⟨S, OO, _⟩ := O
  exact fun b hb => OO.blk b hb

theorem rfeedStep {p : Nat} {n0 : Nat} {G : Heap} {s o : AVal} {l : List UInt8} {fs : List (List UInt8)} (T : St p G s l 0) (O : Outs n0 G o fs) (h0 : n0 ≤ G.next) (hp : p < n0) (hsz : l.length ≤ 140737488355328) (hf : fs.length ≤ 4000000000000) (hso : ∀ b, slBlk s = some b → slBlk o ≠ some b) :
    (nextW l ≠ 0 ∧ ∃ G', L21_0 (E tbl) [.ptr p 0, o] G = some (2, [o, .int .i64 (nextW l)], G') ∧ Outs n0 G' o fs ∧ St p G' .nilSlice [] (nextW l) ∧ Only p G G') ∨
    (nextW l = 0 ∧ nextN l = 0 ∧ L21_0 (E tbl) [.ptr p 0, o] G = some (1, [o], G)) ∨
    (nextW l = 0 ∧ nextN l ≠ 0 ∧ ∃ o' G' s', L21_0 (E tbl) [.ptr p 0, o] G = some (0, [.ptr p 0, o'], G') ∧ Outs n0 G' o' (fs ++ [(l.drop 4).take (nextN l - 8)]) ∧ St p G' s' (l.drop (nextN l)) 0 ∧ G.next ≤ G'.next ∧ (∀ b, b < n0 → b ≠ p → G'.blk b = G.blk b) ∧ (∀ b, slBlk s' = some b → slBlk o' ≠ some b) ∧ ∀ b, slBlk s' = some b → slBlk s = some b) := by
  have r0 := T.rd0
  have hln := T.bs.len
  have hg := get4_lt l
  have hn0 := fun b hb => (O.ge b hb).1
  -- a refusal
  have no : ∀ w : Nat, ∃ G1 G2, G.wr p 1 [.int .i64 w] = some G1 ∧ G1.wr p 0 [.nilSlice] = some G2 ∧ G2.rd p 1 1 = some [.int .i64 w] ∧ Outs n0 G2 o fs ∧ St p G2 .nilSlice [] w ∧ Only p G G2 := by
    intro w
    have T2 : St p (G.setBlk p (some ⟨[s, .int .i64 w], true⟩)) s l w := T.set T.bs T.room T.ne
    have T3 := T2.set (Bs.nil _) Room.nil (fun b hb => by cases hb) (w' := w)
    refine ⟨G.setBlk p (some ⟨[s, .int .i64 w], true⟩), _, ?_, T2.wr0, T3.rd1, ?_, T3, ?_⟩
    · rw [wr_of T.blk _ _ (by simp)]; rfl
    · exact O.went (Nat.le_refl _) fun b hb _ => by rw [setBlk_ne _ _ (by omega), setBlk_ne _ _ (by omega)]
    · exact ⟨Nat.le_refl _, fun b _ hb => by rw [setBlk_ne _ _ hb, setBlk_ne _ _ hb]⟩
  by_cases h1 : l.length < 4
  · have i1 : ¬ (4 : Int) ≤ (l.length : Int) := by omega
    right; left
    refine ⟨by simp [nextW, h1], by simp [nextN, h1], ?_⟩
    simp [L21_0, r0, hln, i1]
  · have i1 : (4 : Int) ≤ (l.length : Int) := by omega
    have eg := rget_eq T.bs (by omega)
    by_cases h2 : 8192 < get4 l
    · have i2 : (8192 : Int) < (get4 l : Int) := by omega
      left
      have hw : nextW l = 3 := by simp [nextW, h1, h2]
      obtain ⟨G1, G2, e1, e2, e3, O2, T2, On⟩ := no 3
      rw [hw]
      refine ⟨by omega, G2, ?_, O2, T2, On⟩
      have hc : aCells 1 .nilSlice = some [.nilSlice] := rfl
      simp only [Int.cast_ofNat_Int] at e1 e3
      simp [L21_0, r0, hln, i1, eg, i2, e1, hc, e2, e3]
    · have i2 : ¬ (8192 : Int) < (get4 l : Int) := by omega
      have w8 : IntKind.i64.wrap ((get4 l : Int) + 8) = ((get4 l + 8 : Nat) : Int) := by rw [IntWalk.i64_in _ (by omega)]; omega
      have cv := i64N (get4 l) (by omega) .u32 G
      by_cases h3 : l.length < get4 l + 8
      · have i3 : (l.length : Int) < ((get4 l + 8 : Nat) : Int) := by omega
        right; left
        refine ⟨by simp [nextW, h1, h2, h3], by simp [nextN, h1, h2, h3], ?_⟩
        simp only [L21_0, List.getD_cons_zero, List.getD_cons_succ, nilchk_ptr, faddr_ptr, load_ptr, Nat.zero_add, r0, Option.bind_some, from_one, hln, bin_geq, ge_iff_le, i1, decide_true, cond_bool, cond_true, eg, bin_gtr, gt_iff_lt, i2, decide_false, cond_false, cv, bin_add, w8, bin_lss, i3]
      · have i3 : ¬ (l.length : Int) < ((get4 l + 8 : Nat) : Int) := by omega
        have w4 : IntKind.i64.wrap ((get4 l : Int) + 4) = ((get4 l + 4 : Nat) : Int) := by rw [IntWalk.i64_in _ (by omega)]; omega
        obtain ⟨s1, e1, S1, _, _⟩ := T.bs.pre T.room (get4 l + 4) (by omega)
        obtain ⟨s2, e2, S2, R2, _⟩ := T.bs.post T.room (get4 l + 4) (by omega)
        have t1 := rsum_eq S1 (by rw [List.length_take]; omega)
        have t2 := rget_eq S2 (by rw [List.length_drop]; omega)
        have cp : checkPairs [(11, some (Log.rd p 0 1)), (7, some (.ef [] G [] G))] [(11, 7)] = true := by simp [checkPairs_cons, r0]
        by_cases h4 : sumB (l.take (get4 l + 4)) ≠ get4 (l.drop (get4 l + 4))
        · have i4 : ((get4 (l.drop (get4 l + 4)) : Int) == (sumB (l.take (get4 l + 4)) : Int)) = false := by
            simp only [beq_eq_false_iff_ne, ne_eq]; omega
          left
          have hw : nextW l = 13 := by simp [nextW, h1, h2, h3, h4]
          obtain ⟨G1, G2, q1, q2, q3, O2, T2, On⟩ := no 13
          rw [hw]
          refine ⟨by omega, G2, ?_, O2, T2, On⟩
          have hc : aCells 1 .nilSlice = some [.nilSlice] := rfl
          have hc2 : aCells 1 (.int .i64 13) = some [.int .i64 13] := rfl
          simp only [Int.cast_ofNat_Int] at q1 q3
          simp only [L21_0, List.getD_cons_zero, List.getD_cons_succ, nilchk_ptr, faddr_ptr, load_ptr, Nat.zero_add, r0, Option.bind_some, from_one, hln, bin_geq, ge_iff_le, i1, decide_true, cond_bool, cond_true, eg, bin_gtr, gt_iff_lt, i2, decide_false, cond_false, cv, bin_add, w8, bin_lss, i3, w4, e1, e2, t1, t2, logRd_ptr, cp, bin_neq, bne, i4, Bool.not_false, hc2, store_ptr, q1, hc, q2, q3, Int.cast_ofNat_Int]
        · have i4 : ((get4 (l.drop (get4 l + 4)) : Int) == (sumB (l.take (get4 l + 4)) : Int)) = true := by
            simp only [beq_iff_eq]; omega
          right; right
          have hw : nextW l = 0 := by simp [nextW, h1, h2, h3, h4]
          have hN : nextN l = get4 l + 8 := by simp [nextN, h1, h2, h3, h4]
          have w48 : IntKind.i64.wrap (4 + (get4 l : Int)) = ((4 + get4 l : Nat) : Int) := by rw [IntWalk.i64_in _ (by omega)]; omega
          have W1 : Went G (G.alloc []) := Went.alloc _ _
          have r1 : (G.alloc []).rd p 0 1 = some [s] := by rw [rd_blk (W1.old p T.lt)]; exact r0
          obtain ⟨s3, e3, S3, _, _⟩ := T.bs.mid T.room 4 (4 + get4 l) (by omega) (by omega)
          have e8 : 4 + get4 l - 4 = get4 l := by omega
          rw [e8] at S3
          obtain ⟨s4, G2, e4, F2⟩ := S3.again (by rw [List.length_take, List.length_drop]; omega)
          obtain ⟨o', G3, e5, O3, K3⟩ := O.snoc h0 F2 (by omega)
          have hk := K3.next
          have hn2 := F2.went.next
          have T3 : St p G3 s l 0 := T.kept (by omega) fun b hb hor => by
            rw [K3.old b (by omega) fun e => ?_, F2.went.old b hb]
            rcases hor with rfl | hs
            · have := hn0 _ e; omega
            · exact hso b hs e
          have r3 := T3.rd0
          obtain ⟨s5, e6, S5, R5, b5⟩ := T3.bs.post T.room (get4 l + 8) (by omega)
          have T4 := T3.set S5 R5 (fun b hb => T.ne b (b5 b hb)) (w' := 0)
          have e7 := T3.wr0 (s' := s5)
          have hc5 := S5.cell
          have hc4 := F2.own.cell
          have f0 : aFill (reps [AVal.int .u8 0] 0) [] = some [] := rfl
          have f1 : aFill (reps [AVal.nilSlice] 1) [(0, 1, s4)] = some [s4] := by simp [hc4]
          rw [hN]
          refine ⟨hw, by omega, o', G3.setBlk p (some ⟨[s5, .int .i64 ((0 : Nat) : Int)], true⟩), s5, ?_, ?_, T4, by show G.next ≤ G3.next; omega, fun b hb hbp => ?_, fun b hb e => (K3.blk b e).elim (hso b (b5 b hb)) fun h => by have := T.bs.blk b (b5 b hb); omega, b5⟩
          · simp only [Int.cast_ofNat_Int] at e3
            simp only [L21_0, List.getD_cons_zero, List.getD_cons_succ, nilchk_ptr, faddr_ptr, load_ptr, Nat.zero_add, r0, Option.bind_some, from_one, hln, bin_geq, ge_iff_le, i1, decide_true, cond_bool, cond_true, eg, bin_gtr, gt_iff_lt, i2, decide_false, cond_false, cv, bin_add, w8, bin_lss, i3, w4, e1, e2, t1, t2, logRd_ptr, cp, bin_neq, bne, i4, Bool.not_true, f0, r1, w48, e3, e4, f1, e5, r3, e6, hc5, store_ptr, e7]
          · have : get4 l + 8 - 8 = get4 l := by omega
            rw [this]
            exact O3.went (Nat.le_refl _) fun b hb _ => setBlk_ne _ _ (by omega)
          · rw [setBlk_ne _ _ hbp, K3.old b (by omega) fun e => by have := hn0 _ e; omega, F2.went.old b (by omega)]

/-- A loop that takes frames: 'ex': how it ends. -/
def StepOk (f : List AVal → Heap → Option J) (ex : AVal → Nat → Nat × List AVal) : Prop :=
  (∀ o w, (ex o w).1 ≠ 0) ∧ ∀ {p n0 : Nat} {G : Heap} {s o : AVal} {l : List UInt8} {fs : List (List UInt8)}, St p G s l 0 → Outs n0 G o fs → n0 ≤ G.next → p < n0 → l.length ≤ 140737488355328 → fs.length ≤ 4000000000000 → (∀ b, slBlk s = some b → slBlk o ≠ some b) →
    (nextW l ≠ 0 ∧ ∃ G', f [.ptr p 0, o] G = some ((ex o (nextW l)).1, (ex o (nextW l)).2, G') ∧ Outs n0 G' o fs ∧ St p G' .nilSlice [] (nextW l) ∧ Only p G G') ∨
    (nextW l = 0 ∧ nextN l = 0 ∧ f [.ptr p 0, o] G = some ((ex o 0).1, (ex o 0).2, G)) ∨
    (nextW l = 0 ∧ nextN l ≠ 0 ∧ ∃ o' G' s', f [.ptr p 0, o] G = some (0, [.ptr p 0, o'], G') ∧ Outs n0 G' o' (fs ++ [(l.drop 4).take (nextN l - 8)]) ∧ St p G' s' (l.drop (nextN l)) 0 ∧ G.next ≤ G'.next ∧ (∀ b, b < n0 → b ≠ p → G'.blk b = G.blk b) ∧ (∀ b, slBlk s' = some b → slBlk o' ≠ some b) ∧ ∀ b, slBlk s' = some b → slBlk s = some b)

theorem step18 : StepOk (L18_0 (E tbl)) (fun o w => (1, [o, .int .i64 w])) := ⟨fun _ _ => by simp, fun T O h0 hp hsz hf hso => feedStep T O h0 hp hsz hf hso⟩
theorem step21 : StepOk (L21_0 (E tbl)) (fun o w => if w = 0 then (1, [o]) else (2, [o, .int .i64 w])) :=
  ⟨fun _ w => by by_cases h : w = 0 <;> simp [h], fun T O h0 hp hsz hf hso => by
    rcases rfeedStep T O h0 hp hsz hf hso with ⟨h, x⟩ | ⟨h1, h2, x⟩ | x
    · exact .inl ⟨h, by simpa [h] using x⟩
    · exact .inr (.inl ⟨h1, h2, by simpa using x⟩)
    · exact .inr (.inr x)⟩

theorem takeLoop {f : List AVal → Heap → Option J} {ex : AVal → Nat → Nat × List AVal} (Z : StepOk f ex) {p n0 : Nat} (hp : p < n0) : ∀ (n : Nat) (G : Heap) (s o : AVal) (l : List UInt8) (fs : List (List UInt8)), l.length ≤ n → St p G s l 0 → Outs n0 G o fs → n0 ≤ G.next → l.length ≤ 140737488355328 → fs.length + l.length ≤ 4000000000000 → (∀ b, slBlk s = some b → slBlk o ≠ some b) →
    ∃ o' G' s', loop f [.ptr p 0, o] G = some ((ex o' (parse l).2.1).1, (ex o' (parse l).2.1).2, G') ∧ Outs n0 G' o' (fs ++ (parse l).1) ∧ St p G' s' (parse l).2.2 (parse l).2.1 ∧ G.next ≤ G'.next ∧ (∀ b, b < n0 → b ≠ p → G'.blk b = G.blk b) ∧ ∀ b, slBlk s' = some b → slBlk s = some b
  | n, G, s, o, l, fs, hl, T, O, h0, hsz, hf, hso => by
    have done : ∀ {i : Nat} {ys : List AVal} {H : Heap}, i ≠ 0 → f [.ptr p 0, o] G = some (i, ys, H) → loop f [.ptr p 0, o] G = some (i, ys, H) := by
      intro i ys H hi e
      match i, hi with
      | i + 1, _ => exact loop_done e
    rw [parse_eq]
    rcases Z.2 T O h0 hp hsz (by omega) hso with ⟨hw, G', e, O', T', On⟩ | ⟨hw, hn, e⟩ | ⟨hw, hn, o', G', s', e, O', T', hnx, hfr, hso', hss⟩
    · rw [if_pos hw]
      exact ⟨o, G', .nilSlice, done (Z.1 _ _) e, by simpa using O', T', On.next, fun b hb hbp => On.old b (by omega) hbp, fun b hb => by cases hb⟩
    · rw [if_neg (by omega), if_pos hn]
      exact ⟨o, G, s, done (Z.1 _ _) e, by simpa using O, T, Nat.le_refl _, fun _ _ _ => rfl, fun _ h => h⟩
    · have h8 := nextN_8 l hn
      have hle := nextN_le l
      match n, hl with
      | 0, hl => omega
      | n + 1, hl =>
        obtain ⟨o2, G2, s2, e2, O2, T2, n2, f2, b2⟩ := takeLoop Z hp n G' s' o' (l.drop (nextN l)) (fs ++ [(l.drop 4).take (nextN l - 8)]) (by rw [List.length_drop]; omega) T' O' (by omega) (by rw [List.length_drop]; omega) (by rw [List.length_append, List.length_singleton, List.length_drop]; omega) hso'
        rw [if_neg (by omega), if_neg hn]
        refine ⟨o2, G2, s2, (loop_more e).trans e2, by simpa using O2, T2, by omega, fun b hb hbp => by rw [f2 b hb hbp, hfr b hb hbp], fun b hb => hss b (b2 b hb)⟩

theorem St.only {p : Nat} {G : Heap} {s : AVal} {l : List UInt8} {w : Nat} (T : St p G s l w) : p < G.next := T.lt

theorem feed_ok {p : Nat} {G : Heap} {s x : AVal} {l b : List UInt8} {w : Nat} (T : St p G s l w) (X : Bs x G b) (hx : ∀ c, slBlk x = some c → c ≠ p) (hsz : l.length + b.length ≤ 4000000000000) :
    ∃ o G' s', E tbl 18 [.ptr p 0, x] G = some (.tuple [o, .int .i64 ((feedP l w b).2.1 : Nat)], G') ∧ Outs G.next G' o (feedP l w b).1 ∧ St p G' s' (feedP l w b).2.2 (feedP l w b).2.1 ∧ Only p G G' ∧ ∀ c, slBlk s' = some c → slBlk s = some c ∨ G.next ≤ c := by
  have r1 := T.rd1
  have r0 := T.rd0
  unfold feedP
  by_cases hw : w ≠ 0
  · have iw : ((w : Int) == 0) = false := by simp only [beq_eq_false_iff_ne, ne_eq]; omega
    rw [if_pos hw]
    refine ⟨.nilSlice, G, s, ?_, Outs.nil _ _, T, Only.refl _ _, fun _ h => .inl h⟩
    rw [c18]
    simp [S18, r1, bne, iw]
  · obtain rfl : w = 0 := by omega
    rw [if_neg (by omega)]
    obtain ⟨c, G1, e1, O1, W1⟩ := concat_eq T.bs X (by omega)
    have hcb : ∀ q, slBlk c = some q → G.next ≤ q := fun q hq => (O1.blk q hq).1
    have T1 : St p G1 s l 0 := T.kept W1.next fun q hq _ => W1.old q hq
    have hT := T.lt
    have B1 : Bs c G1 (l ++ b) := O1.src
    have T2 := T1.set B1 O1.room (fun q hq => by have := hcb q hq; omega) (w' := 0)
    have e2 := T1.wr0 (s' := c)
    obtain ⟨o, G2, s2, e3, O2, T3, n2, f2, b2⟩ := takeLoop step18 (n0 := G.next) T.lt (l ++ b).length _ c .nilSlice (l ++ b) [] (Nat.le_refl _) T2 (Outs.nil _ _) (by exact W1.next) (by rw [List.length_append]; omega) (by rw [List.length_append]; simp; omega) (fun q _ h => by cases h)
    refine ⟨o, G2, s2, ?_, by simpa using O2, T3, ⟨by have := W1.next; exact Nat.le_trans this n2, fun q hq hqp => by rw [f2 q hq hqp, setBlk_ne _ _ hqp, W1.old q hq]⟩, fun q hq => .inr (hcb q (b2 q hq))⟩
    have hc := O1.cell
    have hcs := T.bs.cell
    have hcx := X.cell
    simp only [Int.cast_ofNat_Int] at r1 e2 e3
    rw [c18]
    simp [S18, r1, r0, hcs, hcx, e1, hc, e2, e3, beq_dec]

theorem rfeed_ok {p : Nat} {G : Heap} {s x : AVal} {l b : List UInt8} {w : Nat} (T : St p G s l w) (X : Bs x G b) (hx : ∀ c, slBlk x = some c → c ≠ p) (hsz : l.length + b.length ≤ 4000000000000) :
    ∃ o G' s', E tbl 21 [.ptr p 0, x] G = some (.tuple [o, .int .i64 ((feedP l w b).2.1 : Nat)], G') ∧ Outs G.next G' o (feedP l w b).1 ∧ St p G' s' (feedP l w b).2.2 (feedP l w b).2.1 ∧ Only p G G' ∧ ∀ c, slBlk s' = some c → slBlk s = some c ∨ G.next ≤ c := by
  have r1 := T.rd1
  have r0 := T.rd0
  unfold feedP
  by_cases hw : w ≠ 0
  · have iw : ((w : Int) == 0) = false := by simp only [beq_eq_false_iff_ne, ne_eq]; omega
    rw [if_pos hw]
    refine ⟨.nilSlice, G, s, ?_, Outs.nil _ _, T, Only.refl _ _, fun _ h => .inl h⟩
    rw [c21]
    simp [S21, r1, bne, iw]
  · obtain rfl : w = 0 := by omega
    rw [if_neg (by omega)]
    have hT := T.lt
    obtain ⟨c1, G1, e1, F1⟩ := T.bs.again (by omega)
    obtain ⟨c, G2, e2, F2⟩ := F1.app (F1.went.src X) (by omega)
    have hcb : ∀ q, slBlk c = some q → G.next ≤ q := fun q hq => (F2.own.blk q hq).1
    have T1 : St p G2 s l 0 := T.kept F2.went.next fun q hq _ => F2.went.old q hq
    have T2 := T1.set F2.bs F2.own.room (fun q hq => by have := hcb q hq; omega) (w' := 0)
    have e3 := T1.wr0 (s' := c)
    obtain ⟨o, G3, s3, e4, O3, T3, n3, f3, b3⟩ := takeLoop step21 (n0 := G.next) T.lt (l ++ b).length _ c .nilSlice (l ++ b) [] (Nat.le_refl _) T2 (Outs.nil _ _) (by exact F2.went.next) (by rw [List.length_append]; omega) (by rw [List.length_append]; simp; omega) (fun q _ h => by cases h)
    refine ⟨o, G3, s3, ?_, by simpa using O3, T3, ⟨Nat.le_trans F2.went.next n3, fun q hq hqp => by rw [f3 q hq hqp, setBlk_ne _ _ hqp, F2.went.old q hq]⟩, fun q hq => .inr (hcb q (b3 q hq))⟩
    have hc := F2.own.cell
    have ra : (G.alloc []).rd p 0 1 = some [s] := by rw [rd_blk (alloc_old _ _ (by omega))]; exact r0
    have f0 : aFill (reps [AVal.int .u8 0] 0) [] = some [] := rfl
    simp only [Int.cast_ofNat_Int] at r1 e3 e4
    rw [c21]
    by_cases h0 : (parse (l ++ b)).2.1 = 0
    · simp only [h0, if_true] at e4
      simp only [h0]
      simp [S21, r1, ra, e1, e2, hc, e3, e4, beq_dec]
    · simp only [h0, if_false] at e4
      simp [S21, r1, ra, e1, e2, hc, e3, e4, beq_dec]
end Go.Proofs.Ytmmfcgbcocmkgaa.Code
