/- pdqsort's smaller parts, of texts. -/
import Derived.Test.YtllogmedpmanoaaPdqB
namespace Go.Proofs.Ytllogmedpmanoaa.Code
set_option linter.unusedSimpArgs false
set_option linter.unusedVariables false
open Go.Fw

section
variable {s : AVal} {n0 : Nat} {a b : Nat} {l : List Tx}
/-- Only one block was changed. -/
structure At1 (pb : Nat) (h H : Heap) : Prop where
  next : H.next = h.next
  old : ∀ b, b ≠ pb → H.blk b = h.blk b
theorem At1.refl (pb : Nat) (h : Heap) : At1 pb h h := ⟨rfl, fun _ _ => rfl⟩
theorem At1.trans {pb : Nat} {x y z : Heap} (p : At1 pb x y) (q : At1 pb y z) : At1 pb x z := ⟨q.next.trans p.next, fun b hb => (q.old b hb).trans (p.old b hb)⟩
theorem BufT.at1 {h H : Heap} {pb : Nat} (B : BufT s h n0 l) (A : At1 pb h H) (hs : slBlk s ≠ some pb) : BufT s H n0 l :=
  Fw.Buf.kept B (Nat.le_of_eq A.next.symm) fun b hb => A.old b fun e => hs (by rw [hb, e])

theorem order2_ok {h : Heap} (B : BufT s h n0 l) (i j : Nat) (hi : i < l.length) (hj : j < l.length) {pb : Nat} {c : Int} (P : h.blk pb = some ⟨[.int .i64 c], true⟩) :
    ∃ (i' j' : Nat) (c' : Int) (H : Heap), E tbl 60 [s, .int .i64 i, .int .i64 j, .ptr pb 0] h = some (.tuple [.int .i64 i', .int .i64 j'], H) ∧ ((i' = i ∧ j' = j) ∨ (i' = j ∧ j' = i)) ∧ H.blk pb = some ⟨[.int .i64 c'], true⟩ ∧ At1 pb h H := by
  obtain ⟨p, e1, e2⟩ := BufT.rd B i hi
  obtain ⟨q, e3, e4⟩ := BufT.rd B j hj
  have e5 := less46 (tat l j) (tat l i) h
  rw [c60]
  cases hq : lt (tat l j) (tat l i) with
  | true =>
    rw [hq] at e5
    have r : h.rd pb 0 1 = some [.int .i64 c] := by rw [rd_of P 0 1 (by simp)]; rfl
    have w : h.wr pb 0 [.int .i64 (IntKind.i64.wrap (c + 1))] = some (h.setBlk pb (some ⟨[.int .i64 (IntKind.i64.wrap (c + 1))], true⟩)) := by rw [wr_of P 0 _ (by simp)]; rfl
    refine ⟨j, i, IntKind.i64.wrap (c + 1), _, ?_, .inr ⟨rfl, rfl⟩, setBlk_same h pb (some ⟨[.int .i64 (IntKind.i64.wrap (c + 1))], true⟩), ⟨rfl, fun x hx => setBlk_ne _ _ hx⟩⟩
    simp only [S60, e1, e2, e3, e4, Option.bind_some, from_one, e5, cond_bool, cond_true, nilchk_ptr, load_ptr, r, bin_add, aCells_int, store_ptr, w, ans_one]
  | false =>
    rw [hq] at e5
    refine ⟨i, j, c, h, ?_, .inl ⟨rfl, rfl⟩, P, At1.refl _ _⟩
    simp only [S60, e1, e2, e3, e4, Option.bind_some, from_one, e5, cond_bool, cond_false, ans_one]
theorem median_ok {h : Heap} (B : BufT s h n0 l) (i j k : Nat) (hi : a ≤ i ∧ i < b) (hj : a ≤ j ∧ j < b) (hk : a ≤ k ∧ k < b) (hb : b ≤ l.length) {pb : Nat} {c : Int} (P : h.blk pb = some ⟨[.int .i64 c], true⟩) (hs : slBlk s ≠ some pb) :
    ∃ (m : Nat) (c' : Int) (H : Heap), E tbl 58 [s, .int .i64 i, .int .i64 j, .int .i64 k, .ptr pb 0] h = some (.int .i64 m, H) ∧ (a ≤ m ∧ m < b) ∧ H.blk pb = some ⟨[.int .i64 c'], true⟩ ∧ At1 pb h H := by
  obtain ⟨i1, j1, c1, h1, e1, f1, P1, A1⟩ := order2_ok B i j (by omega) (by omega) P
  have B1 := BufT.at1 B A1 hs
  obtain ⟨i2, j2, c2, h2, e2, f2, P2, A2⟩ := order2_ok B1 j1 k (by omega) (by omega) P1
  have B2 := BufT.at1 B1 A2 hs
  obtain ⟨i3, j3, c3, h3, e3, f3, P3, A3⟩ := order2_ok B2 i1 i2 (by omega) (by omega) P2
  refine ⟨j3, c3, h3, ?_, by omega, P3, (A1.trans A2).trans A3⟩
  rw [c58]
  simp only [S58, e1, e2, e3, Option.bind_some, ext_0, ext_1, ans_one]
theorem pivot_ok {h : Heap} (B : BufT s h n0 l) (hl : l.length ≤ 1000) (hb : b ≤ l.length) (h8 : a + 8 ≤ b) (h50 : b < a + 50) :
    ∃ (m : Nat) (hint : Int) (H : Heap), E tbl 43 [s, .int .i64 a, .int .i64 b] h = some (.tuple [.int .i64 m, .int .i64 hint], H) ∧ (a ≤ m ∧ m < b) ∧ Went h H := by
  have P : (h.alloc [.int .i64 0]).blk h.next = some ⟨[.int .i64 0], true⟩ := alloc_same _ _
  have hs : slBlk s ≠ some h.next := fun e => by have := (Fw.Buf.blk B _ e).2; omega
  have B0 : BufT s (h.alloc [.int .i64 0]) n0 l := Fw.Buf.kept B (by simp) fun c hc => alloc_old _ _ (by have := (Fw.Buf.blk B c hc).2; omega)
  obtain ⟨q, hq⟩ : ∃ q, q = (b - a) / 4 := ⟨_, rfl⟩
  obtain ⟨m, c, H, e1, hm, PH, A⟩ := median_ok (a := a) (b := b) B0 (a + q) (a + q * 2) (a + q * 3) (by omega) (by omega) (by omega) hb P hs
  have W : Went h H := ⟨by rw [A.next]; simp, fun c hc => by rw [A.old c (by omega), alloc_old _ _ (by omega)]⟩
  have w1 : IntKind.i64.wrap ((b : Int) - (a : Int)) = ((b - a : Nat) : Int) := by rw [IntWalk.i64_in _ (by omega)]; omega
  have w2 : IntKind.i64.wrap (Int.tdiv ((b - a : Nat) : Int) 4) = (q : Int) := by
    rw [Int.tdiv_eq_ediv_of_nonneg (by omega), IntWalk.i64_in _ (by omega)]
    omega
  have m1 : IntKind.i64.wrap ((q : Int) * 1) = (q : Int) := by rw [IntWalk.i64_in _ (by omega)]; omega
  have m2 : IntKind.i64.wrap ((q : Int) * 2) = ((q * 2 : Nat) : Int) := by rw [IntWalk.i64_in _ (by omega)]; omega
  have m3 : IntKind.i64.wrap ((q : Int) * 3) = ((q * 3 : Nat) : Int) := by rw [IntWalk.i64_in _ (by omega)]; omega
  have s1 : IntKind.i64.wrap ((a : Int) + (q : Int)) = ((a + q : Nat) : Int) := by rw [IntWalk.i64_in _ (by omega)]; omega
  have s2 : IntKind.i64.wrap ((a : Int) + ((q * 2 : Nat) : Int)) = ((a + q * 2 : Nat) : Int) := by rw [IntWalk.i64_in _ (by omega)]; omega
  have s3 : IntKind.i64.wrap ((a : Int) + ((q * 3 : Nat) : Int)) = ((a + q * 3 : Nat) : Int) := by rw [IntWalk.i64_in _ (by omega)]; omega
  have d8 : decide (((b - a : Nat) : Int) ≥ 8) = true := decide_eq_true (by omega)
  have d50 : decide (((b - a : Nat) : Int) ≥ 50) = false := decide_eq_false (by omega)
  have r : H.rd h.next 0 1 = some [.int .i64 c] := by rw [rd_of PH 0 1 (by simp)]; rfl
  rw [c43]
  by_cases c0 : c = 0
  · have i0 : (c == 0) = true := by simp [c0]
    refine ⟨m, 1, H, ?_, hm, W⟩
    simp only [S43, bin_sub, w1, bin_quo, show ¬ (4 : Int) = 0 by decide, if_false, w2, bin_mul, m1, m2, m3, bin_add, s1, s2, s3, Option.bind_some, bin_geq, d8, d50, cond_bool, cond_true, cond_false, nat_beq0, List.getD_cons_zero, List.getD_cons_succ, e1, load_ptr, r, from_one, bin_eql, i0, ans_one]
  · have i0 : (c == 0) = false := by simp [c0]
    by_cases c12 : c = 12
    · have i1 : (c == 12) = true := by simp [c12]
      refine ⟨m, 2, H, ?_, hm, W⟩
      simp only [S43, bin_sub, w1, bin_quo, show ¬ (4 : Int) = 0 by decide, if_false, w2, bin_mul, m1, m2, m3, bin_add, s1, s2, s3, Option.bind_some, bin_geq, d8, d50, cond_bool, cond_true, cond_false, nat_beq0, List.getD_cons_zero, List.getD_cons_succ, e1, load_ptr, r, from_one, bin_eql, i0, i1, ans_one]
    · have i1 : (c == 12) = false := by simp [c12]
      refine ⟨m, 0, H, ?_, hm, W⟩
      simp only [S43, bin_sub, w1, bin_quo, show ¬ (4 : Int) = 0 by decide, if_false, w2, bin_mul, m1, m2, m3, bin_add, s1, s2, s3, Option.bind_some, bin_geq, d8, d50, cond_bool, cond_true, cond_false, nat_beq0, List.getD_cons_zero, List.getD_cons_succ, e1, load_ptr, r, from_one, bin_eql, i0, i1, ans_one]

theorem reverse_ok {h : Heap} (B : BufT s h n0 l) (hl : l.length ≤ 1000) (hab : a < b) (hb : b ≤ l.length) :
    ∃ (R : List Tx) (H : Heap), E tbl 44 [s, .int .i64 a, .int .i64 b] h = some (.tuple [], H) ∧ BufT s H n0 R ∧ Reg a b l R ∧ OnlyS s h H := by
  have key := loop_ok (f := L44_0 (E tbl)) (fun m xs G => ∃ (i j : Nat) (M : List Tx), m = j + 1 - i ∧ a ≤ i ∧ i ≤ j + 1 ∧ j < b ∧ BufT s G n0 M ∧ Reg a b l M ∧ OnlyS s h G ∧ xs = [s, .int .i64 i, .int .i64 j])
    (fun r => ∃ (R : List Tx) (H : Heap), r = (1, [], H) ∧ BufT s H n0 R ∧ Reg a b l R ∧ OnlyS s h H) ?_ (b - a) [s, .int .i64 a, .int .i64 ((b - 1 : Nat) : Int)] h ⟨a, b - 1, l, by omega, Nat.le_refl _, by omega, by omega, B, Reg.refl _ _ _, OnlyS.refl _ _, rfl⟩
  · obtain ⟨r, e, R, H, rfl, x, y, z⟩ := key
    refine ⟨R, H, ?_, x, y, z⟩
    have w2 : IntKind.i64.wrap ((b : Int) - 1) = ((b - 1 : Nat) : Int) := by rw [IntWalk.i64_in _ (by omega)]; omega
    rw [c44]
    simp only [S44, bin_sub, w2, Option.bind_some, e, nat_beq11, cond_true, ans_one]
  · rintro m xs G ⟨i, j, M, hm, h1, h2, h3, BM, RM, OM, rfl⟩
    have hM := RM.len
    by_cases hij : i < j
    · left
      have d : decide ((i : Int) < (j : Int)) = true := decide_eq_true (by omega)
      obtain ⟨p, q, g1, g2, f1, f2, f3, f4, f5, f6, B2, O2⟩ := BufT.swap BM i j (by omega) (by omega)
      have w1 := wrap_succ i (by omega)
      have w2 : IntKind.i64.wrap ((j : Int) - 1) = ((j - 1 : Nat) : Int) := by rw [IntWalk.i64_in _ (by omega)]; omega
      have cs : ∀ t : Tx, aCells 1 (.str t) = some [.str t] := fun _ => rfl
      refine ⟨_, g2, ?_, j - 1 + 1 - (i + 1), by omega, i + 1, j - 1, _, rfl, by omega, by omega, by omega, B2, RM.swap i j (by omega) (by omega) hb, OM.trans O2, rfl⟩
      simp only [L44_0, List.getD_cons_zero, List.getD_cons_succ, bin_lss, d, Option.bind_some, cond_bool, cond_true, f1, f2, f3, f4, from_one, cs, f5, f6, bin_add, w1, bin_sub, w2]
    · right
      have d : decide ((i : Int) < (j : Int)) = false := decide_eq_false (by omega)
      refine ⟨0, _, G, ?_, M, G, rfl, BM, RM, OM⟩
      simp only [L44_0, List.getD_cons_zero, List.getD_cons_succ, bin_lss, d, Option.bind_some, cond_bool, cond_false]

theorem partial_ok {h : Heap} (B : BufT s h n0 l) (hl : l.length ≤ 1000) (hab : a < b) (hb : b ≤ l.length) (h50 : b < a + 50) :
    ∃ c : Bool, E tbl 45 [s, .int .i64 a, .int .i64 b] h = some (.bool c, h) ∧ (c = true → ∀ k, a < k → k < b → lt (tat l k) (tat l (k - 1)) = false) := by
  have scan : ∀ (n i : Nat), i + n = b → a + 1 ≤ i → (∀ k, a < k → k < i → lt (tat l k) (tat l (k - 1)) = false) →
      ∃ i' : Nat, loop (L45_1 (E tbl)) [s, .int .i64 a, .int .i64 b, .int .i64 i, .int .i64 0] h = some (1, [s, .int .i64 a, .int .i64 b, .int .i64 (i' : Nat), .int .i64 0], h) ∧ i' ≤ b ∧ a + 1 ≤ i' ∧ (∀ k, a < k → k < i' → lt (tat l k) (tat l (k - 1)) = false) := by
    intro n
    induction n with
    | zero =>
      intro i hi h1 hk
      have d : decide ((i : Int) < (b : Int)) = false := decide_eq_false (by omega)
      refine ⟨i, loop_done ?_, by omega, h1, hk⟩
      simp only [L45_1, List.getD_cons_zero, List.getD_cons_succ, bin_lss, d, Option.bind_some, guard_bool, show (false == true) = false from rfl, cond_false, pick_bool, cond_bool]
    | succ n ih =>
      intro i hi h1 hk
      have d : decide ((i : Int) < (b : Int)) = true := decide_eq_true (by omega)
      have ws := wrap_succ i (by omega)
      have wp : IntKind.i64.wrap ((i : Int) - 1) = ((i - 1 : Nat) : Int) := by rw [IntWalk.i64_in _ (by omega)]; omega
      obtain ⟨p, e1, e2⟩ := BufT.rd B i (by omega)
      obtain ⟨q, e3, e4⟩ := BufT.rd B (i - 1) (by omega)
      have e5 := less46 (tat l i) (tat l (i - 1)) h
      cases hq : lt (tat l i) (tat l (i - 1)) with
      | false =>
        rw [hq] at e5
        obtain ⟨i', f1, f2, f3, f4⟩ := ih (i + 1) (by omega) (by omega) (fun k k1 k2 => by
          by_cases e : k = i
          · subst e; exact hq
          · exact hk k k1 (by omega))
        refine ⟨i', (loop_more ?_).trans f1, f2, f3, f4⟩
        simp only [L45_1, List.getD_cons_zero, List.getD_cons_succ, bin_lss, d, Option.bind_some, guard_bool, BEq.rfl, cond_true, e1, e2, bin_sub, wp, e3, e4, from_one, e5, un_not, Bool.not_false, pick_bool, cond_bool, bin_add, ws]
      | true =>
        rw [hq] at e5
        refine ⟨i, loop_done ?_, by omega, h1, hk⟩
        simp only [L45_1, List.getD_cons_zero, List.getD_cons_succ, bin_lss, d, Option.bind_some, guard_bool, BEq.rfl, cond_true, e1, e2, bin_sub, wp, e3, e4, from_one, e5, un_not, Bool.not_true, pick_bool, cond_bool, cond_false]
  obtain ⟨i', f1, f2, f3, f4⟩ := scan (b - (a + 1)) (a + 1) (by omega) (Nat.le_refl _) (fun k _ _ => by omega)
  have ws := wrap_succ a (by omega)
  have wn : IntKind.i64.wrap ((b : Int) - (a : Int)) = ((b - a : Nat) : Int) := by rw [IntWalk.i64_in _ (by omega)]; omega
  have d50 : decide (((b - a : Nat) : Int) < 50) = true := decide_eq_true (by omega)
  have d5 : decide ((0 : Int) < 5) = true := rfl
  rw [c45]
  by_cases hib : i' = b
  · subst hib
    have s0 : L45_0 (E tbl) [s, .int .i64 a, .int .i64 (i' : Nat), .int .i64 ((a + 1 : Nat) : Int), .int .i64 0] h = some (2, [.bool true], h) := by
      simp only [L45_0, List.getD_cons_zero, List.getD_cons_succ, bin_lss, d5, Option.bind_some, cond_bool, cond_true, f1, nat_beq11, bin_eql, BEq.rfl]
    refine ⟨true, ?_, fun _ => f4⟩
    simp only [S45, bin_add, ws, Option.bind_some, loop_done s0, beq_dec, List.getD_cons_zero]
    rfl
  · have e : ((i' : Int) == (b : Int)) = false := beq_eq_false_iff_ne.2 (by omega)
    have s0 : L45_0 (E tbl) [s, .int .i64 a, .int .i64 b, .int .i64 ((a + 1 : Nat) : Int), .int .i64 0] h = some (2, [.bool false], h) := by
      simp only [L45_0, List.getD_cons_zero, List.getD_cons_succ, bin_lss, d5, Option.bind_some, cond_bool, cond_true, cond_false, f1, nat_beq11, bin_eql, e, bin_sub, wn, d50]
    refine ⟨false, ?_, fun h => by cases h⟩
    simp only [S45, bin_add, ws, Option.bind_some, loop_done s0, beq_dec, List.getD_cons_zero]
    rfl
end
end Go.Proofs.Ytllogmedpmanoaa.Code
