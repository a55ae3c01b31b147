/- pdqsort's partitions, of texts. -/
import Derived.Test.YtllogmedpmanoaaPdqA
namespace Go.Proofs.Ytllogmedpmanoaa.Code
set_option linter.unusedSimpArgs false
set_option linter.unusedVariables false
open Go.Fw

/-- Parted so far: behind i what is less, behind j what is not. -/
structure PI (q : Tx → Tx → Bool) (a b : Nat) (p : Tx) (l M : List Tx) (i j : Nat) : Prop where
  pa : tat M a = p
  reg : Reg a b l M
  ai : a + 1 ≤ i
  ij : i ≤ j + 1
  jb : j < b
  bl : b ≤ l.length
  lo : ∀ k, a < k → k < i → q (tat M k) (tat M a) = true
  hi : ∀ k, j < k → k < b → q (tat M k) (tat M a) = false
theorem PI.swap {q : Tx → Tx → Bool} {a b : Nat} {p : Tx} {l M : List Tx} {i j i' j' : Nat} (P : PI q a b p l M i j) (h1 : i ≤ i') (h2 : i' ≤ j') (h3 : j' ≤ j)
    (u : ∀ k, i ≤ k → k < i' → q (tat M k) (tat M a) = true) (v : ∀ k, j' < k → k ≤ j → q (tat M k) (tat M a) = false)
    (x : q (tat M i') (tat M a) = false) (y : q (tat M j') (tat M a) = true) : PI q a b p l (swapL M i' j') (i' + 1) (j' - 1) ∧ i' < j' := by
  have hne : i' ≠ j' := fun e => by rw [e, y] at x; cases x
  obtain ⟨pa, p1, p2, p3, p4, p5, p6, p7⟩ := P
  have hl := p1.len
  have ea : tat (swapL M i' j') a = tat M a := by rw [swap_at _ _ _ _ (by omega) (by omega), if_neg (by omega), if_neg (by omega)]
  refine ⟨⟨ea.trans pa, p1.swap i' j' (by omega) (by omega) p5, by omega, by omega, by omega, p5, fun k hk1 hk2 => ?_, fun k hk1 hk2 => ?_⟩, by omega⟩
  · rw [ea, swap_at _ _ _ _ (by omega) (by omega), if_neg (by omega)]
    split
    · exact y
    · by_cases e : k < i
      · exact p6 k hk1 e
      · exact u k (by omega) (by omega)
  · rw [ea, swap_at _ _ _ _ (by omega) (by omega)]
    split
    · exact x
    · rw [if_neg (by omega)]
      by_cases e : j < k
      · exact p7 k e hk2
      · exact v k (by omega) (by omega)
theorem PI.scan {q : Tx → Tx → Bool} {a b : Nat} {p : Tx} {l M : List Tx} {i j i' j' : Nat} (P : PI q a b p l M i j) (h1 : i ≤ i') (h2 : i' ≤ j' + 1) (h3 : j' ≤ j)
    (u : ∀ k, i ≤ k → k < i' → q (tat M k) (tat M a) = true) (v : ∀ k, j' < k → k ≤ j → q (tat M k) (tat M a) = false) : PI q a b p l M i' j' := by
  obtain ⟨pa, p1, p2, p3, p4, p5, p6, p7⟩ := P
  refine ⟨pa, p1, by omega, h2, by omega, p5, fun k hk1 hk2 => ?_, fun k hk1 hk2 => ?_⟩
  · by_cases e : k < i
    · exact p6 k hk1 e
    · exact u k (by omega) hk2
  · by_cases e : j < k
    · exact p7 k e hk2
    · exact v k hk1 (by omega)

abbrev qL (x p : Tx) : Bool := lt x p
abbrev qE (x p : Tx) : Bool := !(lt p x)

section
variable {s : AVal} {n0 : Nat} {a b : Nat} {p : Tx} {l : List Tx}
theorem part2 (hl : l.length ≤ 1000) : ∀ (N : Nat) (h : Heap) (M : List Tx) (i j : Nat), j + 1 - i ≤ N → BufT s h n0 M → PI qL a b p l M i j →
    ∃ j' M' H, loop (L48_2 (E tbl)) [s, .int .i64 a, .int .i64 i, .int .i64 j] h = some (1, [s, .int .i64 a, .int .i64 (j' : Nat)], H) ∧ BufT s H n0 M' ∧ PI qL a b p l M' (j' + 1) j' ∧ OnlyS s h H := by
  intro N
  induction N with
  | zero =>
    intro h M i j hN B P
    have hM := P.reg.len
    have p2 := P.ai; have p3 := P.ij; have p4 := P.jb; have p5 := P.bl
    obtain ⟨i', e1, i1, i2, i3, _⟩ := up48 B (by omega) a j (by omega) (by omega) (j + 1 - i) i (by omega)
    obtain ⟨j', e2, j1, j2, j3, _⟩ := down48 B (by omega) a i' (by omega) (by omega) (j + 1 - i') j (by omega) (by omega)
    have d : decide ((i' : Int) > (j' : Int)) = true := decide_eq_true (by omega)
    have hij : i' = j' + 1 := by omega
    subst hij
    refine ⟨j', M, h, loop_done ?_, B, P.scan i1 j2 j1 i3 j3, OnlyS.refl _ _⟩
    have e1' : loop (L48_3 (E tbl)) [s, .int .i64 a, .int .i64 i, .int .i64 j] h = _ := e1
    have e2' : loop (L48_4 (E tbl)) [s, .int .i64 a, .int .i64 ((j' + 1 : Nat) : Int), .int .i64 j] h = _ := e2
    simp only [L48_2, List.getD_cons_zero, List.getD_cons_succ, e1', e2', Option.bind_some, Nat.zero_add, nat_beq11, cond_true, bin_gtr, d, cond_bool]
  | succ N ih =>
    intro h M i j hN B P
    have hM := P.reg.len
    have p2 := P.ai; have p3 := P.ij; have p4 := P.jb; have p5 := P.bl
    obtain ⟨i', e1, i1, i2, i3, i4⟩ := up48 B (by omega) a j (by omega) (by omega) (j + 1 - i) i (by omega)
    obtain ⟨j', e2, j1, j2, j3, j4⟩ := down48 B (by omega) a i' (by omega) (by omega) (j + 1 - i') j (by omega) (by omega)
    have e1' : loop (L48_3 (E tbl)) [s, .int .i64 a, .int .i64 i, .int .i64 j] h = _ := e1
    have e2' : loop (L48_4 (E tbl)) [s, .int .i64 a, .int .i64 (i' : Nat), .int .i64 j] h = _ := e2
    by_cases hij : i' ≤ j'
    · have d : decide ((i' : Int) > (j' : Int)) = false := decide_eq_false (by omega)
      obtain ⟨P', hlt⟩ := P.swap i1 hij j1 i3 j3 (i4 (by omega)) (j4 hij)
      obtain ⟨p, q, h1, h2, f1, f2, f3, f4, f5, f6, B2, O2⟩ := BufT.swap B i' j' (by omega) (by omega)
      obtain ⟨jj, M', H, g1, g2, g3, g4⟩ := ih h2 _ (i' + 1) (j' - 1) (by omega) B2 P'
      have w1 := wrap_succ i' (by omega)
      have w2 : IntKind.i64.wrap ((j' : Int) - 1) = ((j' - 1 : Nat) : Int) := by rw [IntWalk.i64_in _ (by omega)]; omega
      have cs : ∀ t : Tx, aCells 1 (.str t) = some [.str t] := fun _ => rfl
      refine ⟨jj, M', H, (loop_more ?_).trans g1, g2, g3, O2.trans g4⟩
      simp only [L48_2, List.getD_cons_zero, List.getD_cons_succ, e1', e2', Option.bind_some, Nat.zero_add, nat_beq11, cond_true, bin_gtr, d, cond_bool, cond_false, f1, f2, f3, f4, from_one, cs, f5, f6, bin_add, w1, bin_sub, w2]
    · have d : decide ((i' : Int) > (j' : Int)) = true := decide_eq_true (by omega)
      have hij : i' = j' + 1 := by omega
      subst hij
      refine ⟨j', M, h, loop_done ?_, B, P.scan i1 j2 j1 i3 j3, OnlyS.refl _ _⟩
      simp only [L48_2, List.getD_cons_zero, List.getD_cons_succ, e1', e2', Option.bind_some, Nat.zero_add, nat_beq11, cond_true, bin_gtr, d, cond_bool]

/-- What partition leaves. -/
structure Parted (a b : Nat) (l R : List Tx) (m : Nat) : Prop where
  reg : Reg a b l R
  am : a ≤ m
  mb : m < b
  lo : ∀ k, a ≤ k → k < m → lt (tat R k) (tat R m) = true
  hi : ∀ k, m < k → k < b → lt (tat R k) (tat R m) = false
theorem PI.parted {M : List Tx} {j : Nat} (P : PI qL a b p l M (j + 1) j) : Parted a b l (swapL M j a) j := by
  obtain ⟨_, p1, p2, p3, p4, p5, p6, p7⟩ := P
  have hM := p1.len
  have ej : tat (swapL M j a) j = tat M a := by
    rw [swap_at _ _ _ _ (by omega) (by omega)]
    split
    · rename_i e; rw [e]
    · rw [if_pos rfl]
  refine ⟨p1.swap j a (by omega) (by omega) p5, by omega, p4, fun k h1 h2 => ?_, fun k h1 h2 => ?_⟩
  · rw [ej, swap_at _ _ _ _ (by omega) (by omega)]
    split
    · exact p6 j (by omega) (by omega)
    · rw [if_neg (by omega)]
      exact p6 k (by omega) (by omega)
  · rw [ej, swap_at _ _ _ _ (by omega) (by omega), if_neg (by omega), if_neg (by omega)]
    exact p7 k h1 h2

theorem partition_ok {h : Heap} (B : BufT s h n0 l) (hl : l.length ≤ 1000) (pv : Nat) (hab : a < b) (hb : b ≤ l.length) (h1 : a ≤ pv) (h2 : pv < b) :
    ∃ (m : Nat) (c : Bool) (R : List Tx) (H : Heap), E tbl 48 [s, .int .i64 a, .int .i64 b, .int .i64 pv] h = some (.tuple [.int .i64 m, .bool c], H) ∧ BufT s H n0 R ∧ Parted a b l R m ∧ OnlyS s h H := by
  obtain ⟨p0, q0, g1, g2, x1, x2, x3, x4, x5, x6, B1, O1⟩ := BufT.swap B a pv (by omega) (by omega)
  have R1 : Reg a b l (swapL l a pv) := (Reg.refl a b l).swap a pv (by omega) (by omega) hb
  have hM := R1.len
  generalize swapL l a pv = M at *
  have P : PI qL a b (tat M a) l M (a + 1) (b - 1) := ⟨rfl, R1, Nat.le_refl _, by omega, by omega, hb, fun k _ _ => by omega, fun k _ _ => by omega⟩
  have w1 := wrap_succ a (by omega)
  have w2 : IntKind.i64.wrap ((b : Int) - 1) = ((b - 1 : Nat) : Int) := by rw [IntWalk.i64_in _ (by omega)]; omega
  obtain ⟨i', e1, i1, i2, i3, i4⟩ := up48 B1 (by omega) a (b - 1) (by omega) (by omega) (b - 1 - a) (a + 1) (by omega)
  obtain ⟨j', e2, j1, j2, j3, j4⟩ := down48 B1 (by omega) a i' (by omega) (by omega) (b - 1 + 1 - i') (b - 1) (by omega) (by omega)
  have cs : ∀ t : Tx, aCells 1 (.str t) = some [.str t] := fun _ => rfl
  by_cases hij : i' ≤ j'
  · have d : decide ((i' : Int) > (j' : Int)) = false := decide_eq_false (by omega)
    obtain ⟨P', hlt⟩ := P.swap i1 hij j1 i3 j3 (i4 (by omega)) (j4 hij)
    obtain ⟨p, q, h3, h4, f1, f2, f3, f4, f5, f6, B2, O2⟩ := BufT.swap B1 i' j' (by omega) (by omega)
    obtain ⟨jj, M', H, y1, y2, y3, y4⟩ := part2 (s := s) (n0 := n0) hl _ h4 _ (i' + 1) (j' - 1) (Nat.le_refl _) B2 P'
    have w3 := wrap_succ i' (by omega)
    have w4 : IntKind.i64.wrap ((j' : Int) - 1) = ((j' - 1 : Nat) : Int) := by rw [IntWalk.i64_in _ (by omega)]; omega
    have hM' := y3.reg.len
    have hjb := y3.jb
    obtain ⟨p5, q5, h5, h6, z1, z2, z3, z4, z5, z6, B5, O5⟩ := BufT.swap y2 jj a (by omega) (by omega)
    obtain rfl : p0 = q5 := by rw [x1] at z2; exact Option.some.inj z2
    refine ⟨jj, false, _, h6, ?_, B5, y3.parted, ((O1.trans O2).trans y4).trans O5⟩
    rw [c48]
    simp only [S48, x1, x2, x3, x4, Option.bind_some, from_one, cs, x5, x6, bin_add, w1, bin_sub, w2, e1, e2, nat_beq11, cond_true, List.getD_cons_zero, List.getD_cons_succ, bin_gtr, d, cond_bool, cond_false, f1, f2, f3, f4, f5, f6, w3, w4, y1, z1, z2, z3, z4, z5, z6, ans_one]
  · have d : decide ((i' : Int) > (j' : Int)) = true := decide_eq_true (by omega)
    have hij : i' = j' + 1 := by omega
    subst hij
    have P' := P.scan i1 j2 j1 i3 j3
    obtain ⟨p5, q5, h5, h6, z1, z2, z3, z4, z5, z6, B5, O5⟩ := BufT.swap B1 j' a (by omega) (by omega)
    obtain rfl : p0 = q5 := by rw [x1] at z2; exact Option.some.inj z2
    refine ⟨j', true, _, h6, ?_, B5, P'.parted, O1.trans O5⟩
    rw [c48]
    simp only [S48, x1, x2, x3, x4, Option.bind_some, from_one, cs, x5, x6, bin_add, w1, bin_sub, w2, e1, e2, nat_beq11, cond_true, List.getD_cons_zero, List.getD_cons_succ, bin_gtr, d, cond_bool, cond_false, z1, z2, z3, z4, z5, z6, ans_one]

theorem parteq1 (hl : l.length ≤ 1000) : ∀ (N : Nat) (h : Heap) (M : List Tx) (i j : Nat), j + 1 - i ≤ N → BufT s h n0 M → PI qE a b p l M i j →
    ∃ (i' j' : Nat) (M' : List Tx) (H : Heap), loop (L47_0 (E tbl)) [s, .int .i64 a, .int .i64 i, .int .i64 j] h = some (1, [.int .i64 i'], H) ∧ BufT s H n0 M' ∧ PI qE a b p l M' i' j' ∧ i' = j' + 1 ∧ OnlyS s h H := by
  intro N
  induction N with
  | zero =>
    intro h M i j hN B P
    have hM := P.reg.len
    have p2 := P.ai; have p3 := P.ij; have p4 := P.jb; have p5 := P.bl
    obtain ⟨i', e1, i1, i2, i3, _⟩ := up47 B (by omega) a j (by omega) (by omega) (j + 1 - i) i (by omega)
    obtain ⟨j', e2, j1, j2, j3, _⟩ := down47 B (by omega) a i' (by omega) (by omega) (j + 1 - i') j (by omega) (by omega)
    have d : decide ((i' : Int) > (j' : Int)) = true := decide_eq_true (by omega)
    refine ⟨i', j', M, h, loop_done ?_, B, P.scan i1 j2 j1 (fun k x y => by simp [qE, i3 k x y]) (fun k x y => by simp [qE, j3 k x y]), by omega, OnlyS.refl _ _⟩
    simp only [L47_0, List.getD_cons_zero, List.getD_cons_succ, e1, e2, Option.bind_some, Nat.zero_add, nat_beq11, cond_true, bin_gtr, d, cond_bool]
  | succ N ih =>
    intro h M i j hN B P
    have hM := P.reg.len
    have p2 := P.ai; have p3 := P.ij; have p4 := P.jb; have p5 := P.bl
    obtain ⟨i', e1, i1, i2, i3, i4⟩ := up47 B (by omega) a j (by omega) (by omega) (j + 1 - i) i (by omega)
    obtain ⟨j', e2, j1, j2, j3, j4⟩ := down47 B (by omega) a i' (by omega) (by omega) (j + 1 - i') j (by omega) (by omega)
    by_cases hij : i' ≤ j'
    · have d : decide ((i' : Int) > (j' : Int)) = false := decide_eq_false (by omega)
      obtain ⟨P', hlt⟩ := P.swap i1 hij j1 (fun k x y => by simp [qE, i3 k x y]) (fun k x y => by simp [qE, j3 k x y]) (by simp [qE, i4 (by omega)]) (by simp [qE, j4 hij])
      obtain ⟨p, q, h1, h2, f1, f2, f3, f4, f5, f6, B2, O2⟩ := BufT.swap B i' j' (by omega) (by omega)
      obtain ⟨ii, jj, M', H, g1, g2, g3, g5, g4⟩ := ih h2 _ (i' + 1) (j' - 1) (by omega) B2 P'
      have w1 := wrap_succ i' (by omega)
      have w2 : IntKind.i64.wrap ((j' : Int) - 1) = ((j' - 1 : Nat) : Int) := by rw [IntWalk.i64_in _ (by omega)]; omega
      have cs : ∀ t : Tx, aCells 1 (.str t) = some [.str t] := fun _ => rfl
      refine ⟨ii, jj, M', H, (loop_more ?_).trans g1, g2, g3, g5, O2.trans g4⟩
      simp only [L47_0, List.getD_cons_zero, List.getD_cons_succ, e1, e2, Option.bind_some, Nat.zero_add, nat_beq11, cond_true, bin_gtr, d, cond_bool, cond_false, f1, f2, f3, f4, from_one, cs, f5, f6, bin_add, w1, bin_sub, w2]
    · have d : decide ((i' : Int) > (j' : Int)) = true := decide_eq_true (by omega)
      refine ⟨i', j', M, h, loop_done ?_, B, P.scan i1 j2 j1 (fun k x y => by simp [qE, i3 k x y]) (fun k x y => by simp [qE, j3 k x y]), by omega, OnlyS.refl _ _⟩
      simp only [L47_0, List.getD_cons_zero, List.getD_cons_succ, e1, e2, Option.bind_some, Nat.zero_add, nat_beq11, cond_true, bin_gtr, d, cond_bool]

theorem partitionEqual_ok {h : Heap} (B : BufT s h n0 l) (hl : l.length ≤ 1000) (pv : Nat) (hab : a < b) (hb : b ≤ l.length) (h1 : a ≤ pv) (h2 : pv < b) :
    ∃ (m : Nat) (R : List Tx) (H : Heap), E tbl 47 [s, .int .i64 a, .int .i64 b, .int .i64 pv] h = some (.int .i64 m, H) ∧ BufT s H n0 R ∧ Reg a b l R ∧ a + 1 ≤ m ∧ m ≤ b ∧
      tat R a = tat l pv ∧ (∀ k, a ≤ k → k < m → lt (tat l pv) (tat R k) = false) ∧ (∀ k, m ≤ k → k < b → lt (tat l pv) (tat R k) = true) ∧ OnlyS s h H := by
  obtain ⟨p0, q0, g1, g2, x1, x2, x3, x4, x5, x6, B1, O1⟩ := BufT.swap B a pv (by omega) (by omega)
  have R1 : Reg a b l (swapL l a pv) := (Reg.refl a b l).swap a pv (by omega) (by omega) hb
  have hM := R1.len
  have ea : tat (swapL l a pv) a = tat l pv := by
    rw [swap_at _ _ _ _ (by omega) (by omega)]
    split
    · rename_i e; rw [e]
    · rw [if_pos rfl]
  have P : PI qE a b (tat l pv) l (swapL l a pv) (a + 1) (b - 1) := ⟨ea, R1, Nat.le_refl _, by omega, by omega, hb, fun k _ _ => by omega, fun k _ _ => by omega⟩
  have w1 := wrap_succ a (by omega)
  have w2 : IntKind.i64.wrap ((b : Int) - 1) = ((b - 1 : Nat) : Int) := by rw [IntWalk.i64_in _ (by omega)]; omega
  obtain ⟨i', j', M', H, y1, y2, y3, y5, y4⟩ := parteq1 (s := s) (n0 := n0) hl _ g2 _ (a + 1) (b - 1) (Nat.le_refl _) B1 P
  have cs : ∀ t : Tx, aCells 1 (.str t) = some [.str t] := fun _ => rfl
  have t1 := y3.ai
  have t2 := y3.jb
  have t3 := y3.pa
  refine ⟨i', M', H, ?_, y2, y3.reg, t1, by omega, t3, fun k k1 k2 => ?_, fun k k1 k2 => ?_, O1.trans y4⟩
  · rw [c47]
    simp only [S47, x1, x2, x3, x4, Option.bind_some, from_one, cs, x5, x6, bin_add, w1, bin_sub, w2, y1, nat_beq11, cond_true, List.getD_cons_zero, ans_one]
  · by_cases e : k = a
    · subst e; rw [t3]; exact lt_irrefl _
    · have := y3.lo k (by omega) k2
      rw [t3] at this
      simpa [qE] using this
  · have := y3.hi k (by omega) k2
    rw [t3] at this
    simpa [qE] using this
end
end Go.Proofs.Ytllogmedpmanoaa.Code
