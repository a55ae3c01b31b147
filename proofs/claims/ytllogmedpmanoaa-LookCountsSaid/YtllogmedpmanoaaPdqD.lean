/- pdqsort breaks patterns; insertion sort of a part. -/
import Derived.Test.YtllogmedpmanoaaPdqC
namespace Go.Proofs.Ytllogmedpmanoaa.Code
set_option linter.unusedSimpArgs false
set_option linter.unusedVariables false
open Go.Fw

section
variable {s : AVal} {n0 : Nat} {a b : Nat} {l : List Tx}
theorem xnext_ok {h : Heap} {pb : Nat} {x : Int} (P : h.blk pb = some ⟨[.int .u64 x], true⟩) :
    ∃ (y : Int) (H : Heap), E tbl 56 [.ptr pb 0] h = some (.int .u64 y, H) ∧ H.blk pb = some ⟨[.int .u64 y], true⟩ ∧ At1 pb h H := by
  have step : ∀ (G : Heap) (x y : Int), G.blk pb = some ⟨[.int .u64 x], true⟩ → G.rd pb 0 1 = some [.int .u64 x] ∧ ∃ K, G.wr pb 0 [.int .u64 y] = some K ∧ K.blk pb = some ⟨[.int .u64 y], true⟩ ∧ At1 pb G K := by
    intro G x y hG
    refine ⟨by rw [rd_of hG 0 1 (by simp)]; rfl, G.setBlk pb (some ⟨[.int .u64 y], true⟩), by rw [wr_of hG 0 _ (by simp)]; rfl, setBlk_same _ _ _, ⟨rfl, fun c hc => setBlk_ne _ _ hc⟩⟩
  obtain ⟨y1, e1⟩ : ∃ y : Int, aBin .shl .plain (.int .u64 x) (.int .u64 13) = some (.int .u64 y) := ⟨_, rfl⟩
  obtain ⟨y2, e2⟩ : ∃ y : Int, aBin .xor .plain (.int .u64 x) (.int .u64 y1) = some (.int .u64 y) := ⟨_, rfl⟩
  obtain ⟨r1, K1, w1, P1, A1⟩ := step h x y2 P
  obtain ⟨y3, e3⟩ : ∃ y : Int, aBin .shr .plain (.int .u64 y2) (.int .u64 7) = some (.int .u64 y) := ⟨_, rfl⟩
  obtain ⟨y4, e4⟩ : ∃ y : Int, aBin .xor .plain (.int .u64 y2) (.int .u64 y3) = some (.int .u64 y) := ⟨_, rfl⟩
  obtain ⟨r2, K2, w2, P2, A2⟩ := step K1 y2 y4 P1
  obtain ⟨y5, e5⟩ : ∃ y : Int, aBin .shl .plain (.int .u64 y4) (.int .u64 17) = some (.int .u64 y) := ⟨_, rfl⟩
  obtain ⟨y6, e6⟩ : ∃ y : Int, aBin .xor .plain (.int .u64 y4) (.int .u64 y5) = some (.int .u64 y) := ⟨_, rfl⟩
  obtain ⟨r3, K3, w3, P3, A3⟩ := step K2 y4 y6 P2
  obtain ⟨r4, _⟩ := step K3 y6 y6 P3
  refine ⟨y6, K3, ?_, P3, (A1.trans A2).trans A3⟩
  rw [c56]
  simp only [S56, nilchk_ptr, load_ptr, store_ptr, Option.bind_some, r1, from_one, e1, e2, aCells_int, w1, r2, e3, e4, w2, r3, e5, e6, w3, r4, ans_one]
theorem and15 (y : Int) : ∃ o : Nat, aBin .and .plain (.int .u64 y) (.int .u64 15) = some (.int .u64 (o : Int)) ∧ o ≤ 15 := by
  have h1 : (BitVec.ofInt 64 y &&& BitVec.ofInt 64 15).toNat ≤ 15 := by
    rw [BitVec.toNat_and]
    exact Nat.le_trans Nat.and_le_right (by decide)
  refine ⟨(BitVec.ofInt 64 y &&& BitVec.ofInt 64 15).toNat, ?_, h1⟩
  show some (AVal.int .u64 (IntKind.u64.wrap _)) = _
  rw [show IntKind.u64.bits = 64 from rfl, IntWalk.u64_in _ (by omega)]

theorem break_ok {h : Heap} (B : BufT s h n0 l) (hl : l.length ≤ 1000) (hb : b ≤ l.length) (h8 : a + 8 ≤ b) (h14 : b ≤ a + 14) :
    ∃ (R : List Tx) (H : Heap), E tbl 42 [s, .int .i64 a, .int .i64 b] h = some (.tuple [], H) ∧ BufT s H n0 R ∧ Reg a b l R ∧ OnlyS s h H := by
  obtain ⟨n, hn⟩ : ∃ n, n = b - a := ⟨_, rfl⟩
  obtain ⟨q, hq⟩ : ∃ q, q = n / 4 := ⟨_, rfl⟩
  have w1 : IntKind.i64.wrap ((b : Int) - (a : Int)) = (n : Int) := by rw [IntWalk.i64_in _ (by omega)]; omega
  have d8 : decide ((n : Int) ≥ 8) = true := decide_eq_true (by omega)
  have wu : IntKind.u64.wrap (n : Int) = (n : Int) := IntWalk.u64_in _ (by omega)
  have P0 : (h.alloc [.int .u64 0]).blk h.next = some ⟨[.int .u64 0], true⟩ := alloc_same _ _
  have hs : slBlk s ≠ some h.next := fun e => by have := (Fw.Buf.blk B _ e).2; omega
  have wr0 : (h.alloc [.int .u64 0]).wr h.next 0 [.int .u64 n] = some ((h.alloc [.int .u64 0]).setBlk h.next (some ⟨[.int .u64 n], true⟩)) := by rw [wr_of P0 0 _ (by simp)]; rfl
  obtain ⟨h5, d5⟩ : ∃ x, x = (h.alloc [.int .u64 0]).setBlk h.next (some ⟨[.int .u64 n], true⟩) := ⟨_, rfl⟩
  rw [← d5] at wr0
  have n5 : h5.next = h.next + 1 := by rw [d5, setBlk_next]; simp
  have o5 : ∀ c, c < h.next → h5.blk c = h.blk c := fun c hc => by rw [d5, setBlk_ne _ _ (by omega), alloc_old _ _ (by omega)]
  have P5 : h5.blk h.next = some ⟨[.int .u64 n], true⟩ := by rw [d5]; exact setBlk_same _ _ _
  have B5 : BufT s h5 n0 l := Fw.Buf.kept B (by omega) fun c hc => o5 c (Fw.Buf.blk B c hc).2
  have eb := bits_ok h5 n (by omega)
  rw [if_neg (by omega), if_neg (by omega), if_neg (by omega), if_neg (by omega)] at eb
  have e55 : E tbl 55 [.int .i64 n] h5 = some (.int .u64 16, h5) := by
    have sh : aBin .shl .plain (.int .u64 1) (.int .i64 4) = some (.int .u64 16) := rfl
    rw [c55]
    simp only [S55, conv_int, wu, Option.bind_some, eb, sh, ans_one]
  have w2 : IntKind.i64.wrap (Int.tdiv (n : Int) 4) = (q : Int) := by
    rw [Int.tdiv_eq_ediv_of_nonneg (by omega), IntWalk.i64_in _ (by omega)]
    omega
  have m2 : IntKind.i64.wrap ((q : Int) * 2) = ((q * 2 : Nat) : Int) := by rw [IntWalk.i64_in _ (by omega)]; omega
  have s2 : IntKind.i64.wrap ((a : Int) + ((q * 2 : Nat) : Int)) = ((a + q * 2 : Nat) : Int) := by rw [IntWalk.i64_in _ (by omega)]; omega
  have s3 : IntKind.i64.wrap (((a + q * 2 : Nat) : Int) - 1) = ((a + q * 2 - 1 : Nat) : Int) := by rw [IntWalk.i64_in _ (by omega)]; omega
  have s4 : IntKind.i64.wrap (((a + q * 2 : Nat) : Int) + 1) = ((a + q * 2 + 1 : Nat) : Int) := by rw [IntWalk.i64_in _ (by omega)]; omega
  have key := loop_ok (f := L42_0 (E tbl)) (fun m xs G => ∃ (i : Nat) (M : List Tx) (x : Int), m + i = a + q * 2 + 2 ∧ a + q * 2 ≤ i + 1 ∧ i ≤ a + q * 2 + 2 ∧ BufT s G n0 M ∧ Reg a b l M ∧ G.blk h.next = some ⟨[.int .u64 x], true⟩ ∧ h.next < G.next ∧ (∀ c, c < h.next → slBlk s ≠ some c → G.blk c = h.blk c) ∧ xs = [s, .int .i64 a, .int .i64 n, .ptr h.next 0, .int .u64 16, .int .i64 i])
    (fun r => ∃ (R : List Tx) (H : Heap), r = (1, [], H) ∧ BufT s H n0 R ∧ Reg a b l R ∧ OnlyS s h H) ?_ 3 [s, .int .i64 a, .int .i64 n, .ptr h.next 0, .int .u64 16, .int .i64 ((a + q * 2 - 1 : Nat) : Int)] h5 ⟨a + q * 2 - 1, l, n, by omega, by omega, by omega, B5, Reg.refl _ _ _, P5, by omega, fun c hc _ => o5 c hc, rfl⟩
  · obtain ⟨r, e, R, H, rfl, x, y, z⟩ := key
    refine ⟨R, H, ?_, x, y, z⟩
    rw [c42]
    simp only [S42, bin_sub, w1, bin_geq, d8, Option.bind_some, cond_bool, cond_true, conv_int, wu, aCells_int, store_ptr, wr0, e55, bin_quo, show ¬ (4 : Int) = 0 by decide, if_false, w2, bin_mul, m2, bin_add, s2, s3, e, nat_beq11, ans_one]
  · rintro m xs G ⟨i, M, x, hm, hi1, hi2, BM, RM, PM, hG, oG, rfl⟩
    have hM := RM.len
    by_cases hi : i < a + q * 2 + 2
    · left
      have d : decide ((i : Int) ≤ ((a + q * 2 + 1 : Nat) : Int)) = true := decide_eq_true (by omega)
      obtain ⟨y, G1, e1, P1, A1⟩ := xnext_ok PM
      obtain ⟨o, e2, ho⟩ := and15 y
      have c16 : IntKind.u64.wrap (16 - 1) = 15 := rfl
      have cv : IntKind.i64.wrap (o : Int) = (o : Int) := IntWalk.i64_in _ (by omega)
      have ws := wrap_succ i (by omega)
      have cs : ∀ t : Tx, aCells 1 (.str t) = some [.str t] := fun _ => rfl
      obtain ⟨o', ho', hlt⟩ : ∃ o' : Nat, o' = (if n ≤ o then o - n else o) ∧ o' < n := ⟨_, rfl, by split <;> omega⟩
      have sa : IntKind.i64.wrap ((a : Int) + (o' : Int)) = ((a + o' : Nat) : Int) := by rw [IntWalk.i64_in _ (by omega)]; omega
      obtain ⟨p, r, g1, g2, f1, f2, f3, f4, f5, f6, B2, O2⟩ := BufT.swap (BufT.at1 BM A1 hs) i (a + o') (by omega) (by omega)
      have hn2 := O2.next
      have hn1 := A1.next
      refine ⟨_, g2, ?_, m - 1, by omega, i + 1, _, y, by omega, by omega, by omega, B2, RM.swap i (a + o') (by omega) (by omega) hb, by rw [O2.old _ (by omega) hs, P1], by omega, fun c hc hne => by rw [O2.old c (by omega) hne, A1.old c (by omega), oG c hc hne], rfl⟩
      by_cases hno : n ≤ o
      · have dn : decide ((o : Int) ≥ (n : Int)) = true := decide_eq_true (by omega)
        rw [if_pos hno] at ho'
        have so : IntKind.i64.wrap ((o : Int) - (n : Int)) = (o' : Int) := by rw [IntWalk.i64_in _ (by omega)]; omega
        simp only [L42_0, List.getD_cons_zero, List.getD_cons_succ, bin_quo, show ¬ (4 : Int) = 0 by decide, if_false, w2, Option.bind_some, bin_mul, m2, bin_add, s2, s4, bin_leq, d, cond_bool, cond_true, e1, bin_sub, c16, e2, conv_int, cv, bin_geq, dn, so, nat_beq0, sa, f1, f2, f3, f4, from_one, cs, f5, f6, ws]
      · have dn : decide ((o : Int) ≥ (n : Int)) = false := decide_eq_false (by omega)
        rw [if_neg hno] at ho'
        subst ho'
        simp only [L42_0, List.getD_cons_zero, List.getD_cons_succ, bin_quo, show ¬ (4 : Int) = 0 by decide, if_false, w2, Option.bind_some, bin_mul, m2, bin_add, s2, s4, bin_leq, d, cond_bool, cond_true, cond_false, e1, bin_sub, c16, e2, conv_int, cv, bin_geq, dn, nat_beq0, sa, f1, f2, f3, f4, from_one, cs, f5, f6, ws]
    · right
      have d : decide ((i : Int) ≤ ((a + q * 2 + 1 : Nat) : Int)) = false := decide_eq_false (by omega)
      refine ⟨0, _, G, ?_, M, G, rfl, BM, RM, ⟨by omega, oG⟩⟩
      simp only [L42_0, List.getD_cons_zero, List.getD_cons_succ, bin_quo, show ¬ (4 : Int) = 0 by decide, if_false, w2, Option.bind_some, bin_mul, m2, bin_add, s2, s4, bin_leq, d, cond_bool, cond_false]
end
end Go.Proofs.Ytllogmedpmanoaa.Code
