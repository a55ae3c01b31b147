/- runs -/
import Derived.Test.YtinkiihdnepfjaaGreatDoorICdA
import Derived.Test.YtinkiihdnepfjaaGreatDoorIFwZc
set_option linter.unusedSimpArgs false
set_option linter.unusedVariables false
set_option maxRecDepth 100000
namespace Go.Proofs.YtinkiihdnepfjaaGreatDoor.Code
open Go.Fw Go.Fw.K
noncomputable def S17 (call : Go.Fw.Call) (a0 a1 a2 : AVal) (h : Heap) : Option J :=
 (aBin .geq .plain a0 a1).bind fun v1 =>
 (guardV v1 true
 ((aBin .leq .plain a0 a2).bind fun v2 =>
 some (0, [v2], h))
 (some (0, [skipV], h))).bind fun g3 =>
 (aPick v1 (g3.2.1.getD 0 .undef) (.bool false)).bind fun v4 =>
 condV v4
 (some (0, [a0], g3.2.2))
 ((aBin .sub .plain a2 a1).bind fun v5 =>
 (aBin .add .plain v5 (.int .i64 1)).bind fun v6 =>
 (aBin .rem .plain a0 v6).bind fun v7 =>
 (aBin .lss .plain v7 (.int .i64 0)).bind fun v8 =>
 (condV v8
 ((aBin .add .plain v7 a2).bind fun v9 =>
 (aBin .sub .plain v9 a1).bind fun v10 =>
 (aBin .add .plain v10 (.int .i64 1)).bind fun v11 =>
 some (0, [v11, a1], g3.2.2))
 (some (0, [v7, a1], g3.2.2))).bind fun x12 =>
 bif Nat.beq x12.1 0 then (aBin .add .plain (x12.2.1.getD 1 .undef) (x12.2.1.getD 0 .undef)).bind fun v13 =>
 some (0, [v13], x12.2.2) else
 none)
theorem run17 (call : Go.Fw.Call) (a0 a1 a2 : AVal) (h : Heap) : runFn call (.code A17) [a0, a1, a2] h = (S17 call a0 a1 a2 h).bind ansOf := by kernel_rfl
theorem wrap_small (n : Int) (h : -4611686018427387904 ≤ n) (k : n ≤ 4611686018427387904) : IntKind.i64.wrap n = n := by
  simp only [IntKind.wrap, IntKind.bits, IntKind.signed, Bool.true_and, decide_eq_true_eq, ge_iff_le]
  omega
def wn (a hi : Int) : Int := if 0 ≤ a then (if a ≤ hi then a else a.tmod (hi + 1)) else if a.tmod (hi + 1) < 0 then a.tmod (hi + 1) + hi + 1 else a.tmod (hi + 1)
theorem wn_le (a hi : Int) (h0 : 0 ≤ hi) : 0 ≤ wn a hi ∧ wn a hi ≤ hi := by
  have m1 : -(hi + 1) < a.tmod (hi + 1) := by
    have := Int.lt_tmod_of_pos a (show 0 < hi + 1 by omega)
    omega
  have m2 : a.tmod (hi + 1) < hi + 1 := Int.tmod_lt_of_pos _ (by omega)
  unfold wn
  by_cases ha : 0 ≤ a
  · have m3 : 0 ≤ a.tmod (hi + 1) := Int.tmod_nonneg _ ha
    by_cases hb : a ≤ hi
    · rw [if_pos ha, if_pos hb]; omega
    · rw [if_pos ha, if_neg hb]; omega
  · rw [if_neg ha]
    by_cases hn : a.tmod (hi + 1) < 0
    · rw [if_pos hn]; omega
    · rw [if_neg hn]; omega
theorem wn_id (a hi : Int) (ha : 0 ≤ a) (hb : a ≤ hi) : wn a hi = a := by unfold wn; rw [if_pos ha, if_pos hb]
theorem S17_eq (call : Go.Fw.Call) (a hi : Int) (h0 : 0 ≤ hi) (h1 : hi ≤ 1048576) (h : Heap) :
    S17 call (.int .i64 a) (.int .i64 0) (.int .i64 hi) h = some (0, [.int .i64 (wn a hi)], h) := by
  have e1 : IntKind.i64.wrap hi = hi := wrap_small _ (by omega) (by omega)
  have e2 : IntKind.i64.wrap (hi + 1) = hi + 1 := wrap_small _ (by omega) (by omega)
  have m1 : -(hi + 1) < a.tmod (hi + 1) := by
    have := Int.lt_tmod_of_pos a (show 0 < hi + 1 by omega)
    omega
  have m2 : a.tmod (hi + 1) < hi + 1 := Int.tmod_lt_of_pos _ (by omega)
  have e3 : IntKind.i64.wrap (a.tmod (hi + 1)) = a.tmod (hi + 1) := wrap_small _ (by omega) (by omega)
  have h3 : ¬ hi + 1 = 0 := by omega
  unfold wn
  by_cases ha : 0 ≤ a
  · have m3 : ¬ a.tmod (hi + 1) < 0 := by have := Int.tmod_nonneg (hi + 1) ha; omega
    by_cases hb : a ≤ hi
    · simp [S17, ha, hb]
    · simp [S17, ha, hb, bin_rem, e1, e2, e3, h3, m3]
  · by_cases hn : a.tmod (hi + 1) < 0
    · have e4 : IntKind.i64.wrap (a.tmod (hi + 1) + hi) = a.tmod (hi + 1) + hi := wrap_small _ (by omega) (by omega)
      have e6 : IntKind.i64.wrap (a.tmod (hi + 1) + hi + 1) = a.tmod (hi + 1) + hi + 1 := wrap_small _ (by omega) (by omega)
      simp [S17, ha, bin_rem, e1, e2, h3, hn, e4, e6]
    · simp [S17, ha, bin_rem, e1, e2, h3, hn, e3]
theorem within {tbl : Nat → Option AFn} (ht : tbl 17 = some (.code A17)) (a hi : Int) (h0 : 0 ≤ hi) (h1 : hi ≤ 1048576) (h : Heap) :
    E tbl 17 [.int .i64 a, .int .i64 0, .int .i64 hi] h = some (.int .i64 (wn a hi), h) := by
  rw [E_eq, ht]
  simp only
  rw [run17, S17_eq _ a hi h0 h1]
  rfl
theorem within_id {tbl : Nat → Option AFn} (ht : tbl 17 = some (.code A17)) (a hi : Int) (h0 : 0 ≤ hi) (h1 : hi ≤ 1048576) (h : Heap) :
    E tbl 17 [.int .i64 a, .int .i64 0, .int .i64 hi] h = E tbl 17 [.int .i64 (wn a hi), .int .i64 0, .int .i64 hi] h := by
  obtain ⟨h2, h3⟩ := wn_le a hi h0
  rw [within ht a hi h0 h1, within ht _ hi h0 h1, wn_id _ _ h2 h3]
theorem wn_wn (a hi : Int) (h0 : 0 ≤ hi) : wn (wn a hi) hi = wn a hi := wn_id _ _ (wn_le a hi h0).1 (wn_le a hi h0).2
theorem wn_nat (a : Int) (m : Nat) : ∃ n : Nat, wn a m = .ofNat n ∧ n ≤ m := by
  obtain ⟨h2, h3⟩ := wn_le a m (by omega)
  exact ⟨(wn a m).toNat, by simp only [Int.ofNat_eq_natCast]; omega, by omega⟩
theorem and_id (a : Int) : aBin .and .plain (.int .i64 a) (.int .i64 255) = aBin .and .plain (.int .i64 (a % 256)) (.int .i64 255) := by
  have e : ∀ x : Int, BitVec.ofInt 64 x &&& BitVec.ofInt 64 255 = BitVec.ofInt 64 (x % 256) &&& BitVec.ofInt 64 255 := by
    intro x
    apply BitVec.eq_of_toNat_eq
    simp only [BitVec.toNat_and, BitVec.toNat_ofInt]
    have h1 : ((255 : Int) % ((2 ^ 64 : Nat) : Int)).toNat = 2 ^ 8 - 1 := by decide
    rw [h1, Nat.and_two_pow_sub_one_eq_mod, Nat.and_two_pow_sub_one_eq_mod]
    omega
  show some (AVal.int .i64 (IntKind.i64.wrap (BitVec.ofInt 64 a &&& BitVec.ofInt 64 255).toNat)) = some (AVal.int .i64 (IntKind.i64.wrap (BitVec.ofInt 64 (a % 256) &&& BitVec.ofInt 64 255).toNat))
  rw [e a]
def lanes (a : Nat) : Nat → List AVal
  | 0 => []
  | n + 1 => .int .i64 (.ofNat a) :: lanes (a + 1) n
theorem lanes_len (a n : Nat) : (lanes a n).length = n := by induction n generalizing a with | zero => rfl | succ n ih => simp [lanes, ih]
theorem lanes_get (a n i : Nat) (h : i < n) : (lanes a n)[i]? = some (.int .i64 (.ofNat (a + i))) := by
  induction n generalizing a i with
  | zero => omega
  | succ n ih =>
    cases i with
    | zero => simp [lanes]
    | succ i => simp only [lanes, List.getElem?_cons_succ]; rw [ih (a + 1) i (by omega)]; congr 3; omega
theorem rep_lane (a n i : Nat) (h : i < n) : rep i (.func VF (lanes a n)) = .int .i64 (.ofNat (a + i)) := by
  rw [rep_vec]
  refine laneOf_at ?_ rfl
  rw [lanes_len, Nat.mod_eq_of_lt h]
  exact lanes_get a n i h
end Go.Proofs.YtinkiihdnepfjaaGreatDoor.Code
