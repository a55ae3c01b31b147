/- Lists that are written out: read, written, filled, by simp. -/
import Derived.Test.YtfdhljghamkgjaaFwZl
namespace Go.Fw
set_option linter.unusedSimpArgs false
set_option linter.unusedVariables false

theorem ble_dec (a b : Nat) : Nat.ble a b = decide (a ≤ b) := by
  cases h : Nat.ble a b with
  | true => exact (decide_eq_true (Nat.le_of_ble_eq_true h)).symm
  | false => exact (decide_eq_false fun k => by rw [Nat.ble_eq_true_of_le k] at h; cases h).symm

theorem rdL_z (l : List AVal) : rdL l 0 0 = some [] := by simp [rdL, ble_dec]
theorem rdL_t (a : AVal) (l : List AVal) (n : Nat) : rdL (a :: l) 0 (n + 1) = (rdL l 0 n).map (a :: ·) := by
  by_cases h : n ≤ l.length <;> simp [rdL, ble_dec, h]
theorem rdL_s (a : AVal) (l : List AVal) (o n : Nat) : rdL (a :: l) (o + 1) n = rdL l o n := by
  by_cases h : o + n ≤ l.length
  · have : o + 1 + n ≤ l.length + 1 := by omega
    simp [rdL, ble_dec, h, this]
  · have : ¬ o + 1 + n ≤ l.length + 1 := by omega
    simp [rdL, ble_dec, h, this]
theorem splice_n (l : List AVal) : splice l 0 [] = l := by simp [splice]
theorem splice_t (a x : AVal) (l c : List AVal) : splice (a :: l) 0 (x :: c) = x :: splice l 0 c := by
  simp [splice]
theorem splice_s (a : AVal) (l c : List AVal) (o : Nat) : splice (a :: l) (o + 1) c = a :: splice l o c := by
  have : o + 1 + c.length = (o + c.length) + 1 := by omega
  simp only [splice, List.take_succ_cons, List.cons_append, this, List.drop_succ_cons]
theorem aCells_agg (n : Nat) (cs : List AVal) : aCells n (.agg cs) = if cs.length = n then some cs else none := by
  simp only [aCells, AVal.cells?, beq_dec]
  by_cases h : cs.length = n <;> simp [h]
theorem aCells_str (s : List UInt8) : aCells 1 (.str s) = some [.str s] := rfl
theorem aFill_nil (cs : List AVal) : aFill cs [] = some cs := rfl
theorem aFill_cons (cs : List AVal) (off n : Nat) (v : AVal) (r : List (Nat × Nat × AVal)) : aFill cs ((off, n, v) :: r) = (aCells n v).bind fun vs => if off + n ≤ cs.length then aFill (splice cs off vs) r else none := by
  simp only [aFill, ble_dec]
  congr 1
  funext vs
  by_cases h : off + n ≤ cs.length <;> simp [h]
theorem reps_z (z : List AVal) : reps z 0 = [] := rfl
theorem reps_s (z : List AVal) (n : Nat) : reps z (n + 1) = z ++ reps z n := rfl

example (a b c d : AVal) : rdL [a, b, c, d] 1 2 = some [b, c] := by simp [rdL_s, rdL_t, rdL_z]
example (a b c d x : AVal) : splice [a, b, c, d] 2 [x] = [a, b, x, d] := by simp [splice_s, splice_t, splice_n]
example (a b c d : AVal) (s : List UInt8): aFill [a, b, c, d] [(0, 2, .agg [.str s, .str s]), (3, 1, .int .i64 4)] = some [.str s, .str s, c, .int .i64 4] := by simp [splice_s, splice_t, splice_n, aFill_cons, aFill_nil, aCells_agg]
attribute [simp] rdL_z rdL_t rdL_s splice_n splice_t splice_s aCells_agg aCells_str aFill_nil aFill_cons reps_z reps_s ble_dec

@[simp] theorem ext_0 (a : AVal) (l : List AVal) : aExtract 0 (.tuple (a :: l)) = some a := rfl
@[simp] theorem ext_1 (a b : AVal) (l : List AVal) : aExtract 1 (.tuple (a :: b :: l)) = some b := rfl
@[simp] theorem ext_2 (a b c : AVal) (l : List AVal) : aExtract 2 (.tuple (a :: b :: c :: l)) = some c := rfl
@[simp] theorem oneOr_two (a b : AVal) (l : List AVal) : oneOr (a :: b :: l) = .tuple (a :: b :: l) := rfl
@[simp] theorem cellsEq_nil : cellsEq [] [] [] = some true := rfl
@[simp] theorem cellsEq_bool (ks : List Nat) (a b : Bool) (as bs : List AVal) : cellsEq (0 :: ks) (.bool a :: as) (.bool b :: bs) = (cellsEq ks as bs).bind fun r => some ((a == b) && r) := rfl
@[simp] theorem cellsEq_int (ks : List Nat) (k : IntKind) (a b : Int) (as bs : List AVal) : cellsEq (1 :: ks) (.int k a :: as) (.int k b :: bs) = (cellsEq ks as bs).bind fun r => some ((a == b) && r) := by simp [cellsEq]
@[simp] theorem cellsEq_str (ks : List Nat) (a b : List UInt8) (as bs : List AVal) : cellsEq (2 :: ks) (.str a :: as) (.str b :: bs) = (cellsEq ks as bs).bind fun r => some ((a == b) && r) := rfl
theorem bin_cells (ks : List Nat) (a b : List AVal) : aBin .eql (.cells ks) (.agg a) (.agg b) = (cellsEq ks a b).map .bool ∧ aBin .neq (.cells ks) (.agg a) (.agg b) = (cellsEq ks a b).map fun r => .bool (!r) := by
  constructor <;> simp only [aBin, aEq] <;> cases cellsEq ks a b <;> rfl
@[simp] theorem bin_cells_eq (ks : List Nat) (a b : List AVal) : aBin .eql (.cells ks) (.agg a) (.agg b) = (cellsEq ks a b).map .bool := (bin_cells ks a b).1
@[simp] theorem bin_cells_ne (ks : List Nat) (a b : List AVal) : aBin .neq (.cells ks) (.agg a) (.agg b) = (cellsEq ks a b).map fun r => .bool (!r) := (bin_cells ks a b).2
end Go.Fw
