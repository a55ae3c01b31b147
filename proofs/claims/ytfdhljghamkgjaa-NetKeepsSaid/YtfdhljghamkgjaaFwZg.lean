/- Handy: a value is like itself; numbers brought within bounds. -/
import Derived.Test.YtfdhljghamkgjaaFwZf
namespace Go.Fw
set_option linter.unusedSimpArgs false
set_option linter.unusedVariables false

mutual
theorem AVal.beq_refl : ∀ a : AVal, AVal.beq a a = true
  | .undef | .nilPtr | .nilSlice | .nilFunc | .nilIface => by simp [AVal.beq]
  | .bool _ | .int _ _ | .str _ | .ptr _ _ | .slice .. => by simp [AVal.beq]
  | .func _ c => by simp [AVal.beq, AVal.beqL_refl c]
  | .iface _ v => by simp [AVal.beq, AVal.beq_refl v]
  | .agg c => by simp [AVal.beq, AVal.beqL_refl c]
  | .tuple c => by simp [AVal.beq, AVal.beqL_refl c]
theorem AVal.beqL_refl : ∀ a : List AVal, AVal.beqL a a = true
  | [] => rfl
  | a :: l => by simp [AVal.beqL, AVal.beq_refl a, AVal.beqL_refl l]
end
@[simp] theorem beqO_same (a : List AVal) : beqO (some a) (some a) = true := AVal.beqL_refl a

@[simp] theorem lookLog_nil (t : Nat) : lookLog [] t = none := rfl
@[simp] theorem lookLog_cons (u : Nat) (v : Option Log) (r : List (Nat × Option Log)) (t : Nat) : lookLog ((u, v) :: r) t = if u = t then some v else lookLog r t := by
  rw [lookLog, beq_dec]
  by_cases h : u = t <;> simp [h]
@[simp] theorem lookB_nil (t : Nat) : lookB [] t = none := rfl
@[simp] theorem lookB_if (u : Nat) (v : List AVal) (r : List (Nat × List AVal)) (t : Nat) : lookB ((u, v) :: r) t = if u = t then some v else lookB r t := by
  rw [lookB, beq_dec]
  by_cases h : u = t <;> simp [h]
@[simp] theorem pairOk_some (a e : Log) : pairOk (some a) (some e) = stays a e := rfl
@[simp] theorem logRd_ptr (b off n : Nat) : logRd (.ptr b off) n = some (.rd b off n) := rfl
@[simp] theorem stays_rd (b off n : Nat) (β β' : List (Nat × List AVal)) (h h' : Heap) : stays (.rd b off n) (.ef β h β' h') = beqO (h.rd b off n) (h'.rd b off n) := rfl
@[simp] theorem stays_lrd (l off n : Nat) (β β' : List (Nat × List AVal)) (h h' : Heap) : stays (.lrd l off n) (.ef β h β' h') = beqO ((lookB β l).bind fun c => rdL c off n) ((lookB β' l).bind fun c => rdL c off n) := rfl
@[simp] theorem checkPairs_nil (log : List (Nat × Option Log)) : checkPairs log [] = true := rfl
theorem checkPairs_cons {log : List (Nat × Option Log)} {i q : Nat} {r : List (Nat × Nat)} {a e : Log} (h1 : lookLog log i = some (some a)) (h2 : lookLog log q = some (some e)) : checkPairs log ((i, q) :: r) = (stays a e && checkPairs log r) := by
  rw [checkPairs, h1, h2]
  rfl
@[simp] theorem aggCells_agg (cs : List AVal) : AVal.aggCells (.agg cs) = cs := rfl

theorem wrap_succ (n : Nat) (h : n < 4611686018427387904) : IntKind.i64.wrap ((n : Int) + 1) = ((n + 1 : Nat) : Int) := by
  rw [IntWalk.i64_in _ (by omega)]; omega

theorem wrap64_range (x : Int) : -9223372036854775808 ≤ IntKind.i64.wrap x ∧ IntKind.i64.wrap x ≤ 9223372036854775807 := by
  rw [IntKind.wrap_i64]; omega

theorem and_eq (a m : Int) (h0 : 0 ≤ m) (h1 : m ≤ 9223372036854775807) : ∃ r, aBin .and .plain (.int .i64 a) (.int .i64 m) = some (.int .i64 r) ∧ 0 ≤ r ∧ r ≤ m := by
  have hm : (BitVec.ofInt 64 m).toNat = m.toNat := by
    rw [BitVec.toNat_ofInt]
    omega
  have hle : (BitVec.ofInt 64 a &&& BitVec.ofInt 64 m).toNat ≤ m.toNat := by
    rw [BitVec.toNat_and, hm]
    exact Nat.and_le_right
  refine ⟨((BitVec.ofInt 64 a &&& BitVec.ofInt 64 m).toNat : Int), ?_, by omega, by omega⟩
  show some (AVal.int .i64 (IntKind.i64.wrap (((BitVec.ofInt 64 a &&& BitVec.ofInt 64 m).toNat : Nat) : Int))) = _
  rw [IntWalk.i64_in _ (by omega)]

def within (a lo hi : Int) : Int := if lo ≤ a ∧ a ≤ hi then a else lo + (if a.tmod (hi - lo + 1) < 0 then a.tmod (hi - lo + 1) + hi - lo + 1 else a.tmod (hi - lo + 1))

theorem tmod_bounds (a n : Int) (hn : 0 < n) : -n < a.tmod n ∧ a.tmod n < n := by
  have h1 := Int.tmod_lt_of_pos a hn
  have h2 := Int.lt_tmod_of_pos a hn
  omega

theorem within_in (a lo hi : Int) (h : lo ≤ hi) : lo ≤ within a lo hi ∧ within a lo hi ≤ hi := by
  obtain ⟨m1, m2⟩ := tmod_bounds a (hi - lo + 1) (by omega)
  unfold within
  split
  · omega
  · split <;> omega

noncomputable def withinS (call : Go.Fw.Call) (a0 a1 a2 : AVal) (h : Heap) : Option J :=
 (aBin .geq .plain a0 a1).bind fun v1 =>
 (guardV v1 true
 ((aBin .leq .plain a0 a2).bind fun v2 =>
 some (0, [v2], h))
 (some (0, [skipV], h))).bind fun g3 =>
 (aPick v1 (g3.2.1.getD 0 .undef) (.bool false)).bind fun v4 =>
 condV v4
 (some (0, [a0], g3.2.2))
 ((aBin .sub .plain a2 a1).bind fun v5 =>
 (aBin .add .plain v5 (.int .i64 1)).bind fun v6 =>
 (aBin .rem .plain a0 v6).bind fun v7 =>
 (aBin .lss .plain v7 (.int .i64 0)).bind fun v8 =>
 (condV v8
 ((aBin .add .plain v7 a2).bind fun v9 =>
 (aBin .sub .plain v9 a1).bind fun v10 =>
 (aBin .add .plain v10 (.int .i64 1)).bind fun v11 =>
 some (0, [v11, a1], g3.2.2))
 (some (0, [v7, a1], g3.2.2))).bind fun x12 =>
 bif Nat.beq x12.1 0 then (aBin .add .plain (x12.2.1.getD 1 .undef) (x12.2.1.getD 0 .undef)).bind fun v13 =>
 some (0, [v13], x12.2.2) else
 none)

theorem withinS_eq (call : Go.Fw.Call) (a lo hi : Int) (h0 : -1000000000000 ≤ lo) (h1 : lo ≤ hi) (h2 : hi ≤ 1000000000000) (h : Heap) : withinS call (.int .i64 a) (.int .i64 lo) (.int .i64 hi) h = some (0, [.int .i64 (within a lo hi)], h) := by
  obtain ⟨m1, m2⟩ := tmod_bounds a (hi - lo + 1) (by omega)
  have hn : ¬ (hi - lo + 1 = 0) := by omega
  have w1 : IntKind.i64.wrap (hi - lo) = hi - lo := IntWalk.i64_in _ (by omega)
  have w2 : IntKind.i64.wrap (hi - lo + 1) = hi - lo + 1 := IntWalk.i64_in _ (by omega)
  have w3 : IntKind.i64.wrap (a.tmod (hi - lo + 1) + hi) = a.tmod (hi - lo + 1) + hi := IntWalk.i64_in _ (by omega)
  have w4 : IntKind.i64.wrap (a.tmod (hi - lo + 1) + hi - lo) = a.tmod (hi - lo + 1) + hi - lo := IntWalk.i64_in _ (by omega)
  have w5 : IntKind.i64.wrap (a.tmod (hi - lo + 1) + hi - lo + 1) = a.tmod (hi - lo + 1) + hi - lo + 1 := IntWalk.i64_in _ (by omega)
  have w6 : IntKind.i64.wrap (lo + (a.tmod (hi - lo + 1) + hi - lo + 1)) = lo + (a.tmod (hi - lo + 1) + hi - lo + 1) := IntWalk.i64_in _ (by omega)
  have w7 : IntKind.i64.wrap (lo + a.tmod (hi - lo + 1)) = lo + a.tmod (hi - lo + 1) := IntWalk.i64_in _ (by omega)
  unfold within
  by_cases ha : lo ≤ a <;> by_cases hb : a ≤ hi <;> by_cases hm : a.tmod (hi - lo + 1) < 0 <;> simp [withinS, ha, hb, bin_rem, w1, w2, hn, hm, w3, w4, w5, w6, w7]

end Go.Fw
