/- Chapter 11: what the functions answer. -/
import Derived.Test.YtdphaonogpaedaaCode
namespace Go.Proofs.Ytdphaonogpaedaa.Code
open Go.Fw

def need (n : Int) : Int := max 0 (min n 1048576) * 510 / 100

theorem need_eq (n : Int) (h : Heap) : E tbl 7 [.int .i64 n] h = some (.int .i64 (need n), h) := by
  rw [c7]
  simp only [S7, min_two, max_two, Option.bind_some, bin_mul, bin_quo]
  have h0 : 0 ≤ max 0 (min n 1048576) := by omega
  have h1 : max 0 (min n 1048576) ≤ 1048576 := by omega
  unfold need
  generalize max 0 (min n 1048576) = m at *
  rw [IntWalk.i64_in (m * 6) (by omega), IntWalk.i64_in (m * 6 * 85) (by omega), if_neg (by decide), IntWalk.i64_quo _ _ (by omega)]
  simp only [Option.bind_some, ans_one, Option.some.injEq, Prod.mk.injEq, AVal.int.injEq, true_and, and_true]
  omega

theorem ref_need_eq (n : Int) (h : Heap) : E tbl 8 [.int .i64 n] h = some (.int .i64 (need n), h) := by
  rw [c8]
  simp only [S8, min_two, max_two, Option.bind_some, bin_mul, bin_quo]
  have h0 : 0 ≤ max (min n 1048576) 0 := by omega
  have h1 : max (min n 1048576) 0 ≤ 1048576 := by omega
  have h2 : max 0 (min n 1048576) = max (min n 1048576) 0 := by omega
  unfold need
  rw [h2]
  generalize max (min n 1048576) 0 = m at *
  rw [IntWalk.i64_in (m * 6) (by omega), IntWalk.i64_in (m * 6 * 85) (by omega), if_neg (by decide), IntWalk.i64_quo _ _ (by omega)]
  simp only [Option.bind_some, ans_one, Option.some.injEq, Prod.mk.injEq, AVal.int.injEq, true_and, and_true]
  omega

theorem beqO_refl1 (k : IntKind) (a : Int) : beqO (some [.int k a]) (some [.int k a]) = true := by simp [beqO, AVal.beqL, AVal.beq]

/-- A guard in memory. -/
def Gd (h : Heap) (b : Nat) (f l t : Int) : Prop := h.blk b = some ⟨[.int .i64 f, .int .i64 l, .int .i64 t], true⟩
def gd (f l t : Int) : Option Blk := some ⟨[.int .i64 f, .int .i64 l, .int .i64 t], true⟩

section
variable {h : Heap} {b : Nat} {f l t : Int} (G : Gd h b f l t)
include G
theorem Gd.rd0 : h.rd b 0 1 = some [.int .i64 f] := rd_of G 0 1 (by simp)
theorem Gd.rd1 : h.rd b 1 1 = some [.int .i64 l] := rd_of G 1 1 (by simp)
theorem Gd.rd2 : h.rd b 2 1 = some [.int .i64 t] := rd_of G 2 1 (by simp)
theorem Gd.wr0 (x : Int) : h.wr b 0 [.int .i64 x] = some (h.setBlk b (gd x l t)) := wr_of G 0 _ (by simp)
theorem Gd.wr1 (x : Int) : h.wr b 1 [.int .i64 x] = some (h.setBlk b (gd f x t)) := wr_of G 1 _ (by simp)
theorem Gd.wr2 (x : Int) : h.wr b 2 [.int .i64 x] = some (h.setBlk b (gd f l x)) := wr_of G 2 _ (by simp)
end
theorem Gd.set (h : Heap) (b : Nat) (f l t : Int) : Gd (h.setBlk b (gd f l t)) b f l t := setBlk_same _ _ _
theorem setBlk_twice (h : Heap) (b : Nat) (x y : Option Blk) : (h.setBlk b x).setBlk b y = h.setBlk b y := by
  unfold Heap.setBlk
  simp only [Heap.mk.injEq, true_and]
  funext i
  cases Nat.beq i b <;> rfl

theorem new_eq (n : Int) (h : Heap) : E tbl 10 [.int .i64 n] h = some (.ptr h.next 0, h.alloc [.int .i64 n, .int .i64 0, .int .i64 0]) := by
  rw [c10]
  rfl

theorem renew_eq {h : Heap} {b : Nat} {f l t : Int} (G : Gd h b f l t) : E tbl 11 [.ptr b 0] h = some (.tuple [], h.setBlk b (gd f l (min (IntKind.i64.wrap (t + 1)) 1048576))) := by
  rw [c11]
  simp [S11, G.rd2, G.wr2]

theorem ref_renew_eq {h : Heap} {b : Nat} {f l t : Int} (G : Gd h b f l t) : E tbl 19 [.ptr b 0] h = some (.tuple [], h.setBlk b (gd f l (min (IntKind.i64.wrap (t + 1)) 1048576))) := by
  rw [c19]
  simp [S19, G.rd2, G.wr2]

theorem this_eq {h : Heap} {b : Nat} {f l t : Int} (G : Gd h b f l t) : E tbl 12 [.ptr b 0] h = some (.int .i64 t, h) := by
  rw [c12]
  simp [S12, G.rd2]

theorem last_eq {h : Heap} {b : Nat} {f l t : Int} (G : Gd h b f l t) : E tbl 17 [.ptr b 0] h = some (.int .i64 l, h) := by
  rw [c17]
  simp [S17, G.rd1]

theorem protects_eq {h : Heap} {b : Nat} {f l t : Int} (G : Gd h b f l t) (k : Int) : E tbl 16 [.ptr b 0, .int .i64 k] h = some (.bool (decide (l < need k)), h) := by
  rw [c16]
  simp [S16, G.rd1, need_eq, checkPairs, lookLog, pairOk, stays, logRd, beqO_refl1, beq_dec]

/-- A tick. -/
def tickF (f l t n : Int) : Int := f + 60 * ((n - f) / 60)
def tickL (f l t n : Int) : Int := if (n - f) / 60 = 1 then t else 0

theorem tick_eq {h : Heap} {b : Nat} {f l t : Int} (G : Gd h b f l t) (n : Int) (hf : -9223372036854775808 ≤ f ∧ f ≤ 9223372036854775807) (hn : -9223372036854775808 ≤ n ∧ n ≤ 9223372036854775807) :
    E tbl 15 [.ptr b 0, .int .i64 n] h = some (.tuple [], if n - f < 60 then h else h.setBlk b (gd (tickF f l t n) (tickL f l t n) 0)) := by
  rw [c15]
  have hu : ∀ x y : Int, -9223372036854775808 ≤ x ∧ x ≤ 9223372036854775807 → -9223372036854775808 ≤ y ∧ y ≤ 9223372036854775807 → y ≤ x → IntKind.u64.wrap (IntKind.u64.wrap x - IntKind.u64.wrap y) = x - y := by
    intro x y hx hy hxy
    rw [IntKind.wrap_u64, IntKind.wrap_u64, IntKind.wrap_u64]
    omega
  by_cases h1 : n < f
  · have h2 : n - f < 60 := by omega
    simp [S15, G.rd0, h1, h2]
  · have h60 : (60 : Int) ≠ 0 := by decide
    simp only [S15, nilchk_ptr, Option.bind_some, faddr_ptr, load_ptr, Nat.zero_add, G.rd0, from_one, bin_lss, cond_bool, h1, decide_false, cond_false, conv_int, bin_sub, bin_quo, if_neg h60, hu n f hn hf (by omega), bin_eql]
    rw [IntWalk.u64_quo _ _ (by omega)]
    by_cases h2 : n - f < 60
    · have h3 : (n - f) / 60 = 0 := by omega
      simp [h3, h2]
    · have h3 : ¬ (n - f) / 60 = 0 := by omega
      have h5 : IntKind.i64.wrap (IntKind.u64.wrap (IntKind.u64.wrap f + IntKind.u64.wrap ((n - f) / 60 * 60))) = tickF f l t n := by
        unfold tickF
        rw [IntKind.wrap_u64, IntKind.wrap_u64, IntKind.wrap_u64, IntKind.wrap_i64]
        omega
      by_cases h4 : (n - f) / 60 = 1
      · have hL : tickL f l t n = t := by simp [tickL, h4]
        have h5' := h5
        rw [h4] at h5'
        rw [Int.one_mul] at h5'
        simp [h3, h4, h2, G.rd2, G.wr1, (Gd.set h b f t t).wr2, setBlk_twice, (Gd.set h b f t 0).rd0, (Gd.set h b f t 0).wr0, hL, h5']
      · have hL : tickL f l t n = 0 := by simp [tickL, h4]
        have e1 : ((n - f) / 60 == 0) = false := by simpa using h3
        have e2 : ((n - f) / 60 == 1) = false := by simpa using h4
        simp [e1, e2, h2, G.wr1, (Gd.set h b f 0 t).wr2, setBlk_twice, (Gd.set h b f 0 0).rd0, (Gd.set h b f 0 0).wr0, hL, h5]

end Go.Proofs.Ytdphaonogpaedaa.Code
