/- Chapter 4: what the functions answer. -/
import Derived.Test.YtbfemhpgiilimaaCode
import Derived.Test.YtbfemhpgiilimaaFwZh
namespace Go.Proofs.Ytbfemhpgiilimaa.Code
set_option linter.unusedSimpArgs false
set_option linter.unusedVariables false
open Go.Fw

structure St where
  t : Int
  k : Int
  n : Int
  deriving DecidableEq

def St.cells (s : St) : List AVal := [.int .i64 s.t, .int .i64 s.k, .int .i64 s.n]
def St.av (s : St) : AVal := .agg s.cells

theorem rd3 (a b c : AVal) : rdL [a, b, c] 0 1 = some [a] ∧ rdL [a, b, c] 1 1 = some [b] ∧ rdL [a, b, c] 2 1 = some [c] ∧ rdL [a, b, c] 0 3 = some [a, b, c] := ⟨rfl, rfl, rfl, rfl⟩
theorem sp3 (a b c x y z : AVal) : splice [a, b, c] 0 [x, y, z] = [x, y, z] := rfl
theorem sp1 (a b c x : AVal) : splice [a, b, c] 0 [x] = [x, b, c] ∧ splice [a, b, c] 1 [x] = [a, x, c] ∧ splice [a, b, c] 2 [x] = [a, b, x] := ⟨rfl, rfl, rfl⟩
theorem ble3 : Nat.ble 3 3 = true ∧ Nat.ble 1 3 = true ∧ Nat.ble 2 3 = true := ⟨rfl, rfl, rfl⟩
@[simp] theorem cells_av (s : St) : AVal.cells? s.av = some s.cells := rfl
@[simp] theorem aCells_agg3 (a b c : AVal) : aCells 3 (.agg [a, b, c]) = some [a, b, c] := rfl
theorem eq_cells (a b c x y z : Int) : aBin .eql (.cells [1, 1, 1]) (.agg [.int .i64 a, .int .i64 b, .int .i64 c]) (.agg [.int .i64 x, .int .i64 y, .int .i64 z]) = some (.bool (decide ((⟨a, b, c⟩ : St) = ⟨x, y, z⟩))) ∧
    aBin .neq (.cells [1, 1, 1]) (.agg [.int .i64 a, .int .i64 b, .int .i64 c]) (.agg [.int .i64 x, .int .i64 y, .int .i64 z]) = some (.bool (decide (¬ (⟨a, b, c⟩ : St) = ⟨x, y, z⟩))) := by
  constructor <;> simp [aBin, aEq, cellsEq] <;> by_cases h1 : a = x <;> by_cases h2 : b = y <;> by_cases h3 : c = z <;> simp [h1, h2, h3]

def cmpI (x y : Int) : Int := if x < y then -1 else if x > y then 1 else 0
def orI (x y z : Int) : Int := if x ≠ 0 then x else if y ≠ 0 then y else z
def St.less (a b : St) : Bool := decide (orI (cmpI a.t b.t) (cmpI a.n b.n) (cmpI a.k b.k) < 0)
/-- The heap behind a comparison. -/
def lh (a b : St) (h : Heap) : Heap := h.alloc [.int .i64 (cmpI a.t b.t), .int .i64 (cmpI a.n b.n), .int .i64 (cmpI a.k b.k)]

theorem cmp64_eq (x y : Int) (h : Heap) : E tbl 18 [.int .i64 x, .int .i64 y] h = some (.int .i64 (cmpI x y), h) := by
  have e : ∀ z h', E tbl 20 [.int .i64 z] h' = some (.bool false, h') := by intro z h'; rw [c20]; simp [S20]
  rw [c18]
  unfold cmpI
  by_cases h1 : x < y
  · simp [S18, e, h1]
  · by_cases h2 : x > y <;> simp [S18, e, h1, h2]

theorem cmp_eq (x y : Int) (h : Heap) : E tbl 19 [.int .i64 x, .int .i64 y] h = some (.int .i64 (cmpI x y), h) := by
  have e : ∀ z h', E tbl 21 [.int .i64 z] h' = some (.bool false, h') := by intro z h'; rw [c21]; simp [S21]
  rw [c19]
  unfold cmpI
  by_cases h1 : x < y
  · simp [S19, e, h1]
  · by_cases h2 : x > y <;> simp [S19, e, h1, h2]

theorem or_eq (x y z : Int) (h : Heap) : E tbl 17 [.slice h.next 0 3 3 1 true] (h.alloc [.int .i64 x, .int .i64 y, .int .i64 z]) = some (.int .i64 (orI x y z), h.alloc [.int .i64 x, .int .i64 y, .int .i64 z]) := by
  have hb : (h.alloc [.int .i64 x, .int .i64 y, .int .i64 z]).blk h.next = some ⟨[.int .i64 x, .int .i64 y, .int .i64 z], true⟩ := alloc_same _ _
  have r0 : (h.alloc [.int .i64 x, .int .i64 y, .int .i64 z]).rd h.next 0 1 = some [.int .i64 x] := rd_of hb 0 1 (by simp)
  have r1 : (h.alloc [.int .i64 x, .int .i64 y, .int .i64 z]).rd h.next 1 1 = some [.int .i64 y] := rd_of hb 1 1 (by simp)
  have r2 : (h.alloc [.int .i64 x, .int .i64 y, .int .i64 z]).rd h.next 2 1 = some [.int .i64 z] := rd_of hb 2 1 (by simp)
  generalize h.alloc [.int .i64 x, .int .i64 y, .int .i64 z] = H at *
  have i0 : aIaddr 1 (.slice h.next 0 3 3 1 true) (.int .i64 0) = some (.ptr h.next 0) := rfl
  have i1 : aIaddr 1 (.slice h.next 0 3 3 1 true) (.int .i64 1) = some (.ptr h.next 1) := rfl
  have i2 : aIaddr 1 (.slice h.next 0 3 3 1 true) (.int .i64 2) = some (.ptr h.next 2) := rfl
  have w0 : IntKind.i64.wrap 1 = 1 := by decide
  have w1 : IntKind.i64.wrap 2 = 2 := by decide
  have w2 : IntKind.i64.wrap 3 = 3 := by decide
  have ln : aLen false (.slice h.next 0 3 3 1 true) = some (.int .i64 3) := rfl
  rw [c17]
  unfold orI
  by_cases hx : x = 0
  · by_cases hy : y = 0
    · by_cases hz : z = 0
      · have a0 : L17_0 (E tbl) [.int .i64 0, .slice h.next 0 3 3 1 true, .int .i64 3, .int .i64 0] H = some (0, [.int .i64 0, .slice h.next 0 3 3 1 true, .int .i64 3, .int .i64 1], H) := by simp [L17_0, i0, r0, hx, w0]
        have a1 : L17_0 (E tbl) [.int .i64 0, .slice h.next 0 3 3 1 true, .int .i64 3, .int .i64 1] H = some (0, [.int .i64 0, .slice h.next 0 3 3 1 true, .int .i64 3, .int .i64 2], H) := by simp [L17_0, i1, r1, hy, w1]
        have a2 : L17_0 (E tbl) [.int .i64 0, .slice h.next 0 3 3 1 true, .int .i64 3, .int .i64 2] H = some (0, [.int .i64 0, .slice h.next 0 3 3 1 true, .int .i64 3, .int .i64 3], H) := by simp [L17_0, i2, r2, hz, w2]
        have a3 : L17_0 (E tbl) [.int .i64 0, .slice h.next 0 3 3 1 true, .int .i64 3, .int .i64 3] H = some (1, [.int .i64 0], H) := by simp [L17_0]
        have e := ((loop_more a0).trans (loop_more a1)).trans ((loop_more a2).trans (loop_done a3))
        simp [S17, ln, e, hx, hy, hz]
      · have a0 : L17_0 (E tbl) [.int .i64 0, .slice h.next 0 3 3 1 true, .int .i64 3, .int .i64 0] H = some (0, [.int .i64 0, .slice h.next 0 3 3 1 true, .int .i64 3, .int .i64 1], H) := by simp [L17_0, i0, r0, hx, w0]
        have a1 : L17_0 (E tbl) [.int .i64 0, .slice h.next 0 3 3 1 true, .int .i64 3, .int .i64 1] H = some (0, [.int .i64 0, .slice h.next 0 3 3 1 true, .int .i64 3, .int .i64 2], H) := by simp [L17_0, i1, r1, hy, w1]
        have hz' : (z != 0) = true := by simpa using hz
        have a2 : L17_0 (E tbl) [.int .i64 0, .slice h.next 0 3 3 1 true, .int .i64 3, .int .i64 2] H = some (2, [.int .i64 z], H) := by simp [L17_0, i2, r2, hz']
        have e := ((loop_more a0).trans (loop_more a1)).trans (loop_done a2)
        simp [S17, ln, e, hx, hy]
    · have a0 : L17_0 (E tbl) [.int .i64 0, .slice h.next 0 3 3 1 true, .int .i64 3, .int .i64 0] H = some (0, [.int .i64 0, .slice h.next 0 3 3 1 true, .int .i64 3, .int .i64 1], H) := by simp [L17_0, i0, r0, hx, w0]
      have hy' : (y != 0) = true := by simpa using hy
      have a1 : L17_0 (E tbl) [.int .i64 0, .slice h.next 0 3 3 1 true, .int .i64 3, .int .i64 1] H = some (2, [.int .i64 y], H) := by simp [L17_0, i1, r1, hy']
      have e := (loop_more a0).trans (loop_done a1)
      simp [S17, ln, e, hx, hy]
  · have hx' : (x != 0) = true := by simpa using hx
    have a0 : L17_0 (E tbl) [.int .i64 0, .slice h.next 0 3 3 1 true, .int .i64 3, .int .i64 0] H = some (2, [.int .i64 x], H) := by simp [L17_0, i0, r0, hx']
    have e := loop_done a0
    simp [S17, ln, e, hx]

theorem less_eq (a b : St) (h : Heap) : E tbl 11 [.agg [.int .i64 a.t, .int .i64 a.k, .int .i64 a.n], .agg [.int .i64 b.t, .int .i64 b.k, .int .i64 b.n]] h = some (.bool (a.less b), lh a b h) := by
  have f (x y z : Int) : aFill (reps [.int .i64 0] 3) [(0, 1, .int .i64 x), (1, 1, .int .i64 y), (2, 1, .int .i64 z)] = some [.int .i64 x, .int .i64 y, .int .i64 z] := rfl
  have ho := or_eq (cmpI a.t b.t) (cmpI a.n b.n) (cmpI a.k b.k) h
  rw [c11]
  simp [S11, rd3, cmp64_eq, cmp_eq, f, ho, checkPairs, St.less, lh]

def St.max (a b : St) : St := if b.less a then a else if a = b then a else b

theorem max_eq (a b : St) (h : Heap) : E tbl 12 [.agg [.int .i64 a.t, .int .i64 a.k, .int .i64 a.n], .agg [.int .i64 b.t, .int .i64 b.k, .int .i64 b.n]] h = some ((a.max b).av, lh b a h) := by
  rw [c12]
  unfold St.max St.av St.cells
  cases hl : b.less a with
  | true => simp [S12, rd3, less_eq, hl, sp3, ble3]
  | false =>
    obtain ⟨at_, ak, an⟩ := a
    obtain ⟨bt, bk, bn⟩ := b
    by_cases he : (⟨at_, ak, an⟩ : St) = ⟨bt, bk, bn⟩
    · have := less_eq ⟨bt, bk, bn⟩ ⟨at_, ak, an⟩ h
      cases he
      simp only at this
      simp [S12, rd3, this, hl, sp3, ble3, eq_cells]
    · have := less_eq ⟨bt, bk, bn⟩ ⟨at_, ak, an⟩ h
      simp only at this
      simp [S12, rd3, this, hl, sp3, ble3, eq_cells, he]

def St.next (a : St) (now node : Int) : St := ⟨Max.max a.t now, node, if a.n < 9223372036854775807 then a.n + 1 else a.n⟩

theorem next_eq (a : St) (ha : -9223372036854775808 ≤ a.n) (now node : Int) (h : Heap) : E tbl 10 [.agg [.int .i64 a.t, .int .i64 a.k, .int .i64 a.n], .int .i64 now, .int .i64 node] h = some ((a.next now node).av, h) := by
  rw [c10]
  unfold St.next St.av St.cells
  have f (x y z : Int) : aFill [.int .i64 0, .int .i64 0, .int .i64 0] [(0, 1, .int .i64 x), (1, 1, .int .i64 y), (2, 1, .int .i64 z)] = some [.int .i64 x, .int .i64 y, .int .i64 z] := rfl
  by_cases q : a.n < 9223372036854775807
  · have w : IntKind.i64.wrap (a.n + 1) = a.n + 1 := IntWalk.i64_in _ (by omega)
    simp [S10, rd3, q, w, f, sp3, ble3, oneOr]
  · simp [S10, rd3, q, f, sp3, ble3, oneOr]

theorem rnext_eq (a : St) (ha : -9223372036854775808 ≤ a.n) (now node : Int) (h : Heap) : E tbl 15 [.agg [.int .i64 a.t, .int .i64 a.k, .int .i64 a.n], .int .i64 now, .int .i64 node] h = some ((a.next now node).av, h) := by
  rw [c15]
  unfold St.next St.av St.cells
  have f (x y z : Int) : aFill [.int .i64 0, .int .i64 0, .int .i64 0] [(0, 1, .int .i64 x), (2, 1, .int .i64 z), (1, 1, .int .i64 y)] = some [.int .i64 x, .int .i64 y, .int .i64 z] := rfl
  have hm : Max.max now a.t = Max.max a.t now := by omega
  by_cases q : a.n < 9223372036854775807
  · have w : IntKind.i64.wrap (a.n + 1) = a.n + 1 := IntWalk.i64_in _ (by omega)
    simp [S15, rd3, q, w, f, sp3, ble3, oneOr, hm]
  · simp [S15, rd3, q, f, sp3, ble3, oneOr, hm]

def St.right (a : St) : Bool := decide (0 ≤ a.t) && decide (0 ≤ a.n) && decide (0 ≤ a.k) && decide (a.k < 6)

theorem right_eq (a : St) (h : Heap) : E tbl 13 [.agg [.int .i64 a.t, .int .i64 a.k, .int .i64 a.n]] h = some (.bool a.right, h) := by
  rw [c13]
  unfold St.right
  by_cases h1 : 0 ≤ a.t <;> by_cases h2 : 0 ≤ a.n <;> by_cases h3 : 0 ≤ a.k <;> simp [S13, rd3, h1, h2, h3]

theorem rright_eq (a : St) (h : Heap) : E tbl 16 [.agg [.int .i64 a.t, .int .i64 a.k, .int .i64 a.n]] h = some (.bool a.right, h) := by
  rw [c16]
  unfold St.right
  by_cases h1 : 0 ≤ a.t <;> by_cases h2 : 0 ≤ a.n <;> by_cases h3 : 0 ≤ a.k <;> simp [S16, rd3, h1, h2, h3]

theorem less_iff (a b : St) : a.less b = true ↔ a.t < b.t ∨ (a.t = b.t ∧ (a.n < b.n ∨ (a.n = b.n ∧ a.k < b.k))) := by
  unfold St.less orI cmpI
  rw [decide_eq_true_eq]
  repeat' split
  all_goals omega

theorem rless_eq (a b : St) (h : Heap) : E tbl 14 [.agg [.int .i64 a.t, .int .i64 a.k, .int .i64 a.n], .agg [.int .i64 b.t, .int .i64 b.k, .int .i64 b.n]] h = some (.bool (a.less b), h) := by
  have hl : a.less b = decide (a.t < b.t ∨ (a.t = b.t ∧ (a.n < b.n ∨ (a.n = b.n ∧ a.k < b.k)))) := by
    rw [Bool.eq_iff_iff, decide_eq_true_eq]
    exact less_iff a b
  rw [c14, hl]
  by_cases h1 : a.t = b.t
  · by_cases h2 : a.n = b.n
    · simp [S14, rd3, h1, h2]
    · have h2' : (a.n != b.n) = true := by simpa using h2
      simp [S14, rd3, h1, h2, h2']
  · have h1' : (a.t != b.t) = true := by simpa using h1
    simp [S14, rd3, h1, h1']

end Go.Proofs.Ytbfemhpgiilimaa.Code
