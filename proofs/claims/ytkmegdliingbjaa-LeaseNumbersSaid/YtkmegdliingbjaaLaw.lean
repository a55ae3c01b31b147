/- Chapter 9: what the functions answer. -/
import Derived.Test.YtkmegdliingbjaaCode
import Derived.Test.YtkmegdliingbjaaFwZo
namespace Go.Proofs.Ytkmegdliingbjaa.Code
open Go.Fw

abbrev ent (a i : List UInt8) (s o l t k n : Int) (g : Bool) (e : Int) : AVal := .agg [.str a, .str i, .int .i64 s, .int .i64 o, .int .i64 l, .int .i64 t, .int .i64 k, .int .i64 n, .bool g, .int .i64 e]
abbrev crd (a i : List UInt8) (s o l t k n : Int) (g : Bool) : AVal := .agg [.str a, .str i, .int .i64 s, .int .i64 o, .int .i64 l, .int .i64 t, .int .i64 k, .int .i64 n, .bool g]
abbrev stp (t k n : Int) : AVal := .agg [.int .i64 t, .int .i64 k, .int .i64 n]
abbrev ent0 : AVal := ent [] [] 0 0 0 0 0 0 false 0

theorem within_ok : WithinOk (E tbl) 20 := by
  intro a lo hi h h0 h1 h2
  rw [c20]
  rw [show S20 = withinS from rfl, withinS_eq _ a lo hi (by omega) h1 (by omega)]
  rfl
theorem next_ok : NextOk (E tbl) 9 := by
  intro p s l h T n hn
  obtain ⟨r, h', e, x⟩ := tapeNext within_ok T n hn
  refine ⟨r, h', ?_, x⟩
  rw [c9, show S9 = tapeNextS 20 from rfl, e]
  rfl
theorem key_ok : KeyOk (E tbl) 19 := by
  intro p s l h T
  obtain ⟨a, i, h', e, x⟩ := tapeKey next_ok T
  refine ⟨a, i, h', ?_, x⟩
  rw [c19, show S19 = tapeKeyS 9 from rfl, e]
  rfl
theorem stamp_ok : StampOk (E tbl) 15 := by
  intro p s l h T
  obtain ⟨t, k, n, h', e, x⟩ := tapeStamp next_ok T
  refine ⟨t, k, n, h', ?_, x⟩
  rw [c15, show S15 = tapeStampS 9 from rfl, e]
  rfl
theorem card_ok : CardOk (E tbl) 8 := by
  intro p s l h T
  obtain ⟨a, i, st, o, le, t, k, n, g, h', e, x⟩ := tapeCard next_ok key_ok stamp_ok T
  refine ⟨a, i, st, o, le, t, k, n, g, h', ?_, x⟩
  rw [c8, show S8 = tapeCardS 19 9 15 from rfl, e]
  rfl

theorem renew_eq (a i : List UInt8) (s o l t k n : Int) (g : Bool) (e now : Int) (h : Heap) : E tbl 10 [ent a i s o l t k n g e, .int .i64 now] h = some (.tuple [if g = true then ent0 else ent a i s o l t k n g (max e now), .bool (!g)], h) := by
  rw [c10]
  cases g <;> simp [S10]

theorem cancel_eq (a i : List UInt8) (s o l t k n : Int) (g : Bool) (e now T K N : Int) (h : Heap) : E tbl 18 [ent a i s o l t k n g e, stp T K N, .int .i64 now] h = some (.tuple [if g = true then ent0 else ent a i s o l T K N true now, .bool (!g)], h) := by
  rw [c18]
  cases g <;> simp [S18, checkPairs]

theorem override_eq (a i : List UInt8) (s o l t k n : Int) (g : Bool) (e over T K N : Int) (h : Heap) : E tbl 17 [ent a i s o l t k n g e, .int .i64 over, stp T K N] h = some (.tuple [if g = false ∧ 0 ≤ over ∧ over ≤ 3 then ent a i s over l T K N g e else ent0, .bool (decide (g = false ∧ 0 ≤ over ∧ over ≤ 3))], h) := by
  rw [c17]
  cases g
  · by_cases h1 : over < 0
    · have h1' : ¬ 0 ≤ over := by omega
      simp [S17, checkPairs, h1, h1']
    · have h1' : 0 ≤ over := by omega
      by_cases h2 : 3 < over
      · have h2' : ¬ over ≤ 3 := by omega
        simp [S17, checkPairs, h1, h2, h1', h2']
      · have h2' : over ≤ 3 := by omega
        simp [S17, checkPairs, h1, h2, h1', h2']
  · simp [S17, checkPairs]

def heldN (n : Int) : Int := max 0 (min n 4611686018427387904)
theorem held_eq (n : Int) (h : Heap) : E tbl 21 [.int .i64 n] h = some (.int .i64 (heldN n), h) := by
  rw [c21]; simp [S21, heldN]
def lateN (g : Bool) (l e now : Int) : Int := if g = true then 0 else max 0 (heldN now - heldN e - heldN l)
theorem heldN_in (n : Int) : 0 ≤ heldN n ∧ heldN n ≤ 4611686018427387904 := by unfold heldN; omega
theorem late_eq (a i : List UInt8) (s o l t k n : Int) (g : Bool) (e now : Int) (h : Heap) : E tbl 11 [ent a i s o l t k n g e, .int .i64 now] h = some (.int .i64 (lateN g l e now), h) := by
  have := heldN_in now; have := heldN_in e; have := heldN_in l
  have w1 : IntKind.i64.wrap (heldN now - heldN e) = heldN now - heldN e := IntWalk.i64_in _ (by omega)
  have w2 : IntKind.i64.wrap (heldN now - heldN e - heldN l) = heldN now - heldN e - heldN l := IntWalk.i64_in _ (by omega)
  rw [c11]
  cases g <;> simp [S11, checkPairs, held_eq, lateN, w1, w2]

theorem rhold_eq (n : Int) (h : Heap) : E tbl 25 [.int .i64 n] h = some (.int .i64 (heldN n), h) := by
  rw [c25]; simp [S25, heldN]; omega
theorem rlate_eq (a i : List UInt8) (s o l t k n : Int) (g : Bool) (e now : Int) (h : Heap) : E tbl 22 [ent a i s o l t k n g e, .int .i64 now] h = some (.int .i64 (lateN g l e now), h) := by
  have := heldN_in now; have := heldN_in e; have := heldN_in l
  have w1 : IntKind.i64.wrap (heldN now - heldN e) = heldN now - heldN e := IntWalk.i64_in _ (by omega)
  have w2 : IntKind.i64.wrap (heldN now - heldN e - heldN l) = heldN now - heldN e - heldN l := IntWalk.i64_in _ (by omega)
  rw [c22]
  cases g <;> simp [S22, checkPairs, rhold_eq, lateN, w1, w2]
  omega
theorem plain_eq (a i : List UInt8) (s o l t k n : Int) (g : Bool) (e : Int) (h : Heap) : E tbl 23 [ent a i s o l t k n g e] h = some (ent a i s o l t k n g e, h) := by
  rw [c23]; simp [S23]

theorem register_eq (a i : List UInt8) (s o l t k n : Int) (g : Bool) (e : Int) (in_ : Bool) (A I : List UInt8) (S O L T K N : Int) (G : Bool) (now : Int) (h : Heap) :
    E tbl 16 [ent a i s o l t k n g e, .bool in_, crd A I S O L T K N G, .int .i64 now] h = some (ent A I S (if in_ = true ∧ g = false then o else 0) L T K N false now, h) := by
  rw [c16]
  cases in_ <;> cases g <;> simp [S16, checkPairs]

end Go.Proofs.Ytkmegdliingbjaa.Code
