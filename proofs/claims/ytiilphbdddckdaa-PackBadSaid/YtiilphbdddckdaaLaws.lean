/- Chapter 2: PackTells, PackNumbers, PackBad. -/
import Derived.Test.YtiilphbdddckdaaPlay
namespace Go.Proofs.Ytiilphbdddckdaa.Code
open Go.Fw

theorem packTells_law (h0 : Heap) {sb sk : AVal} {lb lk : List Int} (Ib : Ints .u8 sb h0 lb) (tb : ∀ b, slBlk sb = some b → b < h0.next) (wb : ∀ x ∈ lb, (Lit.int .u8 x).wf = true) (zb : lb.length * 1 ≤ 140737488351232)
    (n : Int) (_ : (Lit.int .i64 n).wf = true) (k : Int) (_ : (Lit.int .i64 k).wf = true) (t : List UInt8) (_ : (t.length : Int) ≤ 9223372036854775807)
    (Ik : Ints .i64 sk h0 lk) (tk : ∀ b, slBlk sk = some b → b < h0.next) (_ : ∀ x ∈ lk, (Lit.int .i64 x).wf = true) (zk : lk.length * 8 ≤ 140737488351232) :
    ∃ h', E tbl 5 [sb, .int .i64 n, .int .i64 k, .str t, sk] h0 = some (.bool true, h') := by
  obtain ⟨l, hl, S⟩ := ints_bytes Ib tb wb
  obtain ⟨t', ht'⟩ : ∃ t', t' = t.take 300 := ⟨_, rfl⟩
  obtain ⟨h1, e1, W1⟩ := puts_eq S n k t' (by omega)
  have I1 := Ik.mono (h' := h1) fun b hb => W1.old b (tk b hb)
  obtain ⟨h2, e2, W2⟩ := play_eq (W1.src S) (by omega) I1 (fun b hb => Nat.lt_of_lt_of_le (tk b hb) W1.next)
  have W12 := W1.trans W2
  have S0 : Bs .nilSlice h2 [] := ⟨rfl, .inl ⟨rfl, rfl⟩⟩
  obtain ⟨s3, h3, e3, F3⟩ := rint_eq S0 n (by simp)
  have l8 : ([] ++ be8 n : List UInt8).length = 8 := by simp
  obtain ⟨s4, h4, e4, F4⟩ := rtext_eq F3.own.src t' (by omega)
  have W34 := F3.went.trans F4.went
  have W04 := W12.trans W34
  have lp : (packText t').length ≤ 256 := by simp [packText]; omega
  obtain ⟨s5, h5, e5, O5, K5⟩ := F4.own.app (bytes := 1) (zero := [.int .u8 0]) (W04.src S) (by omega) F4.went.next (by simp at *; omega) (by simp at *; omega)
  have W5 : Went h3 h5 := K5.went F4.went fun b hb => (F4.own.blk b hb).1
  have W35 := F3.went.trans W5
  -- the kinds
  have Ok := Own.lit 1 h5 [.int .i64 0, .int .i64 2] 2 rfl true
  have W05 := W12.trans W35
  have Ik5 := Ik.mono (h' := h5) fun b hb => W05.old b (tk b hb)
  have Sk := ints_src Ik5 fun b hb => Nat.lt_of_lt_of_le (tk b hb) W05.next
  obtain ⟨s6, h6, e6, O6, K6⟩ := Ok.app (bytes := 8) (zero := [.int .i64 0]) ((Went.alloc h5 _).src Sk) (by omega) (by simp) (by omega) (by omega)
  have W6 : Went h5 h6 := K6.went (Went.alloc h5 _) fun b hb => by cases hb; exact Nat.le_refl _
  have I6 : Ints .i64 s6 h6 ([0, 2] ++ lk) := by
    have := O6.src
    exact Src.ints (m := 2 + lk.length) (by simpa using this)
  have HB5 : Bs s5 h6 ((([] ++ be8 n) ++ packText t') ++ l) := by
    have := W6.src O5.src
    unfold Bs
    rw [byteCells_app, List.length_append]
    exact this
  obtain ⟨h7, e7, W7⟩ := play_eq HB5 (by simp at *; omega) I6 (fun b hb => (O6.blk b hb).2)
  obtain ⟨h8, kn⟩ := known_eq h7
  refine ⟨h8, ?_⟩
  have f2 : aFill (reps [AVal.int .i64 0] 2) [(0, 1, .int .i64 0), (1, 1, .int .i64 2)] = some [.int .i64 0, .int .i64 2] := rfl
  have ln : aLen true (.str t) = some (.int .i64 t.length) := rfl
  rw [c5]
  by_cases q : (t.length : Int) > 300
  · have sl : aSliceStr (.str t) none (some (.int .i64 300)) = some (.str t') := by
      have q2 : (300 : Int) ≤ (t.length : Int) := by omega
      simp [aSliceStr, aBound, q2, ht']
    simp [S5, ln, q, sl, e1, e2, e3, e4, e5, f2, e6, e7, kn]
  · have : t' = t := by rw [ht']; exact List.take_of_length_le (by omega)
    rw [this] at e1 e4
    simp [S5, ln, q, e1, e2, e3, e4, e5, f2, e6, e7, kn]

end Go.Proofs.Ytiilphbdddckdaa.Code
