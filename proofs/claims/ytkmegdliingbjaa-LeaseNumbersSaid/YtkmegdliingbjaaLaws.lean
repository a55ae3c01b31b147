/- Chapter 9: the laws. -/
import Derived.Test.YtkmegdliingbjaaSame
namespace Go.Proofs.Ytkmegdliingbjaa.Code
open Go.Fw

set_option maxRecDepth 20000 in
theorem leaseTells_law (h0 : Heap) {s : AVal} {l : List Int} (I : Ints .i64 s h0 l) (lt : ∀ b, slBlk s = some b → b < h0.next) (_ : ∀ x ∈ l, (Lit.int .i64 x).wf = true) (sz : l.length * 8 ≤ 140737488355328)
    (a : List UInt8) (_ : (a.length : Int) ≤ 9223372036854775807) (i : List UInt8) (_ : (i.length : Int) ≤ 9223372036854775807) (st : Int) (_ : (Lit.int .i64 st).wf = true) (o : Int) (_ : (Lit.int .i64 o).wf = true) (le : Int) (_ : (Lit.int .i64 le).wf = true) (t : Int) (_ : (Lit.int .i64 t).wf = true) (k : Int) (_ : (Lit.int .i64 k).wf = true) (n : Int) (_ : (Lit.int .i64 n).wf = true) (g : Bool) (e : Int) (_ : (Lit.int .i64 e).wf = true)
    (in_ : Bool)
    (A : List UInt8) (_ : (A.length : Int) ≤ 9223372036854775807) (J : List UInt8) (_ : (J.length : Int) ≤ 9223372036854775807) (S : Int) (_ : (Lit.int .i64 S).wf = true) (O : Int) (_ : (Lit.int .i64 O).wf = true) (L : Int) (_ : (Lit.int .i64 L).wf = true) (T : Int) (_ : (Lit.int .i64 T).wf = true) (K : Int) (_ : (Lit.int .i64 K).wf = true) (N : Int) (_ : (Lit.int .i64 N).wf = true) (G : Bool)
    (over : Int) (_ : (Lit.int .i64 over).wf = true) (T' : Int) (_ : (Lit.int .i64 T').wf = true) (K' : Int) (_ : (Lit.int .i64 K').wf = true) (N' : Int) (_ : (Lit.int .i64 N').wf = true) (now : Int) (_ : (Lit.int .i64 now).wf = true) :
    ∃ h', E tbl 5 [s, ent a i st o le t k n g e, .bool in_, crd A J S O L T K N G, .int .i64 over, stp T' K' N', .int .i64 now] h0 = some (.bool true, h') := by
  have T1 := Tape.make I lt (by omega)
  obtain ⟨a2, i2, st2, o2, le2, t2, k2, n2, g2, H2, e2, _, T2, _⟩ := card_ok T1
  obtain ⟨x3, H3, e3, _, _, T3, _, _⟩ := next_ok T2 80 (by omega)
  obtain ⟨H4, e4, K4⟩ := same_eq a i st o le t k n g e in_ A J S O L T K N G over T' K' N' now H3
  obtain ⟨a5, i5, st5, o5, le5, t5, k5, n5, g5, H5, e5, _, T5, _⟩ := card_ok (T3.keeps K4)
  obtain ⟨t6, k6, n6, H6, e6, _, _, _, T6, _⟩ := stamp_ok T5
  obtain ⟨y1, f1, _, _⟩ := and_eq over 3 (by omega) (by omega)
  obtain ⟨y2, f2, _, _⟩ := and_eq now 127 (by omega) (by omega)
  obtain ⟨H7, e7, K7⟩ := same_eq a2 i2 st2 o2 le2 t2 k2 n2 g2 x3 in_ a5 i5 st5 o5 le5 t5 k5 n5 g5 y1 t6 k6 n6 y2 H6
  obtain ⟨H8, e8, K8⟩ := same_eq a2 i2 st2 o2 le2 t2 k2 n2 g2 x3 in_ A J S O L T K N G over T' K' N' now H7
  obtain ⟨H9, e9, _⟩ := known_eq H8
  refine ⟨H9, ?_⟩
  rw [c5]
  simp [S5, checkPairs, I.cell, e2, e3, e4, e5, e6, e7, e8, e9, f1, f2]

set_option maxRecDepth 20000 in
theorem leaseLate_law (h0 : Heap) {s : AVal} {l : List Int} (I : Ints .i64 s h0 l) (lt : ∀ b, slBlk s = some b → b < h0.next) (_ : ∀ x ∈ l, (Lit.int .i64 x).wf = true) (sz : l.length * 8 ≤ 140737488355328)
    (now : Int) (_ : (Lit.int .i64 now).wf = true) (more : Int) (_ : (Lit.int .i64 more).wf = true) :
    ∃ h', E tbl 3 [s, .int .i64 now, .int .i64 more] h0 = some (.bool true, h') := by
  have T1 := Tape.make I lt (by omega)
  obtain ⟨a2, i2, st2, o2, le2, t2, k2, n2, g2, H2, e2, C, T2, _⟩ := card_ok T1
  obtain ⟨x, H3, e3, x0, x1, T3, _, _⟩ := next_ok T2 50 (by omega)
  obtain ⟨y1, f1, p1, p2⟩ := and_eq now 65535 (by omega) (by omega)
  obtain ⟨y2, f2, q1, q2⟩ := and_eq more 255 (by omega) (by omega)
  obtain ⟨H9, e9, _⟩ := known_eq H3
  refine ⟨H9, ?_⟩
  have c1 := C.l
  have m1 : max x y1 = max y1 x := by omega
  generalize hz : max y1 x = z at m1
  have z0 : 0 ≤ z ∧ z ≤ 65535 := by omega
  have w1 : IntKind.i64.wrap (z + y2) = z + y2 := IntWalk.i64_in _ (by omega)
  have w2 : IntKind.i64.wrap (y2 - le2) = y2 - le2 := IntWalk.i64_in _ (by omega)
  have w3 : IntKind.i64.wrap (z + le2) = z + le2 := IntWalk.i64_in _ (by omega)
  have w4 : IntKind.i64.wrap (z + le2 + y2) = z + le2 + y2 := IntWalk.i64_in _ (by omega)
  have l1 : lateN false le2 z (z + y2) = max (y2 - le2) 0 := by simp only [lateN, heldN]; simp; omega
  have l2 : lateN false le2 z (z + le2 + y2) = y2 := by simp only [lateN, heldN]; simp; omega
  rw [c3]
  simp [S3, checkPairs, I.cell, e2, e3, e9, f1, f2, renew_eq, late_eq, m1, hz, w1, w2, w3, w4, l1, l2]

set_option maxRecDepth 20000 in
theorem leaseTurns_law (h0 : Heap) {s : AVal} {l : List Int} (I : Ints .i64 s h0 l) (lt : ∀ b, slBlk s = some b → b < h0.next) (_ : ∀ x ∈ l, (Lit.int .i64 x).wf = true) (sz : l.length * 8 ≤ 140737488355328)
    (over : Int) (_ : (Lit.int .i64 over).wf = true) (now : Int) (_ : (Lit.int .i64 now).wf = true) :
    ∃ h', E tbl 6 [s, .int .i64 over, .int .i64 now] h0 = some (.bool true, h') := by
  have T1 := Tape.make I lt (by omega)
  obtain ⟨a, i, st, o, le, t, k, n, g, H2, e2, C, T2, _⟩ := card_ok T1
  obtain ⟨y, f1, p1, p2⟩ := and_eq over 3 (by omega) (by omega)
  obtain ⟨z, f2, q1, q2⟩ := and_eq now 65535 (by omega) (by omega)
  have w5 : IntKind.i64.wrap (z + 5) = z + 5 := IntWalk.i64_in _ (by omega)
  have w7 : IntKind.i64.wrap (z + 7) = z + 7 := IntWalk.i64_in _ (by omega)
  have w9 : IntKind.i64.wrap (z + 9) = z + 9 := IntWalk.i64_in _ (by omega)
  have L2 := T2.lt
  have N2 : ∀ b, slBlk s = some b → b < H2.next := fun b hb => (T2.ne b hb).1
  obtain ⟨t3, k3, n3, H3, e3, _, _, _, T3, O3, x3⟩ := stamp_ok (T2.keeps (Keeps.res H2 1))
  rw [Heap.res_next] at x3
  have T4 := T3.fill (h0 := H2) (b := H2.next) (Nat.le_refl _) L2 N2 (some ⟨[.str a, .str i, .int .i64 st, .int .i64 y, .int .i64 le, .int .i64 t3, .int .i64 k3, .int .i64 n3, .bool false, .int .i64 z], true⟩)
  generalize h4 : H3.setBlk H2.next (some ⟨[.str a, .str i, .int .i64 st, .int .i64 y, .int .i64 le, .int .i64 t3, .int .i64 k3, .int .i64 n3, .bool false, .int .i64 z], true⟩) = H4 at T4
  have x4 : H4.next = H2.next + 1 := by rw [← h4, setBlk_next, x3]
  have b4 : H4.blk H2.next = some ⟨[.str a, .str i, .int .i64 st, .int .i64 y, .int .i64 le, .int .i64 t3, .int .i64 k3, .int .i64 n3, .bool false, .int .i64 z], true⟩ := by rw [← h4, setBlk_same]
  obtain ⟨t5, k5, n5, H5, e5, _, _, _, T5, O5, x5⟩ := stamp_ok (T4.keeps (Keeps.res H4 1))
  rw [Heap.res_next] at x5
  have b5 : H5.blk H2.next = some ⟨[.str a, .str i, .int .i64 st, .int .i64 y, .int .i64 le, .int .i64 t3, .int .i64 k3, .int .i64 n3, .bool false, .int .i64 z], true⟩ := by
    rw [O5.old _ (by rw [Heap.res_next]; omega) (by omega), Heap.res_blk, b4]
  have T6 := T5.fill (h0 := H2) (b := H2.next + 1) (by omega) L2 N2 (some ⟨[.str a, .str i, .int .i64 st, .int .i64 y, .int .i64 le, .int .i64 t5, .int .i64 k5, .int .i64 n5, .bool true, .int .i64 (z + 7)], true⟩)
  generalize h6 : H5.setBlk (H2.next + 1) (some ⟨[.str a, .str i, .int .i64 st, .int .i64 y, .int .i64 le, .int .i64 t5, .int .i64 k5, .int .i64 n5, .bool true, .int .i64 (z + 7)], true⟩) = H6 at T6
  have x6 : H6.next = H2.next + 2 := by rw [← h6, setBlk_next]; omega
  have b6 : H6.blk (H2.next + 1) = some ⟨[.str a, .str i, .int .i64 st, .int .i64 y, .int .i64 le, .int .i64 t5, .int .i64 k5, .int .i64 n5, .bool true, .int .i64 (z + 7)], true⟩ := by rw [← h6, setBlk_same]
  obtain ⟨t7, k7, n7, H7, e7, _, _, _, T7, O7, x7⟩ := stamp_ok (T6.keeps (Keeps.res H6 1))
  rw [Heap.res_next] at x7
  have b7 : H7.blk (H2.next + 1) = some ⟨[.str a, .str i, .int .i64 st, .int .i64 y, .int .i64 le, .int .i64 t5, .int .i64 k5, .int .i64 n5, .bool true, .int .i64 (z + 7)], true⟩ := by
    rw [O7.old _ (by rw [Heap.res_next]; omega) (by omega), Heap.res_blk, b6]
  have T8 := T7.fill (h0 := H2) (b := H2.next + 2) (by omega) L2 N2 (some ⟨[.str [], .str [], .int .i64 0, .int .i64 0, .int .i64 0, .int .i64 0, .int .i64 0, .int .i64 0, .bool false, .int .i64 0], true⟩)
  generalize h8 : H7.setBlk (H2.next + 2) (some ⟨[.str [], .str [], .int .i64 0, .int .i64 0, .int .i64 0, .int .i64 0, .int .i64 0, .int .i64 0, .bool false, .int .i64 0], true⟩) = H8 at T8
  have x8 : H8.next = H2.next + 3 := by rw [← h8, setBlk_next]; omega
  have b8 : H8.blk (H2.next + 1) = some ⟨[.str a, .str i, .int .i64 st, .int .i64 y, .int .i64 le, .int .i64 t5, .int .i64 k5, .int .i64 n5, .bool true, .int .i64 (z + 7)], true⟩ := by
    rw [← h8, setBlk_ne _ _ (by omega), b7]
  obtain ⟨t9, k9, n9, H9, e9, _, _, _, T9, O9, x9⟩ := stamp_ok (T8.keeps (Keeps.res H8 1))
  rw [Heap.res_next] at x9
  have b9 : H9.blk (H2.next + 1) = some ⟨[.str a, .str i, .int .i64 st, .int .i64 y, .int .i64 le, .int .i64 t5, .int .i64 k5, .int .i64 n5, .bool true, .int .i64 (z + 7)], true⟩ := by
    rw [O9.old _ (by rw [Heap.res_next]; omega) (by omega), Heap.res_blk, b8]
  generalize h10 : H9.setBlk (H2.next + 3) (some ⟨[.str [], .str [], .int .i64 0, .int .i64 0, .int .i64 0, .int .i64 0, .int .i64 0, .int .i64 0, .bool false, .int .i64 0], true⟩) = H10
  have b10 : H10.blk (H2.next + 1) = some ⟨[.str a, .str i, .int .i64 st, .int .i64 y, .int .i64 le, .int .i64 t5, .int .i64 k5, .int .i64 n5, .bool true, .int .i64 (z + 7)], true⟩ := by
    rw [← h10, setBlk_ne _ _ (by omega), b9]
  obtain ⟨H11, e11, _⟩ := known_eq H10
  refine ⟨H11, ?_⟩
  rw [c6]
  simp (config := { maxSteps := 2000000 }) [S6, checkPairs, I.cell, e2, e3, e5, e7, e9, e11, f1, f2, p1, p2, w5, w7, w9, renew_eq, cancel_eq, override_eq, register_eq, rd_bind, wr_bind, blk_set, setBlk_twice, Heap.res_blk, h4, x4, b4, b5, h6, x6, b6, b7, h8, x8, b8, b9, h10, b10]

end Go.Proofs.Ytkmegdliingbjaa.Code
