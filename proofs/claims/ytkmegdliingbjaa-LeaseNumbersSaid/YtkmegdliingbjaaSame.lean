/- Chapter 9: 'same' holds of all. -/
import Derived.Test.YtkmegdliingbjaaLaw
import Derived.Test.YtkmegdliingbjaaFwZp
namespace Go.Proofs.Ytkmegdliingbjaa.Code
open Go.Fw

set_option maxRecDepth 20000 in
theorem same_live (a i : List UInt8) (s o l t k n : Int) (e : Int) (in_ : Bool) (A I : List UInt8) (S O L T K N : Int) (G : Bool) (over T' K' N' now : Int) (h : Heap) (h1 : 0 ≤ over) (h2 : over ≤ 3) :
    ∃ h', E tbl 13 [ent a i s o l t k n false e, .bool in_, crd A I S O L T K N G, .int .i64 over, stp T' K' N', .int .i64 now] h = some (.bool true, h') ∧ Keeps h h' := by
  rw [c13]
  refine ⟨?_, ?_, ?_⟩
  rotate_left
  · cases in_ <;> simp [S13, checkPairs, renew_eq, cancel_eq, override_eq, register_eq, late_eq, rlate_eq, plain_eq, h1, h2, rd_bind, wr_bind, blk_set, Heap.res_next]
    all_goals exact rfl
  · repeat (first | exact Keeps.res _ _ | refine Keeps.set ?_ (by omega) _)

set_option maxRecDepth 20000 in
theorem same_low (a i : List UInt8) (s o l t k n : Int) (e : Int) (in_ : Bool) (A I : List UInt8) (S O L T K N : Int) (G : Bool) (over T' K' N' now : Int) (h : Heap) (h1 : over < 0) :
    ∃ h', E tbl 13 [ent a i s o l t k n false e, .bool in_, crd A I S O L T K N G, .int .i64 over, stp T' K' N', .int .i64 now] h = some (.bool true, h') ∧ Keeps h h' := by
  rw [c13]
  refine ⟨?_, ?_, ?_⟩
  rotate_left
  · cases in_ <;> simp [S13, checkPairs, renew_eq, cancel_eq, override_eq, register_eq, late_eq, rlate_eq, plain_eq, h1, (show ¬ 0 ≤ over by omega), rd_bind, wr_bind, blk_set, Heap.res_next]
    all_goals exact rfl
  · repeat (first | exact Keeps.res _ _ | refine Keeps.set ?_ (by omega) _)

set_option maxRecDepth 20000 in
theorem same_high (a i : List UInt8) (s o l t k n : Int) (e : Int) (in_ : Bool) (A I : List UInt8) (S O L T K N : Int) (G : Bool) (over T' K' N' now : Int) (h : Heap) (h1 : 0 ≤ over) (h2 : ¬ over ≤ 3) :
    ∃ h', E tbl 13 [ent a i s o l t k n false e, .bool in_, crd A I S O L T K N G, .int .i64 over, stp T' K' N', .int .i64 now] h = some (.bool true, h') ∧ Keeps h h' := by
  rw [c13]
  refine ⟨?_, ?_, ?_⟩
  rotate_left
  · cases in_ <;> simp [S13, checkPairs, renew_eq, cancel_eq, override_eq, register_eq, late_eq, rlate_eq, plain_eq, h1, h2, rd_bind, wr_bind, blk_set, Heap.res_next]
    all_goals exact rfl
  · repeat (first | exact Keeps.res _ _ | refine Keeps.set ?_ (by omega) _)

set_option maxRecDepth 20000 in
theorem same_gone (a i : List UInt8) (s o l t k n : Int) (e : Int) (in_ : Bool) (A I : List UInt8) (S O L T K N : Int) (G : Bool) (over T' K' N' now : Int) (h : Heap) :
    ∃ h', E tbl 13 [ent a i s o l t k n true e, .bool in_, crd A I S O L T K N G, .int .i64 over, stp T' K' N', .int .i64 now] h = some (.bool true, h') ∧ Keeps h h' := by
  rw [c13]
  refine ⟨?_, ?_, ?_⟩
  rotate_left
  · cases in_ <;> simp [S13, checkPairs, renew_eq, cancel_eq, override_eq, register_eq, late_eq, rlate_eq, plain_eq, rd_bind, wr_bind, blk_set, Heap.res_next]
    all_goals exact rfl
  · repeat (first | exact Keeps.res _ _ | refine Keeps.set ?_ (by omega) _)


theorem same_eq (a i : List UInt8) (s o l t k n : Int) (g : Bool) (e : Int) (in_ : Bool) (A I : List UInt8) (S O L T K N : Int) (G : Bool) (over T' K' N' now : Int) (h : Heap) :
    ∃ h', E tbl 13 [ent a i s o l t k n g e, .bool in_, crd A I S O L T K N G, .int .i64 over, stp T' K' N', .int .i64 now] h = some (.bool true, h') ∧ Keeps h h' := by
  cases g with
  | true => exact same_gone a i s o l t k n e in_ A I S O L T K N G over T' K' N' now h
  | false =>
    by_cases h1 : 0 ≤ over
    · by_cases h2 : over ≤ 3
      · exact same_live a i s o l t k n e in_ A I S O L T K N G over T' K' N' now h h1 h2
      · exact same_high a i s o l t k n e in_ A I S O L T K N G over T' K' N' now h h1 h2
    · exact same_low a i s o l t k n e in_ A I S O L T K N G over T' K' N' now h (by omega)

set_option maxRecDepth 20000 in
theorem known_eq (h : Heap) : ∃ h', E tbl 12 [] h = some (.bool true, h') ∧ Keeps h h' := by
  have a0 : ∀ x : List AVal, aIaddr 10 (.slice x.length 0 1 1 10 true) (.int .i64 0) = some (.ptr x.length 0) := fun _ => rfl
  have l5 : lateN false 5 0 9 = 4 := by decide
  have l9 : lateN true 5 7 99 = 0 := by decide
  have w1 : IntKind.i64.wrap 1 = 1 := by decide
  have same1 : ∀ H : Heap, E tbl 14 [.slice H.next 0 1 1 10 true, .slice (H.next + 1) 0 1 1 10 true] ((H.alloc [.str [], .str [], .int .i64 1, .int .i64 0, .int .i64 5, .int .i64 0, .int .i64 0, .int .i64 0, .bool false, .int .i64 0]).alloc [.str [], .str [], .int .i64 1, .int .i64 0, .int .i64 5, .int .i64 0, .int .i64 0, .int .i64 0, .bool false, .int .i64 0]) = some (.bool true, (H.alloc [.str [], .str [], .int .i64 1, .int .i64 0, .int .i64 5, .int .i64 0, .int .i64 0, .int .i64 0, .bool false, .int .i64 0]).alloc [.str [], .str [], .int .i64 1, .int .i64 0, .int .i64 5, .int .i64 0, .int .i64 0, .int .i64 0, .bool false, .int .i64 0]) := by
    intro H
    have q : ∀ b, aIaddr 10 (.slice b 0 1 1 10 true) (.int .i64 0) = some (.ptr b 0) := fun _ => rfl
    have ln : ∀ b, aLen false (.slice b 0 1 1 10 true) = some (.int .i64 1) := fun _ => rfl
    rw [c14]
    simp only [S14]
    rw [c24]
    generalize hX : (H.alloc [.str [], .str [], .int .i64 1, .int .i64 0, .int .i64 5, .int .i64 0, .int .i64 0, .int .i64 0, .bool false, .int .i64 0]).alloc [.str [], .str [], .int .i64 1, .int .i64 0, .int .i64 5, .int .i64 0, .int .i64 0, .int .i64 0, .bool false, .int .i64 0] = X
    have r0 : X.rd H.next 0 10 = some [.str [], .str [], .int .i64 1, .int .i64 0, .int .i64 5, .int .i64 0, .int .i64 0, .int .i64 0, .bool false, .int .i64 0] := by
      rw [← hX]; simp [rd_bind, blk_alloc]
    have r1 : X.rd (H.next + 1) 0 10 = some [.str [], .str [], .int .i64 1, .int .i64 0, .int .i64 5, .int .i64 0, .int .i64 0, .int .i64 0, .bool false, .int .i64 0] := by
      rw [← hX]; simp [rd_bind, blk_alloc]
    have e0 : L24_0 (E tbl) [.slice H.next 0 1 1 10 true, .slice (H.next + 1) 0 1 1 10 true, .int .i64 1, .int .i64 0] X = some (0, [.slice H.next 0 1 1 10 true, .slice (H.next + 1) 0 1 1 10 true, .int .i64 1, .int .i64 1], X) := by
      simp [L24_0, q, r0, r1, w1]
    have e1 : L24_0 (E tbl) [.slice H.next 0 1 1 10 true, .slice (H.next + 1) 0 1 1 10 true, .int .i64 1, .int .i64 1] X = some (1, [], X) := by
      simp [L24_0]
    have e := (loop_more e0).trans (loop_done e1)
    simp [S24, ln, e]
  rw [c12]
  refine ⟨?_, ?_, ?_⟩
  rotate_left
  · simp [S12, checkPairs, renew_eq, cancel_eq, override_eq, register_eq, late_eq, l5, l9, same1]
    exact rfl
  · exact (Keeps.alloc _ _).trans (Keeps.alloc _ _)

end Go.Proofs.Ytkmegdliingbjaa.Code
