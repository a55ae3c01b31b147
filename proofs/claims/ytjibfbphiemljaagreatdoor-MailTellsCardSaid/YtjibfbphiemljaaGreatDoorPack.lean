/- YtjibfbphiemljaaGreatDoorPack -/
import Derived.Test.YtjibfbphiemljaaGreatDoorErr
import Derived.Test.YtjibfbphiemljaaGreatDoorFwZm
set_option linter.unusedSimpArgs false
set_option linter.unusedVariables false
namespace Go.Proofs.YtjibfbphiemljaaGreatDoor.Code
open Go.Fw
theorem clone_eq {a : AVal} {h : Heap} {l : List UInt8} (S : Go.Fw.Bs a h l) (hb : l.length ≤ 140737488355328) : ∃ s h', E tbl 66 [a] h = some (s, h') ∧ Fresh h s h' l := by
  obtain ⟨s, h', e, O, W⟩ := clone_of (bytes := 1) (zero := [.int .u8 0]) S (by omega) (by omega) (by omega)
  refine ⟨s, h', ?_, O, W⟩
  rw [c66]
  have : S66 (E tbl) a h = some (0, [s], h') := e
  rw [this]
  rfl
theorem fill1 (v : AVal) (hv : ∃ n, v = .int .u8 n) : aFill (reps [.int .u8 0] 1) [(0, 1, v)] = some [v] := by
  obtain ⟨n, rfl⟩ := hv
  rfl
theorem put1 {h0 h : Heap} {s : AVal} {l : List UInt8} (O : Own 1 s h h0.next l.length (byteCells l)) (W : Went h0 h) (hb : l.length + 1 ≤ 140737488355328) (n : Int) :
    ∃ s' h', aAppend 1 1 [.int .u8 0] false s (.slice h.next 0 1 1 1 true) (h.alloc [.int .u8 (IntKind.u8.wrap n)]) = some (s', h') ∧ Own 1 s' h' h0.next (l ++ [bU8 n]).length (byteCells (l ++ [bU8 n])) ∧ Went h0 h' := by
  obtain ⟨s', h', e, O', K⟩ := O.snoc (bytes := 1) (zero := [.int .u8 0]) (news := [.int .u8 (IntKind.u8.wrap n)]) (by omega) rfl W.next (by omega) (by omega)
  refine ⟨s', h', e, ?_, K.went W fun b hb => (O.blk b hb).1⟩
  rw [byteCells_app, ← bU8_int] at *
  simpa [byteCells] using O'
theorem byte_eq {a : AVal} {h : Heap} {l : List UInt8} (S : Go.Fw.Bs a h l) (hb : l.length + 1 ≤ 140737488355328) (n : Int) : ∃ s h', E tbl 38 [a, .int .i64 n] h = some (s, h') ∧ Fresh h s h' (l ++ [bU8 n]) := by
  obtain ⟨s1, h1, e1, F1⟩ := clone_eq S (by omega)
  obtain ⟨s2, h2, e2, O2, W2⟩ := put1 F1.own F1.went hb n
  refine ⟨s2, h2, ?_, O2, W2⟩
  rw [c38]
  simp [S38, e1, fill1 _ ⟨_, rfl⟩, e2]
theorem rbyte_eq {a : AVal} {h : Heap} {l : List UInt8} (S : Go.Fw.Bs a h l) (hb : l.length + 1 ≤ 140737488355328) (n : Int) : ∃ s h', E tbl 23 [a, .int .i64 n] h = some (s, h') ∧ Fresh h s h' (l ++ [bU8 n]) := by
  have O := Own.lit 1 h [] 0 (by simp) true
  obtain ⟨s1, h1, e1, O1, K1⟩ := O.app (bytes := 1) (zero := [.int .u8 0]) ((Went.alloc h []).src S) (by omega) (by simp) (by omega) (by omega)
  have W1 := K1.went (Went.alloc h []) fun b hb => by cases hb; exact Nat.le_refl _
  have O1' : Own 1 s1 h1 h.next l.length (byteCells l) := by simpa using O1
  obtain ⟨s2, h2, e2, O2, W2⟩ := put1 O1' W1 hb n
  refine ⟨s2, h2, ?_, O2, W2⟩
  have f0 : aFill (reps [AVal.int .u8 0] 0) [] = some [] := rfl
  rw [c23]
  simp [S23, f0, e1, fill1 _ ⟨_, rfl⟩, e2]
def packText (s : List UInt8) : List UInt8 := bU8 ((s.take 255).length : Int) :: s.take 255
theorem textTail {h0 h : Heap} {s : AVal} {l t : List UInt8} (F : Fresh h0 s h l) (hb : l.length + t.length ≤ 140737488355328) :
    ∃ s' h', aAppend 1 1 [.int .u8 0] false s (.str t) h = some (s', h') ∧ Fresh h0 s' h' (l ++ t) := by
  obtain ⟨s', h', e, O, K⟩ := F.own.text (bytes := 1) (zero := [.int .u8 0]) (l := t) F.went.next (by omega) (by omega)
  refine ⟨s', h', e, ?_, K.went F.went fun b hb => (F.own.blk b hb).1⟩
  rw [byteCells_app, List.length_append]
  exact O
theorem text_eq {a : AVal} {h : Heap} {l : List UInt8} (S : Go.Fw.Bs a h l) (t : List UInt8) (hb : l.length + 256 ≤ 140737488355328) : ∃ s h', E tbl 67 [a, .str t] h = some (s, h') ∧ Fresh h s h' (l ++ packText t) := by
  obtain ⟨s1, h1, e1, F1⟩ := byte_eq S (by omega) ((t.take 255).length : Int)
  have h255 : (t.take 255).length ≤ 255 := by simp; omega
  obtain ⟨s2, h2, e2, F2⟩ := textTail (t := t.take 255) F1 (by simp; omega)
  refine ⟨s2, h2, ?_, by simpa [packText] using F2⟩
  have ln : aLen true (.str t) = some (.int .i64 t.length) := rfl
  have sl : aSliceStr (.str t) none (some (.int .i64 (min (t.length : Int) 255))) = some (.str (t.take 255)) := by
    have q : 0 ≤ min (t.length : Int) 255 ∧ min (t.length : Int) 255 ≤ (t.length : Int) := by omega
    have q2 : t.take (min (t.length : Int) 255).toNat = t.take 255 := by
      by_cases hq : t.length ≤ 255
      · rw [List.take_of_length_le (by omega), List.take_of_length_le (by omega)]
      · rw [show (min (t.length : Int) 255).toNat = 255 by omega]
    simp only [aSliceStr, aBound]
    rw [if_pos q]
    simp only [Option.bind_some, q2, List.drop_zero]
  have ln2 : aLen true (.str (t.take 255)) = some (.int .i64 ((t.take 255).length : Int)) := rfl
  rw [c67]
  simp only [S67, ln, Option.bind_some, min_two, sl, ln2, e1, e2, ans_one]
theorem rtext_eq {a : AVal} {h : Heap} {l : List UInt8} (S : Go.Fw.Bs a h l) (t : List UInt8) (hb : l.length + 256 ≤ 140737488355328) : ∃ s h', E tbl 58 [a, .str t] h = some (s, h') ∧ Fresh h s h' (l ++ packText t) := by
  obtain ⟨s1, h1, e1, F1⟩ := rbyte_eq S (by omega) ((t.take 255).length : Int)
  have h255 : (t.take 255).length ≤ 255 := by simp; omega
  obtain ⟨s2, h2, e2, F2⟩ := textTail (t := t.take 255) F1 (by simp; omega)
  refine ⟨s2, h2, ?_, by simpa [packText] using F2⟩
  have ln : ∀ u : List UInt8, aLen true (.str u) = some (.int .i64 u.length) := fun _ => rfl
  rw [c58]
  by_cases hl : (t.length : Int) > 255
  · have sl : aSliceStr (.str t) none (some (.int .i64 255)) = some (.str (t.take 255)) := by
      have q : (255 : Int) ≤ (t.length : Int) := by omega
      simp [aSliceStr, aBound, q]
    simp only [S58, ln, Option.bind_some, bin_gtr, hl, decide_true, cond_bool, cond_true, sl]
    simp only [List.getD_cons_zero, List.getD_cons_succ, ln, Option.bind_some, e1, e2, ans_one, Nat.beq_refl, cond_true]
  · have ht : t.take 255 = t := List.take_of_length_le (by omega)
    rw [ht] at e1 e2
    simp only [S58, ln, Option.bind_some, bin_gtr, hl, decide_false, cond_bool, cond_false]
    simp only [List.getD_cons_zero, List.getD_cons_succ, ln, Option.bind_some, e1, e2, ans_one, Nat.beq_refl, cond_true]
theorem clip_eq {h0 h : Heap} {s : AVal} {l : List UInt8} (F : Fresh h0 s h l) : ∃ s', E tbl 44 [s] h = some (s', h) ∧ Fresh h0 s' h l := by
  obtain ⟨⟨hl, ⟨rfl, h1⟩ | ⟨b, ex, rfl, h1, h2, h3⟩⟩, W⟩ := F
  · refine ⟨.nilSlice, ?_, ⟨hl, .inl ⟨rfl, h1⟩⟩, W⟩
    rw [c44]
    rfl
  · refine ⟨.slice b 0 l.length l.length 1 true, ?_, ⟨hl, .inr ⟨b, true, rfl, h1, h2, h3⟩⟩, W⟩
    have q : (0 : Int) ≤ (l.length : Int) ∧ (l.length : Int) ≤ (l.length : Int) := by omega
    rw [c44]
    simp [S44, aLen, aSliceSl, aBound]
theorem int_eq {a : AVal} {h : Heap} {l : List UInt8} (S : Go.Fw.Bs a h l) (n : Int) (hb : l.length + 8 ≤ 140737488355328) : ∃ s h', E tbl 40 [a, .int .i64 n] h = some (s, h') ∧ Fresh h s h' (l ++ be8 n) := by
  obtain ⟨s1, h1, e1, F1⟩ := clone_eq S (by omega)
  obtain ⟨r, e2, s2, h2, hr, F2⟩ := loop_ok (f := L40_0 (E tbl)) (fun m xs h' => ∃ (j : Nat) (s : AVal), j + m = 8 ∧ Fresh h s h' (l ++ pre8 n j) ∧ xs = [.int .i64 n, s, .int .i64 (7 - (j : Int))])
      (fun r => ∃ (s : AVal) (h' : Heap), r = (1, [s], h') ∧ Fresh h s h' (l ++ be8 n)) (by
    rintro m xs h' ⟨j, s, hj, F, rfl⟩
    by_cases q : j < 8
    · left
      have hlen : (l ++ pre8 n j).length + 1 ≤ 140737488355328 := by simp [pre8]; omega
      obtain ⟨s', h2, e, O', W'⟩ := put1 F.own F.went hlen (n.fdiv (2 ^ (8 * (7 - j))))
      have q1 : (7 - (j : Int)) ≥ 0 := by omega
      have w1 : IntKind.i64.wrap (8 * (7 - (j : Int))) = ((8 * (7 - j) : Nat) : Int) := by rw [IntWalk.i64_in _ (by omega)]; omega
      have w2 : IntKind.i64.wrap (7 - (j : Int) - 1) = 7 - ((j + 1 : Nat) : Int) := by rw [IntWalk.i64_in _ (by omega)]; omega
      have sh := shr_eq n .i64 (8 * (7 - j)) (by omega)
      refine ⟨_, h2, ?_, m - 1, by omega, j + 1, s', by omega, ⟨?_, W'⟩, rfl⟩
      · simp only [L40_0, List.getD_cons_zero, List.getD_cons_succ, bin_geq, Option.bind_some, q1, decide_true, cond_bool, cond_true, bin_mul, w1, sh, conv_int, fill1 _ ⟨_, rfl⟩, e, bin_sub, w2]
      · rw [pre8_succ, ← List.append_assoc]
        exact O'
    · right
      have hj8 : j = 8 := by omega
      subst hj8
      have q1 : ¬ (7 - ((8 : Nat) : Int)) ≥ 0 := by omega
      exact ⟨0, _, h', by simp only [L40_0, List.getD_cons_zero, List.getD_cons_succ, bin_geq, Option.bind_some, q1, decide_false, cond_bool, cond_false], s, h', rfl, F⟩) 8 _ h1 ⟨0, s1, by omega, by simpa [pre8] using F1, rfl⟩
  subst hr
  obtain ⟨s3, e3, F3⟩ := clip_eq F2
  refine ⟨s3, h2, ?_, F3⟩
  have z : (7 - ((0 : Nat) : Int)) = 7 := by decide
  rw [z] at e2
  rw [c40]
  simp [S40, e1, e2, e3]
theorem rint_eq {a : AVal} {h : Heap} {l : List UInt8} (S : Go.Fw.Bs a h l) (n : Int) (hb : l.length + 8 ≤ 140737488355328) : ∃ s h', E tbl 11 [a, .int .i64 n] h = some (s, h') ∧ Fresh h s h' (l ++ be8 n) := by
  have O := Own.lit 1 h [] 0 (by simp) true
  obtain ⟨s1, h1, e1, O1, K1⟩ := O.app (bytes := 1) (zero := [.int .u8 0]) ((Went.alloc h []).src S) (by omega) (by simp) (by omega) (by omega)
  have W1 := K1.went (Went.alloc h []) fun b hb => by cases hb; exact Nat.le_refl _
  have O1' : Own 1 s1 h1 h.next l.length (byteCells l) := by simpa using O1
  have F1 : Fresh h s1 h1 l := ⟨O1', W1⟩
  obtain ⟨r, e2, s2, h2, hr, F2⟩ := loop_ok (f := L11_0 (E tbl)) (fun m xs h' => ∃ (j : Nat) (s : AVal), j + m = 8 ∧ Fresh h s h' (l ++ pre8 n j) ∧ xs = [.int .i64 n, s, .int .i64 (56 - 8 * (j : Int))])
      (fun r => ∃ (s : AVal) (h' : Heap), r = (1, [s], h') ∧ Fresh h s h' (l ++ be8 n)) (by
    rintro m xs h' ⟨j, s, hj, F, rfl⟩
    by_cases q : j < 8
    · left
      have hlen : (l ++ pre8 n j).length + 1 ≤ 140737488355328 := by simp [pre8]; omega
      obtain ⟨s', h2, e, O', W'⟩ := put1 F.own F.went hlen (n.fdiv (2 ^ (8 * (7 - j))))
      have q1 : (56 - 8 * (j : Int)) ≥ 0 := by omega
      have w1 : IntKind.u64.wrap (56 - 8 * (j : Int)) = ((8 * (7 - j) : Nat) : Int) := by rw [IntKind.wrap_u64]; omega
      have w2 : IntKind.i64.wrap (56 - 8 * (j : Int) - 8) = 56 - 8 * ((j + 1 : Nat) : Int) := by rw [IntWalk.i64_in _ (by omega)]; omega
      have sh := shr_eq n .u64 (8 * (7 - j)) (by omega)
      refine ⟨_, h2, ?_, m - 1, by omega, j + 1, s', by omega, ⟨?_, W'⟩, rfl⟩
      · simp only [L11_0, List.getD_cons_zero, List.getD_cons_succ, bin_geq, Option.bind_some, q1, decide_true, cond_bool, cond_true, w1, sh, conv_int, fill1 _ ⟨_, rfl⟩, e, bin_sub, w2]
      · rw [pre8_succ, ← List.append_assoc]
        exact O'
    · right
      have hj8 : j = 8 := by omega
      subst hj8
      have q1 : ¬ (56 - 8 * ((8 : Nat) : Int)) ≥ 0 := by omega
      exact ⟨0, _, h', by simp only [L11_0, List.getD_cons_zero, List.getD_cons_succ, bin_geq, Option.bind_some, q1, decide_false, cond_bool, cond_false], s, h', rfl, F⟩) 8 _ h1 ⟨0, s1, by omega, by simpa [pre8] using F1, rfl⟩
  subst hr
  refine ⟨s2, h2, ?_, F2⟩
  have z : (56 - 8 * ((0 : Nat) : Int)) = 56 := by decide
  rw [z] at e2
  have f0 : aFill (reps [AVal.int .u8 0] 0) [] = some [] := rfl
  rw [c11]
  simp [S11, f0, e1, e2]
end Go.Proofs.YtjibfbphiemljaaGreatDoor.Code
