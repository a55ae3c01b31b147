/- Chapter 2: PackNumbers. -/
import Derived.Test.YtiilphbdddckdaaLaws
namespace Go.Proofs.Ytiilphbdddckdaa.Code
open Go.Fw

theorem str_add (a b : List UInt8) (h : a.length + b.length ≤ 4611686018427387904) : aBin .add .plain (.str a) (.str b) = some (.str (a ++ b)) := by simp [aBin, aStr, h]

theorem numbers0 (h0 : Heap) : ∃ H, loop (L4_0 (E tbl)) [.str [], .int .i64 0] h0 = some (1, [], H) := by
  obtain ⟨r, e, H, hr⟩ := loop_ok (f := L4_0 (E tbl)) (fun m xs _ => ∃ (n : Nat) (s : List UInt8), n + m = 260 ∧ s.length = n ∧ xs = [.str s, .int .i64 n]) (fun r => ∃ H, r = (1, [], H)) (by
    rintro m xs h ⟨n, s, hn, hs, rfl⟩
    by_cases q : n < 260
    · left
      have q' : (n : Int) < 260 := by omega
      have sa := str_add s [113] (by simp; omega)
      have ws := wrap_succ n (by omega)
      have f1 : aFill (reps [AVal.int .u8 0] 1) [(0, 1, .int .u8 9)] = some [.int .u8 9] := rfl
      have w2 : IntKind.i64.wrap ((n : Int) - 2) = (n : Int) - 2 := IntWalk.i64_in _ (by omega)
      have S1 : Bs (.slice h.next 0 1 1 1 true) (h.alloc [.int .u8 9]) [9] := (Own.lit 1 h [.int .u8 9] 1 rfl true).src
      obtain ⟨h1, e1, W1⟩ := puts_eq S1 ((n : Int) - 2) n s (by simp)
      have S2 : Bs .nilSlice h1 [] := ⟨rfl, .inl ⟨rfl, rfl⟩⟩
      obtain ⟨s2, h2, e2, F2⟩ := text_eq S2 s (by simp)
      have lp : (packText s).length ≤ 256 := by simp [packText]; omega
      have f2 : aFill (reps [AVal.int .i64 0] 2) [(0, 1, .int .i64 2), (1, 1, .int .i64 1)] = some ([2, 1].map (.int .i64)) := rfl
      have S3 := (Went.alloc h2 ([2, 1].map (.int .i64))).src F2.own.src
      obtain ⟨h3, e3, W3⟩ := play_eq S3 (by simp; omega) (Ints.lit .i64 h2 [2, 1] 2 rfl true) (fun b hb => by cases hb; simp)
      by_cases q5 : (n : Int) < 5
      · refine ⟨_, h3, ?_, m - 1, by omega, n + 1, s ++ [113], by omega, by simp [hs], rfl⟩
        simp only [List.map_cons, List.map_nil] at f2 e3
        simp [L4_0, q', q5, f1, w2, e1, e2, f2, e3, sa, ws, beq_dec]
      · by_cases q250 : (n : Int) > 250
        · refine ⟨_, h3, ?_, m - 1, by omega, n + 1, s ++ [113], by omega, by simp [hs], rfl⟩
          simp only [List.map_cons, List.map_nil] at f2 e3
          simp [L4_0, q', q5, q250, f1, w2, e1, e2, f2, e3, sa, ws, beq_dec]
        · refine ⟨_, h, ?_, m - 1, by omega, n + 1, s ++ [113], by omega, by simp [hs], rfl⟩
          simp [L4_0, q', q5, q250, sa, ws, beq_dec]
    · right
      have q' : ¬ (n : Int) < 260 := by omega
      exact ⟨0, _, h, by simp [L4_0, q'], h, rfl⟩) 260 _ h0 ⟨0, [], by omega, rfl, rfl⟩
  exact ⟨H, by rw [← hr]; exact e⟩

theorem numbers1 {s : AVal} {l : List Int} (h0 : Heap) (I : Ints .i64 s h0 l) (lt : ∀ b, slBlk s = some b → b < h0.next) (hl : l.length ≤ 100) : ∃ H, loop (L4_1 (E tbl)) [s, .int .i64 l.length, .int .i64 0] h0 = some (1, [], H) := by
  obtain ⟨r, e, H, hr⟩ := loop_ok (f := L4_1 (E tbl)) (fun m xs h => ∃ (n : Nat), n + m = l.length ∧ Went h0 h ∧ xs = [s, .int .i64 l.length, .int .i64 n]) (fun r => ∃ H, r = (1, [], H)) (by
    rintro m xs h ⟨n, hn, W, rfl⟩
    by_cases q : n < l.length
    · left
      have q' : (n : Int) < l.length := by omega
      have ws := wrap_succ n (by omega)
      have J := I.mono (h' := h) fun b hb => W.old b (lt b hb)
      obtain ⟨p, a1, a2⟩ := J.at n q
      generalize l.getD n 0 = x at a2
      have S1 : Bs .nilSlice h [] := ⟨rfl, .inl ⟨rfl, rfl⟩⟩
      obtain ⟨h1, e1, W1⟩ := puts_eq S1 x x [] (by simp)
      refine ⟨_, h1, ?_, m - 1, by omega, n + 1, by omega, W.trans W1, rfl⟩
      simp [L4_1, q', a1, a2, e1, ws]
    · right
      have q' : ¬ (n : Int) < l.length := by omega
      exact ⟨0, _, h, by simp [L4_1, q'], h, rfl⟩) l.length _ h0 ⟨0, by omega, Went.refl _, rfl⟩
  exact ⟨H, by rw [← hr]; exact e⟩

theorem Sub.went {s : AVal} {h h' : Heap} {l : List UInt8} (S : Sub s h l) (W : Went h h') : Sub s h' l := S.mono W.next fun b hb => W.old b (S.blk b hb)

theorem numbers2 {s : AVal} {l : List UInt8} (h0 : Heap) (S : Sub s h0 l) (hl : l.length ≤ 1000) : ∃ H, loop (L4_2 (E tbl)) [s, .int .i64 0] h0 = some (1, [], H) := by
  obtain ⟨r, e, H, hr⟩ := loop_ok (f := L4_2 (E tbl)) (fun m xs h => ∃ (n : Nat), n + m = l.length + 1 ∧ Went h0 h ∧ xs = [s, .int .i64 n]) (fun r => ∃ H, r = (1, [], H)) (by
    rintro m xs h ⟨n, hn, W, rfl⟩
    have SS := S.went W
    by_cases q : n ≤ l.length
    · left
      have q' : (n : Int) ≤ l.length := by omega
      have ws := wrap_succ n (by omega)
      obtain ⟨s1, s2, c1, c2, S1, S2, _, _⟩ := SS.cut n q
      have f1 : aFill (reps [AVal.int .i64 0] 5) [(0, 1, .int .i64 2), (1, 1, .int .i64 0), (2, 1, .int .i64 1), (3, 1, .int .i64 2), (4, 1, .int .i64 2)] = some ([2, 0, 1, 2, 2].map (.int .i64)) := rfl
      have f2 : aFill (reps [AVal.int .i64 0] 5) [(0, 1, .int .i64 0), (1, 1, .int .i64 1), (2, 1, .int .i64 2), (3, 1, .int .i64 1), (4, 1, .int .i64 0)] = some ([0, 1, 2, 1, 0].map (.int .i64)) := rfl
      obtain ⟨h1, e1, W1⟩ := play_eq (S1.went (Went.alloc h ([2, 0, 1, 2, 2].map (.int .i64)))).src (by simp; omega) (Ints.lit .i64 h [2, 0, 1, 2, 2] 5 rfl true) (fun b hb => by cases hb; simp)
      have Wa := (Went.alloc h ([2, 0, 1, 2, 2].map (.int .i64))).trans W1
      obtain ⟨h2, e2, W2⟩ := play_eq ((S2.went Wa).went (Went.alloc h1 ([0, 1, 2, 1, 0].map (.int .i64)))).src (by simp; omega) (Ints.lit .i64 h1 [0, 1, 2, 1, 0] 5 rfl true) (fun b hb => by cases hb; simp)
      refine ⟨_, h2, ?_, m - 1, by omega, n + 1, by omega, (W.trans Wa).trans ((Went.alloc _ _).trans W2), rfl⟩
      simp only [List.map_cons, List.map_nil] at f1 f2 e1 e2
      simp [L4_2, SS.src.len, q', c1, c2, f1, f2, e1, e2, ws]
    · right
      have q' : ¬ (n : Int) ≤ l.length := by omega
      exact ⟨0, _, h, by simp [L4_2, SS.src.len, q'], h, rfl⟩) (l.length + 1) _ h0 ⟨0, by omega, Went.refl _, rfl⟩
  exact ⟨H, by rw [← hr]; exact e⟩

theorem packNumbers_law (h0 : Heap) : ∃ h', E tbl 4 [] h0 = some (.bool true, h') := by
  obtain ⟨h1, e1⟩ := numbers0 h0
  have f1 : aFill (reps [AVal.int .i64 0] 5) [(0, 1, .int .i64 0), (1, 1, .int .i64 (-1)), (2, 1, .int .i64 9223372036854775807), (3, 1, .int .i64 (-9223372036854775808)), (4, 1, .int .i64 1099511627776)] = some ([0, -1, 9223372036854775807, -9223372036854775808, 1099511627776].map (.int .i64)) := rfl
  obtain ⟨h2, e2⟩ := numbers1 _ (Ints.lit .i64 h1 [0, -1, 9223372036854775807, -9223372036854775808, 1099511627776] 5 rfl true) (fun b hb => by cases hb; simp) (by simp)
  have S2 : Bs .nilSlice h2 [] := ⟨rfl, .inl ⟨rfl, rfl⟩⟩
  obtain ⟨s3, h3, e3, F3⟩ := rtext_eq S2 [97, 98, 99] (by simp)
  obtain ⟨s4, h4, e4, F4⟩ := rint_eq F3.own.src (-5) (by simp [packText])
  obtain ⟨s5, h5, e5, F5⟩ := rbyte_eq F4.own.src (by simp [packText]) 200
  obtain ⟨s6, h6, e6, F6⟩ := rtext_eq F5.own.src [] (by simp [packText])
  obtain ⟨h7, e7⟩ := numbers2 h6 F6.sub (by simp [packText])
  obtain ⟨h8, kn⟩ := known_eq h7
  refine ⟨h8, ?_⟩
  have ln : aLen false (.slice h1.next 0 5 5 1 true) = some (.int .i64 5) := rfl
  simp only [List.map_cons, List.map_nil] at f1 e2
  simp only [List.length_cons, List.length_nil] at e2
  have e2' : loop (L4_1 (E tbl)) [.slice h1.next 0 5 5 1 true, .int .i64 5, .int .i64 0] (h1.alloc [.int .i64 0, .int .i64 (-1), .int .i64 9223372036854775807, .int .i64 (-9223372036854775808), .int .i64 1099511627776]) = some (1, [], h2) := e2
  rw [c4]
  simp [S4, e1, f1, ln, e2', e3, e4, e5, e6, e7, kn]

end Go.Proofs.Ytiilphbdddckdaa.Code
