/- Chapter 2: runs. -/
import Derived.Test.YtiilphbdddckdaaRead
namespace Go.Proofs.Ytiilphbdddckdaa.Code
open Go.Fw

theorem logBs_ok {s : AVal} {h h' : Heap} {l : List UInt8} (S : Bs s h l) (W : Went h h') (β β' : List (Nat × List AVal)) : pairOk (logBs s) (some (.ef β h β' h')) = true := by
  have S' := W.src S
  obtain ⟨_, ⟨rfl, _⟩ | ⟨b, off, cap, ex, rfl, h2, h3⟩⟩ := S
  · rfl
  · obtain ⟨_, ⟨hh, _⟩ | ⟨b', off', cap', ex', hh, _, h3'⟩⟩ := S'
    · cases hh
    · cases hh
      rw [Nat.mul_one] at h3 h3'
      simp [logBs, h3, h3']

theorem within_eq (a lo hi : Int) (h0 : -1000000000 ≤ lo) (h1 : lo ≤ hi) (h2 : hi ≤ 1000000000) (h : Heap) : E tbl 8 [.int .i64 a, .int .i64 lo, .int .i64 hi] h = some (.int .i64 (within a lo hi), h) := by
  rw [c8]
  have e : S8 (E tbl) (.int .i64 a) (.int .i64 lo) (.int .i64 hi) h = some (0, [.int .i64 (within a lo hi)], h) := withinS_eq (E tbl) a lo hi h0 h1 h2 h
  rw [e]
  rfl

theorem str_eql (a : List UInt8) : aBin .eql .plain (.str a) (.str a) = some (.bool true) := by simp [aBin, aStr]
theorem str_neq (a : List UInt8) : aBin .neq .plain (.str a) (.str a) = some (.bool false) := by simp [aBin, aStr]

theorem puts_eq {a : AVal} {h : Heap} {l : List UInt8} (S : Bs a h l) (n k : Int) (t : List UInt8) (hb : l.length + 256 ≤ 140737488355328) :
    ∃ h', E tbl 14 [a, .int .i64 n, .int .i64 k, .str t] h = some (.bool true, h') ∧ Went h h' := by
  obtain ⟨s1, h1, e1, F1⟩ := int_eq S n (by omega)
  obtain ⟨s2, h2, e2, F2⟩ := rint_eq (F1.went.src S) n (by omega)
  have W2 := F1.went.trans F2.went
  obtain ⟨s3, h3, e3, F3⟩ := byte_eq (W2.src S) (by omega) k
  have W3 := W2.trans F3.went
  obtain ⟨s4, h4, e4, F4⟩ := rbyte_eq (W3.src S) (by omega) k
  have W4 := W3.trans F4.went
  obtain ⟨s5, h5, e5, F5⟩ := text_eq (W4.src S) t hb
  have W5 := W4.trans F5.went
  obtain ⟨s6, h6, e6, F6⟩ := rtext_eq (W5.src S) t hb
  refine ⟨h6, ?_, W5.trans F6.went⟩
  have t1 := F1.own.src.text
  have t2 := F2.own.src.text
  have t3 := F3.own.src.text
  have t4 := F4.own.src.text
  have t5 := F5.own.src.text
  have t6 := F6.own.src.text
  have g1 := logBs_ok F1.own.src F2.went [] []
  have g2 := logBs_ok F3.own.src F4.went [] []
  have g3 := logBs_ok F5.own.src F6.went [] []
  rw [c14]
  simp [S14, e1, t1, e2, t2, str_eql, e3, t3, e4, t4, e5, t5, e6, t6, checkPairs, g1, g2, g3]

theorem R.went {r : Nat} {h h' : Heap} {l : List UInt8} {bad : Bool} (Q : R r h l bad) (W : Went h h') : R r h' l bad := by
  obtain ⟨lt, s, h1, h2, h3⟩ := Q
  exact ⟨Nat.lt_of_lt_of_le lt W.next, s, by rw [W.old r lt]; exact h1, h2.mono W.next fun b hb => W.old b (h2.blk b hb), h3⟩

theorem known_eq (h : Heap) : ∃ h', E tbl 13 [] h = some (.bool true, h') := by
  have S0 : Bs (.slice h.next 0 3 3 1 true) (h.alloc [.int .u8 1, .int .u8 2, .int .u8 3]) [1, 2, 3] := (Own.lit 1 h [.int .u8 1, .int .u8 2, .int .u8 3] 3 rfl true).src
  obtain ⟨r, h1, e1, Q1, W1, _, _⟩ := new_eq S0 (by simp)
  obtain ⟨s2, h2, e2, _, T2⟩ := rdInt_eq Q1
  have Q2 : R r h2 [1, 2, 3] true := T2.rd
  have S3 : Bs .nilSlice h2 [] := ⟨rfl, .inl ⟨rfl, rfl⟩⟩
  obtain ⟨s3, h3, e3, F3⟩ := text_eq S3 [97, 98] (by simp)
  have t3 := F3.own.src.text
  have Q3 := Q2.went F3.went
  have b3 := (bad_eq Q3).1
  have d3 := (done_eq Q3).1
  obtain ⟨s4, h4, e4, _, T4⟩ := rdByte_eq Q3
  have S5 : Bs .nilSlice h4 [] := ⟨rfl, .inl ⟨rfl, rfl⟩⟩
  obtain ⟨r5, h5, e5, Q5, _⟩ := new_eq S5 (by simp)
  have d5 := (done_eq Q5).1
  have f1 : aFill (reps [AVal.int .u8 0] 3) [(0, 1, .int .u8 1), (1, 1, .int .u8 2), (2, 1, .int .u8 3)] = some [.int .u8 1, .int .u8 2, .int .u8 3] := rfl
  have v2 : intV (takeF 8 [1, 2, 3] false).1 = 0 := by decide
  have v4 : byteV (takeF 1 [1, 2, 3] true).1 = 0 := by decide
  have p3 : ([] : List UInt8) ++ packText [97, 98] = [2, 97, 98] := by decide
  rw [v2] at e2
  rw [v4] at e4
  rw [p3] at t3
  have e4' : E tbl 22 [.ptr r 0] h3 = some (.int .i64 0, h4) := e4
  refine ⟨h5, ?_⟩
  rw [c13]
  simp [S13, f1, e1, e2, e3, t3, str_eql, b3, d3, e4', e5, d5]

/-- Two readers of the same. -/
structure Pair (r w : Nat) (h : Heap) (l : List UInt8) (bad : Bool) : Prop where
  qr : R r h l bad
  qw : R w h l bad
  ne : r ≠ w
  rw : ∀ s b, h.blk r = some ⟨[s, b], true⟩ → slBlk s ≠ some w
  wr : ∀ s b, h.blk w = some ⟨[s, b], true⟩ → slBlk s ≠ some r

theorem Pair.first {r w : Nat} {h h1 : Heap} {l : List UInt8} {bad : Bool} {s : AVal} {o : List UInt8 × List UInt8 × Bool} (Q : Pair r w h l bad) (T : Took r h s h1 o) : R w h1 l bad :=
  Q.qw.other (Nat.le_of_eq T.next.symm) r (fun b _ hb => T.old b hb) (fun e => Q.ne e.symm) fun s hs => Q.wr s _ hs

theorem Pair.step {r w : Nat} {h h1 h2 : Heap} {l : List UInt8} {bad : Bool} {s s' : AVal} {o : List UInt8 × List UInt8 × Bool} (Q : Pair r w h l bad) (T : Took r h s h1 o) (T' : Took w h1 s' h2 o) : Pair r w h2 o.2.1 o.2.2 where
  qr := T.rd.other (Nat.le_of_eq T'.next.symm) w (fun b _ hb => T'.old b hb) Q.ne fun s1 hs => by
    obtain ⟨_, s0, e0, _, _⟩ := Q.qr
    intro hb
    exact Q.rw s0 _ e0 (T.held s0 s1 _ _ e0 hs w hb)
  qw := T'.rd
  ne := Q.ne
  rw := fun s1 b1 hs hb => by
    obtain ⟨_, s0, e0, _, _⟩ := Q.qr
    rw [T'.old r Q.ne] at hs
    exact Q.rw s0 _ e0 (T.held s0 s1 _ _ e0 hs w hb)
  wr := fun s1 b1 hs hb => by
    obtain ⟨_, s0, e0, _, _⟩ := Q.qw
    have e1 : h1.blk w = some ⟨[s0, .bool bad], true⟩ := by rw [T.old w fun e => Q.ne e.symm]; exact e0
    exact Q.wr s0 _ e0 (T'.held s0 s1 _ _ e1 hs r hb)

theorem took_went {h0 h h' : Heap} {r : Nat} {s : AVal} {o : List UInt8 × List UInt8 × Bool} (W : Went h0 h) (hr : h0.next ≤ r) (T : Took r h s h' o) : Went h0 h' :=
  ⟨by rw [T.next]; exact W.next, fun i hi => by rw [T.old i (by omega)]; exact W.old i hi⟩

/-- Both take, either way. -/
theorem Pair.ops {h0 h : Heap} {r w : Nat} {l : List UInt8} {bad : Bool} (Q : Pair r w h l bad) (W : Went h0 h) (hr : h0.next ≤ r) (hw : h0.next ≤ w) :
    (∃ v h1 h2 l' bad', E tbl 10 [.ptr r 0] h = some (.int .i64 v, h1) ∧ E tbl 26 [.ptr w 0] h1 = some (.int .i64 v, h2) ∧ Pair r w h2 l' bad' ∧ Went h0 h2) ∧
    (∃ v h1 h2 l' bad', E tbl 22 [.ptr r 0] h = some (.int .i64 v, h1) ∧ E tbl 27 [.ptr w 0] h1 = some (.int .i64 v, h2) ∧ Pair r w h2 l' bad' ∧ Went h0 h2) ∧
    (∃ v h1 h2 l' bad', E tbl 21 [.ptr r 0] h = some (.str v, h1) ∧ E tbl 28 [.ptr w 0] h1 = some (.str v, h2) ∧ Pair r w h2 l' bad' ∧ Went h0 h2) := by
  refine ⟨?_, ?_, ?_⟩
  · obtain ⟨s, h1, e1, _, T⟩ := rdInt_eq Q.qr
    obtain ⟨s', h2, _, e2, T'⟩ := rdInt_eq (Q.first T)
    exact ⟨_, h1, h2, _, _, e1, e2, Q.step T T', took_went (took_went W hr T) hw T'⟩
  · obtain ⟨s, h1, e1, _, T⟩ := rdByte_eq Q.qr
    obtain ⟨s', h2, _, e2, T'⟩ := rdByte_eq (Q.first T)
    exact ⟨_, h1, h2, _, _, e1, e2, Q.step T T', took_went (took_went W hr T) hw T'⟩
  · obtain ⟨s, h1, e1, _, T⟩ := rdText_eq Q.qr
    obtain ⟨s', h2, _, e2, T'⟩ := rdText_eq (Q.first T)
    exact ⟨_, h1, h2, _, _, e1, e2, Q.step T T', took_went (took_went W hr T) hw T'⟩

theorem play_eq {a sk : AVal} {h0 : Heap} {l : List UInt8} {kinds : List Int} (S : Bs a h0 l) (hb : l.length ≤ 140737488355328) (I : Ints .i64 sk h0 kinds) (lt : ∀ b, slBlk sk = some b → b < h0.next) :
    ∃ H, E tbl 15 [a, sk] h0 = some (.bool true, H) ∧ Went h0 H := by
  obtain ⟨r, h1, e1, Q1, W1, hr, held⟩ := new_eq S hb
  have O := Own.lit 1 h1 [] 0 (by simp) true
  obtain ⟨s2, h2, e2, O2, K2⟩ := O.app (bytes := 1) (zero := [.int .u8 0]) ((W1.trans (Went.alloc h1 [])).src S) (by omega) (by simp) (by omega) (by omega)
  have W2 := K2.went (Went.alloc h1 []) fun b hb => by cases hb; exact Nat.le_refl _
  have O2' : Own 1 s2 h2 h1.next l.length (byteCells l) := by simpa using O2
  have F2 : Fresh h1 s2 h2 l := ⟨O2', W2⟩
  have W3 : Went h2 (h2.alloc [s2, .bool false]) := Went.alloc _ _
  have Qw : R h2.next (h2.alloc [s2, .bool false]) l false := ⟨by simp, s2, alloc_same _ _, F2.sub.mono W3.next fun b hb => W3.old b (F2.sub.blk b hb), fun hs => by have := F2.sub.blk _ hs; omega⟩
  have Qr := (Q1.went W2).went W3
  have rlt : r < h1.next := Q1.lt
  have h12 := W2.next
  have P : Pair r h2.next (h2.alloc [s2, .bool false]) l false := by
    refine ⟨Qr, Qw, by omega, ?_, ?_⟩
    · intro s b hs hh
      rw [W3.old r (by omega), W2.old r rlt] at hs
      have := (held s b hs _ hh).2
      omega
    · intro s b hs hh
      rw [alloc_same] at hs
      cases hs
      have := (F2.own.blk _ hh).1
      omega
  have W4 : Went h0 (h2.alloc [s2, .bool false]) := (W1.trans W2).trans W3
  have hw : h0.next ≤ h2.next := (W1.trans W2).next
  have ones : aCells 1 s2 = some [s2] := by
    obtain ⟨_, ⟨rfl, _⟩ | ⟨b, ex, rfl, _⟩⟩ := O2' <;> rfl
  have f0 : aFill (reps [AVal.int .u8 0] 0) [] = some [] := rfl
  have f1 : aFill [.nilSlice, .bool false] [(0, 1, s2)] = some [s2, .bool false] := by
    simp only [aFill, ones, Option.bind_some]
    rfl
  generalize hh3 : h2.alloc [s2, .bool false] = h3 at *
  generalize hwd : h2.next = w at *
  obtain ⟨rr, e3, H, l', bad', hrr, PH, WH⟩ := loop_ok (f := L15_0 (E tbl)) (fun n xs h => ∃ (i : Nat) (l : List UInt8) (bad : Bool), i + n = min kinds.length 40 ∧ Pair r w h l bad ∧ Went h0 h ∧ xs = [sk, .ptr r 0, .ptr w 0, .int .i64 i])
      (fun rr => ∃ (H : Heap) (l : List UInt8) (bad : Bool), rr = (1, [.ptr r 0, .ptr w 0], H) ∧ Pair r w H l bad ∧ Went h0 H) (by
    rintro n xs h ⟨i, l, bad, hi, P, W, rfl⟩
    have J := I.mono (h' := h) fun b hb => W.old b (lt b hb)
    by_cases q : i < min kinds.length 40
    · left
      have q1 : (i : Int) < kinds.length := by omega
      have q2 : (i : Int) < 40 := by omega
      obtain ⟨p, a1, a2⟩ := J.at i (by omega)
      generalize kinds.getD i 0 = x at a2
      have wi := within_eq x 0 2 (by omega) (by omega) (by omega) h
      have wr := within_in x 0 2 (by omega)
      obtain ⟨⟨v1, b1, d1, l1, bd1, x1, y1, P1, Z1⟩, ⟨v2, b2, d2, l2, bd2, x2, y2, P2, Z2⟩, ⟨v3, b3, d3, l3, bd3, x3, y3, P3, Z3⟩⟩ := P.ops W hr (by omega)
      have ws := wrap_succ i (by omega)
      generalize within x 0 2 = k at *
      have hk : k = 0 ∨ k = 1 ∨ k = 2 := by omega
      rcases hk with rfl | rfl | rfl
      · have bd := bad_eq P1.qr
        have bw := (bad_eq P1.qw).2
        have dn := (done_eq P1.qr).1
        have dw := (done_eq P1.qw).2
        refine ⟨_, d1, ?_, n - 1, by omega, i + 1, l1, bd1, by omega, P1, Z1, rfl⟩
        simp [L15_0, J.len, q1, q2, a1, a2, wi, x1, y1, bd.1, bw, dn, dw, checkPairs, ws, beq_dec]
      · have bd := bad_eq P2.qr
        have bw := (bad_eq P2.qw).2
        have dn := (done_eq P2.qr).1
        have dw := (done_eq P2.qw).2
        refine ⟨_, d2, ?_, n - 1, by omega, i + 1, l2, bd2, by omega, P2, Z2, rfl⟩
        simp [L15_0, J.len, q1, q2, a1, a2, wi, x2, y2, bd.1, bw, dn, dw, checkPairs, ws, beq_dec]
      · have bd := bad_eq P3.qr
        have bw := (bad_eq P3.qw).2
        have dn := (done_eq P3.qr).1
        have dw := (done_eq P3.qw).2
        refine ⟨_, d3, ?_, n - 1, by omega, i + 1, l3, bd3, by omega, P3, Z3, rfl⟩
        simp [L15_0, J.len, q1, q2, a1, a2, wi, x3, y3, str_neq, bd.1, bw, dn, dw, checkPairs, ws, beq_dec]
    · right
      refine ⟨0, _, h, ?_, h, l, bad, rfl, P, W⟩
      by_cases q1 : (i : Int) < kinds.length
      · have q2 : ¬ (i : Int) < 40 := by omega
        simp [L15_0, J.len, q1, q2]
      · simp [L15_0, J.len, q1]) (min kinds.length 40) _ h3 ⟨0, l, false, by omega, P, W4, rfl⟩
  subst hrr
  have bd := bad_eq PH.qr
  have bw := (bad_eq PH.qw).2
  have dn := (done_eq PH.qr).1
  have dw := (done_eq PH.qw).2
  refine ⟨H, ?_, WH⟩
  have z : ((0 : Nat) : Int) = 0 := rfl
  rw [z] at e3
  rw [c15]
  simp [S15, e1, f0, e2, f1, hwd, hh3, e3, bd.1, bw, dn, dw, checkPairs]

end Go.Proofs.Ytiilphbdddckdaa.Code
