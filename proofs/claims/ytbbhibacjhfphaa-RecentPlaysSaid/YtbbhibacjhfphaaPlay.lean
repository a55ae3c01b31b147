/- Chapter 13: plays, keys, what is known. -/
import Derived.Test.YtbbhibacjhfphaaRef
namespace Go.Proofs.Ytbbhibacjhfphaa.Code
set_option linter.unusedSimpArgs false
set_option linter.unusedVariables false
open Go.Fw

theorem key_loop (s : AVal) (l : List Int) (h : Heap) (p : Nat) (hp : h.next ≤ p) (hs0 : ∀ b, slBlk s = some b → b < p) :
    ∀ m xs H, (∃ (o : AVal) (ks : List KeyT), m + ks.length = 50 ∧ Fw.Tape p s l H ∧ OwnK o H (p + 1) ks ∧ Went h H ∧ xs = [s, .ptr p 0, o]) →
      ∃ r, loop (L8_0 (E tbl)) xs H = some r ∧ ∃ o ks H', r = (1, [o], H') ∧ OwnK o H' h.next ks ∧ ks.length ≤ 50 ∧ Went h H' := by
  refine loop_ok _ _ ?_
  rintro m xs H ⟨o, ks, hm, T, O, W, rfl⟩
  obtain ⟨at_, hat, hb⟩ := T.pos
  have r1 : H.rd p 1 1 = some [.int .i64 at_] := rd_of hb 1 1 (by simp)
  have ln := O.src.len
  by_cases h1 : ks.length < 50
  · have i1 : ((ks.length : Int) < 50) := by omega
    by_cases h2 : at_ < l.length
    · left
      have i2 : ((at_ : Int) < (l.length : Int)) := by omega
      obtain ⟨a, i, H1, e1, _, _, T1, O1, n1⟩ := key_ok T
      have Oa : OwnK o H1 (p + 1) ks := O.kept (by omega) fun b hb => O1.old b (O.blk b hb).2 (by have := (O.blk b hb).1; omega)
      have hlt := T1.lt
      obtain ⟨o', H2, e2, O2, K2⟩ := Oa.snocK (bytes := 32) (zero := [.str [], .str []]) (a, i) (by omega) (by omega) (by omega)
      have W1 : Went h H1 := ⟨by have := W.next; omega, fun b hb => by rw [O1.old b (by have := W.next; omega) (by omega)]; exact W.old b hb⟩
      have W2 : Went h H2 := K2.went W1 fun b hb => by have := (Oa.blk b hb).1; omega
      have T2 : Fw.Tape p s l H2 := by
        have hk := K2.next
        have hno : ∀ b, b ≤ p → slBlk o ≠ some b := fun b hb hs => by have := (Oa.blk b hs).1; omega
        have hs : ∀ b, slBlk s = some b → b < H1.next := fun b hb => (T1.ne b hb).1
        refine ⟨by omega, ?_, ?_, fun b hb => ⟨by have := (T1.ne b hb).1; omega, (T1.ne b hb).2⟩, T1.sz⟩
        · obtain ⟨n, hn, hb⟩ := T1.pos
          exact ⟨n, hn, by rw [K2.old p hlt (hno p (Nat.le_refl _)), hb]⟩
        · refine T1.ints.mono fun b hb => K2.old b (hs b hb) ?_
          intro hob
          have h3 := (O.blk b hob).1
          have := hs0 b hb
          omega
      refine ⟨_, _, ?_, m - 1, by omega, o', ks ++ [(a, i)], by simp; omega, T2, O2, W2, rfl⟩
      simp [L8_0, ln, i1, r1, T.ints.len, i2, e1, e2]
    · right
      have i2 : ¬ ((at_ : Int) < (l.length : Int)) := by omega
      exact ⟨0, [o], H, by simp [L8_0, ln, i1, r1, T.ints.len, i2], o, ks, H, rfl, O.base (by omega), by omega, W⟩
  · right
    have i1 : ¬ ((ks.length : Int) < 50) := by omega
    exact ⟨0, [o], H, by simp [L8_0, ln, i1], o, ks, H, rfl, O.base (by omega), by omega, W⟩

theorem keys_eq {s : AVal} {l : List Int} {h : Heap} (I : Ints .i64 s h l) (lt : ∀ b, slBlk s = some b → b < h.next) (sz : l.length < 4611686018427387904) :
    ∃ o ks h', E tbl 8 [s] h = some (o, h') ∧ OwnK o h' h.next ks ∧ ks.length ≤ 50 ∧ Went h h' := by
  have T := Tape.make I lt sz
  obtain ⟨_, e, o, ks, H, rfl, O, hk, W⟩ := key_loop s l h h.next (Nat.le_refl _) lt 50 _ (h.alloc [s, .int .i64 0]) ⟨.nilSlice, [], rfl, T, Own.nil _ _ _, Went.alloc _ _, rfl⟩
  refine ⟨o, ks, H, ?_, O, hk, W⟩
  rw [c8]
  simp [S8, I.cell, e, beq_dec]

theorem last16_snoc (l : List KeyT) (k : KeyT) : last16 (last16 l ++ [k]) = last16 (l ++ [k]) := by
  unfold last16
  have e : l.drop (l.length - 16) ++ [k] = (l ++ [k]).drop (l.length - 16) := by
    rw [List.drop_append_of_le_length (by omega)]
  rw [e, List.drop_drop]
  congr 1
  simp only [List.length_drop, List.length_append, List.length_singleton]
  omega
theorem last16_len (l : List KeyT) : (last16 l).length = min 16 l.length := by
  unfold last16
  rw [List.length_drop]
  omega

theorem row_new (h : Heap) : E tbl 11 [] h = some (.ptr h.next 0, h.alloc [.int .i64 0, .nilSlice]) ∧ RowAt h.next .nilSlice (h.alloc [.int .i64 0, .nilSlice]) 0 [] := by
  refine ⟨?_, ⟨by simp, by simp, Own.nil _ _ _, fun b hb => by cases hb⟩⟩
  rw [c11]
  simp [S11]

theorem Rowed.went {h H H' : Heap} {pr : Nat} {sl : AVal} (F : Rowed pr sl H H') (W : Went h H) (hp : h.next ≤ pr) (hs : ∀ b, slBlk sl = some b → h.next ≤ b) : Went h H' :=
  ⟨Nat.le_trans W.next F.next, fun i hi => by
    rw [F.old i (by have := W.next; omega) (by omega) (fun e => by have := hs i e; omega)]
    exact W.old i hi⟩

theorem known_eq (h : Heap) : ∃ h', E tbl 9 [] h = some (.bool true, h') ∧ Went h h' := by
  obtain ⟨e0, R0⟩ := row_new h
  have W0 := Went.alloc h [.int .i64 0, .nilSlice]
  generalize h.alloc [.int .i64 0, .nilSlice] = H0 at e0 R0 W0
  obtain ⟨s1, H1, e1, R1, F1, n1⟩ := add_eq R0 (by simp) (by omega) ([97], [])
  obtain ⟨s2, H2, e2, R2, F2, n2⟩ := add_eq R1 (by decide) (by omega) ([98], [])
  obtain ⟨s3, H3, e3, R3, F3, n3⟩ := add_eq R2 (by decide) (by omega) ([97], [])
  have R3' : RowAt h.next s3 H3 3 [([97], []), ([98], []), ([97], [])] := R3
  obtain ⟨o4, H4, e4, O4, W4⟩ := since_eq R3' (by omega) (by decide) 0 (by omega)
  obtain ⟨o5, H5, e5, O5, W5⟩ := since_eq (R3'.went W4) (by omega) (by decide) 3 (by omega)
  obtain ⟨o6, H6, e6, O6, W6⟩ := since_eq (R3'.went (W4.trans W5)) (by omega) (by decide) 4 (by omega)
  have q7 := seq_eq (R3'.went ((W4.trans W5).trans W6))
  have O4' : OwnK o4 H4 H3.next [([98], []), ([97], [])] := O4
  have O5' : OwnK o5 H5 H4.next [] := O5
  have S4 := (W5.trans W6).src O4'.src
  have S5 := W6.src O5'.src
  obtain ⟨p1, a1, b1⟩ := S4.key 0 (by decide)
  obtain ⟨p2, a2, b2⟩ := S4.key 1 (by decide)
  have l4 := S4.len
  have l5 := S5.len
  have t1 : sinceN 3 0 = true := by decide
  have t2 : sinceN 3 3 = true := by decide
  have t3 : sinceN 3 4 = false := by decide
  refine ⟨H6, ?_, ?_⟩
  · rw [c9]
    simp only [List.length_cons, List.length_nil, Nat.zero_add, Nat.reduceAdd, Int.cast_ofNat_Int, List.getElem_cons_zero, List.getElem_cons_succ, t1, t2, t3] at *
    simp [S9, e0, e1, e2, e3, e4, e5, e6, q7, l4, l5, a1, b1, a2, b2, checkPairs]
  · have V1 := F1.went W0 (Nat.le_refl _) fun b hb => by cases hb
    have V2 := F2.went V1 (Nat.le_refl _) fun b hb => by have := n1 b hb; have := W0.next; omega
    have V3 := F3.went V2 (Nat.le_refl _) fun b hb => by have := n2 b hb; have := V1.next; omega
    exact ((V3.trans W4).trans W5).trans W6

/-- Both rows behind some keys. -/
structure Both (h0 : Heap) (pr pw : Nat) (sl sw : AVal) (H : Heap) (W : List KeyT) : Prop where
  row : RowAt pr sl H W.length (last16 W)
  all : AllAt pw sw H W
  went : Went h0 H
  pr0 : h0.next ≤ pr
  pw0 : h0.next ≤ pw
  ne : pr ≠ pw
  sl0 : ∀ b, slBlk sl = some b → h0.next ≤ b ∧ b ≠ pw
  sw0 : ∀ b, slBlk sw = some b → h0.next ≤ b ∧ b ≠ pr ∧ slBlk sl ≠ some b

theorem Both.more {h0 : Heap} {pr pw : Nat} {sl sw : AVal} {H H' : Heap} {W : List KeyT} (B : Both h0 pr pw sl sw H W) (K : Went H H') : Both h0 pr pw sl sw H' W :=
  ⟨B.row.went K, B.all.went K, B.went.trans K, B.pr0, B.pw0, B.ne, B.sl0, B.sw0⟩

theorem Both.add {h0 : Heap} {pr pw : Nat} {sl sw : AVal} {H : Heap} {W : List KeyT} (B : Both h0 pr pw sl sw H W) (hW : W.length ≤ 100) (k : KeyT) :
    ∃ sl' sw' H1 H2, E tbl 12 [.ptr pr 0, .agg [.str k.1, .str k.2]] H = some (.int .i64 ((W.length : Int) + 1), H1) ∧ Went h0 H1 ∧ E tbl 15 [.ptr pw 0, .agg [.str k.1, .str k.2]] H1 = some (.int .i64 ((W.length : Int) + 1), H2) ∧ Both h0 pr pw sl' sw' H2 (W ++ [k]) := by
  obtain ⟨R, A, V, p0, q0, ne, s0, t0⟩ := B
  obtain ⟨sl', H1, e1, R1, F1, n1⟩ := add_eq R (by rw [last16_len]; omega) (by omega) k
  have V1 := F1.went V p0 fun b hb => (s0 b hb).1
  have hn1 := F1.next
  have A1 : AllAt pw sw H1 W := ⟨by have := A.lt; omega, by rw [F1.old pw A.lt (fun e => ne e.symm) (fun e => (s0 pw e).2 rfl)]; exact A.blk, A.own.kept hn1 fun b hb => F1.old b (A.own.blk b hb).2 (t0 b hb).2.1 (t0 b hb).2.2, A.ne⟩
  obtain ⟨sw', H2, e2, A2, F2, n2⟩ := radd_eq A1 hW k
  have hv := V.next
  have slpw : ∀ b, slBlk sl' = some b → b ≠ pw := fun b hb => by have := n1 b hb; have := A.lt; omega
  refine ⟨sl', sw', H1, H2, e1, V1, e2, ⟨?_, A2, ⟨by have := V1.next; have := F2.next; omega, fun i hi => by rw [F2.old i (by have := V1.next; omega) (by omega)]; exact V1.old i hi⟩, p0, q0, ne, fun b hb => ⟨by have := n1 b hb; omega, slpw b hb⟩, fun b hb => ⟨by have := n2 b hb; omega, by have := n2 b hb; have := R1.lt; omega, fun e => by have := (R1.own.blk b e).2; have := n2 b hb; omega⟩⟩⟩
  rw [last16_snoc] at R1
  refine ⟨by have := R1.lt; have := F2.next; omega, by rw [F2.old pr R1.lt ne, R1.blk]; simp, R1.own.kept F2.next fun b hb => F2.old b (R1.own.blk b hb).2 (slpw b hb), R1.ne⟩

theorem Both.since {h0 : Heap} {pr pw : Nat} {sl sw : AVal} {H : Heap} {W : List KeyT} (B : Both h0 pr pw sl sw H W) (hW : W.length ≤ 100) (n : Int) (hn : -9223372036854775808 ≤ n ∧ n ≤ 9223372036854775807) :
    ∃ o u b H1 H2, E tbl 13 [.ptr pr 0, .int .i64 n] H = some (.tuple [o, .bool b], H1) ∧ Went H H1 ∧ E tbl 16 [.ptr pw 0, .int .i64 n] H1 = some (.tuple [u, .bool b], H2) ∧ Went H1 H2 ∧ E tbl 17 [o, u] H2 = some (.bool true, H2) := by
  obtain ⟨o, H1, e1, O1, W1⟩ := since_eq B.row (by omega) (by rw [last16_len]; omega) n hn
  obtain ⟨u, H2, e2, O2, W2⟩ := rsince_eq (B.all.went W1) hW n hn
  refine ⟨o, u, _, H1, H2, e1, W1, e2, W2, ?_⟩
  by_cases hs : sinceN W.length n = true
  · rw [if_pos hs] at O1 O2
    have e : (last16 W).drop (((last16 W).length : Int) - ((W.length : Int) - n)).toNat = W.drop n.toNat := by
      have h3 : 0 ≤ n ∧ n ≤ W.length ∧ (W.length : Int) - n ≤ 16 := by
        simp only [sinceN, Bool.not_eq_true', Bool.or_eq_false_iff, decide_eq_false_iff_not] at hs
        omega
      rw [last16_len]
      unfold last16
      rw [List.drop_drop]
      congr 1
      omega
    rw [e] at O1
    exact keys_same (W2.src O1.src) O2.src (by have := lasts_len (W.drop n.toNat); have : (W.drop n.toNat).length ≤ W.length := by simp
                                               omega)
  · rw [if_neg hs] at O1 O2
    exact keys_same (W2.src O1.src) O2.src (by simp)

theorem inner_play {h0 : Heap} {pr pw : Nat} {sl sw : AVal} {H : Heap} {W : List KeyT} (B : Both h0 pr pw sl sw H W) (hW : W.length ≤ 100) {u : AVal} {r : List Int} (I : Ints .i64 u H r) (lt : ∀ b, slBlk u = some b → b < H.next) (wf : ∀ x ∈ r, (Lit.int .i64 x).wf = true) (x y : AVal) :
    ∃ H', loop (L7_1 (E tbl)) [x, u, .ptr pr 0, .ptr pw 0, y, .int .i64 0] H = some (1, [x, u, .ptr pr 0, .ptr pw 0, y], H') ∧ Went H H' := by
  have key : ∃ res, loop (L7_1 (E tbl)) [x, u, .ptr pr 0, .ptr pw 0, y, .int .i64 0] H = some res ∧ ∃ H', res = (1, [x, u, .ptr pr 0, .ptr pw 0, y], H') ∧ Went H H' := by
    refine loop_ok (fun m xs G => ∃ k : Nat, m + k = 12 ∧ Went H G ∧ xs = [x, u, .ptr pr 0, .ptr pw 0, y, .int .i64 k]) _ ?_ 12 _ H ⟨0, rfl, Went.refl H, rfl⟩
    rintro m xs G ⟨k, hk, V, rfl⟩
    have I' : Ints .i64 u G r := I.mono fun b hb => V.old b (lt b hb)
    by_cases h1 : k < r.length
    · have i1 : ((k : Int) < (r.length : Int)) := by omega
      by_cases h2 : k < 12
      · have i2 : ((k : Int) < 12) := by omega
        left
        obtain ⟨p, q1, q2⟩ := I'.at k h1
        have hmem : r.getD k 0 ∈ r := by
          rw [List.getD_eq_getElem?_getD, List.getElem?_eq_getElem h1]
          exact List.getElem_mem h1
        have hx := Go.Fw.wf64 (wf _ hmem)
        generalize r.getD k 0 = v at q2 hx
        obtain ⟨o, w, b, H1, H2, e1, V1, e2, V2, e3⟩ := (B.more V).since hW v hx
        have q3 : aLoad H1 1 p = some [.int .i64 v] := by
          have I1 : Ints .i64 u H1 r := I'.mono fun b hb => V1.old b (by have := lt b hb; have := V.next; omega)
          obtain ⟨p', a1, a2⟩ := I'.at k h1
          obtain ⟨p2, a3, a4⟩ := I1.at k h1
          rw [a1] at q1 a3
          cases q1
          cases a3
          rw [a2] at q2
          rw [a4, ← q2]
        have w1 : IntKind.i64.wrap ((k : Int) + 1) = ((k + 1 : Nat) : Int) := wrap_succ _ (by omega)
        refine ⟨_, _, ?_, m - 1, by omega, k + 1, by omega, (V.trans V1).trans V2, rfl⟩
        cases b <;> simp only [L7_1, List.getD_cons_succ, List.getD_cons_zero, I'.len, bin_lss, Option.bind_some, i1, i2, decide_true, guard_bool, show (true == true) = true from rfl, cond_true, cond_bool, pick_bool, q1, q2, from_one, e1, ext_0, ext_1, q3, e2, bin_bool_neq, show (false == false) = true from rfl, Bool.not_true, e3, un_not, cond_false, bin_add, w1]
      · right
        have i2 : ¬ ((k : Int) < 12) := by omega
        exact ⟨0, _, G, by simp [L7_1, I'.len, i1, i2], G, rfl, V⟩
    · right
      have i1 : ¬ ((k : Int) < (r.length : Int)) := by omega
      exact ⟨0, _, G, by simp [L7_1, I'.len, i1], G, rfl, V⟩
  obtain ⟨_, e, H', rfl, V⟩ := key
  exact ⟨H', e, V⟩

theorem play_eq {s u : AVal} {h : Heap} {ks : List KeyT} {r : List Int} (S : SrcK s h ks) (I : Ints .i64 u h r) (lt : ∀ b, slBlk u = some b → b < h.next) (wf : ∀ x ∈ r, (Lit.int .i64 x).wf = true) :
    ∃ h', E tbl 7 [s, u] h = some (.bool true, h') ∧ Went h h' := by
  obtain ⟨e0, R0⟩ := row_new h
  have W0 := Went.alloc h [.int .i64 0, .nilSlice]
  have n0 : (h.alloc [.int .i64 0, .nilSlice]).next = h.next + 1 := rfl
  generalize h.alloc [.int .i64 0, .nilSlice] = H0 at e0 R0 W0 n0
  have W1 := Went.alloc H0 [.nilSlice]
  have B0 : Both h h.next H0.next .nilSlice .nilSlice (H0.alloc [.nilSlice]) [] :=
    ⟨R0.went W1, ⟨by simp, by simp, Own.nil _ _ _, fun b hb => by cases hb⟩, W0.trans W1, Nat.le_refl _, by omega, by omega, (fun b hb => by cases hb), (fun b hb => by cases hb)⟩
  have key : ∃ res, loop (L7_0 (E tbl)) [s, u, .ptr h.next 0, .ptr H0.next 0, .int .i64 0] (H0.alloc [.nilSlice]) = some res ∧ ∃ H', res = (1, [.ptr h.next 0], H') ∧ Went h H' := by
    refine loop_ok (fun m xs G => ∃ (k : Nat) (sl sw : AVal), m + k = 60 ∧ k ≤ ks.length ∧ Both h h.next H0.next sl sw G (ks.take k) ∧ xs = [s, u, .ptr h.next 0, .ptr H0.next 0, .int .i64 k]) _ ?_ 60 _ _ ⟨0, .nilSlice, .nilSlice, rfl, by omega, B0, rfl⟩
    rintro m xs G ⟨k, sl, sw, hk, hkl, B, rfl⟩
    have S' : SrcK s G ks := B.went.src S
    by_cases h1 : k < ks.length
    · have i1 : ((k : Int) < (ks.length : Int)) := by omega
      by_cases h2 : k < 60
      · have i2 : ((k : Int) < 60) := by omega
        left
        have hlen : (ks.take k).length = k := by rw [List.length_take]; omega
        obtain ⟨p, q1, q2⟩ := S'.key k h1
        obtain ⟨sl', sw', H1, H2, e1, V1, e2, B2⟩ := B.add (by omega) ks[k]
        rw [hlen] at e1 e2
        have q3 : aLoad H1 2 p = some [.str ks[k].1, .str ks[k].2] := by
          obtain ⟨p', a1, a2⟩ := (V1.src S).key k h1
          rw [a1] at q1
          cases q1
          exact a2
        have tk : ks.take k ++ [ks[k]] = ks.take (k + 1) := by
          rw [List.take_add_one, List.getElem?_eq_getElem h1]; rfl
        rw [tk] at B2
        have hlen2 : (ks.take (k + 1)).length = k + 1 := by rw [List.length_take]; omega
        have e3 := seq_eq B2.row
        have r1 : H2.rd H0.next 0 1 = some [sw'] := rd_of B2.all.blk 0 1 (by simp)
        have l1 := B2.all.own.src.len
        rw [hlen2] at e3 l1
        have I2 : Ints .i64 u H2 r := I.mono fun b hb => B2.went.old b (lt b hb)
        obtain ⟨H3, e4, V3⟩ := inner_play B2 (by omega) I2 (fun b hb => by have := lt b hb; have := B2.went.next; omega) wf s (.int .i64 k)
        have w1 : IntKind.i64.wrap ((k : Int) + 1) = ((k + 1 : Nat) : Int) := wrap_succ _ (by omega)
        refine ⟨_, _, ?_, m - 1, by omega, k + 1, sl', sw', by omega, by omega, B2.more V3, rfl⟩
        obtain ⟨pb, po, rfl⟩ : ∃ b o, p = .ptr b o := by
          cases p <;> simp [aLoad] at q2
          exact ⟨_, _, rfl⟩
        rw [load_ptr] at q2 q3
        have ck : checkPairs [(13, logRd (.ptr pb po) 2), (8, some (.ef [] G [] H1))] [(13, 8)] = true := by
          simp [checkPairs, q2, q3]
        have ck2 : checkPairs [(23, logRd (.ptr H0.next 0) 1), (19, some (.ef [] H2 [] H2))] [(23, 19)] = true := by
          simp [checkPairs, r1]
        simp only [L7_0, List.getD_cons_succ, List.getD_cons_zero, S'.len, bin_lss, Option.bind_some, i1, i2, decide_true, guard_bool, show (true == true) = true from rfl, show (false == true) = false from rfl, show (false == false) = true from rfl, cond_true, cond_false, cond_bool, pick_bool, bin_ptr_nil, q1, load_ptr, q2, q3, from_agg, e1, e2, bin_neq, bne_self_eq_false, ck, e3, nilchk_ptr, faddr_ptr, Nat.add_zero, r1, from_one, l1, ck2, e4, show Nat.beq 1 1 = true from rfl, bin_add, w1]
      · right
        have i2 : ¬ ((k : Int) < 60) := by omega
        exact ⟨0, _, G, by simp [L7_0, S'.len, i1, i2], G, rfl, B.went⟩
    · right
      have i1 : ¬ ((k : Int) < (ks.length : Int)) := by omega
      exact ⟨0, _, G, by simp [L7_0, S'.len, i1], G, rfl, B.went⟩
  obtain ⟨_, e, H', rfl, V⟩ := key
  refine ⟨H', ?_, V⟩
  rw [c7]
  simp [S7, e0, e, beq_dec]
end Go.Proofs.Ytbbhibacjhfphaa.Code
