/- Chapter 8: both nets side by side. -/
import Derived.Test.YtfdhljghamkgjaaRef
namespace Go.Proofs.Ytfdhljghamkgjaa.Code
set_option linter.unusedSimpArgs false
set_option linter.unusedVariables false
open Go.Fw

def toR (x : Lt) : Rl := ⟨x.f, x.t, x.b⟩

structure Two (h0 : Heap) (p q : Nat) (sl sw : AVal) (H : Heap) (nodes : Int) (l : List Lt) (ap : Nat → Nat → Bool) : Prop where
  net : NetAt h0 p sl H nodes l ap
  ref : RefAt h0 q sw H nodes (l.map toR) ap
  ne : p ≠ q
  a1 : ∀ c, slBlk sl = some c → c ≠ q
  a2 : ∀ c, slBlk sw = some c → c ≠ p ∧ slBlk sl ≠ some c
  a3 : ∀ x ∈ l, ∀ c, slBlk x.s = some c → c ≠ q
  few : l.length ≤ 64

theorem Two.more {h0 : Heap} {p q : Nat} {sl sw : AVal} {H H' : Heap} {nodes : Int} {l : List Lt} {ap : Nat → Nat → Bool} (T : Two h0 p q sl sw H nodes l ap) (W : Went H H') : Two h0 p q sl sw H' nodes l ap :=
  ⟨T.net.more W, T.ref.more W, T.ne, T.a1, T.a2, T.a3, T.few⟩

theorem NetAt.only {h0 : Heap} {p q : Nat} {sl : AVal} {H H' : Heap} {nodes : Int} {l : List Lt} {ap : Nat → Nat → Bool} (N : NetAt h0 p sl H nodes l ap) (O : Only q H H') (hq : h0.next ≤ q) (ne : p ≠ q) (a1 : ∀ c, slBlk sl = some c → c ≠ q) (a3 : ∀ x ∈ l, ∀ c, slBlk x.s = some c → c ≠ q) : NetAt h0 p sl H' nodes l ap :=
  ⟨N.n, Nat.lt_of_lt_of_le N.lt O.next, N.p0, ⟨Nat.le_trans N.went.next O.next, fun i hi => by rw [O.old i (by have := N.went.next; omega) (by omega)]; exact N.went.old i hi⟩, by rw [O.old _ N.lt ne]; exact N.blk, N.buf.kept O.next fun b hb => O.old b (N.buf.blk b hb).2 (a1 b hb), N.ne, fun x hx => ⟨(N.own x hx).1.kept O.next fun c hc => O.old c ((N.own x hx).1.blk c hc) (a3 x hx c hc), (N.own x hx).2⟩⟩

/-- The program's net went on; then the document's. -/
theorem Two.step {h0 : Heap} {p q : Nat} {sl sw : AVal} {H : Heap} {nodes : Int} {l : List Lt} {ap : Nat → Nat → Bool} (T : Two h0 p q sl sw H nodes l ap)
    {sl' : AVal} {H1 : Heap} {l' : List Lt} {ap' : Nat → Nat → Bool} (N : NetAt h0 p sl' H1 nodes l' ap') (F : Fr p sl H H1) (hsl : ∀ c, slBlk sl' = some c → slBlk sl = some c ∨ H.next ≤ c) (hl : ∀ x ∈ l', x ∈ l ∨ ∀ c, slBlk x.s = some c → H.next ≤ c) (few : l'.length ≤ 64) :
    RefAt h0 q sw H1 nodes (l.map toR) ap ∧ ∀ {sw' : AVal} {H2 : Heap}, RefAt h0 q sw' H2 nodes (l'.map toR) ap' → Only q H1 H2 → (∀ c, slBlk sw' = some c → slBlk sw = some c ∨ H1.next ≤ c) → Two h0 p q sl' sw' H2 nodes l' ap' := by
  obtain ⟨n0, r0, ne, a1, a2, a3, _⟩ := T
  have b1 : ∀ c, slBlk sl' = some c → c ≠ q := fun c hc => by
    rcases hsl c hc with h | h
    · exact a1 c h
    · have := r0.lt; omega
  have b3 : ∀ x ∈ l', ∀ c, slBlk x.s = some c → c ≠ q := fun x hx c hc => by
    rcases hl x hx with h | h
    · exact a3 x h c hc
    · have := h c hc; have := r0.lt; omega
  refine ⟨r0.fr F.next (F.old q r0.lt (Ne.symm ne) fun e => a1 q e rfl) (fun b hb => F.old b (r0.buf.blk b hb).2 (a2 b hb).1 (a2 b hb).2) N.went, fun R O hsw => ⟨N.only O r0.p0 ne b1 b3, R, ne, b1, fun c hc => ?_, b3, few⟩⟩
  rcases hsw c hc with h | h
  · refine ⟨(a2 c h).1, fun e => ?_⟩
    rcases hsl c e with h2 | h2
    · exact (a2 c h).2 h2
    · have := (r0.buf.blk c h).2; omega
  · exact ⟨by have := N.lt; omega, fun e => by have := (N.buf.blk c e).2; omega⟩

theorem src_letter {sl : AVal} {H : Heap} {l : List Lt} (S : Src 3 sl H l.length (lcells l)) (i : Nat) (hi : i < l.length) : ∃ q o, aIaddr 3 sl (.int .i64 i) = some (.ptr q o) ∧ H.rd q o 3 = some [.int .i64 l[i].f, .int .i64 l[i].t, l[i].s] ∧ H.rd q o 1 = some [.int .i64 l[i].f] ∧ H.rd q (o + 1) 1 = some [.int .i64 l[i].t] ∧ H.rd q (o + 2) 1 = some [l[i].s] := by
  obtain ⟨q0, e1, e2⟩ := S.at i hi
  rw [lcells_drop, List.drop_eq_getElem_cons hi] at e2
  obtain ⟨q, o, rfl⟩ : ∃ q o, q0 = .ptr q o := by
    cases q0 <;> simp [aLoad] at e2
    exact ⟨_, _, rfl⟩
  have e3 : H.rd q o 3 = some [.int .i64 l[i].f, .int .i64 l[i].t, l[i].s] := e2
  obtain ⟨x, hx, hlx, hcs⟩ := rd_inv e3
  refine ⟨q, o, e1, e3, ?_, ?_, ?_⟩
  · rw [rd_of hx _ _ (by omega)]
    have : (x.cells.drop o).take 1 = ((x.cells.drop o).take 3).take 1 := by rw [List.take_take]; rfl
    rw [this, ← hcs]; rfl
  · rw [rd_of hx _ _ (by omega)]
    have : (x.cells.drop (o + 1)).take 1 = (((x.cells.drop o).take 3).drop 1).take 1 := by
      rw [List.drop_take, List.drop_drop, List.take_take]; rfl
    rw [this, ← hcs]; rfl
  · rw [rd_of hx _ _ (by omega)]
    have : (x.cells.drop (o + 2)).take 1 = (((x.cells.drop o).take 3).drop 2).take 1 := by
      rw [List.drop_take, List.drop_drop, List.take_take]; rfl
    rw [this, ← hcs]; rfl

def Short (l : List Lt) : Prop := ∀ x ∈ l, x.b.length ≤ 140737488355328

theorem all_eq {h0 : Heap} {p : Nat} {sl : AVal} {H : Heap} {nodes : Int} {l : List Lt} {ap : Nat → Nat → Bool} (N : NetAt h0 p sl H nodes l ap) (hl : l.length ≤ 64) (hs : Short l) :
    ∃ o H' ol, E tbl 33 [.ptr p 0] H = some (o, H') ∧ Src 3 o H' ol.length (lcells ol) ∧ ol.map toR = l.map toR ∧ (∀ x ∈ ol, Src 1 x.s H' x.b.length (byteCells x.b)) ∧ Went H H' := by
  have r1 := N.rd1
  have ln := N.buf.src.len
  have key : ∃ res, loop (L33_0 (E tbl)) [.nilSlice, sl, .int .i64 l.length, .int .i64 0] H = some res ∧ ∃ o H' ol, res = (1, [o], H') ∧ Own 3 o H' H.next ol.length (lcells ol) ∧ ol.map toR = l.map toR ∧ (∀ x ∈ ol, Src 1 x.s H' x.b.length (byteCells x.b)) ∧ Went H H' := by
    refine loop_ok (fun m xs G => ∃ (i : Nat) (o : AVal) (ol : List Lt), m + i = l.length ∧ Own 3 o G H.next ol.length (lcells ol) ∧ ol.map toR = (l.take i).map toR ∧ (∀ x ∈ ol, Src 1 x.s G x.b.length (byteCells x.b) ∧ ∀ c, slBlk x.s = some c → slBlk o ≠ some c) ∧ Went H G ∧ xs = [o, sl, .int .i64 l.length, .int .i64 i]) _ ?_ l.length _ _ ⟨0, .nilSlice, [], by omega, Own.nil _ _ _, rfl, (fun x hx => by cases hx), Went.refl H, rfl⟩
    rintro m xs G ⟨i, o, ol, hm, O, he, hx, W, rfl⟩
    have hol : ol.length = (l.take i).length := by have := congrArg List.length he; simpa using this
    by_cases h1 : i < l.length
    · left
      have i1 : ((i : Int) < (l.length : Int)) := by omega
      have NG := N.more W
      obtain ⟨q, off, q1, q2, _⟩ := src_letter NG.buf.src i h1
      obtain ⟨s', G1, e1, O1, W1⟩ := own_eq (f := l[i].f) (t := l[i].t) (NG.own l[i] (List.getElem_mem h1)).1 (hs _ (List.getElem_mem h1))
      have OG1 := W1.own O
      have hw := W.next
      have hw1 := W1.next
      rw [List.length_take] at hol
      obtain ⟨o', G2, e2, O2, K2⟩ := OG1.snoc (bytes := 40) (zero := [.int .i64 0, .int .i64 0, .nilSlice]) (news := [.int .i64 l[i].f, .int .i64 l[i].t, s']) (by omega) rfl (by omega) (by omega) (by omega)
      have hk := K2.next
      have w1 : IntKind.i64.wrap ((i : Int) + 1) = ((i + 1 : Nat) : Int) := wrap_succ _ (by omega)
      refine ⟨_, G2, ?_, m - 1, by omega, i + 1, o', ol ++ [⟨l[i].f, l[i].t, s', l[i].b⟩], by omega, ?_, ?_, ?_, (K2.went (W.trans W1) fun c hc => (OG1.blk c hc).1), rfl⟩
      · have cs := (NG.own l[i] (List.getElem_mem h1)).1.cell
        simp [L33_0, i1, q1, q2, e1, e2, w1, O1.cell, cs]
      · rw [lcells_app, List.length_append]; exact O2
      · rw [List.map_append, he, List.map_take, List.map_take, List.take_add_one, List.getElem?_eq_getElem (by simpa using h1)]
        simp [toR]
      · intro x hxx
        rcases List.mem_append.1 hxx with hxx | hxx
        · obtain ⟨S1, S2⟩ := hx x hxx
          refine ⟨S1.kept (by omega) fun c hc => by rw [K2.old c (by have := S1.blk c hc; omega) (S2 c hc), W1.old c (S1.blk c hc)], fun c hc e => ?_⟩
          rcases K2.blk c e with h | h
          · exact S2 c hc h
          · have := S1.blk c hc; omega
        · rw [List.mem_singleton.1 hxx]
          have hb := O1.blk
          have ho : ∀ c, slBlk s' = some c → slBlk o ≠ some c := fun c hc e => by have := (O.blk c e).2; have := (hb c hc).1; omega
          refine ⟨O1.src.kept hk fun c hc => K2.old c (hb c hc).2 (ho c hc), fun c hc e => ?_⟩
          rcases K2.blk c e with h | h
          · exact ho c hc h
          · have := (hb c hc).2; omega
    · right
      have i1 : ¬ ((i : Int) < (l.length : Int)) := by omega
      rw [List.take_of_length_le (by omega)] at he
      exact ⟨0, _, G, by simp [L33_0, i1], o, G, ol, rfl, O, he, fun x hxx => (hx x hxx).1, W⟩
  obtain ⟨_, e, o, H', ol, rfl, O, he, hx, W⟩ := key
  refine ⟨o, H', ol, ?_, O.src, he, hx, W⟩
  rw [c33]
  simp [S33, r1, ln, e, beq_dec]

theorem same_eq {h0 : Heap} {p q : Nat} {sl sw : AVal} {H : Heap} {nodes : Int} {l : List Lt} {ap : Nat → Nat → Bool} (T : Two h0 p q sl sw H nodes l ap) (hs : Short l) :
    ∃ H', E tbl 28 [.ptr p 0, .ptr q 0] H = some (.bool true, H') ∧ Went H H' := by
  obtain ⟨o, H1, ol, e1, So, he, hx, W1⟩ := all_eq T.net T.few hs
  have T1 := T.more W1
  have hol : ol.length = l.length := by have := congrArg List.length he; simpa using this
  have e2 := len_eq T1.net
  have r1 := T1.ref.rd1
  have ln := T1.ref.buf.src.len
  rw [List.length_map] at ln
  have lo := So.len
  rw [hol] at lo
  have cmp : ∃ h', loop (L28_0 (E tbl)) ((fun j : Nat => [.ptr p 0, .ptr q 0, o, .int .i64 l.length, .int .i64 j]) 0) H1 = some (1, [.ptr p 0, .ptr q 0], h') ∧ h' = H1 := by
    refine loop_up (f := L28_0 (E tbl)) l.length (fun j : Nat => [.ptr p 0, .ptr q 0, o, .int .i64 l.length, .int .i64 j]) _ (fun G => G = H1) ?_ ?_ H1 rfl
    · intro j G hj hG
      rw [hG]
      have i1 : ((j : Int) < (l.length : Int)) := by omega
      have few := T.few
      have hj' : j < ol.length := by omega
      obtain ⟨b1, o1, q1, _, q2, q3, q4⟩ := src_letter So j hj'
      obtain ⟨b2, o2, q5, _, q6, q7, q8⟩ := T1.ref.letter j (by simpa using hj)
      have hgo : toR ol[j] = (l.map toR)[j]'(by simpa using hj) := by
        have : (ol.map toR)[j]? = (l.map toR)[j]? := by rw [he]
        rw [List.getElem?_eq_getElem (by simpa using hj'), List.getElem?_eq_getElem (by simpa using hj)] at this
        simpa using this
      rw [← hgo] at q6 q7 q8
      have tx := (hx ol[j] (List.getElem_mem hj')).text
      have w1 : IntKind.i64.wrap ((j : Int) + 1) = ((j + 1 : Nat) : Int) := wrap_succ _ (by omega)
      refine ⟨H1, ?_, rfl⟩
      simp only [toR] at q6 q7 q8
      simp [L28_0, i1, q1, q2, q3, q4, q5, q6, q7, q8, r1, tx, w1]
    · intro G hG
      rw [hG]
      refine ⟨H1, ?_, rfl⟩
      simp [L28_0]
  obtain ⟨h', e3, hh⟩ := cmp
  rw [hh] at e3
  have rn := T1.ref.rd0
  obtain ⟨n1, n2⟩ := T1.net.n
  obtain ⟨nn, rfl⟩ : ∃ n : Nat, nodes = (n : Int) := ⟨nodes.toNat, by omega⟩
  have row : ∀ a : Int, ∃ h', loop (L28_2 (E tbl)) ((fun j : Nat => [.ptr p 0, .ptr q 0, .int .i64 a, .int .i64 (-1 + (j : Int))]) 0) H1 = some (1, [.ptr p 0, .ptr q 0, .int .i64 a], h') ∧ h' = H1 := by
    intro a
    refine loop_up (f := L28_2 (E tbl)) (nn + 2) (fun j : Nat => [.ptr p 0, .ptr q 0, .int .i64 a, .int .i64 (-1 + (j : Int))]) _ (fun G => G = H1) ?_ ?_ H1 rfl
    · intro j G hj hG
      rw [hG]
      have i1 : -1 + (j : Int) ≤ (nn : Int) := by omega
      have q1 := parted_eq T1.net a (-1 + (j : Int))
      have q2 := rparted_eq T1.ref a (-1 + (j : Int))
      have w1 : IntKind.i64.wrap (-1 + (j : Int) + 1) = -1 + ((j + 1 : Nat) : Int) := by rw [IntWalk.i64_in _ (by omega)]; omega
      refine ⟨H1, ?_, rfl⟩
      simp only [L28_2, List.getD_cons_succ, List.getD_cons_zero, nilchk_ptr, faddr_ptr, Nat.add_zero, Option.bind_some, load_ptr, rn, from_one, bin_leq, i1, decide_true, cond_bool, cond_true, q1, q2, bin_bool_neq, beq_self_eq_true, Bool.not_true, cond_false, bin_add, w1]
    · intro G hG
      rw [hG]
      refine ⟨H1, ?_, rfl⟩
      have i1 : ¬ (-1 + ((nn + 2 : Nat) : Int) ≤ (nn : Int)) := by omega
      simp only [L28_2, List.getD_cons_succ, List.getD_cons_zero, nilchk_ptr, faddr_ptr, Nat.add_zero, Option.bind_some, load_ptr, rn, from_one, bin_leq, i1, decide_false, cond_bool, cond_false]
  have grid : ∃ h', loop (L28_1 (E tbl)) ((fun j : Nat => [.ptr p 0, .ptr q 0, .int .i64 (-1 + (j : Int))]) 0) H1 = some (1, [], h') ∧ h' = H1 := by
    refine loop_up (f := L28_1 (E tbl)) (nn + 2) (fun j : Nat => [.ptr p 0, .ptr q 0, .int .i64 (-1 + (j : Int))]) _ (fun G => G = H1) ?_ ?_ H1 rfl
    · intro j G hj hG
      rw [hG]
      have i1 : -1 + (j : Int) ≤ (nn : Int) := by omega
      obtain ⟨g, q1, hg⟩ := row (-1 + (j : Int))
      rw [hg] at q1
      have w1 : IntKind.i64.wrap (-1 + (j : Int) + 1) = -1 + ((j + 1 : Nat) : Int) := by rw [IntWalk.i64_in _ (by omega)]; omega
      simp only [Int.cast_ofNat_Int, Int.add_zero] at q1
      refine ⟨H1, ?_, rfl⟩
      simp only [L28_1, List.getD_cons_succ, List.getD_cons_zero, nilchk_ptr, faddr_ptr, Nat.add_zero, Option.bind_some, load_ptr, rn, from_one, bin_leq, i1, decide_true, cond_bool, cond_true, q1, show Nat.beq 1 1 = true from rfl, bin_add, w1]
    · intro G hG
      rw [hG]
      refine ⟨H1, ?_, rfl⟩
      have i1 : ¬ (-1 + ((nn + 2 : Nat) : Int) ≤ (nn : Int)) := by omega
      simp only [L28_1, List.getD_cons_succ, List.getD_cons_zero, nilchk_ptr, faddr_ptr, Nat.add_zero, Option.bind_some, load_ptr, rn, from_one, bin_leq, i1, decide_false, cond_bool, cond_false]
  obtain ⟨h'', e4, hh2⟩ := grid
  rw [hh2] at e4
  refine ⟨H1, ?_, W1⟩
  simp only [Int.cast_ofNat_Int, Int.add_zero] at e3 e4
  rw [c28]
  simp [S28, e1, e2, r1, ln, lo, e3, e4, checkPairs, beq_dec]
end Go.Proofs.Ytfdhljghamkgjaa.Code
