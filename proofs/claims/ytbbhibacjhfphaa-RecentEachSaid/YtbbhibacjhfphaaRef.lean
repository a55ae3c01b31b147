/- Chapter 13: what the functions answer, more. -/
import Derived.Test.YtbbhibacjhfphaaLaw
namespace Go.Proofs.Ytbbhibacjhfphaa.Code
set_option linter.unusedSimpArgs false
set_option linter.unusedVariables false
open Go.Fw

def sinceN (seq : Int) (n : Int) : Bool := !(decide (n < 0) || decide (n > seq) || decide (seq - n > 16))

theorem since_eq {pr : Nat} {sl : AVal} {h : Heap} {seq : Int} {l : List KeyT} (R : RowAt pr sl h seq l) (hs : 0 ≤ seq ∧ seq < 1000000) (hl : (l.length : Int) = min 16 seq) (n : Int) (hn : -9223372036854775808 ≤ n ∧ n ≤ 9223372036854775807) :
    ∃ o h', E tbl 13 [.ptr pr 0, .int .i64 n] h = some (.tuple [o, .bool (sinceN seq n)], h') ∧ OwnK o h' h.next (if sinceN seq n = true then lasts (l.drop ((l.length : Int) - (seq - n)).toNat) else []) ∧ Went h h' := by
  have r0 : h.rd pr 0 1 = some [.int .i64 seq] := rd_of R.blk 0 1 (by simp)
  have r1 : h.rd pr 1 1 = some [sl] := rd_of R.blk 1 1 (by simp)
  by_cases h1 : n < 0
  · refine ⟨.nilSlice, h, ?_, by simp [sinceN, h1, Own, kcells], Went.refl h⟩
    rw [c13]
    simp [S13, h1, sinceN]
  · by_cases h2 : n > seq
    · have h2' : seq < n := h2
      refine ⟨.nilSlice, h, ?_, by simp [sinceN, h2', Own, kcells], Went.refl h⟩
      rw [c13]
      simp [S13, h1, h2', sinceN, r0]
    · have h2' : ¬ seq < n := h2
      have w1 : IntKind.i64.wrap (seq - n) = seq - n := IntWalk.i64_in _ (by omega)
      by_cases h3 : seq - n > 16
      · have h3' : 16 < seq - n := h3
        refine ⟨.nilSlice, h, ?_, by simp [sinceN, h3', Own, kcells], Went.refl h⟩
        rw [c13]
        simp [S13, h1, h2', h3', sinceN, r0, w1]
      · have h3' : ¬ 16 < seq - n := h3
        have hS : sinceN seq n = true := by simp [sinceN, h1, h2', h3']
        obtain ⟨j, hj⟩ : ∃ j : Nat, (j : Int) = (l.length : Int) - (seq - n) := ⟨((l.length : Int) - (seq - n)).toNat, by omega⟩
        obtain ⟨s2, e2, S2, _⟩ := R.own.src.restK j (by omega)
        obtain ⟨o, H, e3, O, W⟩ := since_lasts S2 (by rw [List.length_drop]; omega)
        have w2 : IntKind.i64.wrap ((l.length : Int) - (seq - n)) = (j : Int) := by rw [IntWalk.i64_in _ (by omega)]; omega
        refine ⟨o, H, ?_, ?_, W⟩
        · rw [c13, hS]
          have e4 : loop (L13_0 (E tbl)) [s2, .nilSlice, s2, .int .i64 ((l.length - j : Nat) : Int), .int .i64 0] h = some (1, [o], H) := by
            rw [List.length_drop] at e3; exact e3
          simp [S13, h1, h2', h3', r0, r1, w1, R.own.src.len, w2, e2, S2.len, e4, beq_dec]
        · rw [if_pos hS, show ((l.length : Int) - (seq - n)).toNat = j by omega]
          exact O

theorem seq_eq {pr : Nat} {sl : AVal} {h : Heap} {seq : Int} {l : List KeyT} (R : RowAt pr sl h seq l) : E tbl 14 [.ptr pr 0] h = some (.int .i64 seq, h) := by
  have r0 : h.rd pr 0 1 = some [.int .i64 seq] := rd_of R.blk 0 1 (by simp)
  rw [c14]
  simp [S14, r0]

/-- The document's row: all keys. -/
structure AllAt (pw : Nat) (sl : AVal) (h : Heap) (l : List KeyT) : Prop where
  lt : pw < h.next
  blk : h.blk pw = some ⟨[sl], true⟩
  own : OwnK sl h 0 l
  ne : ∀ b, slBlk sl = some b → b ≠ pw
theorem AllAt.went {pw : Nat} {sl : AVal} {h h' : Heap} {l : List KeyT} (R : AllAt pw sl h l) (W : Went h h') : AllAt pw sl h' l :=
  ⟨Nat.lt_of_lt_of_le R.lt W.next, by rw [W.old _ R.lt]; exact R.blk, W.own R.own, R.ne⟩

theorem radd_eq {pw : Nat} {sl : AVal} {h : Heap} {l : List KeyT} (R : AllAt pw sl h l) (hl : l.length ≤ 100) (k : KeyT) :
    ∃ sl' h', E tbl 15 [.ptr pw 0, .agg [.str k.1, .str k.2]] h = some (.int .i64 ((l.length : Int) + 1), h') ∧ AllAt pw sl' h' (l ++ [k]) ∧ Only pw h h' ∧ ∀ b, slBlk sl' = some b → h.next ≤ b := by
  obtain ⟨lt, blk, own, ne⟩ := R
  obtain ⟨h1, d1⟩ : ∃ x, x = (h.res 2).setBlk h.next (some ⟨[], true⟩) := ⟨_, rfl⟩
  have n1 : h1.next = h.next + 2 := by rw [d1]; rfl
  have W1 : Went h h1 := ⟨by omega, fun i hi => by rw [d1, setBlk_ne _ _ (by omega)]; rfl⟩
  have b1 : h1.blk pw = some ⟨[sl], true⟩ := by rw [W1.old _ lt, blk]
  have O1 : Own 2 (.slice h.next 0 0 0 2 true) h1 h.next 0 [] := ⟨rfl, .inr ⟨h.next, true, rfl, Nat.le_refl _, by omega, by rw [d1, setBlk_same]⟩⟩
  obtain ⟨s2, h2, e2, O2, K2⟩ := O1.app (bytes := 32) (zero := [.str [], .str []]) (W1.src own.src) (by omega) (by omega) (by omega) (by omega)
  rw [Nat.zero_add, List.nil_append] at O2
  have hk2 := K2.next
  have W2 : Went h h2 := K2.went W1 fun b hb => by cases hb; exact Nat.le_refl _
  -- the one element's row, in the block that was held ready
  have s2ne : ∀ b, slBlk s2 = some b → b ≠ h.next + 1 := by
    intro b hb
    rcases K2.blk b hb with h3 | h3
    · cases h3; omega
    · omega
  obtain ⟨h3, d3⟩ : ∃ x, x = h2.setBlk (h.next + 1) (some ⟨[.str k.1, .str k.2], true⟩) := ⟨_, rfl⟩
  have n3 : h3.next = h2.next := by rw [d3]; rfl
  have W3 : Went h h3 := ⟨by omega, fun i hi => by rw [d3, setBlk_ne _ _ (by omega)]; exact W2.old i hi⟩
  have O3 : Own 2 s2 h3 h.next l.length (kcells l) := O2.kept (by omega) fun b hb => by rw [d3, setBlk_ne _ _ (s2ne b hb)]
  have S3 : Src 2 (.slice (h.next + 1) 0 1 1 2 true) h3 1 [.str k.1, .str k.2] := ⟨rfl, .inr ⟨h.next + 1, 0, 1, true, rfl, by omega, by rw [d3, rd_of (setBlk_same _ _ _) 0 _ (by simp)]; rfl⟩⟩
  obtain ⟨s4, h4, e4, O4, K4⟩ := O3.app (bytes := 32) (zero := [.str [], .str []]) S3 (by omega) (by omega) (by omega) (by omega)
  have hk4 := K4.next
  have W4 : Went h h4 := K4.went W3 fun b hb => (O3.blk b hb).1
  have b4 : h4.blk pw = some ⟨[sl], true⟩ := by rw [W4.old _ lt, blk]
  have hne : ∀ b, slBlk s4 = some b → b ≠ pw := fun b hb => by have := (O4.blk b hb).1; omega
  have O4' : OwnK s4 h4 h.next (l ++ [k]) := by
    rw [OwnK, kcells_app, List.length_append]; exact O4
  refine ⟨s4, h4.setBlk pw (some ⟨[s4], true⟩), ?_, ⟨by rw [setBlk_next]; omega, setBlk_same _ _ _, (Own.base O4' (Nat.zero_le _)).kept (by rw [setBlk_next]; exact Nat.le_refl _) fun b hb => setBlk_ne _ _ (hne b hb), hne⟩, ⟨by rw [setBlk_next]; omega, fun b hb hp => by rw [setBlk_ne _ _ hp]; exact W4.old b hb⟩, fun b hb => (O4'.blk b hb).1⟩
  have r1 : h1.rd pw 0 1 = some [sl] := rd_of b1 0 1 (by simp)
  have cs : aCells 1 s4 = some [s4] := by
    obtain ⟨_, ⟨rfl, _⟩ | ⟨b, ex, rfl, _⟩⟩ := O4 <;> rfl
  have wr4 : h4.wr pw 0 [s4] = some (h4.setBlk pw (some ⟨[s4], true⟩)) := by rw [wr_of b4 0 _ (by simp)]; rfl
  have r5 : (h4.setBlk pw (some ⟨[s4], true⟩)).rd pw 0 1 = some [s4] := rd_of (setBlk_same _ _ _) 0 1 (by simp)
  have ln : aLen false s4 = some (.int .i64 ((l.length : Int) + 1)) := by
    have := O4'.src.len
    simpa using this
  have ck : checkPairs [(7, some (.lrd 3 0 2)), (6, some (.ef [(3, [.str k.1, .str k.2])] h1 [(3, [.str k.1, .str k.2])] h2))] [(7, 6)] = true := by
    simp [checkPairs]
  rw [c15]
  simp only [S15, cellsQ_agg, Option.bind_some, reps_z, aFill_nil, nilchk_ptr, faddr_ptr, Nat.add_zero, load_ptr, ← d1, r1, from_one, e2, rdL_t, rdL_z, Option.map_some, from_agg, reps_s, List.append_nil, aFill_cons, aCells_agg, List.length_cons, List.length_nil, Nat.zero_add, Nat.reduceAdd, if_pos, Nat.le_refl, splice_t, splice_n, ← d3, e4, cs, store_ptr, wr4, ck, cond_true, r5, ln, ans_one]


theorem inner_eq {pw : Nat} {sl : AVal} {h : Heap} {l : List KeyT} (R : AllAt pw sl h l) (hl : l.length ≤ 100) (o : AVal) (i : Nat) (hi : i < l.length) :
    loop (L16_1 (E tbl)) [.ptr pw 0, .int .i64 l.length, o, .int .i64 i, .bool true, .int .i64 ((i : Int) + 1)] h = some (1, [.ptr pw 0, .int .i64 l.length, o, .int .i64 i, .bool (decide (¬ l[i] ∈ l.drop (i + 1)))], h) := by
  have r0 : h.rd pw 0 1 = some [sl] := rd_of R.blk 0 1 (by simp)
  obtain ⟨p, q1, q2⟩ := R.own.src.key i hi
  have key : ∃ h', loop (L16_1 (E tbl)) ((fun t : Nat => [.ptr pw 0, .int .i64 l.length, o, .int .i64 i, .bool (decide (¬ l[i] ∈ (l.drop (i + 1)).take t)), .int .i64 ((i : Int) + 1 + t)]) 0) h = some (1, [.ptr pw 0, .int .i64 l.length, o, .int .i64 i, .bool (decide (¬ l[i] ∈ l.drop (i + 1)))], h') ∧ h' = h := by
    refine loop_up (f := L16_1 (E tbl)) (l.length - (i + 1)) (fun t => [.ptr pw 0, .int .i64 l.length, o, .int .i64 i, .bool (decide (¬ l[i] ∈ (l.drop (i + 1)).take t)), .int .i64 ((i : Int) + 1 + t)])
      [.ptr pw 0, .int .i64 l.length, o, .int .i64 i, .bool (decide (¬ l[i] ∈ l.drop (i + 1)))] (fun H => H = h) ?_ ?_ h rfl
    · rintro t H ht rfl
      have i1 : ((i : Int) + 1 + t) < (l.length : Int) := by omega
      have ht' : i + 1 + t < l.length := by omega
      obtain ⟨p2, q3, q4⟩ := R.own.src.key (i + 1 + t) ht'
      have c1 : (((i + 1 + t : Nat) : Int)) = (i : Int) + 1 + t := by omega
      rw [c1] at q3
      have w1 : IntKind.i64.wrap ((i : Int) + 1 + t + 1) = (i : Int) + 1 + ((t + 1 : Nat) : Int) := by rw [IntWalk.i64_in _ (by omega)]; omega
      have tk : (l.drop (i + 1)).take (t + 1) = (l.drop (i + 1)).take t ++ [l[i + 1 + t]] := by
        rw [List.take_add_one, List.getElem?_drop, List.getElem?_eq_getElem ht']
        rfl
      refine ⟨H, ?_, rfl⟩
      rw [tk]
      by_cases hm : l[i] ∈ (l.drop (i + 1)).take t
      · have : l[i] ∈ (l.drop (i + 1)).take t ++ [l[i + 1 + t]] := List.mem_append_left _ hm
        simp only [L16_1, List.getD_cons_succ, List.getD_cons_zero, bin_lss, Option.bind_some, i1, decide_true, cond_bool, cond_true, hm, this, not_true, decide_false, guard_bool, show (false == true) = false from rfl, cond_false, pick_bool, bin_add, w1]
      · by_cases hk : l[i + 1 + t] = l[i]
        · have : l[i] ∈ (l.drop (i + 1)).take t ++ [l[i + 1 + t]] := by simp [hk]
          have hk' : (l[i + 1 + t].1, l[i + 1 + t].2) = (l[i].1, l[i].2) := hk
          simp only [L16_1, List.getD_cons_succ, List.getD_cons_zero, bin_lss, Option.bind_some, i1, decide_true, cond_bool, cond_true, hm, this, not_true, not_false_iff, decide_false, guard_bool, show (true == true) = true from rfl, pick_bool, bin_add, w1, nilchk_ptr, faddr_ptr, Nat.add_zero, load_ptr, r0, from_one, q1, q2, q3, q4, from_agg, ne_key, hk']
        · have : ¬ l[i] ∈ (l.drop (i + 1)).take t ++ [l[i + 1 + t]] := by
            simp only [List.mem_append, List.mem_singleton, not_or]
            exact ⟨hm, fun e => hk e.symm⟩
          have hk' : ¬ (l[i + 1 + t].1, l[i + 1 + t].2) = (l[i].1, l[i].2) := hk
          simp only [L16_1, List.getD_cons_succ, List.getD_cons_zero, bin_lss, Option.bind_some, i1, decide_true, cond_bool, cond_true, hm, this, not_false_iff, guard_bool, show (true == true) = true from rfl, pick_bool, bin_add, w1, nilchk_ptr, faddr_ptr, Nat.add_zero, load_ptr, r0, from_one, q1, q2, q3, q4, from_agg, ne_key, hk']
    · rintro H rfl
      have i1 : ¬ ((i : Int) + 1 + ((l.length - (i + 1) : Nat) : Int)) < (l.length : Int) := by omega
      have tk : (l.drop (i + 1)).take (l.length - (i + 1)) = l.drop (i + 1) := by
        rw [List.take_of_length_le]; simp
      refine ⟨H, ?_, rfl⟩
      simp only [L16_1, List.getD_cons_succ, List.getD_cons_zero, bin_lss, Option.bind_some, i1, decide_false, cond_bool, cond_false, tk]
  obtain ⟨h', e, rfl⟩ := key
  simpa using e

theorem rsince_loop {pw : Nat} {sl : AVal} {h : Heap} {l : List KeyT} (R : AllAt pw sl h l) (hl : l.length ≤ 100) (n : Nat) (hn : n ≤ l.length) :
    ∀ m xs H, (∃ (i : Nat) (o : AVal) (ol : List KeyT), m + i = l.length ∧ OwnK o H h.next ol ∧ ol.length ≤ i ∧ ol ++ lasts (l.drop i) = lasts (l.drop n) ∧ Went h H ∧ xs = [.ptr pw 0, .int .i64 l.length, o, .int .i64 i]) →
      ∃ r, loop (L16_0 (E tbl)) xs H = some r ∧ ∃ o H', r = (1, [o], H') ∧ OwnK o H' h.next (lasts (l.drop n)) ∧ Went h H' := by
  refine loop_ok _ _ ?_
  rintro m xs H ⟨i, o, ol, hi, O, hol, he, W, rfl⟩
  have R' := R.went W
  by_cases h1 : i < l.length
  · left
    have i1 : ((i : Int) < (l.length : Int)) := by omega
    obtain ⟨p, q1, q2⟩ := R'.own.src.key i h1
    have r0 : H.rd pw 0 1 = some [sl] := rd_of R'.blk 0 1 (by simp)
    have w0 : IntKind.i64.wrap ((i : Int) + 1) = (i : Int) + 1 := IntWalk.i64_in _ (by omega)
    have q4 := inner_eq R' hl o i h1
    have hd : l.drop i = l[i] :: l.drop (i + 1) := List.drop_eq_getElem_cons h1
    have c1 : ((i : Int) + 1) = ((i + 1 : Nat) : Int) := by omega
    rw [hd] at he
    by_cases hk : l[i] ∈ l.drop (i + 1)
    · rw [lasts, if_pos hk] at he
      refine ⟨_, _, ?_, m - 1, by omega, i + 1, o, ol, by omega, O, by omega, he, W, rfl⟩
      rw [← c1]
      simp only [L16_0, List.getD_cons_succ, List.getD_cons_zero, bin_lss, Option.bind_some, i1, decide_true, cond_bool, cond_true, bin_add, w0, q4, hk, not_true, decide_false, cond_false, show Nat.beq 0 0 = true from rfl, show Nat.beq 1 1 = true from rfl]
    · rw [lasts, if_neg hk] at he
      obtain ⟨o', H', q5, O', K'⟩ := O.snocK (bytes := 32) (zero := [.str [], .str []]) l[i] W.next (by omega) (by omega)
      refine ⟨_, _, ?_, m - 1, by omega, i + 1, o', ol ++ [l[i]], by omega, O', by simp; omega, by rw [List.append_assoc]; exact he, K'.went W fun b hb => (O.blk b hb).1, rfl⟩
      rw [← c1]
      simp only [L16_0, List.getD_cons_succ, List.getD_cons_zero, bin_lss, Option.bind_some, i1, decide_true, cond_bool, cond_true, bin_add, w0, q4, hk, not_false_iff, nilchk_ptr, faddr_ptr, Nat.add_zero, load_ptr, r0, from_one, q1, q2, from_agg, aCells_agg, List.length_cons, List.length_nil, Nat.zero_add, if_pos, Nat.reduceAdd, splice_t, splice_n, show Nat.beq 0 0 = true from rfl, show Nat.beq 1 1 = true from rfl, Nat.le_refl, reps_s, reps_z, List.append_nil, aFill_cons, aFill_nil, q5]
  · right
    have i1 : ¬ ((i : Int) < (l.length : Int)) := by omega
    rw [List.drop_eq_nil_of_le (show l.length ≤ i by omega), lasts, List.append_nil] at he
    subst he
    exact ⟨0, [o], H, by simp [L16_0, i1], o, H, rfl, O, W⟩

theorem rsince_eq {pw : Nat} {sl : AVal} {h : Heap} {l : List KeyT} (R : AllAt pw sl h l) (hl : l.length ≤ 100) (n : Int) (hn : -9223372036854775808 ≤ n ∧ n ≤ 9223372036854775807) :
    ∃ o h', E tbl 16 [.ptr pw 0, .int .i64 n] h = some (.tuple [o, .bool (sinceN l.length n)], h') ∧ OwnK o h' h.next (if sinceN l.length n = true then lasts (l.drop n.toNat) else []) ∧ Went h h' := by
  have r0 : h.rd pw 0 1 = some [sl] := rd_of R.blk 0 1 (by simp)
  have ln := R.own.src.len
  have w1 : IntKind.i64.wrap ((l.length : Int) - 16) = (l.length : Int) - 16 := IntWalk.i64_in _ (by omega)
  by_cases h1 : n < 0
  · refine ⟨.nilSlice, h, ?_, by simp [sinceN, h1, Own, kcells], Went.refl h⟩
    rw [c16]
    simp [S16, h1, sinceN, r0, ln]
  · by_cases h2 : n > l.length
    · have h2' : (l.length : Int) < n := h2
      refine ⟨.nilSlice, h, ?_, by simp [sinceN, h2', Own, kcells], Went.refl h⟩
      rw [c16]
      simp [S16, h1, h2', sinceN, r0, ln]
    · have h2' : ¬ (l.length : Int) < n := h2
      by_cases h3 : n < (l.length : Int) - 16
      · have h3' : 16 < (l.length : Int) - n := by omega
        refine ⟨.nilSlice, h, ?_, by simp [sinceN, h3', Own, kcells], Went.refl h⟩
        rw [c16]
        simp [S16, h1, h2', h3', sinceN, r0, ln, w1, h3]
      · have h3' : ¬ 16 < (l.length : Int) - n := by omega
        have hS : sinceN l.length n = true := by simp [sinceN, h1, h2', h3']
        obtain ⟨j, rfl⟩ : ∃ j : Nat, n = (j : Int) := ⟨n.toNat, by omega⟩
        obtain ⟨_, e, o, H, rfl, O, W⟩ := rsince_loop R hl j (by omega) (l.length - j) _ h ⟨j, .nilSlice, [], by omega, Own.nil _ _ _, by simp, rfl, Went.refl h, rfl⟩
        refine ⟨o, H, ?_, ?_, W⟩
        · rw [c16, hS]
          simp [S16, h1, h2', r0, ln, w1, h3, e, beq_dec]
        · rw [if_pos hS, Int.toNat_natCast]
          exact O

theorem keys_loop {s u : AVal} {h : Heap} {l m : List KeyT} (S : SrcK s h l) (U : SrcK u h m) (hl : l.length = m.length) (hb : l.length ≤ 1000) (he : l = m) :
    loop (L17_0 (E tbl)) [s, u, .int .i64 l.length, .int .i64 0] h = some (1, [], h) := by
  subst he
  have key : ∃ h', loop (L17_0 (E tbl)) ((fun i : Nat => [s, u, .int .i64 l.length, .int .i64 i]) 0) h = some (1, [], h') ∧ h' = h := by
    refine loop_up (f := L17_0 (E tbl)) l.length (fun i => [s, u, .int .i64 l.length, .int .i64 i]) [] (fun H => H = h) ?_ ?_ h rfl
    · rintro i H hi rfl
      have i1 : ((i : Int) < (l.length : Int)) := by omega
      obtain ⟨p, q1, q2⟩ := S.key i hi
      obtain ⟨p', q3, q4⟩ := U.key i hi
      have w1 : IntKind.i64.wrap ((i : Int) + 1) = ((i + 1 : Nat) : Int) := wrap_succ _ (by omega)
      refine ⟨H, ?_, rfl⟩
      simp only [L17_0, List.getD_cons_succ, List.getD_cons_zero, bin_lss, Option.bind_some, i1, decide_true, cond_bool, cond_true, q1, q2, q3, q4, from_agg, ne_key, not_true, decide_false, cond_false, bin_add, w1]
    · rintro H rfl
      exact ⟨H, by simp [L17_0], rfl⟩
  obtain ⟨h', e, rfl⟩ := key
  exact e

theorem keys_same {s u : AVal} {h : Heap} {l : List KeyT} (S : SrcK s h l) (U : SrcK u h l) (hb : l.length ≤ 1000) : E tbl 17 [s, u] h = some (.bool true, h) := by
  have e := keys_loop S U rfl hb rfl
  rw [c17]
  simp [S17, S.len, U.len, e, beq_dec]

end Go.Proofs.Ytbbhibacjhfphaa.Code
