/- Chapter 17: the document's own queue. -/
import Derived.Test.YthnilenennobeaaNew
namespace Go.Proofs.Ythnilenennobeaa.Code
set_option linter.unusedSimpArgs false
set_option linter.unusedVariables false
open Go.Fw

theorem ne_cells (a b : Cd) : aBin .neq (.cells [2, 2]) (.agg [.str a.a, .str a.i]) (.agg [.str b.a, .str b.i]) = some (.bool (decide (¬ a.key = b.key))) := ne_key _ _ _ _

theorem filter_take {α : Type} (l : List α) (pr : α → Bool) (n : Nat) (h : n < l.length) : (l.take (n + 1)).filter pr = (l.take n).filter pr ++ (if pr l[n] then [l[n]] else []) := by
  rw [List.take_add_one, List.getElem?_eq_getElem h, List.filter_append]
  simp only [Option.toList_some, List.filter_cons, List.filter_nil]

/-- The row without the key. -/
theorem rest_ok {s : AVal} {G0 : Heap} {row : List Cd} (R : SrcC s G0 row) (hr : row.length ≤ 16) (c : Cd) (x0 x1 x3 x4 x5 x6 x7 : AVal) :
    ∃ o G, loop (L20_2 (E tbl)) [x0, x1, .nilSlice, x3, x4, x5, x6, x7, s, .int .i64 row.length, .int .i64 0, .agg c.cells] G0 = some (1, [x0, x1, o, x3, x4, x5, x6, x7, .agg c.cells], G) ∧ OwnC o G G0.next (row.filter fun x => !decide (x.key = c.key)) ∧ Went G0 G := by
  have key := loop_ok (f := L20_2 (E tbl)) (fun m xs G => ∃ (n : Nat) (o : AVal), m + n = row.length ∧ OwnC o G G0.next ((row.take n).filter fun x => !decide (x.key = c.key)) ∧ Went G0 G ∧ xs = [x0, x1, o, x3, x4, x5, x6, x7, s, .int .i64 row.length, .int .i64 n, .agg c.cells])
    (fun r => ∃ G o, r = (1, [x0, x1, o, x3, x4, x5, x6, x7, .agg c.cells], G) ∧ OwnC o G G0.next (row.filter fun x => !decide (x.key = c.key)) ∧ Went G0 G) ?_ row.length _ G0 ⟨0, .nilSlice, rfl, Fw.Own.nil _ _ _, Went.refl _, rfl⟩
  · obtain ⟨r, e, G, o, rfl, a, b⟩ := key
    simp only [Int.cast_ofNat_Int] at e
    exact ⟨o, G, e, a, b⟩
  · rintro m xs G ⟨n, o, m1, O, W, rfl⟩
    by_cases h1 : n < row.length
    · left
      have i1 : (n : Int) < (row.length : Int) := by omega
      obtain ⟨a, e1, e2⟩ := SrcC.card (W.src R) n h1
      have w1 : IntKind.i64.wrap ((n : Int) + 1) = ((n + 1 : Nat) : Int) := wrap_succ _ (by omega)
      have k := ne_cells row[n] c
      have hf := filter_take row (fun x => !decide (x.key = c.key)) n h1
      by_cases h2 : row[n].key = c.key
      · refine ⟨_, G, ?_, m - 1, by omega, n + 1, o, by omega, ?_, W, rfl⟩
        · rw [decide_eq_false (fun h => h h2)] at k
          simp only [Cd.cells] at e2 ⊢
          simp only [L20_2, List.getD_cons_zero, List.getD_cons_succ, bin_lss, i1, decide_true, Option.bind_some, cond_bool, cond_true, e1, e2, from_agg, aCells_agg, List.length_cons, List.length_nil, Nat.zero_add, Nat.reduceAdd, if_true, splice_t, splice_n, ble_dec, Nat.le_refl, rdL_t, rdL_z, Option.map_some, aggCells_agg, k, cond_false, beq_dec, bin_add, w1]
        · rw [hf]; simpa [h2] using O
      · have h3 := List.length_filter_le (fun x => !decide (x.key = c.key)) (row.take n)
        have h4 : (row.take n).length ≤ row.length := by rw [List.length_take]; omega
        obtain ⟨o', G2, e3, O2, K2⟩ := O.snoc row[n] (by have := W.next; omega) (by omega)
        refine ⟨_, G2, ?_, m - 1, by omega, n + 1, o', by omega, ?_, K2.went W fun b hb => (O.blk b hb).1, rfl⟩
        · rw [decide_eq_true h2] at k
          simp only [Cd.cells] at e2 e3 ⊢
          simp only [L20_2, List.getD_cons_zero, List.getD_cons_succ, bin_lss, i1, decide_true, Option.bind_some, cond_bool, cond_true, e1, e2, from_agg, aCells_agg, List.length_cons, List.length_nil, Nat.zero_add, Nat.reduceAdd, if_true, splice_t, splice_n, ble_dec, Nat.le_refl, rdL_t, rdL_z, Option.map_some, aggCells_agg, k, reps_s, reps_z, List.append_nil, aFill_cons, aFill_nil, e3, beq_dec, bin_add, w1]
        · rw [hf]; simpa [h2] using O2
    · right
      obtain rfl : n = row.length := by omega
      rw [List.take_length] at O
      exact ⟨0, _, G, by simp [L20_2], G, o, rfl, O, W⟩

theorem iaddr_ptr {es : Nat} {s i a : AVal} (h : aIaddr es s i = some a) : ∃ b off, a = .ptr b off ∧ slBlk s = some b := by
  unfold aIaddr at h
  split at h
  · rename_i b off len cap es' ex
    cases hb : Nat.beq es es' with
    | false => rw [hb] at h; cases h
    | true =>
      rw [hb] at h
      simp only [cond_true, Option.bind_eq_some_iff] at h
      obtain ⟨j, _, h⟩ := h
      cases h
      exact ⟨_, _, rfl, rfl⟩
  · cases h

section
variable {p : Nat} {H : Heap} {q : Q} {F : Foot} {ps rs : AVal} {S : List AVal}

theorem refAt_ok (Z : QIn false p H q F ps rs S) (i : Nat) (hi : i < S.length) (c : Cd) (x1 x2 x3 : AVal) :
    ∃ H' S' F', L20_1 (E tbl) [.ptr p 0, x1, x2, x3, .int .i64 S.length, .int .i64 i, .agg c.cells] H = some (0, [.ptr p 0, x1, x2, x3, .int .i64 S.length, .int .i64 ((i + 1 : Nat) : Int), .agg c.cells], H') ∧ QIn false p H' (q.addAt i c) F' ps rs S' ∧ Mv F F' H H' := by
  obtain ⟨a, i1, i2⟩ := Z.rowAt i hi
  obtain ⟨R, room⟩ : SrcC (S.getD i .nilSlice) H (q.R.getD i []) ∧ El.Room (S.getD i .nilSlice) := Z.row i hi
  have hm := Z.most i
  have hpn := Z.lt
  have hln := R.len
  have r1 := Z.rd1
  have hS6 : S.length ≤ 6 := by have := Z.pl; have := Z.len; have := Z.leq; omega
  have ii : (i : Int) < (S.length : Int) := by omega
  have wi : IntKind.i64.wrap ((i : Int) + 1) = ((i + 1 : Nat) : Int) := wrap_succ _ (by omega)
  obtain ⟨o, G, e1, O1, W1⟩ := rest_ok R hm c (.ptr p 0) (.int .i64 i) x1 x2 x3 (.int .i64 S.length) (.int .i64 i)
  obtain ⟨s2, H2, e2, O2, K2⟩ := O1.snoc c W1.next (by have := List.length_filter_le (fun x => !decide (x.key = c.key)) (q.R.getD i []); omega)
  have hin : (q.R.getD i []).filter (fun x => !decide (x.key = c.key)) ++ [c] = rowIn (q.R.getD i []) c := rfl
  rw [hin] at O2
  have W2 : Went H H2 := K2.went W1 fun b hb => (O1.blk b hb).1
  have hb2 : ∀ b, slBlk s2 = some b → H.next ≤ b := fun b hb => (O2.blk b hb).1
  obtain ⟨l1, l2⟩ := rowIn_len (q.R.getD i []) c hm
  have hl2 := O2.src.len
  have hp2 : H2.blk p = some ⟨[ps, rs, .int .i64 q.lost], true⟩ := by rw [W2.old p hpn]; exact Z.blk
  have hn2 := W2.next
  by_cases h16 : 16 < (rowIn (q.R.getD i []) c).length
  · have i16 : ((16 : Int) < ((rowIn (q.R.getD i []) c).length : Int)) := by omega
    obtain ⟨s3, e3, S3, R3, b3⟩ := El.Src.part (E := cdE) O2.src O2.room (some 1) none 1 (rowIn (q.R.getD i []) c).length rfl rfl (by omega) (Nat.le_refl _)
    have S3' : SrcC s3 H2 ((rowIn (q.R.getD i []) c).drop 1) := by rw [List.take_of_length_le (by rw [List.length_drop]; omega)] at S3; exact S3
    simp only [Option.map_some, Option.map_none, Int.cast_ofNat_Int] at e3
    have r2 : H2.rd p 2 1 = some [.int .i64 q.lost] := by rw [rd_of hp2 2 1 (by simp)]; rfl
    let H4 := H2.setBlk p (some ⟨[ps, rs, .int .i64 (IntKind.i64.wrap (q.lost + 1))], true⟩)
    have e4 : H2.wr p 2 [.int .i64 (IntKind.i64.wrap (q.lost + 1))] = some H4 := by rw [wr_of hp2 _ _ (by simp)]; simp [H4]
    have hp4 : H4.blk p = some ⟨[ps, rs, .int .i64 (IntKind.i64.wrap (q.lost + 1))], true⟩ := setBlk_same _ _ _
    have r41 : H4.rd p 1 1 = some [rs] := by rw [rd_of hp4 1 1 (by simp)]; rfl
    have S4 : RowOk false s3 H4 ((rowIn (q.R.getD i []) c).drop 1) := ⟨Fw.Src.kept S3' (Nat.le_refl _) fun b hb => setBlk_ne _ _ (by have := hb2 b (b3 b hb); omega), R3⟩
    obtain ⟨a5, H5, e5, e6, Z5, M5, n5, fr5⟩ := Z.put (H1 := H4) (lost1 := IntKind.i64.wrap (q.lost + 1)) (s' := s3) (r' := (rowIn (q.R.getD i []) c).drop 1) i hi hn2 (fun b hb hbp _ => by
        show H4.blk b = _
        rw [setBlk_ne _ _ hbp, W2.old b hb]) hp4 S4 (fun b hb => .inr (hb2 b (b3 b hb))) (by rw [List.length_drop]; omega)
    obtain rfl : a = a5 := by rw [i1] at e5; cases e5; rfl
    refine ⟨H5, S.set i s3, _, ?_, ?_, M5⟩
    · have hc := S3'.cell
      clear Z5 M5 Z
      generalize S.getD i .nilSlice = si at *
      generalize q.R.getD i [] = ri at *
      simp only [Cd.cells] at *
      simp [L20_1, ii, r1, i1, i2, hln, e1, e2, hl2, i16, e3, r2, e4, r41, hc, e6, wi, beq_dec]
    · have : q.addAt i c = ⟨q.P, q.R.set i ((rowIn (q.R.getD i []) c).drop 1), IntKind.i64.wrap (q.lost + 1)⟩ := by unfold Q.addAt rowAdd lostOf; simp only [h16, if_true, if_false]
      rw [this]; exact Z5
  · have i16 : ¬ ((16 : Int) < ((rowIn (q.R.getD i []) c).length : Int)) := by omega
    have r41 : H2.rd p 1 1 = some [rs] := by rw [rd_of hp2 1 1 (by simp)]; rfl
    obtain ⟨a5, H5, e5, e6, Z5, M5, n5, fr5⟩ := Z.put (H1 := H2) (lost1 := q.lost) (s' := s2) (r' := rowIn (q.R.getD i []) c) i hi hn2 (fun b hb hbp _ => W2.old b hb) hp2 ⟨O2.src, O2.room⟩ (fun b hb => .inr (hb2 b hb)) (by omega)
    obtain rfl : a = a5 := by rw [i1] at e5; cases e5; rfl
    refine ⟨H5, S.set i s2, _, ?_, ?_, M5⟩
    · have hc := O2.cell
      clear Z5 M5 Z
      generalize S.getD i .nilSlice = si at *
      generalize q.R.getD i [] = ri at *
      simp only [Cd.cells] at *
      simp [L20_1, ii, r1, i1, i2, hln, e1, e2, hl2, i16, r41, hc, e6, wi, beq_dec]
    · have : q.addAt i c = ⟨q.P, q.R.set i (rowIn (q.R.getD i []) c), q.lost⟩ := by unfold Q.addAt rowAdd lostOf; simp only [h16, if_true, if_false]
      rw [this]; exact Z5

theorem refAdd1_ok (Z : QIn false p H q F ps rs S) (c : Cd) {s : AVal} {l : List Cd} {at_ : Nat} :
    ∃ H' S' F', loop (L20_1 (E tbl)) [.ptr p 0, s, .int .i64 l.length, .int .i64 at_, .int .i64 q.R.length, .int .i64 0, .agg c.cells] H = some (1, [.ptr p 0, s, .int .i64 l.length, .int .i64 at_], H') ∧ QIn false p H' (q.add1 c) F' ps rs S' ∧ Mv F F' H H' := by
  have hl := Z.leq
  have hp := Z.pl
  have key := loop_ok (f := L20_1 (E tbl)) (fun m xs G => ∃ (n : Nat) (S' : List AVal) (F' : Foot), m + n = q.R.length ∧ QIn false p G (q.addUp c n) F' ps rs S' ∧ Mv F F' H G ∧ xs = [.ptr p 0, s, .int .i64 l.length, .int .i64 at_, .int .i64 q.R.length, .int .i64 n, .agg c.cells])
    (fun r => ∃ G S' F', r = (1, [.ptr p 0, s, .int .i64 l.length, .int .i64 at_], G) ∧ QIn false p G (q.add1 c) F' ps rs S' ∧ Mv F F' H G) ?_ q.R.length _ H ⟨0, S, F, rfl, Z, Mv.refl _ _, rfl⟩
  · obtain ⟨r, e, G, S', F', rfl, a, b⟩ := key
    simp only [Int.cast_ofNat_Int] at e
    exact ⟨G, S', F', e, a, b⟩
  · rintro m xs G ⟨n, S', F', m1, Z', M', rfl⟩
    by_cases h1 : n < q.R.length
    · left
      have hS : S'.length = q.R.length := by rw [Z'.len, addUp_len]
      obtain ⟨G2, S2, F2, e2, Z2, M2⟩ := refAt_ok Z' n (by omega) c s (.int .i64 l.length) (.int .i64 at_)
      rw [hS] at e2
      exact ⟨_, G2, e2, m - 1, by omega, n + 1, S2, F2, by omega, Z2, M'.trans M2, rfl⟩
    · right
      obtain rfl : n = q.R.length := by omega
      exact ⟨0, _, G, by simp [L20_1], G, S', F', rfl, Z', M'⟩

theorem refAddAll_ok (Z : QIn false p H q F ps rs S) {s : AVal} {l : List Cd} (L : SrcC s H l) (hl : l.length ≤ 1000000) (hs : ∀ b, slBlk s = some b → ¬ F b) :
    ∃ H' S' F', E tbl 20 [.ptr p 0, s] H = some (.tuple [], H') ∧ QIn false p H' (q.addAll l) F' ps rs S' ∧ Mv F F' H H' := by
  have key := loop_ok (f := L20_0 (E tbl)) (fun m xs G => ∃ (n : Nat) (S' : List AVal) (F' : Foot), m + n = l.length ∧ QIn false p G (q.addAll (l.take n)) F' ps rs S' ∧ Mv F F' H G ∧ xs = [.ptr p 0, s, .int .i64 l.length, .int .i64 n])
    (fun r => ∃ G S' F', r = (1, [], G) ∧ QIn false p G (q.addAll l) F' ps rs S' ∧ Mv F F' H G) ?_ l.length _ H ⟨0, S, F, rfl, by simpa [Q.addAll] using Z, Mv.refl _ _, rfl⟩
  · obtain ⟨r, e, G, S', F', rfl, a, b⟩ := key
    simp only [Int.cast_ofNat_Int] at e
    refine ⟨G, S', F', ?_, a, b⟩
    rw [c20]
    simp [S20, L.len, e, beq_dec]
  · rintro m xs G ⟨n, S', F', m1, Z', M', rfl⟩
    by_cases h1 : n < l.length
    · left
      have i1 : (n : Int) < (l.length : Int) := by omega
      have LG : SrcC s G l := Fw.Src.kept L M'.next fun b hb => M'.old b (L.blk b hb) (hs b hb)
      obtain ⟨a, e1, e2⟩ := LG.card n h1
      have r1 := Z'.rd1
      have hS := Z'.rows.src.len
      rw [Z'.len] at hS
      obtain ⟨G2, S2, F2, e3, Z2, M2⟩ := refAdd1_ok Z' l[n] (s := s) (l := l) (at_ := n)
      have w1 : IntKind.i64.wrap ((n : Int) + 1) = ((n + 1 : Nat) : Int) := wrap_succ _ (by omega)
      refine ⟨_, G2, ?_, m - 1, by omega, n + 1, S2, F2, by omega, by rw [addAll_take _ _ _ h1]; exact Z2, M'.trans M2, rfl⟩
      simp only [Cd.cells] at e2 e3 ⊢
      simp [L20_0, i1, e1, e2, r1, hS, e3, w1, beq_dec]
    · right
      obtain rfl : n = l.length := by omega
      rw [List.take_length] at Z'
      exact ⟨0, _, G, by simp [L20_0], G, S', F', rfl, Z', M'⟩

theorem refTake_ok (Z : QIn false p H q F ps rs S) (k : Int) :
    ∃ o H' S' F', E tbl 21 [.ptr p 0, .int .i64 k] H = some (o, H') ∧ OwnC o H' H.next (q.taken k) ∧ QIn false p H' (q.take k) F' ps rs S' ∧ Mv F F' H H' ∧ ∀ b, slBlk o = some b → ¬ F' b := by
  have r0 := Z.rd0
  have r1 := Z.rd1
  have hp := Z.pl
  have hpn := Z.lt
  have ix := at_eq Z.blk Z.ints (by omega) k
  unfold Q.taken Q.take
  rcases place_cases q.P k with ⟨i, hi, h1, _⟩ | ⟨h1, _⟩
  · have hS : i < S.length := by rw [Z.len, Z.leq]; exact hi
    obtain ⟨a, i1, i2⟩ := Z.rowAt i hS
    obtain ⟨R, room⟩ : SrcC (S.getD i .nilSlice) H (q.R.getD i []) ∧ El.Room (S.getD i .nilSlice) := Z.row i hS
    have hln := R.len
    have hm := Z.most i
    obtain ⟨n, hn1, hn2⟩ : ∃ n : Nat, min ((q.R.getD i []).length : Int) 4 = (n : Int) ∧ n = min (q.R.getD i []).length 4 := ⟨_, by omega, rfl⟩
    -- the first ones
    have W1 : Went H (H.alloc []) := Went.alloc _ _
    have Z1 := Z.mono W1.next fun b hb => W1.old b (Z.flt b hb)
    obtain ⟨a1, i3, i4⟩ := Z1.rowAt i hS
    obtain rfl : a = a1 := by rw [i1] at i3; cases i3; rfl
    have r11 := Z1.rd1
    obtain ⟨s1, p1, P1, _, pb1⟩ := El.Src.part (E := cdE) (W1.src R) room none (some n) 0 n rfl rfl (by omega) (by omega)
    simp only [Option.map_some, Option.map_none] at p1
    obtain ⟨o, H1, e1, O1, K1⟩ := El.Own.app (E := cdE) (bytes := 88) (zero := czero) (El.Own.lit (E := cdE) H [] (n := 0) rfl true) P1 (by simp) (by simp only [List.length_take, List.length_drop, List.length_nil]; omega) (by simp only [List.length_take, List.length_drop, List.length_nil]; omega)
    rw [List.nil_append, List.drop_zero, Nat.sub_zero] at O1
    have W2 : Went H H1 := K1.went W1 fun b hb => by cases hb; exact Nat.le_refl _
    have hn2' := W2.next
    -- the others
    have W3 : Went H (H1.alloc []) := W2.trans (Went.alloc _ _)
    have Z3 := Z.mono W3.next fun b hb => W3.old b (Z.flt b hb)
    obtain ⟨a3, i5, i6⟩ := Z3.rowAt i hS
    obtain rfl : a = a3 := by rw [i1] at i5; cases i5; rfl
    have r13 := Z3.rd1
    obtain ⟨s4, p4, P4, _, pb4⟩ := El.Src.part (E := cdE) (W3.src R) room (some n) none n (q.R.getD i []).length rfl rfl (by omega) (Nat.le_refl _)
    simp only [Option.map_some, Option.map_none] at p4
    obtain ⟨o2, H4, e4, O4, K4⟩ := El.Own.app (E := cdE) (bytes := 88) (zero := czero) (El.Own.lit (E := cdE) H1 [] (n := 0) rfl true) P4 (by simp) (by simp only [List.length_take, List.length_drop, List.length_nil]; omega) (by simp only [List.length_take, List.length_drop, List.length_nil]; omega)
    rw [List.nil_append, List.take_of_length_le (by rw [List.length_drop]; omega)] at O4
    have W4' : Went H1 H4 := K4.went (Went.alloc _ _) fun b hb => by cases hb; exact Nat.le_refl _
    have W4 : Went H H4 := W2.trans W4'
    have Z4 := Z.mono W4.next fun b hb => W4.old b (Z.flt b hb)
    have r14 := Z4.rd1
    have ho : ∀ b, slBlk o = some b → H.next ≤ b ∧ b < H1.next := fun b hb => O1.blk b hb
    have ho2 : ∀ b, slBlk o2 = some b → H1.next ≤ b ∧ b < H4.next := fun b hb => O4.blk b hb
    obtain ⟨a5, H5, e5, e6, Z5, M5, n5, fr5⟩ := Z.put (H1 := H4) (lost1 := q.lost) (s' := o2) (r' := (q.R.getD i []).drop n) i hS W4.next (fun b hb hbp hne => W4.old b hb) (by rw [W4.old p hpn]; exact Z.blk) ⟨O4.src, O4.room⟩ (fun b hb => .inr (by have := (ho2 b hb).1; omega)) (by rw [List.length_drop]; omega)
    obtain rfl : a = a5 := by rw [i1] at e5; cases e5; rfl
    have hno : ∀ b, slBlk o = some b → ¬ Foot.add F o2 b := fun b hb h => by
      have h3 := ho b hb
      rcases h with h | h
      · have := Z.flt b h; omega
      · have := (ho2 b h).1; omega
    have hdt : (q.R.getD i []).drop n = (q.R.getD i []).drop 4 := by
      rw [hn2]
      by_cases h : (q.R.getD i []).length ≤ 4
      · rw [Nat.min_eq_left h, List.drop_of_length_le (Nat.le_refl _), List.drop_of_length_le h]
      · rw [Nat.min_eq_right (by omega)]
    have htt : (q.R.getD i []).take n = (q.R.getD i []).take 4 := by
      rw [hn2]
      by_cases h : (q.R.getD i []).length ≤ 4
      · rw [Nat.min_eq_left h, List.take_of_length_le (Nat.le_refl _), List.take_of_length_le h]
      · rw [Nat.min_eq_right (by omega)]
    rw [h1] at ix ⊢
    refine ⟨o, H5, S.set i o2, _, ?_, ?_, ?_, M5, hno⟩
    · have h0 : ¬ (i : Int) < 0 := by omega
      have r12 : H1.rd p 1 1 = some [rs] := by rw [rd_of (by rw [W2.old p hpn]; exact Z.blk) 1 1 (by simp)]; rfl
      have np : ¬ p = H1.next := by omega
      obtain ⟨ab, ao, rfl, hab⟩ := iaddr_ptr i1
      have nb : ¬ ab = H1.next := by have := Z.flt ab (Z.rb ab hab).1; omega
      have hc := O4.cell
      rw [c21]
      clear Z5 M5 Z1 Z3 Z4 Z hdt htt R
      generalize S.getD i .nilSlice = si at *
      generalize q.R.getD i [] = ri at *
      simp only [El.rws_nil] at e1 e4
      simp [S21, ix, h0, r1, i1, i2, hln, hn1, r11, i4, p1, e1, r13, i6, p4, e4, e6, checkPairs_cons, stays, r14, hc, r12, beq_dec, np, nb]
    · show OwnC o H5 H.next ((q.R.getD i []).take 4)
      rw [← htt]
      exact Fw.Own.kept (Fw.Own.base O1 (Nat.le_refl _)) (by have := W4'.next; omega) fun b hb => by
        have h3 := ho b hb
        rw [fr5 b fun e => by have := Z.flt b (Z.rb b e).1; omega, W4'.old b h3.2]
    · show QIn false p H5 ⟨q.P, q.R.set i ((q.R.getD i []).drop 4), q.lost⟩ _ ps rs _
      rw [← hdt]
      exact Z5
  · rw [h1] at ix ⊢
    refine ⟨.nilSlice, H, S, F, ?_, Fw.Own.nil _ _ _, Z, Mv.refl _ _, fun b hb => by cases hb⟩
    rw [c21]
    simp [S21, ix]
end
end Go.Proofs.Ythnilenennobeaa.Code
