/- The document's own sort. -/
import Derived.Test.YtllogmedpmanoaaFind
namespace Go.Proofs.Ytllogmedpmanoaa.Code
set_option linter.unusedSimpArgs false
set_option linter.unusedVariables false
open Go.Fw

theorem iaddr_ptr {es : Nat} {s i a : AVal} (h : aIaddr es s i = some a) : ∃ b off, a = .ptr b off ∧ slBlk s = some b := by
  unfold aIaddr at h
  split at h
  · rename_i b off len cap es' ex
    cases hb : Nat.beq es es' with
    | false => rw [hb] at h; cases h
    | true =>
      rw [hb] at h
      simp only [cond_true, Option.bind_eq_some_iff] at h
      obtain ⟨j, _, h⟩ := h
      cases h
      exact ⟨_, _, rfl, rfl⟩
  · cases h
theorem rd_part {h : Heap} {b o n : Nat} {cs : List AVal} (e : h.rd b o n = some cs) (j k : Nat) (hjk : j + k ≤ n) : h.rd b (o + j) k = some ((cs.drop j).take k) := by
  obtain ⟨x, hx, hlx, hcs⟩ := rd_inv e
  rw [rd_of hx _ _ (by omega), hcs, List.drop_take, List.drop_drop, List.take_take, Nat.min_eq_left (by omega)]
theorem SrcC.keyAt {s : AVal} {h : Heap} {l : List Cd} (S : SrcC s h l) (i : Nat) (hi : i < l.length) : ∃ p, aIaddr 9 s (.int .i64 i) = some p ∧ aFaddr 0 p = some p ∧ aLoad h 2 p = some [.str l[i].a, .str l[i].i] := by
  obtain ⟨p, e1, e2⟩ := SrcC.card S i hi
  obtain ⟨b, o, rfl, _⟩ := iaddr_ptr e1
  refine ⟨_, e1, rfl, ?_⟩
  have := rd_part (j := 0) (k := 2) (n := 9) (h := h) (b := b) (o := o) (cs := l[i].cells) e2 (by omega)
  exact this

theorem before_ok (x y : Key) (h : Heap) : E tbl 29 [.agg [.str x.1, .str x.2], .agg [.str y.1, .str y.2]] h = some (.bool (lessK x y), h) := by
  have l1 : ∀ a b : Tx, aBin .lss .plain (.str a) (.str b) = some (.bool (lt a b)) := fun _ _ => rfl
  have n1 : aBin .neq .plain (.str x.1) (.str y.1) = some (.bool (x.1 != y.1)) := bin_str_neq _ _
  rw [c29]
  unfold lessK
  by_cases h1 : x.1 = y.1
  · have e : (x.1 != y.1) = false := by simp [h1]
    rw [if_pos h1]
    simp only [S29, cellsQ_agg, Option.bind_some, rdL_z, rdL_t, rdL_s, Option.map_some, from_one, n1, e, cond_bool, cond_false, l1, ans_one]
  · have e : (x.1 != y.1) = true := by simp [h1]
    rw [if_neg h1]
    simp only [S29, cellsQ_agg, Option.bind_some, rdL_z, rdL_t, rdL_s, Option.map_some, from_one, n1, e, cond_bool, cond_true, l1, ans_one]

theorem refPos_ok {s : AVal} {h : Heap} {P : List Cd} (S : SrcC s h P) (hl : P.length ≤ 1000) (x : Cd) (y2 y3 y4 : AVal) :
    ∀ j : Nat, j ≤ P.length → loop (L20_1 (E tbl)) [s, .int .i64 j, y2, y3, y4, .agg x.cells] h = some (1, [s, .int .i64 (posI lessC noCd x P j : Nat), y2, y3, y4, .agg x.cells], h)
  | 0, _ => by
    refine loop_done ?_
    simp [L20_1, posI]
  | j + 1, hj => by
    have ih := refPos_ok S hl x y2 y3 y4 j (by omega)
    have j0 : decide (((j + 1 : Nat) : Int) > 0) = true := decide_eq_true (by omega)
    have wj : IntKind.i64.wrap (((j + 1 : Nat) : Int) - 1) = (j : Int) := by rw [IntWalk.i64_in _ (by omega)]; omega
    obtain ⟨p, e1, e2, e3⟩ := SrcC.keyAt S j (by omega)
    have hg : P.getD j noCd = P[j] := by rw [List.getD_eq_getElem?_getD, List.getElem?_eq_getElem (by omega)]; rfl
    have hp : posI lessC noCd x P (j + 1) = if lessC x P[j] then posI lessC noCd x P j else j + 1 := by
      show (if lessC x (P.getD j noCd) then posI lessC noCd x P j else j + 1) = _
      rw [hg]
    generalize P[j] = y at *
    have hb : E tbl 29 [.agg [.str x.a, .str x.i], .agg [.str y.a, .str y.i]] h = some (.bool (lessC x y), h) := before_ok x.key y.key h
    rw [hp]
    cases hq : lessC x y with
    | true =>
      rw [hq] at hb
      refine (loop_more (xs' := [s, .int .i64 j, y2, y3, y4, .agg x.cells]) (h' := h) ?_).trans ih
      simp only [L20_1, List.getD_cons_zero, List.getD_cons_succ, bin_gtr, j0, Option.bind_some, guard_bool, BEq.rfl, cond_true, aggCells_agg, Cd.cells, rdL_s, rdL_t, rdL_z, Option.map_some, from_agg, bin_sub, wj, e1, e2, e3, hb, pick_bool, cond_bool]
    | false =>
      rw [hq] at hb
      refine loop_done ?_
      simp only [L20_1, List.getD_cons_zero, List.getD_cons_succ, bin_gtr, j0, Option.bind_some, guard_bool, BEq.rfl, cond_true, aggCells_agg, Cd.cells, rdL_s, rdL_t, rdL_z, Option.map_some, from_agg, bin_sub, wj, e1, e2, e3, hb, pick_bool, cond_bool, cond_false]
      rfl

theorem refIns_ok {s : AVal} {H : Heap} {n0 : Nat} {P : List Cd} (O : OwnC s H n0 P) (h0 : n0 ≤ H.next) (hl : P.length ≤ 1000) (x : Cd) {row : AVal} {l : List Cd} (R : SrcC row H l) (hll : l.length ≤ 1000) (i : Nat) (hi : i < l.length) (hx : l[i] = x) :
    ∃ s' H', L20_0 (E tbl) [s, row, .int .i64 l.length, .int .i64 i] H = some (0, [s', row, .int .i64 l.length, .int .i64 ((i + 1 : Nat) : Int)], H') ∧ OwnC s' H' n0 (insI lessC noCd P x) ∧ Went H H' := by
  have S : SrcC s H P := O.src
  have lp := refPos_ok S hl x row (.int .i64 l.length) (.int .i64 i) P.length (Nat.le_refl _)
  have hk := posI_le lessC noCd x P P.length
  obtain ⟨k, hkd⟩ : ∃ k, k = posI lessC noCd x P P.length := ⟨_, rfl⟩
  rw [← hkd] at lp hk
  have hins : insI lessC noCd P x = P.take k ++ x :: P.drop k := by unfold insI; rw [← hkd]
  obtain ⟨sa, ea, Sa, _, _⟩ := El.Src.part (E := cdE) S (Fw.Own.room O) none (some k) 0 k rfl rfl (Nat.zero_le _) hk
  obtain ⟨sb, eb, Sb, _, _⟩ := El.Src.part (E := cdE) S (Fw.Own.room O) (some k) none k P.length rfl rfl hk (Nat.le_refl _)
  rw [List.drop_zero, Nat.sub_zero] at Sa
  rw [List.take_of_length_le (by rw [List.length_drop]; exact Nat.le_refl _)] at Sb
  simp only [Option.map_some, Option.map_none] at ea eb
  obtain ⟨h1, d1⟩ : ∃ x, x = (H.res 2).setBlk H.next (some ⟨[], true⟩) := ⟨_, rfl⟩
  have n1 : h1.next = H.next + 2 := by rw [d1]; rfl
  have W1 : Went H h1 := ⟨by omega, fun i hi => by rw [d1, setBlk_ne _ _ (by omega)]; rfl⟩
  have O1 : OwnC (.slice H.next 0 0 0 9 true) h1 H.next [] := ⟨rfl, .inr ⟨H.next, true, rfl, Nat.le_refl _, by omega, by rw [d1, setBlk_same]; rfl⟩⟩
  obtain ⟨s2, h2, e2, O2, K2⟩ := El.Own.app (E := cdE) (bytes := 88) (zero := zCd) O1 (W1.src Sa) (by omega) (by rw [List.length_take]; simp; omega) (by rw [List.length_take]; simp; omega)
  rw [List.nil_append] at O2
  have hk2 := K2.next
  have W2 : Went H h2 := K2.went W1 fun b hb => by cases hb; exact Nat.le_refl _
  have s2ne : ∀ b, slBlk s2 = some b → b ≠ H.next + 1 := by
    intro b hb
    rcases K2.blk b hb with h3 | h3
    · cases h3; omega
    · omega
  obtain ⟨h3, d3⟩ : ∃ y, y = h2.setBlk (H.next + 1) (some ⟨x.cells, true⟩) := ⟨_, rfl⟩
  have n3 : h3.next = h2.next := by rw [d3]; rfl
  have W3 : Went H h3 := ⟨by omega, fun i hi => by rw [d3, setBlk_ne _ _ (by omega)]; exact W2.old i hi⟩
  have O3 : OwnC s2 h3 H.next (P.take k) := Fw.Own.kept O2 (by omega) fun b hb => by rw [d3, setBlk_ne _ _ (s2ne b hb)]
  have S3 : SrcC (.slice (H.next + 1) 0 1 1 9 true) h3 [x] := ⟨rfl, .inr ⟨H.next + 1, 0, 1, true, rfl, by omega, by rw [d3, rd_of (setBlk_same _ _ _) 0 _ (by simp)]; rfl⟩⟩
  obtain ⟨s4, h4, e4, O4, K4⟩ := El.Own.app (E := cdE) (bytes := 88) (zero := zCd) O3 S3 (by omega) (by rw [List.length_take]; simp; omega) (by rw [List.length_take]; simp; omega)
  have hk4 := K4.next
  have W4 : Went H h4 := K4.went W3 fun b hb => (Fw.Own.blk O3 b hb).1
  obtain ⟨s6, h6, e6, O6, K6⟩ := El.Own.app (E := cdE) (bytes := 88) (zero := zCd) O4 (W4.src Sb) (by omega) (by simp; omega) (by simp; omega)
  have W6 : Went H h6 := K6.went W4 fun b hb => (Fw.Own.blk O4 b hb).1
  have ck : checkPairs [(5, some (.lrd 5 0 9)), (4, some (.ef [(5, x.cells)] h1 [(5, x.cells)] h2))] [(5, 4)] = true := by
    simp [checkPairs]
  have i1 : (i : Int) < (l.length : Int) := by omega
  obtain ⟨a, q1, q2⟩ := SrcC.card R i hi
  rw [hx] at q2
  have w1 : IntKind.i64.wrap ((i : Int) + 1) = ((i + 1 : Nat) : Int) := wrap_succ _ (by omega)
  have ln : aLen false s = some (.int .i64 P.length) := S.len
  refine ⟨s6, h6, ?_, ?_, W6⟩
  · have z0 : reps zCd 0 = [] := rfl
    simp only [Cd.cells] at q2 lp ck d3
    simp only [L20_0, List.getD_cons_zero, List.getD_cons_succ, bin_lss, i1, decide_true, Option.bind_some, cond_bool, cond_true, q1, q2, from_agg, aCells_agg, List.length_cons, List.length_nil, Nat.zero_add, Nat.reduceAdd, if_true, ble_dec, Nat.le_refl, spl_c, spl_z, ln, lp, nat_beq11, z0, fill_nil, ea, Nat.add_zero, ← d1, e2, aggCells_agg, rdL_t, rdL_z, Option.map_some, reps_one, fill_cons, ← d3, e4, eb, e6, ck, bin_add, w1]
  · have : OwnC s6 h6 H.next (insI lessC noCd P x) := by
      rw [hins]
      have e : P.take k ++ [x] ++ P.drop k = P.take k ++ x :: P.drop k := by simp
      rw [← e]; exact O6
    exact Fw.Own.base this h0

theorem refSort_ok {row : AVal} {h : Heap} {l : List Cd} (R : SrcC row h l) (hl : l.length ≤ 1000) :
    ∃ o H, E tbl 20 [row] h = some (o, H) ∧ OwnC o H h.next (sortI lessC noCd l) ∧ Went h H := by
  have key := loop_ok (f := L20_0 (E tbl)) (fun m xs G => ∃ (n : Nat) (o : AVal), m + n = l.length ∧ OwnC o G h.next (sortI lessC noCd (l.take n)) ∧ Went h G ∧ xs = [o, row, .int .i64 l.length, .int .i64 n])
    (fun r => ∃ G o, r = (1, [o], G) ∧ OwnC o G h.next (sortI lessC noCd l) ∧ Went h G) ?_ l.length _ h ⟨0, .nilSlice, rfl, Fw.Own.nil _ _ _, Went.refl _, rfl⟩
  · obtain ⟨r, e, G, o, rfl, a, b⟩ := key
    simp only [Int.cast_ofNat_Int] at e
    refine ⟨o, G, ?_, a, b⟩
    have ln : aLen false row = some (.int .i64 l.length) := R.len
    rw [c20]
    simp only [S20, ln, Option.bind_some, e, nat_beq11, cond_true, List.getD_cons_zero, ans_one]
  · rintro m xs G ⟨n, o, m1, O, W, rfl⟩
    by_cases h1 : n < l.length
    · left
      obtain ⟨o', G', e1, O', W'⟩ := refIns_ok O W.next (by rw [sortI_len, List.length_take]; omega) l[n] (W.src R) hl n h1 rfl
      refine ⟨_, G', e1, m - 1, by omega, n + 1, o', by omega, ?_, W.trans W', rfl⟩
      rw [List.take_add_one, List.getElem?_eq_getElem h1]
      show OwnC o' G' h.next (sortI lessC noCd (l.take n ++ [l[n]]))
      rw [sortI_snoc]
      exact O'
    · right
      obtain rfl : n = l.length := by omega
      rw [List.take_length] at O
      exact ⟨0, _, G, by simp [L20_0], G, o, rfl, O, W⟩
end Go.Proofs.Ytllogmedpmanoaa.Code
