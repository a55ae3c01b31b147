/- Chapter 17: QueueOrder, QueueRows. -/
import Derived.Test.YthnilenennobeaaLosts
namespace Go.Proofs.Ythnilenennobeaa.Code
set_option linter.unusedSimpArgs false
set_option linter.unusedVariables false
open Go.Fw

theorem addUp_R (q : Q) (c : Cd) : ∀ n, n ≤ q.R.length → (q.addUp c n).R = (q.R.take n).map (fun r => rowAdd r c) ++ q.R.drop n
  | 0, _ => by simp [Q.addUp]
  | n + 1, h => by
    have ih := addUp_R q c n (by omega)
    have hl : ((q.R.take n).map fun r => rowAdd r c).length = n := by rw [List.length_map, List.length_take]; omega
    rw [Q.addUp, Q.addAt]
    show ((q.addUp c n).R.set n (rowAdd ((q.addUp c n).R.getD n []) c)) = _
    rw [ih, List.drop_eq_getElem_cons (by omega : n < q.R.length)]
    rw [List.getD_eq_getElem?_getD, List.getElem?_append_right (by omega), hl, Nat.sub_self, List.getElem?_cons_zero, Option.getD_some, List.set_append_right _ _ (by omega), hl, Nat.sub_self, List.set_cons_zero, List.take_add_one, List.getElem?_eq_getElem (by omega), List.map_append]
    simp
theorem add1_R (q : Q) (c : Cd) : (q.add1 c).R = q.R.map fun r => rowAdd r c := by
  unfold Q.add1
  rw [addUp_R q c _ (Nat.le_refl _)]
  simp
def rowAll (r : List Cd) (l : List Cd) : List Cd := l.foldl rowAdd r
theorem addAll_R : ∀ (l : List Cd) (q : Q), (q.addAll l).R = q.R.map fun r => rowAll r l
  | [], q => by simp [Q.addAll, rowAll]
  | c :: l, q => by
    show ((q.add1 c).addAll l).R = _
    rw [addAll_R l (q.add1 c), add1_R, List.map_map]
    rfl

theorem Q.eta (q : Q) : q = ⟨q.P, q.R, q.lost⟩ := rfl

structure Both (h G : Heap) (pa pb : Nat) (q1 q2 : Q) (F : Foot) (ps rs : AVal) (S : List AVal) (F' : Foot) (ps' rs' : AVal) (S' : List AVal) : Prop where
  za : QIn true pa G q1 F ps rs S
  zb : QIn true pb G q2 F' ps' rs' S'
  apart : ∀ b, F b → ¬ F' b
section
variable {h G : Heap} {pa pb : Nat} {q1 q2 : Q} {F : Foot} {ps rs : AVal} {S : List AVal} {F' : Foot} {ps' rs' : AVal} {S' : List AVal}
theorem Both.a (P : Both h G pa pb q1 q2 F ps rs S F' ps' rs' S') {G2 : Heap} {q : Q} {F2 : Foot} {S2 : List AVal} (Z : QIn true pa G2 q F2 ps rs S2) (M : Mv F F2 G G2) : Both h G2 pa pb q q2 F2 ps rs S2 F' ps' rs' S' where
  za := Z
  zb := P.zb.mono M.next fun b hb => M.old b (P.zb.flt b hb) fun hf => P.apart b hf hb
  apart := M.apart P.zb.flt P.apart
theorem Both.b (P : Both h G pa pb q1 q2 F ps rs S F' ps' rs' S') {G2 : Heap} {q : Q} {F2 : Foot} {S2 : List AVal} (Z : QIn true pb G2 q F2 ps' rs' S2) (M : Mv F' F2 G G2) : Both h G2 pa pb q1 q F ps rs S F2 ps' rs' S2 where
  za := P.za.mono M.next fun b hb => M.old b (P.za.flt b hb) (P.apart b hb)
  zb := Z
  apart := fun b hf hf' => M.apart P.za.flt (fun b h1 h2 => P.apart b h2 h1) b hf' hf
theorem Both.w (P : Both h G pa pb q1 q2 F ps rs S F' ps' rs' S') {G2 : Heap} (hn : G.next ≤ G2.next) (ho : ∀ b, F b ∨ F' b → G2.blk b = G.blk b) : Both h G2 pa pb q1 q2 F ps rs S F' ps' rs' S' where
  za := P.za.mono hn fun b hb => ho b (.inl hb)
  zb := P.zb.mono hn fun b hb => ho b (.inr hb)
  apart := P.apart
end

theorem place12 : place [1, 2] 1 = 0 ∧ place [1, 2] 2 = 1 ∧ place [2] 2 = 0 ∧ place [1] 1 = 0 := by decide +kernel

theorem len_at (q : Q) (k : Int) (i : Nat) (h : place q.P k = (i : Int)) : q.len k = ((q.R.getD i []).length : Int) := by unfold Q.len; rw [h]
theorem taken_at (q : Q) (k : Int) (i : Nat) (h : place q.P k = (i : Int)) : q.taken k = (q.R.getD i []).take 4 := by unfold Q.taken; rw [h]
theorem take_at (q : Q) (k : Int) (i : Nat) (h : place q.P k = (i : Int)) : q.take k = ⟨q.P, q.R.set i ((q.R.getD i []).drop 4), q.lost⟩ := by unfold Q.take; rw [h]

theorem rows_takes {p : Nat} {H : Heap} {r1 r2 : List Cd} {lost : Int} {F : Foot} {ps rs : AVal} {S : List AVal} (Z : QIn true p H ⟨[1, 2], [r1, r2], lost⟩ F ps rs S) (a : Int) (y : AVal) :
    ∃ H' S' F' r, loop (L6_0 (E tbl)) [.int .i64 a, .ptr p 0, y, .int .i64 0] H = some (1, [.ptr p 0, y], H') ∧ QIn true p H' ⟨[1, 2], [r, r2], lost⟩ F' ps rs S' ∧ Mv F F' H H' := by
  have wi := within_in a 0 5 (by omega)
  obtain ⟨t, ht⟩ : ∃ t : Nat, within a 0 5 = (t : Int) := ⟨(within a 0 5).toNat, by omega⟩
  have key := loop_ok (f := L6_0 (E tbl)) (fun m xs G => ∃ (n : Nat) (S' : List AVal) (F' : Foot) (r : List Cd), m + n = t ∧ QIn true p G ⟨[1, 2], [r, r2], lost⟩ F' ps rs S' ∧ Mv F F' H G ∧ xs = [.int .i64 a, .ptr p 0, y, .int .i64 n])
    (fun x => ∃ G S' F' r, x = (1, [.ptr p 0, y], G) ∧ QIn true p G ⟨[1, 2], [r, r2], lost⟩ F' ps rs S' ∧ Mv F F' H G) ?_ t _ H ⟨0, S, F, r1, rfl, Z, Mv.refl _ _, rfl⟩
  · obtain ⟨x, e, G, S', F', r, rfl, a1, b1⟩ := key
    exact ⟨G, S', F', r, e, a1, b1⟩
  · rintro m xs G ⟨n, S', F', r, m1, Z', M', rfl⟩
    have ew := within_ok a 0 5 G (by omega) (by omega) (by omega)
    rw [ht] at ew
    by_cases h1 : n < t
    · left
      have i1 : (n : Int) < (t : Int) := by omega
      have w1 : IntKind.i64.wrap ((n : Int) + 1) = ((n + 1 : Nat) : Int) := wrap_succ _ (by omega)
      obtain ⟨o, G2, S2, F2, e2, _, Z2, M2, _⟩ := take_ok Z' 1
      have htq : (Q.mk [1, 2] [r, r2] lost).take 1 = ⟨[1, 2], [r.drop 4, r2], lost⟩ := take_at ⟨[1, 2], [r, r2], lost⟩ 1 0 place12.1
      rw [htq] at Z2
      refine ⟨_, G2, ?_, m - 1, by omega, n + 1, S2, F2, r.drop 4, by omega, Z2, M'.trans M2, rfl⟩
      simp only [L6_0, List.getD_cons_zero, List.getD_cons_succ, ew, Option.bind_some, bin_lss, i1, decide_true, cond_bool, cond_true, e2, bin_add, w1]
    · right
      obtain rfl : n = t := by omega
      refine ⟨0, _, G, ?_, G, S', F', r, rfl, Z', M'⟩
      have i1 : ¬ (n : Int) < (n : Int) := by omega
      simp only [L6_0, List.getD_cons_zero, List.getD_cons_succ, ew, Option.bind_some, bin_lss, i1, decide_false, cond_bool, cond_false]

theorem two_takes {h G : Heap} {pa pb : Nat} {r1 r : List Cd} {x1 x2 : Int} {F : Foot} {ps rs : AVal} {S : List AVal} {F' : Foot} {ps' rs' : AVal} {S' : List AVal} (P : Both h G pa pb ⟨[1, 2], [r1, r], x1⟩ ⟨[2], [r], x2⟩ F ps rs S F' ps' rs' S') :
    ∃ G2 F2 S2, loop (L6_1 (E tbl)) [.ptr pa 0, .ptr pb 0, .int .i64 0] G = some (1, [.ptr pa 0], G2) ∧ QIn true pa G2 ⟨[1, 2], [r1, r.drop 20], x1⟩ F2 ps rs S2 := by
  have key := loop_ok (f := L6_1 (E tbl)) (fun m xs K => ∃ (n : Nat) (F : Foot) (S : List AVal) (F' : Foot) (S' : List AVal), m + n = 5 ∧ Both h K pa pb ⟨[1, 2], [r1, r.drop (4 * n)], x1⟩ ⟨[2], [r.drop (4 * n)], x2⟩ F ps rs S F' ps' rs' S' ∧ xs = [.ptr pa 0, .ptr pb 0, .int .i64 n])
    (fun x => ∃ K F2 S2, x = (1, [.ptr pa 0], K) ∧ QIn true pa K ⟨[1, 2], [r1, r.drop 20], x1⟩ F2 ps rs S2) ?_ 5 _ G ⟨0, F, S, F', S', rfl, by simpa using P, rfl⟩
  · obtain ⟨x, e, K, F2, S2, rfl, Z⟩ := key
    exact ⟨K, F2, S2, e, Z⟩
  · rintro m xs K ⟨n, F, S, F', S', m1, P, rfl⟩
    by_cases h1 : n < 5
    · left
      have i1 : (n : Int) < 5 := by omega
      have w1 : IntKind.i64.wrap ((n : Int) + 1) = ((n + 1 : Nat) : Int) := wrap_succ _ (by omega)
      have l1 := len_eq P.za 2
      have l2 := len_eq P.zb 2
      have h12 : (Q.mk [1, 2] [r1, r.drop (4 * n)] x1).len 2 = ((r.drop (4 * n)).length : Int) := len_at ⟨[1, 2], [r1, r.drop (4 * n)], x1⟩ 2 1 place12.2.1
      have h2' : (Q.mk [2] [r.drop (4 * n)] x2).len 2 = ((r.drop (4 * n)).length : Int) := len_at ⟨[2], [r.drop (4 * n)], x2⟩ 2 0 place12.2.2.1
      rw [h12] at l1
      rw [h2'] at l2
      obtain ⟨o1, K1, Sa, Fa, e1, O1, Za, Ma, na⟩ := take_ok P.za 2
      have P1 := P.a Za Ma
      obtain ⟨o2, K2, Sb, Fb, e2, O2, Zb, Mb, nb⟩ := take_ok P1.zb 2
      have P2 := P1.b Zb Mb
      have t1 : (Q.mk [1, 2] [r1, r.drop (4 * n)] x1).taken 2 = (r.drop (4 * n)).take 4 := taken_at ⟨[1, 2], [r1, r.drop (4 * n)], x1⟩ 2 1 place12.2.1
      have t2 : (Q.mk [2] [r.drop (4 * n)] x2).taken 2 = (r.drop (4 * n)).take 4 := taken_at ⟨[2], [r.drop (4 * n)], x2⟩ 2 0 place12.2.2.1
      have u1 : (Q.mk [1, 2] [r1, r.drop (4 * n)] x1).take 2 = ⟨[1, 2], [r1, r.drop (4 * (n + 1))], x1⟩ := by
        have h := take_at ⟨[1, 2], [r1, r.drop (4 * n)], x1⟩ 2 1 place12.2.1
        have h2 : Q.mk [1, 2] [r1, (r.drop (4 * n)).drop 4] x1 = ⟨[1, 2], [r1, r.drop (4 * (n + 1))], x1⟩ := by rw [List.drop_drop]; rfl
        exact h.trans h2
      have u2 : (Q.mk [2] [r.drop (4 * n)] x2).take 2 = ⟨[2], [r.drop (4 * (n + 1))], x2⟩ := by
        have h := take_at ⟨[2], [r.drop (4 * n)], x2⟩ 2 0 place12.2.2.1
        have h2 : Q.mk [2] [(r.drop (4 * n)).drop 4] x2 = ⟨[2], [r.drop (4 * (n + 1))], x2⟩ := by rw [List.drop_drop]; rfl
        exact h.trans h2
      rw [t1] at O1
      rw [t2] at O2
      rw [u1, u2] at P2
      have L1 : SrcC o1 K2 ((r.drop (4 * n)).take 4) := (Fw.Own.kept O1 Mb.next fun b hb => Mb.old b (O1.blk b hb).2 fun hf => by
        have := P.zb.flt b hf; have := (O1.blk b hb).1; omega).src
      have e3 := same_eq L1 O2.src (by rw [List.length_take]; omega)
      refine ⟨_, K2, ?_, m - 1, by omega, n + 1, Fa, Sa, Fb, Sb, by omega, P2, rfl⟩
      simp [L6_1, i1, l1, l2, e1, e2, e3, w1]
    · right
      obtain rfl : n = 5 := by omega
      exact ⟨0, _, K, by simp [L6_1], K, F, S, rfl, P.za⟩

theorem queueRows_true (h0 : Heap) {s : AVal} {l : List Int} (I : Ints .i64 s h0 l) (lt : ∀ b, slBlk s = some b → b < h0.next) (_ : ∀ x ∈ l, (Lit.int .i64 x).wf = true) (sz : l.length * 8 ≤ 140737488355328) (tk : Int) (_ : (Lit.int .i64 tk).wf = true) : ∃ h', E tbl 6 [s, .int .i64 tk] h0 = some (.bool true, h') := by
  have T0 : Fw.Tape h0.next s l (h0.alloc [s, .int .i64 0]) := Tape.make I lt (by omega)
  have W0 : Went h0 (h0.alloc [s, .int .i64 0]) := Went.alloc _ _
  obtain ⟨H0, hH0⟩ : ∃ H0, H0 = h0.alloc [s, .int .i64 0] := ⟨_, rfl⟩
  have hn0 : H0.next = h0.next + 1 := by rw [hH0]; rfl
  rw [← hH0] at T0 W0
  obtain ⟨G1, F, ps, rs, S, e1, Z1, W1, f1⟩ := new_ok (Ints.lit .i64 H0 [1, 2] 2 rfl true) (fun b hb => by cases hb; simp) (by simp)
  have V1 : Went H0 G1 := (Went.alloc H0 (([1, 2] : List Int).map (.int .i64))).trans W1
  obtain ⟨G2, F', ps', rs', S', e2, Z2, W2, f2⟩ := new_ok (Ints.lit .i64 G1 [2] 1 rfl true) (fun b hb => by cases hb; simp) (by simp)
  have V2 : Went G1 G2 := (Went.alloc G1 (([2] : List Int).map (.int .i64))).trans W2
  have hF1 : ∀ b, F b → H0.next < b := fun b hb => by have := f1 b hb; simp at this; omega
  have hF2 : ∀ b, F' b → G1.next < b := fun b hb => by have := f2 b hb; simp at this; omega
  have P : Both h0 G2 _ _ (Q.new [1, 2]) (Q.new [2]) F ps rs S F' ps' rs' S' := ⟨Z1.mono V2.next fun b hb => V2.old b (Z1.flt b hb), Z2, fun b hb hb' => by have := Z1.flt b hb; have := hF2 b hb'; omega⟩
  have T2 : Fw.Tape h0.next s l G2 := (T0.mono V1.next V1.old).mono V2.next V2.old
  have hT := T0.lt
  obtain ⟨o, cs, G3, e3, O3, hl, T3, On3⟩ := cards_ok T2 12 (by omega)
  have P3 : Both h0 G3 _ _ (Q.new [1, 2]) (Q.new [2]) F ps rs S F' ps' rs' S' := P.w On3.next fun b hb => On3.old b (hb.elim (P.za.flt b) (P.zb.flt b)) fun e => by
    rcases hb with hb | hb
    · have := hF1 b hb; omega
    · have := hF2 b hb; have := V1.next; omega
  have hob : ∀ b, slBlk o = some b → ¬ F b ∧ ¬ F' b := fun b hb => by
    have := (O3.blk b hb).1
    exact ⟨fun hf => by have := P.za.flt b hf; omega, fun hf => by have := P.zb.flt b hf; omega⟩
  obtain ⟨G4, S4, F4, e4, Z4, M4⟩ := addAll_ok P3.za O3.src (by omega) fun b hb => (hob b hb).1
  have P4 := P3.a Z4 M4
  have L4 : SrcC o G4 cs := Fw.Src.kept O3.src M4.next fun b hb => M4.old b (O3.blk b hb).2 (hob b hb).1
  obtain ⟨G5, S5, F5, e5, Z5, M5⟩ := addAll_ok P4.zb L4 (by omega) fun b hb => (hob b hb).2
  have P5 := P4.b Z5 M5
  have q1 : (Q.new [1, 2]).addAll cs = ⟨[1, 2], [rowAll [] cs, rowAll [] cs], ((Q.new [1, 2]).addAll cs).lost⟩ := by
    have h1 := addAll_R cs (Q.new [1, 2])
    have h2 := addAll_P cs (Q.new [1, 2])
    rw [Q.eta ((Q.new [1, 2]).addAll cs), h1, h2]; rfl
  have q2 : (Q.new [2]).addAll cs = ⟨[2], [rowAll [] cs], ((Q.new [2]).addAll cs).lost⟩ := by
    have h1 := addAll_R cs (Q.new [2])
    have h2 := addAll_P cs (Q.new [2])
    rw [Q.eta ((Q.new [2]).addAll cs), h1, h2]; rfl
  rw [q1, q2] at P5
  generalize hx1 : ((Q.new [1, 2]).addAll cs).lost = x1 at P5
  generalize hx2 : ((Q.new [2]).addAll cs).lost = x2 at P5
  obtain ⟨G6, S6', F6, r, e6, Z6, M6⟩ := rows_takes P5.za tk (.ptr (G1.alloc (([2] : List Int).map (.int .i64))).next 0)
  have P6 := P5.a Z6 M6
  obtain ⟨G7, F7, S7', e7, Z7⟩ := two_takes P6
  have e8 := len_eq Z7 2
  have hm : (rowAll [] cs).length ≤ 16 := P5.za.most 1
  have h12 : (Q.mk [1, 2] [r, (rowAll [] cs).drop 20] x1).len 2 = 0 := by
    have h := len_at ⟨[1, 2], [r, (rowAll [] cs).drop 20], x1⟩ 2 1 place12.2.1
    have h2 : ((((rowAll [] cs).drop 20).length : Nat) : Int) = 0 := by rw [List.drop_of_length_le (by omega)]; rfl
    exact h.trans h2
  rw [h12] at e8
  obtain ⟨H, e9, _⟩ := known_ok G7
  refine ⟨H, ?_⟩
  have f2' : aFill (reps [.int .i64 0] 2) [(0, 1, (.int .i64 1)), (1, 1, (.int .i64 2))] = some [.int .i64 1, .int .i64 2] := rfl
  have f1' : aFill (reps [.int .i64 0] 1) [(0, 1, (.int .i64 2))] = some [.int .i64 2] := rfl
  have f0 : aFill [.nilSlice, .int .i64 0] [(0, 1, s)] = some [s, .int .i64 0] := by simp [I.cell]
  simp only [List.map_cons, List.map_nil] at e1 e2 e4 e5 e6 e7 e8
  simp only [Int.cast_ofNat_Int] at e3
  rw [c6]
  simp only [S6, f0, Option.bind_some, cellsQ_agg, f2', ← hH0, e1, f1', e2, bin_ptr_nil, guard_bool, show (false == false) = true from rfl, cond_true, pick_bool, cond_false, List.getD_cons_zero, cond_bool, e3, e4, e5, e6, beq_dec, decide_true, List.getD_cons_succ, e7, e8, bin_eql, beq_self_eq_true, e9, ans_one]
end Go.Proofs.Ythnilenennobeaa.Code
namespace Go.Proofs.Ythnilenennobeaa.Code
set_option linter.unusedSimpArgs false
set_option linter.unusedVariables false
open Go.Fw

/-- Of each key the last, in order. -/
def lastsC : List Cd → List Cd
  | [] => []
  | c :: r => if (r.all fun x => !decide (x.key = c.key)) then c :: lastsC r else lastsC r
theorem lastsC_cons (c : Cd) (r : List Cd) : lastsC (c :: r) = if (r.all fun x => !decide (x.key = c.key)) then c :: lastsC r else lastsC r := rfl
theorem lastsC_len : ∀ l, (lastsC l).length ≤ l.length
  | [] => by simp [lastsC]
  | c :: r => by
    have := lastsC_len r
    unfold lastsC
    split <;> simp <;> omega
theorem lastsC_snoc : ∀ (l : List Cd) (c : Cd), lastsC (l ++ [c]) = (lastsC l).filter (fun x => !decide (x.key = c.key)) ++ [c]
  | [], c => by simp [lastsC]
  | x :: r, c => by
    rw [List.cons_append]
    have ih := lastsC_snoc r c
    unfold lastsC
    rw [ih]
    by_cases h1 : (r.all fun y => !decide (y.key = x.key)) = true
    · by_cases h2 : c.key = x.key
      · have h3 : ((r ++ [c]).all fun y => !decide (y.key = x.key)) = false := by
          rw [List.all_append]; simp [h2]
        rw [if_neg (by rw [h3]; simp), if_pos h1, List.filter_cons]
        simp [h2]
      · have h3 : ((r ++ [c]).all fun y => !decide (y.key = x.key)) = true := by
          rw [List.all_append, h1]; simp [h2]
        have h4 : ¬ x.key = c.key := fun e => h2 e.symm
        rw [if_pos h3, if_pos h1, List.filter_cons]
        simp [h4]
    · have h3 : ¬ ((r ++ [c]).all fun y => !decide (y.key = x.key)) = true := by
        rw [List.all_append, Bool.and_eq_true]
        exact fun h => h1 h.1
      rw [if_neg h3, if_neg h1]
theorem rowAll_snoc (r l : List Cd) (c : Cd) : rowAll r (l ++ [c]) = rowAdd (rowAll r l) c := by simp [rowAll]
/-- With few cards the row is that, and none is lost. -/
theorem few_row : ∀ (n : Nat) (l : List Cd), l.length = n → n ≤ 16 → rowAll [] l = lastsC l ∧ ((Q.new [1]).addAll l) = ⟨[1], [lastsC l], 0⟩
  | 0, l, hl, _ => by
    have : l = [] := List.length_eq_zero_iff.1 hl
    subst this
    exact ⟨rfl, rfl⟩
  | n + 1, l, hl, hn => by
    obtain ⟨l', c, rfl⟩ : ∃ l' c, l = l' ++ [c] := ⟨l.dropLast, l.getLast (by intro e; rw [e] at hl; simp at hl), (List.dropLast_concat_getLast _).symm⟩
    obtain ⟨h1, h2⟩ := few_row n l' (by simpa using hl) (by omega)
    have hin : rowIn (lastsC l') c = lastsC (l' ++ [c]) := by rw [lastsC_snoc]; rfl
    have hlen : ¬ 16 < (rowIn (lastsC l') c).length := by
      rw [hin]
      have := lastsC_len (l' ++ [c])
      omega
    constructor
    · rw [rowAll_snoc, h1]
      unfold rowAdd
      rw [if_neg hlen, hin]
    · rw [addAll_snoc, h2]
      show Q.mk _ _ _ = _
      simp only [List.length_singleton, Q.addUp, Q.addAt, List.getD_cons_zero, List.set_cons_zero, rowAdd, lostOf]
      rw [if_neg hlen, if_neg hlen, hin]

theorem got_loop {p : Nat} {G : Heap} {r : List Cd} {F : Foot} {ps rs : AVal} {S : List AVal} {o : AVal} {cs : List Cd} (Z : QIn true p G ⟨[1], [r], 0⟩ F ps rs S) (hr : r.length ≤ 16) (O : SrcC o G cs) (ho : ∀ b, slBlk o = some b → ¬ F b) :
    ∃ K g F2 S2, loop (L5_0 (E tbl)) [o, .ptr p 0, .nilSlice, .int .i64 0] G = some (1, [o, .ptr p 0, g], K) ∧ QIn true p K ⟨[1], [r.drop 24], 0⟩ F2 ps rs S2 ∧ SrcC g K r ∧ SrcC o K cs := by
  have key := loop_ok (f := L5_0 (E tbl)) (fun m xs K => ∃ (n : Nat) (g : AVal) (F : Foot) (S : List AVal), m + n = 6 ∧ QIn true p K ⟨[1], [r.drop (4 * n)], 0⟩ F ps rs S ∧ OwnC g K G.next (r.take (4 * n)) ∧ (∀ b, slBlk g = some b → ¬ F b) ∧ SrcC o K cs ∧ (∀ b, slBlk o = some b → ¬ F b) ∧ (∀ b, slBlk o = some b → slBlk g ≠ some b) ∧ G.next ≤ K.next ∧ xs = [o, .ptr p 0, g, .int .i64 n])
    (fun x => ∃ K g F2 S2, x = (1, [o, .ptr p 0, g], K) ∧ QIn true p K ⟨[1], [r.drop 24], 0⟩ F2 ps rs S2 ∧ SrcC g K r ∧ SrcC o K cs) ?_ 6 _ G ⟨0, .nilSlice, F, S, rfl, by simpa using Z, Fw.Own.nil _ _ _, (fun b hb => by cases hb), O, ho, (fun b _ e => by cases e), Nat.le_refl _, rfl⟩
  · obtain ⟨x, e, K, g, F2, S2, rfl, a⟩ := key
    exact ⟨K, g, F2, S2, e, a⟩
  · rintro m xs K ⟨n, g, F, S, m1, ZK, Og, hgF, OK, hoF, hog, hGK, rfl⟩
    by_cases h1 : n < 6
    · left
      have i1 : (n : Int) < 6 := by omega
      have w1 : IntKind.i64.wrap ((n : Int) + 1) = ((n + 1 : Nat) : Int) := wrap_succ _ (by omega)
      obtain ⟨x, K1, S1, F1, e1, O1, Z1, M1, n1⟩ := take_ok ZK 1
      have t1 := taken_at ⟨[1], [r.drop (4 * n)], 0⟩ 1 0 place12.2.2.2
      have t1' : (Q.mk [1] [r.drop (4 * n)] 0).taken 1 = (r.drop (4 * n)).take 4 := t1
      have u1 : (Q.mk [1] [r.drop (4 * n)] 0).take 1 = ⟨[1], [r.drop (4 * (n + 1))], 0⟩ := by
        have h := take_at ⟨[1], [r.drop (4 * n)], 0⟩ 1 0 place12.2.2.2
        have h2 : Q.mk [1] [(r.drop (4 * n)).drop 4] 0 = ⟨[1], [r.drop (4 * (n + 1))], 0⟩ := by rw [List.drop_drop]; rfl
        exact h.trans h2
      rw [t1'] at O1
      rw [u1] at Z1
      have lx := O1.src.len
      have i4 : ¬ (4 : Int) < (((r.drop (4 * n)).take 4).length : Int) := by rw [List.length_take]; omega
      have Og1 : OwnC g K1 G.next (r.take (4 * n)) := Fw.Own.kept Og M1.next fun b hb => M1.old b (Og.blk b hb).2 (hgF b hb)
      obtain ⟨g', K2, e2, O2, K2k⟩ := El.Own.app (E := cdE) (bytes := 88) (zero := czero) Og1 O1.src (by have := M1.next; omega) (by rw [List.length_take, List.length_take]; omega) (by rw [List.length_take, List.length_take]; omega)
      have hcat : r.take (4 * n) ++ (r.drop (4 * n)).take 4 = r.take (4 * (n + 1)) := by
        rw [← List.take_add]; rfl
      rw [hcat] at O2
      have hgF1 : ∀ b, slBlk g = some b → ¬ F1 b := fun b hb hf => (M1.new b hf).elim (hgF b hb) fun h => by have := (Og.blk b hb).2; omega
      have hoF1 : ∀ b, slBlk o = some b → ¬ F1 b := fun b hb hf => (M1.new b hf).elim (hoF b hb) fun h => by have := OK.blk b hb; omega
      have OK1 : SrcC o K1 cs := Fw.Src.kept OK M1.next fun b hb => M1.old b (OK.blk b hb) (hoF b hb)
      have Z2 : QIn true p K2 ⟨[1], [r.drop (4 * (n + 1))], 0⟩ F1 ps rs S1 := Z1.mono K2k.next fun b hb => K2k.old b (Z1.flt b hb) fun e => hgF1 b e hb
      have hg' : ∀ b, slBlk g' = some b → ¬ F1 b := fun b hb hf => (K2k.blk b hb).elim (fun h => hgF1 b h hf) fun h => by have := Z1.flt b hf; omega
      have OK2 : SrcC o K2 cs := Fw.Src.kept OK1 K2k.next fun b hb => K2k.old b (OK1.blk b hb) (hog b hb)
      refine ⟨_, K2, ?_, m - 1, by omega, n + 1, g', F1, S1, by omega, Z2, O2, hg', OK2, hoF1, fun b hb e => (K2k.blk b e).elim (hog b hb) fun h => by have := OK1.blk b hb; omega, by have := M1.next; have := K2k.next; omega, rfl⟩
      generalize ((r.drop (4 * n)).take 4).length = z at lx i4
      simp only [L5_0, List.getD_cons_zero, List.getD_cons_succ, bin_lss, i1, decide_true, Option.bind_some, cond_bool, cond_true, e1, lx, bin_gtr, gt_iff_lt, i4, decide_false, cond_false, e2, bin_add, w1]
    · right
      obtain rfl : n = 6 := by omega
      have : r.take (4 * 6) = r := List.take_of_length_le (by omega)
      rw [this] at Og
      exact ⟨0, _, K, by simp [L5_0], K, g, F, S, rfl, ZK, Og.src, OK⟩

/-- Is there no later one of the key? -/
theorem later_loop {o : AVal} {G : Heap} {cs : List Cd} (O : SrcC o G cs) (hl : cs.length ≤ 1000) (i : Nat) (hi : i < cs.length) (x1 x2 x3 y1 y2 : AVal) :
    loop (L5_2 (E tbl)) [o, x1, x2, x3, .int .i64 i, .bool true, .int .i64 ((i + 1 : Nat) : Int), y1, y2] G = some (1, [o, x1, x2, x3, .int .i64 i, .bool ((cs.drop (i + 1)).all fun x => !decide (x.key = cs[i].key)), y1, y2], G) := by
  have ln := O.len
  have key := loop_ok (f := L5_2 (E tbl)) (fun m xs K => ∃ k : Nat, K = G ∧ m + k = cs.length ∧ i + 1 ≤ k ∧ xs = [o, x1, x2, x3, .int .i64 i, .bool (((cs.take k).drop (i + 1)).all fun x => !decide (x.key = cs[i].key)), .int .i64 k, y1, y2])
    (fun r => r = (1, [o, x1, x2, x3, .int .i64 i, .bool ((cs.drop (i + 1)).all fun x => !decide (x.key = cs[i].key)), y1, y2], G)) ?_ (cs.length - (i + 1)) _ G ⟨i + 1, rfl, by omega, Nat.le_refl _, by rw [List.drop_of_length_le (by rw [List.length_take]; omega), List.all_nil]⟩
  · obtain ⟨r, e, rfl⟩ := key
    exact e
  · rintro m xs K ⟨k, rfl, m1, hk, rfl⟩
    by_cases h1 : k < cs.length
    · left
      have i1 : (k : Int) < (cs.length : Int) := by omega
      have w1 : IntKind.i64.wrap ((k : Int) + 1) = ((k + 1 : Nat) : Int) := wrap_succ _ (by omega)
      have hst : ((cs.take (k + 1)).drop (i + 1)).all (fun x => !decide (x.key = cs[i].key)) = (((cs.take k).drop (i + 1)).all (fun x => !decide (x.key = cs[i].key)) && !decide (cs[k].key = cs[i].key)) := by
        rw [List.take_add_one, List.getElem?_eq_getElem h1, List.drop_append_of_le_length (by rw [List.length_take]; omega), List.all_append]
        simp
      obtain ⟨a, a1, a2⟩ := O.card k h1
      obtain ⟨b, b1, b2⟩ := O.card i hi
      obtain ⟨ab, ao, rfl, _⟩ := iaddr_ptr a1
      obtain ⟨bb, bo, rfl, _⟩ := iaddr_ptr b1
      have a3 : K.rd ab (ao + 0) 2 = some [.str cs[k].a, .str cs[k].i] := by
        obtain ⟨x, hx, hlx, hcs⟩ := rd_inv (show K.rd ab ao 9 = some cs[k].cells from a2)
        rw [rd_of hx _ _ (by omega), Nat.add_zero]
        have : (x.cells.drop ao).take 2 = ((x.cells.drop ao).take 9).take 2 := by rw [List.take_take]; rfl
        rw [this, ← hcs]; rfl
      have b3 : K.rd bb (bo + 0) 2 = some [.str cs[i].a, .str cs[i].i] := by
        obtain ⟨x, hx, hlx, hcs⟩ := rd_inv (show K.rd bb bo 9 = some cs[i].cells from b2)
        rw [rd_of hx _ _ (by omega), Nat.add_zero]
        have : (x.cells.drop bo).take 2 = ((x.cells.drop bo).take 9).take 2 := by rw [List.take_take]; rfl
        rw [this, ← hcs]; rfl
      have kn := ne_cells cs[k] cs[i]
      have kn2 : decide (¬ cs[k].key = cs[i].key) = !decide (cs[k].key = cs[i].key) := by simp
      rw [kn2] at kn
      refine ⟨_, K, ?_, m - 1, by omega, k + 1, rfl, by omega, by omega, rfl⟩
      rw [hst]
      generalize (((cs.take k).drop (i + 1)).all fun x => !decide (x.key = cs[i].key)) = z
      generalize (!decide (cs[k].key = cs[i].key)) = y at kn
      cases z
      · simp [L5_2, ln, i1, w1]
      · simp only [L5_2, List.getD_cons_zero, List.getD_cons_succ, ln, bin_lss, i1, decide_true, Option.bind_some, cond_bool, cond_true, guard_bool, beq_self_eq_true, a1, faddr_ptr, load_ptr, a3, from_agg, b1, b3, kn, pick_bool, bin_add, w1, Bool.true_and]
    · right
      obtain rfl : k = cs.length := by omega
      rw [List.take_length]
      exact ⟨0, _, K, by simp [L5_2, ln], rfl⟩

theorem want_loop {o : AVal} {G : Heap} {cs : List Cd} (O : SrcC o G cs) (hl : cs.length ≤ 1000) (x1 x2 : AVal) :
    ∃ w K, loop (L5_1 (E tbl)) [o, x1, x2, .nilSlice, .int .i64 cs.length, .int .i64 0] G = some (1, [x1, x2, w], K) ∧ OwnC w K G.next (lastsC cs) ∧ Went G K := by
  have key := loop_ok (f := L5_1 (E tbl)) (fun m xs K => ∃ (i : Nat) (w : AVal) (l : List Cd), m + i = cs.length ∧ OwnC w K G.next l ∧ l.length ≤ i ∧ l ++ lastsC (cs.drop i) = lastsC cs ∧ Went G K ∧ xs = [o, x1, x2, w, .int .i64 cs.length, .int .i64 i])
    (fun r => ∃ w K, r = (1, [x1, x2, w], K) ∧ OwnC w K G.next (lastsC cs) ∧ Went G K) ?_ cs.length _ G ⟨0, .nilSlice, [], rfl, Fw.Own.nil _ _ _, by simp, rfl, Went.refl _, rfl⟩
  · obtain ⟨r, e, w, K, rfl, a⟩ := key
    exact ⟨w, K, e, a⟩
  · rintro m xs K ⟨i, w, l, m1, Ow, hli, hl2, W, rfl⟩
    by_cases h1 : i < cs.length
    · left
      have i1 : (i : Int) < (cs.length : Int) := by omega
      have w1 : IntKind.i64.wrap ((i : Int) + 1) = ((i + 1 : Nat) : Int) := wrap_succ _ (by omega)
      have e1 := later_loop (W.src O) hl i h1 x1 x2 w (.int .i64 cs.length) (.int .i64 i)
      have hd : cs.drop i = cs[i] :: cs.drop (i + 1) := List.drop_eq_getElem_cons h1
      rw [hd, lastsC_cons] at hl2
      by_cases hz : ((cs.drop (i + 1)).all fun x => !decide (x.key = cs[i].key)) = true
      · rw [if_pos hz] at hl2
        rw [hz] at e1
        obtain ⟨a, a1, a2⟩ := SrcC.card (W.src O) i h1
        obtain ⟨w', K2, e2, O2, K2k⟩ := Ow.snoc cs[i] W.next (by omega)
        refine ⟨_, K2, ?_, m - 1, by omega, i + 1, w', l ++ [cs[i]], by omega, O2, by simp; omega, ?_, K2k.went W fun b hb => (Ow.blk b hb).1, rfl⟩
        · simp only [Cd.cells] at a2 e2
          generalize ((i + 1 : Nat) : Int) = z at w1 e1 ⊢
          simp [L5_1, i1, w1, e1, a1, a2, e2, beq_dec]
        · rw [List.append_assoc]
          exact hl2
      · rw [if_neg hz] at hl2
        have hz' : ((cs.drop (i + 1)).all fun x => !decide (x.key = cs[i].key)) = false := by simpa using hz
        rw [hz'] at e1
        refine ⟨_, K, ?_, m - 1, by omega, i + 1, w, l, by omega, Ow, by omega, ?_, W, rfl⟩
        · generalize ((i + 1 : Nat) : Int) = z at w1 e1 ⊢
          simp [L5_1, i1, w1, e1, beq_dec]
        · exact hl2
    · right
      obtain rfl : i = cs.length := by omega
      rw [List.drop_length] at hl2
      have : l = lastsC cs := by simpa [lastsC] using hl2
      subst this
      exact ⟨0, _, K, by simp [L5_1], w, K, rfl, Ow, W⟩

theorem queueOrder_true (h0 : Heap) {s : AVal} {l : List Int} (I : Ints .i64 s h0 l) (lt : ∀ b, slBlk s = some b → b < h0.next) (_ : ∀ x ∈ l, (Lit.int .i64 x).wf = true) (sz : l.length * 8 ≤ 140737488355328) : ∃ h', E tbl 5 [s] h0 = some (.bool true, h') := by
  have T0 : Fw.Tape h0.next s l (h0.alloc [s, .int .i64 0]) := Tape.make I lt (by omega)
  obtain ⟨H0, hH0⟩ : ∃ H0, H0 = h0.alloc [s, .int .i64 0] := ⟨_, rfl⟩
  rw [← hH0] at T0
  obtain ⟨o, cs, G1, e1, O1, hcl, T1, On1⟩ := cards_ok T0 14 (by omega)
  obtain ⟨G2, F, ps, rs, S, e2, Z2, W2, f2⟩ := new_ok (Ints.lit .i64 G1 [1] 1 rfl true) (fun b hb => by cases hb; simp) (by simp)
  have V2 : Went G1 G2 := (Went.alloc G1 (([1] : List Int).map (.int .i64))).trans W2
  have hob : ∀ b, slBlk o = some b → ¬ F b := fun b hb hf => by have := (O1.blk b hb).2; have := f2 b hf; simp at this; omega
  obtain ⟨G3, S3, F3, e3, Z3, M3⟩ := addAll_ok Z2 (V2.src O1.src) (by omega) hob
  rw [(few_row cs.length cs rfl (by omega)).2] at Z3
  have O3 : SrcC o G3 cs := Fw.Src.kept (V2.src O1.src) M3.next fun b hb => M3.old b (by have := (O1.blk b hb).2; have := V2.next; omega) (hob b hb)
  have ho3 : ∀ b, slBlk o = some b → ¬ F3 b := fun b hb hf => (M3.new b hf).elim (hob b hb) fun h => by have := (O1.blk b hb).2; have := V2.next; omega
  have hll := lastsC_len cs
  obtain ⟨G4, g, F4, S4, e4, Z4, Og, O4⟩ := got_loop Z3 (by omega) O3 ho3
  have ln := O4.len
  obtain ⟨w, G5, e5, Ow, W5⟩ := want_loop O4 (by omega) (.ptr (G1.alloc (([1] : List Int).map (.int .i64))).next 0) g
  have e6 := same_eq (W5.src Og) Ow.src (by omega)
  have Z5 := Z4.mono W5.next fun b hb => W5.old b (Z4.flt b hb)
  have e7 := lost_eq Z5
  have e8 := len_eq Z5 1
  have h8 : (Q.mk [1] [(lastsC cs).drop 24] 0).len 1 = 0 := by
    have h := len_at ⟨[1], [(lastsC cs).drop 24], 0⟩ 1 0 place12.2.2.2
    have h2 : ((((lastsC cs).drop 24).length : Nat) : Int) = 0 := by rw [List.drop_of_length_le (by omega)]; rfl
    exact h.trans h2
  rw [h8] at e8
  obtain ⟨H, e9, _⟩ := known_ok G5
  refine ⟨H, ?_⟩
  have f1' : aFill (reps [.int .i64 0] 1) [(0, 1, (.int .i64 1))] = some [.int .i64 1] := rfl
  have f0 : aFill [.nilSlice, .int .i64 0] [(0, 1, s)] = some [s, .int .i64 0] := by simp [I.cell]
  simp only [List.map_cons, List.map_nil] at e2 e3 e4 e5 e7 e8
  simp only [Int.cast_ofNat_Int] at e1
  rw [c5]
  simp only [S5, f0, Option.bind_some, cellsQ_agg, ← hH0, e1, f1', e2, bin_ptr_nil, cond_bool, cond_false, e3, e4, beq_dec, decide_true, cond_true, List.getD_cons_zero, List.getD_cons_succ, ln, e5, e6, guard_bool, beq_self_eq_true, e7, bin_eql, pick_bool, e8, e9, ans_one]
end Go.Proofs.Ythnilenennobeaa.Code
