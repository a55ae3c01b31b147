/- Cards and texts are sorted. -/
import Derived.Test.YtllogmedpmanoaaOrder
namespace Go.Proofs.Ytllogmedpmanoaa.Code
set_option linter.unusedSimpArgs false
set_option linter.unusedVariables false
open Go.Fw

structure Cd where
  a : Tx
  i : Tx
  s : Int
  o : Int
  l : Int
  t : Int
  k : Int
  n : Int
  g : Bool
  deriving DecidableEq
abbrev Cd.cells (c : Cd) : List AVal := [.str c.a, .str c.i, .int .i64 c.s, .int .i64 c.o, .int .i64 c.l, .int .i64 c.t, .int .i64 c.k, .int .i64 c.n, .bool c.g]
abbrev zCd : List AVal := [.str [], .str [], .int .i64 0, .int .i64 0, .int .i64 0, .int .i64 0, .int .i64 0, .int .i64 0, .bool false]
def noCd : Cd := ⟨[], [], 0, 0, 0, 0, 0, 0, false⟩
def cdE : El Cd 9 := ⟨Cd.cells, fun _ => rfl, by omega⟩
def txE : El Tx 1 := ⟨fun t => [.str t], fun _ => rfl, by omega⟩
@[simp] theorem cdE_f (c : Cd) : cdE.f c = c.cells := rfl
@[simp] theorem txE_f (t : Tx) : txE.f t = [.str t] := rfl
abbrev Cd.key (c : Cd) : Key := (c.a, c.i)
def lessC (x y : Cd) : Bool := lessK x.key y.key

/-- Nothing but one row was written. -/
structure OnlyS (s : AVal) (h H : Heap) : Prop where
  next : h.next ≤ H.next
  old : ∀ b, b < h.next → slBlk s ≠ some b → H.blk b = h.blk b
theorem OnlyS.refl (s : AVal) (h : Heap) : OnlyS s h h := ⟨Nat.le_refl _, fun _ _ _ => rfl⟩
theorem OnlyS.trans {s : AVal} {a b c : Heap} (x : OnlyS s a b) (y : OnlyS s b c) : OnlyS s a c :=
  ⟨Nat.le_trans x.next y.next, fun i hi hn => by rw [y.old i (Nat.lt_of_lt_of_le hi x.next) hn, x.old i hi hn]⟩
theorem OnlyS.of_went {s : AVal} {a b : Heap} (W : Went a b) : OnlyS s a b := ⟨W.next, fun i hi _ => W.old i hi⟩

theorem nan_ok (a : Tx) (h : Heap) : E tbl 53 [.str a] h = some (.bool false, h) := by
  rw [c53]
  simp [S53]
theorem scmp_ok (a b : Tx) (h : Heap) : E tbl 39 [.str a, .str b] h = some (.int .i64 (cmpS a b), h) := by
  have e1 := nan_ok a h
  have e2 := nan_ok b h
  have l1 : aBin .lss .plain (.str a) (.str b) = some (.bool (lt a b)) := rfl
  have l2 : aBin .gtr .plain (.str a) (.str b) = some (.bool (!(lt a b || a == b))) := rfl
  rw [c39]
  unfold cmpS
  cases q1 : lt a b with
  | true => simp [S39, e1, e2, l1, q1]
  | false =>
    cases q2 : (a == b) with
    | true => simp [S39, e1, e2, l1, q1, l2, q2]
    | false => simp [S39, e1, e2, l1, q1, l2, q2]
theorem or_ok (x y : Int) (h : Heap) (b : Nat) (hb : h.blk b = some ⟨[.int .i64 x, .int .i64 y], true⟩) : E tbl 38 [.slice b 0 2 2 1 true] h = some (.int .i64 (if x ≠ 0 then x else y), h) := by
  have ln : aLen false (.slice b 0 2 2 1 true) = some (.int .i64 2) := rfl
  have a0 : aIaddr 1 (.slice b 0 2 2 1 true) (.int .i64 0) = some (.ptr b 0) := rfl
  have a1 : aIaddr 1 (.slice b 0 2 2 1 true) (.int .i64 1) = some (.ptr b 1) := rfl
  have r0 : h.rd b 0 1 = some [.int .i64 x] := by rw [rd_of hb 0 1 (by simp)]; rfl
  have r1 : h.rd b 1 1 = some [.int .i64 y] := by rw [rd_of hb 1 1 (by simp)]; rfl
  have w1 : IntKind.i64.wrap 1 = 1 := rfl
  have w2 : IntKind.i64.wrap 2 = 2 := rfl
  rw [c38]
  by_cases hx : x = 0
  · subst hx
    have s0 : L38_0 (E tbl) [.int .i64 0, .slice b 0 2 2 1 true, .int .i64 2, .int .i64 0] h = some (0, [.int .i64 0, .slice b 0 2 2 1 true, .int .i64 2, .int .i64 1], h) := by simp [L38_0, a0, r0, w1]
    by_cases hy : y = 0
    · subst hy
      have s1 : L38_0 (E tbl) [.int .i64 0, .slice b 0 2 2 1 true, .int .i64 2, .int .i64 1] h = some (0, [.int .i64 0, .slice b 0 2 2 1 true, .int .i64 2, .int .i64 2], h) := by simp [L38_0, a1, r1, w2]
      have s2 : L38_0 (E tbl) [.int .i64 0, .slice b 0 2 2 1 true, .int .i64 2, .int .i64 2] h = some (1, [.int .i64 0], h) := by simp [L38_0]
      have lp := (loop_more s0).trans ((loop_more s1).trans (loop_done s2))
      simp [S38, ln, lp]
    · have hy' : (y != 0) = true := by simpa using hy
      have s1 : L38_0 (E tbl) [.int .i64 0, .slice b 0 2 2 1 true, .int .i64 2, .int .i64 1] h = some (2, [.int .i64 y], h) := by simp [L38_0, a1, r1, hy', w2]
      have lp := (loop_more s0).trans (loop_done s1)
      simp [S38, ln, lp, beq_dec]
  · have hx' : (x != 0) = true := by simpa using hx
    have s0 : L38_0 (E tbl) [.int .i64 0, .slice b 0 2 2 1 true, .int .i64 2, .int .i64 0] h = some (2, [.int .i64 x], h) := by simp [L38_0, a0, r0, hx', w1]
    have lp := loop_done s0
    simp [S38, ln, lp, beq_dec, hx]
theorem kcmp_ok (x y : Key) (h : Heap) : ∃ H, E tbl 33 [.agg [.str x.1, .str x.2], .agg [.str y.1, .str y.2]] h = some (.int .i64 (cmpK x y), H) ∧ Went h H := by
  have e1 := scmp_ok x.1 y.1 h
  have e2 := scmp_ok x.2 y.2 h
  have e3 := or_ok (cmpS x.1 y.1) (cmpS x.2 y.2) (h.alloc [.int .i64 (cmpS x.1 y.1), .int .i64 (cmpS x.2 y.2)]) h.next (alloc_same _ _)
  refine ⟨_, ?_, Went.alloc h [.int .i64 (cmpS x.1 y.1), .int .i64 (cmpS x.2 y.2)]⟩
  rw [c33]
  simp [S33, rdL_z, rdL_t, rdL_s, e1, e2, aFill, aCells, AVal.cells?, splice, reps, e3, checkPairs, AVal.beqL, AVal.beq, cmpK]
theorem ccmp_ok (x y : Cd) (h : Heap) : ∃ H, E tbl 32 [.agg x.cells, .agg y.cells] h = some (.int .i64 (cmpK x.key y.key), H) ∧ Went h H := by
  obtain ⟨H, e, W⟩ := kcmp_ok x.key y.key h
  refine ⟨H, ?_, W⟩
  rw [c32]
  simp only [S32, cellsQ_agg, Cd.cells, Option.bind_some, rdL_z, rdL_t, Option.map_some, from_agg, e, ans_one]

theorem isort_ok {s : AVal} {h : Heap} {n0 : Nat} {l : List Cd} (B : cdE.Buf s h n0 l) (hn0 : n0 ≤ h.next) (hl : l.length ≤ 1000) :
    ∃ H, E tbl 51 [s, .int .i64 0, .int .i64 l.length, .func 32 []] h = some (.tuple [], H) ∧ cdE.Buf s H n0 (sortI lessC noCd l) ∧ OnlyS s h H := by
  have key : ∃ res, loop (L51_0 (E tbl)) [s, .int .i64 0, .int .i64 l.length, .func 32 [], .int .i64 1] h = some res ∧ ∃ H, res = (1, [], H) ∧ cdE.Buf s H n0 (sortI lessC noCd l) ∧ OnlyS s h H := by
    refine loop_ok (fun m xs G => ∃ i : Nat, m + i = l.length + 1 ∧ 1 ≤ i ∧ cdE.Buf s G n0 (sortI lessC noCd (l.take i) ++ l.drop i) ∧ OnlyS s h G ∧ xs = [s, .int .i64 0, .int .i64 l.length, .func 32 [], .int .i64 (i : Int)]) _ ?_ l.length _ _ ⟨1, rfl, Nat.le_refl _, ?_, OnlyS.refl _ _, rfl⟩
    · rintro m xs G ⟨i, hm, hi1, BG, OG, rfl⟩
      by_cases hi : i < l.length
      · left
        have i1 : decide ((i : Int) < (l.length : Int)) = true := decide_eq_true (by omega)
        have ws := wrap_succ i (by omega)
        obtain ⟨P, hP⟩ : ∃ P, P = sortI lessC noCd (l.take i) := ⟨_, rfl⟩
        have hPl : P.length = i := by rw [hP, sortI_len]; simp; omega
        have hd : P ++ l.drop i = atI P l[i] i ++ l.drop (i + 1) := by
          have e1 : P.take i = P := List.take_of_length_le (by omega)
          have e2 : P.drop i = [] := List.drop_of_length_le (by omega)
          unfold atI
          rw [e1, e2, List.drop_eq_getElem_cons hi]
          simp
        rw [← hP, hd] at BG
        have hs : sortI lessC noCd (l.take (i + 1)) = insI lessC noCd P l[i] := by
          rw [List.take_add_one, List.getElem?_eq_getElem hi, hP]
          exact sortI_snoc _ _ _ _
        obtain ⟨x, hx⟩ : ∃ x, x = l[i] := ⟨_, rfl⟩
        rw [← hx] at BG hs
        /- the inner loop -/
        have inner : ∃ res, loop (L51_1 (E tbl)) [s, .int .i64 0, .int .i64 l.length, .func 32 [], .int .i64 (i : Int), .int .i64 (i : Int)] G = some res ∧ ∃ H, res = (1, [s, .int .i64 0, .int .i64 l.length, .func 32 [], .int .i64 (i : Int)], H) ∧ cdE.Buf s H n0 (insI lessC noCd P x ++ l.drop (i + 1)) ∧ OnlyS s G H := by
          refine loop_ok (fun m xs F => ∃ j : Nat, m = j ∧ j ≤ i ∧ posI lessC noCd x P P.length = posI lessC noCd x P j ∧ cdE.Buf s F n0 (atI P x j ++ l.drop (i + 1)) ∧ OnlyS s G F ∧ xs = [s, .int .i64 0, .int .i64 l.length, .func 32 [], .int .i64 (i : Int), .int .i64 (j : Int)]) _ ?_ i _ _ ⟨i, rfl, Nat.le_refl _, by rw [hPl], BG, OnlyS.refl _ _, rfl⟩
          rintro m xs F ⟨j, rfl, hji, hpos, BF, OF, rfl⟩
          cases m with
          | zero =>
            right
            refine ⟨0, _, F, ?_, F, rfl, ?_, OF⟩
            · simp [L51_1]
            · have : insI lessC noCd P x = atI P x 0 := by unfold insI atI; rw [hpos]; rfl
              rw [this]; exact BF
          | succ j =>
            have j0 : decide (((j + 1 : Nat) : Int) > 0) = true := decide_eq_true (by omega)
            have wj : IntKind.i64.wrap (((j + 1 : Nat) : Int) - 1) = (j : Int) := by rw [IntWalk.i64_in _ (by omega)]; omega
            have hjl : j < P.length := by omega
            have hlen : j + 1 < (atI P x (j + 1) ++ l.drop (i + 1)).length := by rw [List.length_append, atI_len _ _ _ (by omega)]; omega
            obtain ⟨p1, a1, a2⟩ := El.Src.el BF.src (j + 1) hlen
            obtain ⟨p0, b1, b2⟩ := El.Src.el BF.src j (by omega)
            have v1 : (atI P x (j + 1) ++ l.drop (i + 1))[j + 1] = x := by
              have := atI_at P (l.drop (i + 1)) x (j + 1) (by omega)
              rw [List.getElem?_eq_getElem hlen] at this
              exact Option.some.inj this
            have v0 : (atI P x (j + 1) ++ l.drop (i + 1))[j]'(by omega) = P[j] := by
              have := atI_pre P (l.drop (i + 1)) x j (by omega)
              rw [List.getElem?_eq_getElem (by omega)] at this
              exact Option.some.inj this
            rw [v1] at a2
            rw [v0] at b2
            obtain ⟨F1, e1, W1⟩ := ccmp_ok x P[j] F
            have hlt := cmpK_lt x.key P[j].key
            have hg : P.getD j noCd = P[j] := by rw [List.getD_eq_getElem?_getD, List.getElem?_eq_getElem hjl]; rfl
            have BF1 : cdE.Buf s F1 n0 (atI P x (j + 1) ++ l.drop (i + 1)) := Fw.Buf.kept BF W1.next fun b hb => W1.old b (Fw.Buf.blk BF b hb).2
            have a2' : aLoad F1 9 p1 = some x.cells := by
              obtain ⟨q, f1, f2⟩ := El.Src.el BF1.src (j + 1) hlen
              rw [a1] at f1
              cases f1
              rw [v1] at f2
              exact f2
            have b2' : aLoad F1 9 p0 = some P[j].cells := by
              obtain ⟨q, f1, f2⟩ := El.Src.el BF1.src j (by omega)
              rw [b1] at f1
              cases f1
              rw [v0] at f2
              exact f2
            obtain ⟨y, hy⟩ : ∃ y, y = P[j] := ⟨_, rfl⟩
            rw [← hy] at b2 b2' e1 hlt
            simp only [cdE_f] at a2 b2
            have fn : aFn (.func 32 []) = some (32, []) := rfl
            have c1 : aCells 9 (.agg x.cells) = some x.cells := rfl
            have c2 : aCells 9 (.agg y.cells) = some y.cells := rfl
            cases hq : lessC x y with
            | true =>
              left
              obtain ⟨q1, F2, f1, f2, B2, n2, o2⟩ := El.Buf.set BF1 (j + 1) hlen y
              rw [a1] at f1
              cases f1
              obtain ⟨q0, F3, f3, f4, B3, n3, o3⟩ := El.Buf.set B2 j (by rw [List.length_set]; omega) x
              rw [b1] at f3
              cases f3
              have sw := atI_swap P x j (by omega) (l.drop (i + 1))
              rw [← hy] at sw
              rw [sw] at B3
              have hp' : posI lessC noCd x P (j + 1) = posI lessC noCd x P j := by
                show (if lessC x (P.getD j noCd) then posI lessC noCd x P j else j + 1) = _
                rw [hg, ← hy, hq]; rfl
              have hc : decide (cmpK x.key y.key < 0) = true := by rw [hlt]; exact hq
              refine ⟨_, F3, ?_, j, by omega, j, rfl, by omega, by rw [hpos, hp'], B3, OF.trans ((OnlyS.of_went W1).trans ⟨by omega, fun b hb hne => by rw [o3 b hne, o2 b hne]⟩), rfl⟩
              simp only [cdE_f] at f2 f4
              simp only [L51_1, List.getD_cons_zero, List.getD_cons_succ, bin_gtr, Option.bind_some, j0, guard_bool, BEq.rfl, cond_true, a1, a2, from_agg, bin_sub, wj, b1, b2, fn, List.append_nil, List.cons_append, List.nil_append, e1, bin_lss, hc, pick_bool, cond_bool, a2', b2', c1, c2, f2, f4]
            | false =>
              right
              have hc : decide (cmpK x.key y.key < 0) = false := by rw [hlt]; exact hq
              have hp' : posI lessC noCd x P (j + 1) = j + 1 := by
                show (if lessC x (P.getD j noCd) then posI lessC noCd x P j else j + 1) = _
                rw [hg, ← hy, hq]; rfl
              refine ⟨0, _, F1, ?_, F1, rfl, ?_, OF.trans (OnlyS.of_went W1)⟩
              · simp only [L51_1, List.getD_cons_zero, List.getD_cons_succ, bin_gtr, Option.bind_some, j0, guard_bool, BEq.rfl, cond_true, a1, a2, from_agg, bin_sub, wj, b1, b2, fn, List.append_nil, List.cons_append, List.nil_append, e1, bin_lss, hc, pick_bool, cond_bool, cond_false]
              · have : insI lessC noCd P x = atI P x (j + 1) := by unfold insI atI; rw [hpos, hp']
                rw [this]; exact BF1
        obtain ⟨_, e1, H, rfl, BH, OH⟩ := inner
        rw [← hs] at BH
        refine ⟨_, H, ?_, m - 1, by omega, i + 1, by omega, by omega, BH, OG.trans OH, rfl⟩
        simp [L51_0, hi, e1, ws]
      · right
        refine ⟨0, [], G, ?_, G, rfl, ?_, OG⟩
        · have i1 : decide ((i : Int) < (l.length : Int)) = false := decide_eq_false (by omega)
          simp only [L51_0, List.getD_cons_zero, List.getD_cons_succ, bin_lss, i1, Option.bind_some, cond_bool, cond_false]
        · rw [List.take_of_length_le (by omega), List.drop_of_length_le (by omega), List.append_nil] at BG
          exact BG
    · cases l with
      | nil => exact B
      | cons x l => exact B
  obtain ⟨_, e, H, rfl, BH, OH⟩ := key
  refine ⟨H, ?_, BH, OH⟩
  have w1 : IntKind.i64.wrap 1 = 1 := rfl
  rw [c51]
  simp [S51, w1, e]
end Go.Proofs.Ytllogmedpmanoaa.Code
