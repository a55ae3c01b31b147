/- Texts are sorted; neighbours that are the same are put together. -/
import Derived.Test.YtllogmedpmanoaaSeen
namespace Go.Proofs.Ytllogmedpmanoaa.Code
set_option linter.unusedSimpArgs false
set_option linter.unusedVariables false
open Go.Fw

theorem less46 (a b : Tx) (h : Heap) : E tbl 46 [.str a, .str b] h = some (.bool (lt a b), h) := by
  have e1 := nan_ok a h
  have l1 : aBin .lss .plain (.str a) (.str b) = some (.bool (lt a b)) := rfl
  rw [c46]
  simp [S46, e1, l1]

theorem tisort_ok {s : AVal} {h : Heap} {n0 : Nat} {l : List Tx} (B : txE.Buf s h n0 l) (hn0 : n0 ≤ h.next) (hl : l.length ≤ 1000) :
    ∃ H, E tbl 40 [s, .int .i64 0, .int .i64 l.length] h = some (.tuple [], H) ∧ txE.Buf s H n0 (sortI lt [] l) ∧ OnlyS s h H := by
  have key : ∃ res, loop (L40_0 (E tbl)) [s, .int .i64 0, .int .i64 l.length, .int .i64 1] h = some res ∧ ∃ H, res = (1, [], H) ∧ txE.Buf s H n0 (sortI lt [] l) ∧ OnlyS s h H := by
    refine loop_ok (fun m xs G => ∃ i : Nat, m + i = l.length + 1 ∧ 1 ≤ i ∧ txE.Buf s G n0 (sortI lt [] (l.take i) ++ l.drop i) ∧ OnlyS s h G ∧ xs = [s, .int .i64 0, .int .i64 l.length, .int .i64 (i : Int)]) _ ?_ l.length _ _ ⟨1, rfl, Nat.le_refl _, ?_, OnlyS.refl _ _, rfl⟩
    · rintro m xs G ⟨i, hm, hi1, BG, OG, rfl⟩
      by_cases hi : i < l.length
      · left
        have i1 : decide ((i : Int) < (l.length : Int)) = true := decide_eq_true (by omega)
        have ws := wrap_succ i (by omega)
        obtain ⟨P, hP⟩ : ∃ P, P = sortI lt [] (l.take i) := ⟨_, rfl⟩
        have hPl : P.length = i := by rw [hP, sortI_len]; simp; omega
        have hd : P ++ l.drop i = atI P l[i] i ++ l.drop (i + 1) := by
          have e1 : P.take i = P := List.take_of_length_le (by omega)
          have e2 : P.drop i = [] := List.drop_of_length_le (by omega)
          unfold atI
          rw [e1, e2, List.drop_eq_getElem_cons hi]
          simp
        rw [← hP, hd] at BG
        have hs : sortI lt [] (l.take (i + 1)) = insI lt [] P l[i] := by
          rw [List.take_add_one, List.getElem?_eq_getElem hi, hP]
          exact sortI_snoc _ _ _ _
        obtain ⟨x, hx⟩ : ∃ x, x = l[i] := ⟨_, rfl⟩
        rw [← hx] at BG hs
        /- the inner loop -/
        have inner : ∃ res, loop (L40_1 (E tbl)) [s, .int .i64 0, .int .i64 l.length, .int .i64 (i : Int), .int .i64 (i : Int)] G = some res ∧ ∃ H, res = (1, [s, .int .i64 0, .int .i64 l.length, .int .i64 (i : Int)], H) ∧ txE.Buf s H n0 (insI lt [] P x ++ l.drop (i + 1)) ∧ OnlyS s G H := by
          refine loop_ok (fun m xs F => ∃ j : Nat, m = j ∧ j ≤ i ∧ posI lt [] x P P.length = posI lt [] x P j ∧ txE.Buf s F n0 (atI P x j ++ l.drop (i + 1)) ∧ OnlyS s G F ∧ xs = [s, .int .i64 0, .int .i64 l.length, .int .i64 (i : Int), .int .i64 (j : Int)]) _ ?_ i _ _ ⟨i, rfl, Nat.le_refl _, by rw [hPl], BG, OnlyS.refl _ _, rfl⟩
          rintro m xs F ⟨j, rfl, hji, hpos, BF, OF, rfl⟩
          cases m with
          | zero =>
            right
            refine ⟨0, _, F, ?_, F, rfl, ?_, OF⟩
            · simp [L40_1]
            · have : insI lt [] P x = atI P x 0 := by unfold insI atI; rw [hpos]; rfl
              rw [this]; exact BF
          | succ j =>
            have j0 : decide (((j + 1 : Nat) : Int) > 0) = true := decide_eq_true (by omega)
            have wj : IntKind.i64.wrap (((j + 1 : Nat) : Int) - 1) = (j : Int) := by rw [IntWalk.i64_in _ (by omega)]; omega
            have hjl : j < P.length := by omega
            have hlen : j + 1 < (atI P x (j + 1) ++ l.drop (i + 1)).length := by rw [List.length_append, atI_len _ _ _ (by omega)]; omega
            obtain ⟨p1, a1, a2⟩ := El.Src.el BF.src (j + 1) hlen
            obtain ⟨p0, b1, b2⟩ := El.Src.el BF.src j (by omega)
            have v1 : (atI P x (j + 1) ++ l.drop (i + 1))[j + 1] = x := by
              have := atI_at P (l.drop (i + 1)) x (j + 1) (by omega)
              rw [List.getElem?_eq_getElem hlen] at this
              exact Option.some.inj this
            have v0 : (atI P x (j + 1) ++ l.drop (i + 1))[j]'(by omega) = P[j] := by
              have := atI_pre P (l.drop (i + 1)) x j (by omega)
              rw [List.getElem?_eq_getElem (by omega)] at this
              exact Option.some.inj this
            rw [v1] at a2
            rw [v0] at b2
            have e1 := less46 x P[j] F
            have hg : P.getD j [] = P[j] := by rw [List.getD_eq_getElem?_getD, List.getElem?_eq_getElem hjl]; rfl
            obtain ⟨y, hy⟩ : ∃ y, y = P[j] := ⟨_, rfl⟩
            rw [← hy] at b2 e1
            simp only [txE_f] at a2 b2
            have c1 : aCells 1 (.str x) = some [.str x] := rfl
            have c2 : aCells 1 (.str y) = some [.str y] := rfl
            cases hq : lt x y with
            | true =>
              left
              obtain ⟨q1, F2, f1, f2, B2, n2, o2⟩ := El.Buf.set BF (j + 1) hlen y
              rw [a1] at f1
              cases f1
              obtain ⟨q0, F3, f3, f4, B3, n3, o3⟩ := El.Buf.set B2 j (by rw [List.length_set]; omega) x
              rw [b1] at f3
              cases f3
              have sw := atI_swap P x j (by omega) (l.drop (i + 1))
              rw [← hy] at sw
              rw [sw] at B3
              have hp' : posI lt [] x P (j + 1) = posI lt [] x P j := by
                show (if lt x (P.getD j []) then posI lt [] x P j else j + 1) = _
                rw [hg, ← hy, hq]; rfl
              refine ⟨_, F3, ?_, j, by omega, j, rfl, by omega, by rw [hpos, hp'], B3, OF.trans ⟨by omega, fun b hb hne => by rw [o3 b hne, o2 b hne]⟩, rfl⟩
              simp only [txE_f] at f2 f4
              simp only [L40_1, List.getD_cons_zero, List.getD_cons_succ, bin_gtr, Option.bind_some, j0, guard_bool, BEq.rfl, cond_true, a1, a2, from_agg, bin_sub, wj, b1, b2, from_one, e1, hq, pick_bool, cond_bool, c1, c2, f2, f4]
            | false =>
              right
              have hp' : posI lt [] x P (j + 1) = j + 1 := by
                show (if lt x (P.getD j []) then posI lt [] x P j else j + 1) = _
                rw [hg, ← hy, hq]; rfl
              refine ⟨0, _, F, ?_, F, rfl, ?_, OF⟩
              · simp only [L40_1, List.getD_cons_zero, List.getD_cons_succ, bin_gtr, Option.bind_some, j0, guard_bool, BEq.rfl, cond_true, a1, a2, from_agg, bin_sub, wj, b1, b2, from_one, e1, hq, pick_bool, cond_bool, cond_false]
              · have : insI lt [] P x = atI P x (j + 1) := by unfold insI atI; rw [hpos, hp']
                rw [this]; exact BF
        obtain ⟨_, e1, H, rfl, BH, OH⟩ := inner
        rw [← hs] at BH
        refine ⟨_, H, ?_, m - 1, by omega, i + 1, by omega, by omega, BH, OG.trans OH, rfl⟩
        simp [L40_0, hi, e1, ws]
      · right
        refine ⟨0, [], G, ?_, G, rfl, ?_, OG⟩
        · have i1 : decide ((i : Int) < (l.length : Int)) = false := decide_eq_false (by omega)
          simp only [L40_0, List.getD_cons_zero, List.getD_cons_succ, bin_lss, i1, Option.bind_some, cond_bool, cond_false]
        · rw [List.take_of_length_le (by omega), List.drop_of_length_le (by omega), List.append_nil] at BG
          exact BG
    · cases l with
      | nil => exact B
      | cons x l => exact B
  obtain ⟨_, e, H, rfl, BH, OH⟩ := key
  refine ⟨H, ?_, BH, OH⟩
  have w1 : IntKind.i64.wrap 1 = 1 := rfl
  rw [c40]
  simp [S40, w1, e]
end Go.Proofs.Ytllogmedpmanoaa.Code
