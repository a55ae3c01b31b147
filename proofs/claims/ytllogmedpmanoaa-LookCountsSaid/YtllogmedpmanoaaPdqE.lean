/- Insertion sort of a part of a row of texts. -/
import Derived.Test.YtllogmedpmanoaaPdqD
namespace Go.Proofs.Ytllogmedpmanoaa.Code
set_option linter.unusedSimpArgs false
set_option linter.unusedVariables false
open Go.Fw

theorem tat_mid (A X Z : List Tx) (k : Nat) (hk : k < X.length) : tat (A ++ (X ++ Z)) (A.length + k) = tat X k := by
  unfold tat
  rw [List.getD_eq_getElem?_getD, List.getD_eq_getElem?_getD, List.getElem?_append_right (by omega), show A.length + k - A.length = k by omega, List.getElem?_append_left hk]
theorem set_mid (A X Z : List Tx) (k : Nat) (hk : k < X.length) (v : Tx) : (A ++ (X ++ Z)).set (A.length + k) v = A ++ (X.set k v ++ Z) := by
  rw [List.set_append_right _ _ (by omega), show A.length + k - A.length = k by omega, List.set_append_left _ _ hk]
theorem swap_mid (A X Z : List Tx) (i j : Nat) (hi : i < X.length) (hj : j < X.length) : swapL (A ++ (X ++ Z)) (A.length + i) (A.length + j) = A ++ (swapL X i j ++ Z) := by
  unfold swapL
  rw [tat_mid _ _ _ _ hi, tat_mid _ _ _ _ hj, set_mid _ _ _ _ hi, set_mid _ _ _ _ (by rw [List.length_set]; exact hj)]
theorem atI_swapL (P R : List Tx) (x : Tx) (j : Nat) (hj : j + 1 ≤ P.length) : tat (atI P x (j + 1) ++ R) j = P[j] ∧ tat (atI P x (j + 1) ++ R) (j + 1) = x ∧ swapL (atI P x (j + 1) ++ R) (j + 1) j = atI P x j ++ R := by
  have e1 : tat (atI P x (j + 1) ++ R) j = P[j] := by
    unfold tat
    rw [List.getD_eq_getElem?_getD, atI_pre P R x j hj]
    rfl
  have e2 : tat (atI P x (j + 1) ++ R) (j + 1) = x := by
    unfold tat
    rw [List.getD_eq_getElem?_getD, atI_at P R x (j + 1) hj]
    rfl
  refine ⟨e1, e2, ?_⟩
  unfold swapL
  rw [e1, e2]
  exact atI_swap P x j hj R

section
variable {s : AVal} {n0 : Nat} {A X Z : List Tx}
theorem isortR_ok {h : Heap} (B : BufT s h n0 (A ++ (X ++ Z))) (hl : (A ++ (X ++ Z)).length ≤ 1000) :
    ∃ H, E tbl 40 [s, .int .i64 A.length, .int .i64 (A.length + X.length : Nat)] h = some (.tuple [], H) ∧ BufT s H n0 (A ++ (sortI lt [] X ++ Z)) ∧ OnlyS s h H := by
  simp only [List.length_append] at hl
  obtain ⟨a, ha⟩ : ∃ a, a = A.length := ⟨_, rfl⟩
  obtain ⟨b, hb⟩ : ∃ b, b = A.length + X.length := ⟨_, rfl⟩
  rw [← ha, show a + X.length = b by omega]
  have w1 := wrap_succ a (by omega)
  have key : ∃ res, loop (L40_0 (E tbl)) [s, .int .i64 a, .int .i64 b, .int .i64 ((a + 1 : Nat) : Int)] h = some res ∧ ∃ H, res = (1, [], H) ∧ BufT s H n0 (A ++ (sortI lt [] X ++ Z)) ∧ OnlyS s h H := by
    refine loop_ok (fun m xs G => ∃ i : Nat, m + i = X.length + 1 ∧ 1 ≤ i ∧ BufT s G n0 (A ++ ((sortI lt [] (X.take i) ++ X.drop i) ++ Z)) ∧ OnlyS s h G ∧ xs = [s, .int .i64 a, .int .i64 b, .int .i64 ((a + i : Nat) : Int)]) _ ?_ X.length _ _ ⟨1, rfl, Nat.le_refl _, ?_, OnlyS.refl _ _, rfl⟩
    · rintro m xs G ⟨i, hm, hi1, BG, OG, rfl⟩
      by_cases hi : i < X.length
      · left
        have i1 : decide (((a + i : Nat) : Int) < (b : Int)) = true := decide_eq_true (by omega)
        have ws : IntKind.i64.wrap (((a + i : Nat) : Int) + 1) = ((a + (i + 1) : Nat) : Int) := by rw [IntWalk.i64_in _ (by omega)]; omega
        obtain ⟨P, hP⟩ : ∃ P, P = sortI lt [] (X.take i) := ⟨_, rfl⟩
        have hPl : P.length = i := by rw [hP, sortI_len]; simp; omega
        have hd : P ++ X.drop i = atI P X[i] i ++ X.drop (i + 1) := by
          have e1 : P.take i = P := List.take_of_length_le (by omega)
          have e2 : P.drop i = [] := List.drop_of_length_le (by omega)
          unfold atI
          rw [e1, e2, List.drop_eq_getElem_cons hi]
          simp
        rw [← hP, hd] at BG
        have hs : sortI lt [] (X.take (i + 1)) = insI lt [] P X[i] := by
          rw [List.take_add_one, List.getElem?_eq_getElem hi, hP]
          exact sortI_snoc _ _ _ _
        obtain ⟨x, hx⟩ : ∃ x, x = X[i] := ⟨_, rfl⟩
        rw [← hx] at BG hs
        have inner : ∃ res, loop (L40_1 (E tbl)) [s, .int .i64 a, .int .i64 b, .int .i64 ((a + i : Nat) : Int), .int .i64 ((a + i : Nat) : Int)] G = some res ∧ ∃ H, res = (1, [s, .int .i64 a, .int .i64 b, .int .i64 ((a + i : Nat) : Int)], H) ∧ BufT s H n0 (A ++ ((insI lt [] P x ++ X.drop (i + 1)) ++ Z)) ∧ OnlyS s G H := by
          refine loop_ok (fun m xs F => ∃ j : Nat, m = j ∧ j ≤ i ∧ posI lt [] x P P.length = posI lt [] x P j ∧ BufT s F n0 (A ++ ((atI P x j ++ X.drop (i + 1)) ++ Z)) ∧ OnlyS s G F ∧ xs = [s, .int .i64 a, .int .i64 b, .int .i64 ((a + i : Nat) : Int), .int .i64 ((a + j : Nat) : Int)]) _ ?_ i _ _ ⟨i, rfl, Nat.le_refl _, by rw [hPl], BG, OnlyS.refl _ _, rfl⟩
          rintro m xs F ⟨j, rfl, hji, hpos, BF, OF, rfl⟩
          cases m with
          | zero =>
            right
            have j0 : decide (((a + 0 : Nat) : Int) > (a : Int)) = false := decide_eq_false (by omega)
            refine ⟨0, _, F, ?_, F, rfl, ?_, OF⟩
            · simp only [L40_1, List.getD_cons_zero, List.getD_cons_succ, bin_gtr, j0, Option.bind_some, guard_bool, show (false == true) = false from rfl, cond_false, pick_bool, cond_bool]
            · have : insI lt [] P x = atI P x 0 := by unfold insI atI; rw [hpos]; rfl
              rw [this]; exact BF
          | succ j =>
            have j0 : decide (((a + (j + 1) : Nat) : Int) > (a : Int)) = true := decide_eq_true (by omega)
            have wj : IntKind.i64.wrap (((a + (j + 1) : Nat) : Int) - 1) = ((a + j : Nat) : Int) := by rw [IntWalk.i64_in _ (by omega)]; omega
            have hlX : (atI P x (j + 1) ++ X.drop (i + 1)).length = X.length := by rw [List.length_append, atI_len _ _ _ (by omega), List.length_drop]; omega
            have hlen : (A ++ ((atI P x (j + 1) ++ X.drop (i + 1)) ++ Z)).length = A.length + (X.length + Z.length) := by rw [List.length_append, List.length_append, hlX]
            obtain ⟨v0, v1, sw⟩ := atI_swapL P (X.drop (i + 1)) x j (by omega)
            obtain ⟨p1, p0, F2, F3, a1, b1, a2, b2, f2, f4, B3, O3⟩ := BufT.swap BF (a + (j + 1)) (a + j) (by rw [hlen]; omega) (by rw [hlen]; omega)
            rw [ha, tat_mid _ _ _ _ (by rw [hlX]; omega), v1] at a2 f4
            rw [ha, tat_mid _ _ _ _ (by rw [hlX]; omega), v0] at b2 f2
            rw [ha, swap_mid _ _ _ _ _ (by rw [hlX]; omega) (by rw [hlX]; omega), sw] at B3
            have e1 := less46 x P[j] F
            have hg : P.getD j [] = P[j] := by rw [List.getD_eq_getElem?_getD, List.getElem?_eq_getElem (by omega)]; rfl
            have c1 : ∀ t : Tx, aCells 1 (.str t) = some [.str t] := fun _ => rfl
            obtain ⟨y, hy⟩ : ∃ y, y = P[j] := ⟨_, rfl⟩
            rw [← hy] at b2 e1 f2 hg
            cases hq : lt x y with
            | true =>
              rw [hq] at e1
              left
              have hp' : posI lt [] x P (j + 1) = posI lt [] x P j := by
                show (if lt x (P.getD j []) then posI lt [] x P j else j + 1) = _
                rw [hg, hq]; rfl
              refine ⟨_, F3, ?_, j, by omega, j, rfl, by omega, by rw [hpos, hp'], B3, OF.trans O3, rfl⟩
              simp only [L40_1, List.getD_cons_zero, List.getD_cons_succ, bin_gtr, Option.bind_some, j0, guard_bool, BEq.rfl, cond_true, a1, a2, bin_sub, wj, b1, b2, from_one, e1, pick_bool, cond_bool, c1, f2, f4]
            | false =>
              rw [hq] at e1
              right
              have hp' : posI lt [] x P (j + 1) = j + 1 := by
                show (if lt x (P.getD j []) then posI lt [] x P j else j + 1) = _
                rw [hg, hq]; rfl
              refine ⟨0, _, F, ?_, F, rfl, ?_, OF⟩
              · simp only [L40_1, List.getD_cons_zero, List.getD_cons_succ, bin_gtr, Option.bind_some, j0, guard_bool, BEq.rfl, cond_true, a1, a2, bin_sub, wj, b1, b2, from_one, e1, pick_bool, cond_bool, cond_false]
              · have : insI lt [] P x = atI P x (j + 1) := by unfold insI atI; rw [hpos, hp']
                rw [this]; exact BF
        obtain ⟨_, e1, H, rfl, BH, OH⟩ := inner
        rw [← hs] at BH
        refine ⟨_, H, ?_, m - 1, by omega, i + 1, by omega, by omega, BH, OG.trans OH, rfl⟩
        simp only [L40_0, List.getD_cons_zero, List.getD_cons_succ, bin_lss, i1, Option.bind_some, cond_bool, cond_true, e1, nat_beq11, bin_add, ws]
      · right
        refine ⟨0, [], G, ?_, G, rfl, ?_, OG⟩
        · have i1 : decide (((a + i : Nat) : Int) < (b : Int)) = false := decide_eq_false (by omega)
          simp only [L40_0, List.getD_cons_zero, List.getD_cons_succ, bin_lss, i1, Option.bind_some, cond_bool, cond_false]
        · rw [List.take_of_length_le (by omega), List.drop_of_length_le (by omega), List.append_nil] at BG
          exact BG
    · cases X with
      | nil => exact B
      | cons x l => exact B
  obtain ⟨_, e, H, rfl, BH, OH⟩ := key
  refine ⟨H, ?_, BH, OH⟩
  rw [c40]
  simp only [S40, bin_add, w1, Option.bind_some, e, nat_beq11, cond_true, ans_one]
end
end Go.Proofs.Ytllogmedpmanoaa.Code
