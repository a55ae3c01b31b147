/- pdqsort of few texts. -/
import Derived.Test.YtllogmedpmanoaaPdqE
namespace Go.Proofs.Ytllogmedpmanoaa.Code
set_option linter.unusedSimpArgs false
set_option linter.unusedVariables false
open Go.Fw

noncomputable def T25 (call : Go.Fw.Call) (x25 : J) : Option J :=
 bif Nat.beq x25.1 0 then some (1, [], x25.2.2) else
 bif Nat.beq x25.1 1 then (aBin .gtr .plain (x25.2.1.getD 1 AVal.undef) (.int .i64 0)).bind fun v26 =>
 (guardV v26 true
 ((aBin .sub .plain (x25.2.1.getD 1 AVal.undef) (.int .i64 1)).bind fun v27 =>
 (aIaddr 1 (x25.2.1.getD 0 AVal.undef) v27).bind fun v28 =>
 (aLoad x25.2.2 1 v28).bind fun c29 =>
 (fromCells false c29).bind fun v30 =>
 (aIaddr 1 (x25.2.1.getD 0 AVal.undef) (x25.2.1.getD 7 AVal.undef)).bind fun v31 =>
 (aLoad x25.2.2 1 v31).bind fun c32 =>
 (fromCells false c32).bind fun v33 =>
 (call 46 [v30, v33] x25.2.2).bind fun r34 =>
 (aUn .not r34.1).bind fun v35 =>
 some (0, [v35], r34.2))
 (some (0, [skipV], x25.2.2))).bind fun g36 =>
 (aPick v26 (g36.2.1.getD 0 AVal.undef) (.bool false)).bind fun v37 =>
 condV v37
 ((call 47 [(x25.2.1.getD 0 AVal.undef), (x25.2.1.getD 1 AVal.undef), (x25.2.1.getD 2 AVal.undef), (x25.2.1.getD 7 AVal.undef)] g36.2.2).bind fun r38 =>
 some (0, [(x25.2.1.getD 0 AVal.undef), r38.1, (x25.2.1.getD 2 AVal.undef), (x25.2.1.getD 3 AVal.undef), (x25.2.1.getD 4 AVal.undef), (x25.2.1.getD 5 AVal.undef)], r38.2))
 ((call 48 [(x25.2.1.getD 0 AVal.undef), (x25.2.1.getD 1 AVal.undef), (x25.2.1.getD 2 AVal.undef), (x25.2.1.getD 7 AVal.undef)] g36.2.2).bind fun r39 =>
 (aExtract 0 r39.1).bind fun v40 =>
 (aExtract 1 r39.1).bind fun v41 =>
 (aBin .sub .plain v40 (x25.2.1.getD 1 AVal.undef)).bind fun v42 =>
 (aBin .sub .plain (x25.2.1.getD 2 AVal.undef) v40).bind fun v43 =>
 (aBin .quo .plain (x25.2.1.getD 6 AVal.undef) (.int .i64 8)).bind fun v44 =>
 (aBin .lss .plain v42 v43).bind fun v45 =>
 condV v45
 ((aBin .geq .plain v42 v44).bind fun v46 =>
 (call 35 [(x25.2.1.getD 0 AVal.undef), (x25.2.1.getD 1 AVal.undef), v40, (x25.2.1.getD 3 AVal.undef)] r39.2).bind fun r47 =>
 (aBin .add .plain v40 (.int .i64 1)).bind fun v48 =>
 some (0, [(x25.2.1.getD 0 AVal.undef), v48, (x25.2.1.getD 2 AVal.undef), (x25.2.1.getD 3 AVal.undef), v46, v41], r47.2))
 ((aBin .geq .plain v43 v44).bind fun v49 =>
 (aBin .add .plain v40 (.int .i64 1)).bind fun v50 =>
 (call 35 [(x25.2.1.getD 0 AVal.undef), v50, (x25.2.1.getD 2 AVal.undef), (x25.2.1.getD 3 AVal.undef)] r39.2).bind fun r51 =>
 some (0, [(x25.2.1.getD 0 AVal.undef), (x25.2.1.getD 1 AVal.undef), v40, (x25.2.1.getD 3 AVal.undef), v49, v41], r51.2))) else
 none
noncomputable def T18 (call : Go.Fw.Call) (x18 : J) : Option J :=
 bif Nat.beq x18.1 0 then (guardV (x18.2.1.getD 4 AVal.undef) true
 (some (0, [(x18.2.1.getD 5 AVal.undef)], x18.2.2))
 (some (0, [skipV], x18.2.2))).bind fun g19 =>
 (aPick (x18.2.1.getD 4 AVal.undef) (g19.2.1.getD 0 AVal.undef) (.bool false)).bind fun v20 =>
 (guardV v20 true
 ((aBin .eql .plain (x18.2.1.getD 8 AVal.undef) (.int .i64 1)).bind fun v21 =>
 some (0, [v21], g19.2.2))
 (some (0, [skipV], g19.2.2))).bind fun g22 =>
 (aPick v20 (g22.2.1.getD 0 AVal.undef) (.bool false)).bind fun v23 =>
 (condV v23
 ((call 45 [(x18.2.1.getD 0 AVal.undef), (x18.2.1.getD 1 AVal.undef), (x18.2.1.getD 2 AVal.undef)] g22.2.2).bind fun r24 =>
 condV r24.1
 (some (0, [], r24.2))
 (some (1, [(x18.2.1.getD 0 AVal.undef), (x18.2.1.getD 1 AVal.undef), (x18.2.1.getD 2 AVal.undef), (x18.2.1.getD 3 AVal.undef), (x18.2.1.getD 4 AVal.undef), (x18.2.1.getD 5 AVal.undef), (x18.2.1.getD 6 AVal.undef), (x18.2.1.getD 7 AVal.undef)], r24.2)))
 (some (1, [(x18.2.1.getD 0 AVal.undef), (x18.2.1.getD 1 AVal.undef), (x18.2.1.getD 2 AVal.undef), (x18.2.1.getD 3 AVal.undef), (x18.2.1.getD 4 AVal.undef), (x18.2.1.getD 5 AVal.undef), (x18.2.1.getD 6 AVal.undef), (x18.2.1.getD 7 AVal.undef)], g22.2.2))).bind (T25 call) else none

noncomputable def T9 (call : Go.Fw.Call) (x9 : J) : Option J :=
 bif Nat.beq x9.1 0 then (call 43 [(x9.2.1.getD 0 AVal.undef), (x9.2.1.getD 1 AVal.undef), (x9.2.1.getD 2 AVal.undef)] x9.2.2).bind fun r10 =>
 (aExtract 0 r10.1).bind fun v11 =>
 (aExtract 1 r10.1).bind fun v12 =>
 (aBin .eql .plain v12 (.int .i64 2)).bind fun v13 =>
 (condV v13
 ((call 44 [(x9.2.1.getD 0 AVal.undef), (x9.2.1.getD 1 AVal.undef), (x9.2.1.getD 2 AVal.undef)] r10.2).bind fun r14 =>
 (aBin .sub .plain (x9.2.1.getD 2 AVal.undef) (.int .i64 1)).bind fun v15 =>
 (aBin .sub .plain v11 (x9.2.1.getD 1 AVal.undef)).bind fun v16 =>
 (aBin .sub .plain v15 v16).bind fun v17 =>
 some (0, [(x9.2.1.getD 0 AVal.undef), (x9.2.1.getD 1 AVal.undef), (x9.2.1.getD 2 AVal.undef), (x9.2.1.getD 3 AVal.undef), (x9.2.1.getD 4 AVal.undef), (x9.2.1.getD 5 AVal.undef), (x9.2.1.getD 6 AVal.undef), v17, (.int .i64 1)], r14.2))
 (some (0, [(x9.2.1.getD 0 AVal.undef), (x9.2.1.getD 1 AVal.undef), (x9.2.1.getD 2 AVal.undef), (x9.2.1.getD 3 AVal.undef), (x9.2.1.getD 4 AVal.undef), (x9.2.1.getD 5 AVal.undef), (x9.2.1.getD 6 AVal.undef), v11, v12], r10.2))).bind (T18 call) else none

theorem L35_cut (call : Go.Fw.Call) (xs : List AVal) (h : Heap) : L35_0 call xs h =
 (aBin .sub .plain (xs.getD 2 AVal.undef) (xs.getD 1 AVal.undef)).bind fun v1 =>
 (aBin .leq .plain v1 (.int .i64 12)).bind fun v2 =>
 condV v2
 ((call 40 [(xs.getD 0 AVal.undef), (xs.getD 1 AVal.undef), (xs.getD 2 AVal.undef)] h).bind fun r3 =>
 some (1, [], r3.2))
 ((aBin .eql .plain (xs.getD 3 AVal.undef) (.int .i64 0)).bind fun v4 =>
 condV v4
 ((call 41 [(xs.getD 0 AVal.undef), (xs.getD 1 AVal.undef), (xs.getD 2 AVal.undef)] h).bind fun r5 =>
 some (1, [], r5.2))
 ((aUn .not (xs.getD 4 AVal.undef)).bind fun v6 =>
 (condV v6
 ((call 42 [(xs.getD 0 AVal.undef), (xs.getD 1 AVal.undef), (xs.getD 2 AVal.undef)] h).bind fun r7 =>
 (aBin .sub .plain (xs.getD 3 AVal.undef) (.int .i64 1)).bind fun v8 =>
 some (0, [(xs.getD 0 AVal.undef), (xs.getD 1 AVal.undef), (xs.getD 2 AVal.undef), v8, (xs.getD 4 AVal.undef), (xs.getD 5 AVal.undef), v1], r7.2))
 (some (0, [(xs.getD 0 AVal.undef), (xs.getD 1 AVal.undef), (xs.getD 2 AVal.undef), (xs.getD 3 AVal.undef), (xs.getD 4 AVal.undef), (xs.getD 5 AVal.undef), v1], h))).bind (T9 call)))
 := rfl

theorem tat_ext {l m : List Tx} (hl : l.length = m.length) (h : ∀ i, i < l.length → tat l i = tat m i) : l = m := by
  refine List.ext_getElem hl fun i h1 h2 => ?_
  rw [tat_get l i h1, tat_get m i h2]
  exact h i h1
theorem tat_take (l : List Tx) (n i : Nat) (h : i < n) : tat (l.take n) i = tat l i := by
  unfold tat
  rw [List.getD_eq_getElem?_getD, List.getD_eq_getElem?_getD, List.getElem?_take, if_pos h]
theorem tat_drop (l : List Tx) (n i : Nat) : tat (l.drop n) i = tat l (n + i) := by
  unfold tat
  rw [List.getD_eq_getElem?_getD, List.getD_eq_getElem?_getD, List.getElem?_drop]
theorem cut3 (l : List Tx) (a b : Nat) (hab : a ≤ b) : l = l.take a ++ ((l.drop a).take (b - a) ++ l.drop b) := by
  have e : l.drop b = (l.drop a).drop (b - a) := by rw [List.drop_drop]; congr 1; omega
  rw [e, List.take_append_drop, List.take_append_drop]
theorem Reg.mem {a b : Nat} {l m : List Tx} (R : Reg a b l m) (hab : a ≤ b) (hb : b ≤ l.length) (k : Nat) (h1 : a ≤ k) (h2 : k < b) : ∃ k', a ≤ k' ∧ k' < b ∧ tat m k = tat l k' := by
  have hl := R.len
  have eA : m.take a = l.take a := by
    refine tat_ext (by simp [hl]) fun i hi => ?_
    rw [List.length_take] at hi
    rw [tat_take _ _ _ (by omega), tat_take _ _ _ (by omega)]
    exact R.out i (by omega)
  have eZ : m.drop b = l.drop b := by
    refine tat_ext (by simp [hl]) fun i hi => ?_
    rw [tat_drop, tat_drop]
    exact R.out _ (by omega)
  have hp : ((m.drop a).take (b - a)).Perm ((l.drop a).take (b - a)) := by
    have := R.perm
    rw [cut3 m a b hab, cut3 l a b hab, eA, eZ] at this
    exact (List.perm_append_right_iff _).1 ((List.perm_append_left_iff _).1 this)
  have hk : tat m k ∈ (m.drop a).take (b - a) := by
    have e : tat m k = tat ((m.drop a).take (b - a)) (k - a) := by
      rw [tat_take _ _ _ (by omega), tat_drop, show a + (k - a) = k by omega]
    rw [e, ← tat_get _ (k - a) (by rw [List.length_take, List.length_drop]; omega)]
    exact List.getElem_mem _
  obtain ⟨i, hi, e⟩ := List.getElem_of_mem (hp.mem_iff.1 hk)
  rw [List.length_take, List.length_drop] at hi
  refine ⟨a + i, by omega, by omega, ?_⟩
  rw [← e, tat_get, tat_take _ _ _ (by omega), tat_drop]

/-- A row in work: only what lies in [a, b) may still be out of order. -/
structure InP (l M : List Tx) (a b : Nat) : Prop where
  perm : M.Perm l
  ab : a ≤ b
  bl : b ≤ l.length
  ord : ∀ i j, i < j → j < l.length → ¬ (a ≤ i ∧ j < b) → leT (tat M i) (tat M j)
theorem InP.reg {l M N : List Tx} {a b : Nat} (P : InP l M a b) (R : Reg a b M N) : InP l N a b := by
  have hM := P.perm.length_eq
  have hb := P.bl
  have hab := P.ab
  refine ⟨R.perm.trans P.perm, P.ab, P.bl, fun i j hij hj hn => ?_⟩
  by_cases hi : a ≤ i ∧ i < b
  · obtain ⟨i', h1, h2, e⟩ := R.mem hab (by omega) i hi.1 hi.2
    rw [e, R.out j (by omega)]
    exact P.ord i' j (by omega) hj (by omega)
  · rw [R.out i (by omega)]
    by_cases hj2 : a ≤ j ∧ j < b
    · obtain ⟨j', h1, h2, e⟩ := R.mem hab (by omega) j hj2.1 hj2.2
      rw [e]
      exact P.ord i j' (by omega) (by omega) (by omega)
    · rw [R.out j (by omega)]
      exact P.ord i j hij hj hn
def SortedP (R : List Tx) (a b : Nat) : Prop := ∀ i j, a ≤ i → i < j → j < b → leT (tat R i) (tat R j)
theorem InP.done {l M : List Tx} {a b : Nat} (P : InP l M a b) (S : SortedP M a b) : M = sortI lt [] l := by
  have hM := P.perm.length_eq
  refine tsort_unique ?_ (tsorted l) (P.perm.trans (sortI_perm lt [] l).symm)
  rw [List.pairwise_iff_getElem]
  intro i j h1 h2 hij
  rw [tat_get, tat_get]
  by_cases h : a ≤ i ∧ j < b
  · exact S i j h.1 hij h.2
  · exact P.ord i j hij (by omega) h
theorem leT_refl (x : Tx) : leT x x := lt_irrefl x

section
variable {s : AVal} {n0 : Nat} {l M : List Tx} {a b : Nat}
theorem isortP_ok {h : Heap} (B : BufT s h n0 M) (hl : M.length ≤ 1000) (hab : a ≤ b) (hb : b ≤ M.length) :
    ∃ R H, E tbl 40 [s, .int .i64 a, .int .i64 b] h = some (.tuple [], H) ∧ BufT s H n0 R ∧ Reg a b M R ∧ SortedP R a b ∧ OnlyS s h H := by
  have hc := cut3 M a b hab
  obtain ⟨A, hA⟩ : ∃ A, A = M.take a := ⟨_, rfl⟩
  obtain ⟨X, hX⟩ : ∃ X, X = (M.drop a).take (b - a) := ⟨_, rfl⟩
  obtain ⟨Z, hZ⟩ : ∃ Z, Z = M.drop b := ⟨_, rfl⟩
  rw [← hA, ← hX, ← hZ] at hc
  have lA : A.length = a := by rw [hA, List.length_take]; omega
  have lX : X.length = b - a := by rw [hX, List.length_take, List.length_drop]; omega
  rw [hc] at B hl
  obtain ⟨H, e, BH, O⟩ := isortR_ok B hl
  rw [lA, show a + X.length = b by omega] at e
  refine ⟨_, H, e, BH, ⟨?_, fun i hi => ?_⟩, fun i j h1 h2 h3 => ?_, O⟩
  · rw [hc]
    exact ((sortI_perm lt [] X).append_right Z).append_left A
  · rw [hc]
    unfold tat
    rw [List.getD_eq_getElem?_getD, List.getD_eq_getElem?_getD]
    by_cases h1 : i < a
    · rw [List.getElem?_append_left (by omega), List.getElem?_append_left (by omega)]
    · rw [List.getElem?_append_right (by omega), List.getElem?_append_right (by rw [sortI_len]; omega), List.getElem?_append_right (by omega), List.getElem?_append_right (by omega), sortI_len]
  · have hs := List.pairwise_iff_getElem.1 (tsorted X)
    have e1 : tat (A ++ (sortI lt [] X ++ Z)) i = tat (sortI lt [] X) (i - a) := by
      have := tat_mid A (sortI lt [] X) Z (i - a) (by rw [sortI_len]; omega)
      rw [lA, show a + (i - a) = i by omega] at this
      exact this
    have e2 : tat (A ++ (sortI lt [] X ++ Z)) j = tat (sortI lt [] X) (j - a) := by
      have := tat_mid A (sortI lt [] X) Z (j - a) (by rw [sortI_len]; omega)
      rw [lA, show a + (j - a) = j by omega] at this
      exact this
    rw [e1, e2, ← tat_get _ _ (by rw [sortI_len]; omega), ← tat_get _ _ (by rw [sortI_len]; omega)]
    exact hs _ _ _ _ (by omega)
theorem few35 {h : Heap} (B : BufT s h n0 M) (hl : M.length ≤ 1000) (hab : a ≤ b) (hb : b ≤ M.length) (h12 : b ≤ a + 12) (lim x4 x5 : AVal) :
    ∃ R H, L35_0 (E tbl) [s, .int .i64 a, .int .i64 b, lim, x4, x5] h = some (1, [], H) ∧ BufT s H n0 R ∧ Reg a b M R ∧ SortedP R a b ∧ OnlyS s h H := by
  obtain ⟨R, H, e, x⟩ := isortP_ok B hl hab hb
  refine ⟨R, H, ?_, x⟩
  have w0 : IntKind.i64.wrap ((b : Int) - (a : Int)) = ((b - a : Nat) : Int) := by rw [IntWalk.i64_in _ (by omega)]; omega
  have i1 : decide (((b - a : Nat) : Int) ≤ 12) = true := decide_eq_true (by omega)
  rw [L35_cut]
  simp only [List.getD_cons_zero, List.getD_cons_succ, bin_sub, w0, bin_leq, i1, Option.bind_some, cond_bool, cond_true, e]
theorem few_ok {h : Heap} (B : BufT s h n0 M) (hl : M.length ≤ 1000) (hab : a ≤ b) (hb : b ≤ M.length) (h12 : b ≤ a + 12) (lim : AVal) :
    ∃ R H, E tbl 35 [s, .int .i64 a, .int .i64 b, lim] h = some (.tuple [], H) ∧ BufT s H n0 R ∧ Reg a b M R ∧ SortedP R a b ∧ OnlyS s h H := by
  obtain ⟨R, H, e, x⟩ := few35 B hl hab hb h12 lim (.bool true) (.bool true)
  refine ⟨R, H, ?_, x⟩
  rw [c35]
  simp only [S35, loop_done (i := 0) e, Option.bind_some, Nat.zero_add, nat_beq11, cond_true, ans_one]

/-- One round, behind the pivot's choice. -/
theorem t25_ok {h : Heap} (B : BufT s h n0 M) (P : InP l M a b) (hl : l.length ≤ 1000) (h2 : a + 2 ≤ b) (h14 : b ≤ a + 14) (pv : Nat) (p1 : a ≤ pv) (p2 : pv < b) (lim : AVal) (wb wp : Bool) (n : Nat) (hn : n ≤ 1000) :
    ∃ (a' b' : Nat) (wb' wp' : Bool) (R : List Tx) (H : Heap), T25 (E tbl) (1, [s, .int .i64 a, .int .i64 b, lim, .bool wb, .bool wp, .int .i64 n, .int .i64 pv], h) = some (0, [s, .int .i64 a', .int .i64 b', lim, .bool wb', .bool wp'], H) ∧ BufT s H n0 R ∧ InP l R a' b' ∧ b' - a' < b - a ∧ OnlyS s h H := by
  have hM := P.perm.length_eq
  have hbl := P.bl
  by_cases hE : 0 < a ∧ lt (tat M (a - 1)) (tat M pv) = false
  · -- what is the same as the one ahead
    obtain ⟨ha, hq⟩ := hE
    have d : decide ((a : Int) > 0) = true := decide_eq_true (by omega)
    have wa : IntKind.i64.wrap ((a : Int) - 1) = ((a - 1 : Nat) : Int) := by rw [IntWalk.i64_in _ (by omega)]; omega
    obtain ⟨p, e1, e2⟩ := BufT.rd B (a - 1) (by omega)
    obtain ⟨q, e3, e4⟩ := BufT.rd B pv (by omega)
    have e5 := less46 (tat M (a - 1)) (tat M pv) h
    rw [hq] at e5
    obtain ⟨m, R, H, f1, f2, f3, f4, f5, f6, f7, f8, f9⟩ := partitionEqual_ok B (by omega) pv (by omega) (by omega) p1 p2
    have P' := P.reg f3
    refine ⟨m, b, wb, wp, R, H, ?_, f2, ⟨P'.perm, f5, P'.bl, fun i j hij hj hnot => ?_⟩, by omega, f9⟩
    · simp only [T25, List.getD_cons_zero, List.getD_cons_succ, show Nat.beq 1 0 = false from rfl, nat_beq11, cond_true, cond_false, bin_gtr, d, Option.bind_some, guard_bool, BEq.rfl, bin_sub, wa, e1, e2, e3, e4, from_one, e5, un_not, Bool.not_false, pick_bool, cond_bool, f1]
    · by_cases hin : a ≤ i ∧ j < b
      · by_cases hjm : j < m
        · -- both are the pivot's own
          have x1 := f7 i hin.1 (by omega)
          have x3 : leT (tat M (a - 1)) (tat R j) := by
            obtain ⟨j', j1, j2, je⟩ := f3.mem P.ab (by omega) j (by omega) hin.2
            rw [je]
            exact P.ord (a - 1) j' (by omega) (by omega) (by omega)
          exact lt_le_trans (lt_le_trans (x := tat R i) (y := tat M pv) (z := tat M (a - 1)) x1 hq) x3
        · have x1 := f7 i hin.1 (by omega)
          have x2 := f8 j (by omega) hin.2
          exact lt_le_trans (x := tat R i) (y := tat M pv) (z := tat R j) x1 (lt_asymm x2)
      · exact P'.ord i j hij hj hin
  · obtain ⟨m, c, R, h1, f1, f2, f3, f4⟩ := partition_ok B (by omega) pv (by omega) (by omega) p1 p2
    have P' := P.reg f3.reg
    have hR := P'.perm.length_eq
    have m1 := f3.am
    have m2 := f3.mb
    have w42 : IntKind.i64.wrap ((m : Int) - (a : Int)) = ((m - a : Nat) : Int) := by rw [IntWalk.i64_in _ (by omega)]; omega
    have w43 : IntKind.i64.wrap ((b : Int) - (m : Int)) = ((b - m : Nat) : Int) := by rw [IntWalk.i64_in _ (by omega)]; omega
    have w48 := wrap_succ m (by omega)
    by_cases hlr : m - a < b - m
    · have d45 : decide (((m - a : Nat) : Int) < ((b - m : Nat) : Int)) = true := decide_eq_true (by omega)
      obtain ⟨R2, H, g1, g2, g3, g4, g5⟩ := few_ok (a := a) (b := m) f2 (by omega) m1 (by omega) (by omega) lim
      have P2 := P'.reg (g3.wide (Nat.le_refl a) (Nat.le_of_lt m2))
      refine ⟨m + 1, b, decide (((m - a : Nat) : Int) ≥ IntKind.i64.wrap (Int.tdiv (n : Int) 8)), c, R2, H, ?_, g2, ⟨P2.perm, by omega, P2.bl, fun i j hij hj hnot => ?_⟩, by omega, f4.trans g5⟩
      · by_cases ha : 0 < a
        · have hq : lt (tat M (a - 1)) (tat M pv) = true := by
            cases hq : lt (tat M (a - 1)) (tat M pv) with
            | true => rfl
            | false => exact absurd ⟨ha, hq⟩ hE
          have d : decide ((a : Int) > 0) = true := decide_eq_true (by omega)
          have wa : IntKind.i64.wrap ((a : Int) - 1) = ((a - 1 : Nat) : Int) := by rw [IntWalk.i64_in _ (by omega)]; omega
          obtain ⟨p, e1, e2⟩ := BufT.rd B (a - 1) (by omega)
          obtain ⟨q, e3, e4⟩ := BufT.rd B pv (by omega)
          have e5 := less46 (tat M (a - 1)) (tat M pv) h
          rw [hq] at e5
          simp only [T25, List.getD_cons_zero, List.getD_cons_succ, show Nat.beq 1 0 = false from rfl, nat_beq11, cond_true, cond_false, bin_gtr, d, Option.bind_some, guard_bool, BEq.rfl, bin_sub, wa, e1, e2, e3, e4, from_one, e5, un_not, Bool.not_true, pick_bool, cond_bool, f1, Option.bind_some, ext_0, ext_1, bin_sub, w42, w43, bin_quo, show ¬ (8 : Int) = 0 by decide, if_false, bin_lss, d45, cond_bool, cond_true, bin_geq, g1, bin_add, w48]
        · have d : decide ((a : Int) > 0) = false := decide_eq_false (by omega)
          simp only [T25, List.getD_cons_zero, List.getD_cons_succ, show Nat.beq 1 0 = false from rfl, nat_beq11, cond_true, cond_false, bin_gtr, d, Option.bind_some, guard_bool, show (false == true) = false from rfl, bin_sub, pick_bool, cond_bool, f1, Option.bind_some, ext_0, ext_1, bin_sub, w42, w43, bin_quo, show ¬ (8 : Int) = 0 by decide, if_false, bin_lss, d45, cond_bool, cond_true, bin_geq, g1, bin_add, w48]
      · have em : tat R2 m = tat R m := g3.out m (by omega)
        by_cases hin : a ≤ i ∧ j < b
        · by_cases hjm : j < m
          · exact g4 i j hin.1 hij hjm
          · have hi : leT (tat R2 i) (tat R m) := by
              by_cases him : i < m
              · obtain ⟨i', i1, i2, ie⟩ := g3.mem m1 (by omega) i hin.1 him
                rw [ie]
                exact lt_asymm (f3.lo i' i1 i2)
              · obtain rfl : i = m := by omega
                rw [em]; exact leT_refl _
            by_cases hj2 : j = m
            · subst hj2; rw [em]; exact hi
            · have ej : tat R2 j = tat R j := g3.out j (by omega)
              rw [ej]
              exact lt_le_trans hi (f3.hi j (by omega) hin.2)
        · exact P2.ord i j hij hj hin
    · have d45 : decide (((m - a : Nat) : Int) < ((b - m : Nat) : Int)) = false := decide_eq_false (by omega)
      obtain ⟨R2, H, g1, g2, g3, g4, g5⟩ := few_ok (a := m + 1) (b := b) f2 (by omega) (by omega) (by omega) (by omega) lim
      have P2 := P'.reg (g3.wide (by omega) (Nat.le_refl b))
      refine ⟨a, m, decide (((b - m : Nat) : Int) ≥ IntKind.i64.wrap (Int.tdiv (n : Int) 8)), c, R2, H, ?_, g2, ⟨P2.perm, m1, by omega, fun i j hij hj hnot => ?_⟩, by omega, f4.trans g5⟩
      · by_cases ha : 0 < a
        · have hq : lt (tat M (a - 1)) (tat M pv) = true := by
            cases hq : lt (tat M (a - 1)) (tat M pv) with
            | true => rfl
            | false => exact absurd ⟨ha, hq⟩ hE
          have d : decide ((a : Int) > 0) = true := decide_eq_true (by omega)
          have wa : IntKind.i64.wrap ((a : Int) - 1) = ((a - 1 : Nat) : Int) := by rw [IntWalk.i64_in _ (by omega)]; omega
          obtain ⟨p, e1, e2⟩ := BufT.rd B (a - 1) (by omega)
          obtain ⟨q, e3, e4⟩ := BufT.rd B pv (by omega)
          have e5 := less46 (tat M (a - 1)) (tat M pv) h
          rw [hq] at e5
          simp only [T25, List.getD_cons_zero, List.getD_cons_succ, show Nat.beq 1 0 = false from rfl, nat_beq11, cond_true, cond_false, bin_gtr, d, Option.bind_some, guard_bool, BEq.rfl, bin_sub, wa, e1, e2, e3, e4, from_one, e5, un_not, Bool.not_true, pick_bool, cond_bool, f1, Option.bind_some, ext_0, ext_1, bin_sub, w42, w43, bin_quo, show ¬ (8 : Int) = 0 by decide, if_false, bin_lss, d45, cond_bool, cond_false, bin_geq, bin_add, w48, g1]
        · have d : decide ((a : Int) > 0) = false := decide_eq_false (by omega)
          simp only [T25, List.getD_cons_zero, List.getD_cons_succ, show Nat.beq 1 0 = false from rfl, nat_beq11, cond_true, cond_false, bin_gtr, d, Option.bind_some, guard_bool, show (false == true) = false from rfl, bin_sub, pick_bool, cond_bool, f1, Option.bind_some, ext_0, ext_1, bin_sub, w42, w43, bin_quo, show ¬ (8 : Int) = 0 by decide, if_false, bin_lss, d45, cond_bool, cond_false, bin_geq, bin_add, w48, g1]
      · have em : tat R2 m = tat R m := g3.out m (by omega)
        by_cases hin : a ≤ i ∧ j < b
        · by_cases him : m < i
          · exact g4 i j (by omega) hij hin.2
          · have hj : leT (tat R m) (tat R2 j) := by
              by_cases hjm : m < j
              · obtain ⟨j', j1, j2, je⟩ := g3.mem (by omega) (by omega) j (by omega) hin.2
                rw [je]
                exact f3.hi j' (by omega) j2
              · obtain rfl : j = m := by omega
                rw [em]; exact leT_refl _
            by_cases hi2 : i = m
            · subst hi2; rw [em]; exact hj
            · have ei : tat R2 i = tat R i := g3.out i (by omega)
              rw [ei]
              exact lt_le_trans (lt_asymm (f3.lo i hin.1 (by omega))) hj
        · exact P2.ord i j hij hj hin
end
end Go.Proofs.Ytllogmedpmanoaa.Code
