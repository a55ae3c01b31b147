/- pdqsort's parts, of texts: what is swapped, what is scanned. -/
import Derived.Test.YtllogmedpmanoaaApps
import Derived.Test.YtllogmedpmanoaaSameLaw
namespace Go.Proofs.Ytllogmedpmanoaa.Code
set_option linter.unusedSimpArgs false
set_option linter.unusedVariables false
open Go.Fw

def tat (l : List Tx) (i : Nat) : Tx := l.getD i []
theorem tat_get (l : List Tx) (i : Nat) (h : i < l.length) : l[i] = tat l i := by
  unfold tat
  rw [List.getD_eq_getElem?_getD, List.getElem?_eq_getElem h]
  rfl
def swapL (l : List Tx) (i j : Nat) : List Tx := (l.set i (tat l j)).set j (tat l i)
theorem swap_len (l : List Tx) (i j : Nat) : (swapL l i j).length = l.length := by simp [swapL]
theorem swap_perm (l : List Tx) (i j : Nat) (hi : i < l.length) (hj : j < l.length) : (swapL l i j).Perm l := by
  have := List.set_set_perm hi hj
  rw [tat_get l j hj, tat_get l i hi] at this
  exact this
theorem swap_at (l : List Tx) (i j k : Nat) (hi : i < l.length) (hj : j < l.length) : tat (swapL l i j) k = if k = j then tat l i else if k = i then tat l j else tat l k := by
  unfold swapL
  generalize tat l i = x
  generalize tat l j = y
  unfold tat
  simp only [List.getD_eq_getElem?_getD, List.getElem?_set, List.length_set]
  by_cases h1 : k = j
  · subst h1; simp [hj]
  · by_cases h2 : k = i
    · subst h2
      rw [if_neg (fun e => h1 e.symm)]
      simp [h1, hi]
    · rw [if_neg (fun e => h1 e.symm), if_neg (fun e => h2 e.symm), if_neg h1, if_neg h2]

/-- Only what lies in a region was moved. -/
structure Reg (a b : Nat) (l l' : List Tx) : Prop where
  perm : l'.Perm l
  out : ∀ i, i < a ∨ b ≤ i → tat l' i = tat l i
theorem Reg.refl (a b : Nat) (l : List Tx) : Reg a b l l := ⟨List.Perm.refl _, fun _ _ => rfl⟩
theorem Reg.trans {a b : Nat} {l m n : List Tx} (x : Reg a b l m) (y : Reg a b m n) : Reg a b l n := ⟨y.perm.trans x.perm, fun i hi => (y.out i hi).trans (x.out i hi)⟩
theorem Reg.len {a b : Nat} {l l' : List Tx} (x : Reg a b l l') : l'.length = l.length := x.perm.length_eq
theorem Reg.swap {a b : Nat} {l m : List Tx} (x : Reg a b l m) (i j : Nat) (hi : a ≤ i ∧ i < b) (hj : a ≤ j ∧ j < b) (hb : b ≤ l.length) : Reg a b l (swapL m i j) := by
  have hl := x.len
  refine x.trans ⟨swap_perm m i j (by omega) (by omega), fun k hk => ?_⟩
  rw [swap_at m i j k (by omega) (by omega), if_neg (by omega), if_neg (by omega)]
theorem Reg.wide {a b c d : Nat} {l m : List Tx} (x : Reg a b l m) (h1 : c ≤ a) (h2 : b ≤ d) : Reg c d l m := ⟨x.perm, fun i hi => x.out i (by omega)⟩

variable {s : AVal} {h : Heap} {n0 : Nat} {L : List Tx}
theorem BufT.rd (B : BufT s h n0 L) (i : Nat) (hi : i < L.length) : ∃ p, aIaddr 1 s (.int .i64 i) = some p ∧ aLoad h 1 p = some [.str (tat L i)] := by
  obtain ⟨p, e1, e2⟩ := BufT.at B i hi
  rw [tat_get L i hi] at e2
  exact ⟨p, e1, e2⟩
theorem BufT.swap (B : BufT s h n0 L) (i j : Nat) (hi : i < L.length) (hj : j < L.length) :
    ∃ p q h1 h2, aIaddr 1 s (.int .i64 i) = some p ∧ aIaddr 1 s (.int .i64 j) = some q ∧ aLoad h 1 p = some [.str (tat L i)] ∧ aLoad h 1 q = some [.str (tat L j)] ∧ aStore h p [.str (tat L j)] = some h1 ∧ aStore h1 q [.str (tat L i)] = some h2 ∧ BufT s h2 n0 (swapL L i j) ∧ OnlyS s h h2 := by
  obtain ⟨p, a1, a2⟩ := BufT.rd B i hi
  obtain ⟨q, b1, b2⟩ := BufT.rd B j hj
  obtain ⟨p', h1, c1, c2, B1, n1, o1⟩ := El.Buf.set B i hi (tat L j)
  rw [a1] at c1
  cases c1
  obtain ⟨q', h2, d1, d2, B2, n2, o2⟩ := El.Buf.set B1 j (by rw [List.length_set]; exact hj) (tat L i)
  rw [b1] at d1
  cases d1
  exact ⟨p, q, h1, h2, a1, b1, a2, b2, c2, d2, B2, by omega, fun b _ hne => by rw [o2 b hne, o1 b hne]⟩

theorem leq_dec (a b : Int) : aBin .leq .plain (.int .i64 a) (.int .i64 b) = some (.bool (decide (a ≤ b))) := bin_leq _ _ _

/-! Scans. -/
theorem up48 (B : BufT s h n0 L) (hl : L.length ≤ 1000) (a j : Nat) (ha : a < L.length) (hj : j < L.length) : ∀ (n i : Nat), i + n = j + 1 →
    ∃ i', loop (L48_0 (E tbl)) [s, .int .i64 a, .int .i64 i, .int .i64 j] h = some (1, [s, .int .i64 a, .int .i64 (i' : Nat), .int .i64 j], h) ∧ i ≤ i' ∧ i' ≤ j + 1 ∧ (∀ k, i ≤ k → k < i' → lt (tat L k) (tat L a) = true) ∧ (i' ≤ j → lt (tat L i') (tat L a) = false)
  | 0, i, hi => by
    have d : decide ((i : Int) ≤ (j : Int)) = false := decide_eq_false (by omega)
    refine ⟨i, loop_done ?_, Nat.le_refl _, by omega, fun k h1 h2 => by omega, fun h1 => by omega⟩
    simp only [L48_0, List.getD_cons_zero, List.getD_cons_succ, bin_leq, d, Option.bind_some, guard_bool, show (false == true) = false from rfl, cond_false, pick_bool, cond_bool]
  | n + 1, i, hi => by
    have d : decide ((i : Int) ≤ (j : Int)) = true := decide_eq_true (by omega)
    obtain ⟨p, e1, e2⟩ := BufT.rd B i (by omega)
    obtain ⟨q, e3, e4⟩ := BufT.rd B a ha
    have e5 := less46 (tat L i) (tat L a) h
    have ws := wrap_succ i (by omega)
    cases hq : lt (tat L i) (tat L a) with
    | true =>
      rw [hq] at e5
      obtain ⟨i', f1, f2, f3, f4, f5⟩ := up48 B hl a j ha hj n (i + 1) (by omega)
      refine ⟨i', (loop_more ?_).trans f1, by omega, f3, fun k h1 h2 => ?_, f5⟩
      · simp only [L48_0, List.getD_cons_zero, List.getD_cons_succ, bin_leq, d, Option.bind_some, guard_bool, BEq.rfl, cond_true, e1, e2, e3, e4, from_one, e5, pick_bool, cond_bool, bin_add, ws]
      · by_cases e : k = i
        · subst e; exact hq
        · exact f4 k (by omega) h2
    | false =>
      rw [hq] at e5
      refine ⟨i, loop_done ?_, Nat.le_refl _, by omega, fun k h1 h2 => by omega, fun _ => hq⟩
      simp only [L48_0, List.getD_cons_zero, List.getD_cons_succ, bin_leq, d, Option.bind_some, guard_bool, BEq.rfl, cond_true, e1, e2, e3, e4, from_one, e5, pick_bool, cond_bool, cond_false]
theorem down48 (B : BufT s h n0 L) (hl : L.length ≤ 1000) (a i : Nat) (ha : a < L.length) (hi : 1 ≤ i) : ∀ (n j : Nat), i + n = j + 1 → j < L.length →
    ∃ j', loop (L48_1 (E tbl)) [s, .int .i64 a, .int .i64 i, .int .i64 j] h = some (1, [s, .int .i64 a, .int .i64 i, .int .i64 (j' : Nat)], h) ∧ j' ≤ j ∧ i ≤ j' + 1 ∧ (∀ k, j' < k → k ≤ j → lt (tat L k) (tat L a) = false) ∧ (i ≤ j' → lt (tat L j') (tat L a) = true)
  | 0, j, hj, hjl => by
    have d : decide ((i : Int) ≤ (j : Int)) = false := decide_eq_false (by omega)
    refine ⟨j, loop_done ?_, Nat.le_refl _, by omega, fun k h1 h2 => by omega, fun h1 => by omega⟩
    simp only [L48_1, List.getD_cons_zero, List.getD_cons_succ, bin_leq, d, Option.bind_some, guard_bool, show (false == true) = false from rfl, cond_false, pick_bool, cond_bool]
  | n + 1, j, hj, hjl => by
    have d : decide ((i : Int) ≤ (j : Int)) = true := decide_eq_true (by omega)
    obtain ⟨p, e1, e2⟩ := BufT.rd B j hjl
    obtain ⟨q, e3, e4⟩ := BufT.rd B a ha
    have e5 := less46 (tat L j) (tat L a) h
    have ws : IntKind.i64.wrap ((j : Int) - 1) = ((j - 1 : Nat) : Int) := by rw [IntWalk.i64_in _ (by omega)]; omega
    cases hq : lt (tat L j) (tat L a) with
    | false =>
      rw [hq] at e5
      obtain ⟨j', f1, f2, f3, f4, f5⟩ := down48 B hl a i ha hi n (j - 1) (by omega) (by omega)
      refine ⟨j', (loop_more ?_).trans f1, by omega, f3, fun k h1 h2 => ?_, f5⟩
      · simp only [L48_1, List.getD_cons_zero, List.getD_cons_succ, bin_leq, d, Option.bind_some, guard_bool, BEq.rfl, cond_true, e1, e2, e3, e4, from_one, e5, un_not, Bool.not_false, pick_bool, cond_bool, bin_sub, ws]
      · by_cases e : k = j
        · subst e; exact hq
        · exact f4 k h1 (by omega)
    | true =>
      rw [hq] at e5
      refine ⟨j, loop_done ?_, Nat.le_refl _, by omega, fun k h1 h2 => by omega, fun _ => hq⟩
      simp only [L48_1, List.getD_cons_zero, List.getD_cons_succ, bin_leq, d, Option.bind_some, guard_bool, BEq.rfl, cond_true, e1, e2, e3, e4, from_one, e5, un_not, Bool.not_true, pick_bool, cond_bool, cond_false]
theorem up47 (B : BufT s h n0 L) (hl : L.length ≤ 1000) (a j : Nat) (ha : a < L.length) (hj : j < L.length) : ∀ (n i : Nat), i + n = j + 1 →
    ∃ i', loop (L47_1 (E tbl)) [s, .int .i64 a, .int .i64 i, .int .i64 j] h = some (1, [s, .int .i64 a, .int .i64 (i' : Nat), .int .i64 j], h) ∧ i ≤ i' ∧ i' ≤ j + 1 ∧ (∀ k, i ≤ k → k < i' → lt (tat L a) (tat L k) = false) ∧ (i' ≤ j → lt (tat L a) (tat L i') = true)
  | 0, i, hi => by
    have d : decide ((i : Int) ≤ (j : Int)) = false := decide_eq_false (by omega)
    refine ⟨i, loop_done ?_, Nat.le_refl _, by omega, fun k h1 h2 => by omega, fun h1 => by omega⟩
    simp only [L47_1, List.getD_cons_zero, List.getD_cons_succ, bin_leq, d, Option.bind_some, guard_bool, show (false == true) = false from rfl, cond_false, pick_bool, cond_bool]
  | n + 1, i, hi => by
    have d : decide ((i : Int) ≤ (j : Int)) = true := decide_eq_true (by omega)
    obtain ⟨p, e1, e2⟩ := BufT.rd B i (by omega)
    obtain ⟨q, e3, e4⟩ := BufT.rd B a ha
    have e5 := less46 (tat L a) (tat L i) h
    have ws := wrap_succ i (by omega)
    cases hq : lt (tat L a) (tat L i) with
    | false =>
      rw [hq] at e5
      obtain ⟨i', f1, f2, f3, f4, f5⟩ := up47 B hl a j ha hj n (i + 1) (by omega)
      refine ⟨i', (loop_more ?_).trans f1, by omega, f3, fun k h1 h2 => ?_, f5⟩
      · simp only [L47_1, List.getD_cons_zero, List.getD_cons_succ, bin_leq, d, Option.bind_some, guard_bool, BEq.rfl, cond_true, e1, e2, e3, e4, from_one, e5, un_not, Bool.not_false, pick_bool, cond_bool, bin_add, ws]
      · by_cases e : k = i
        · subst e; exact hq
        · exact f4 k (by omega) h2
    | true =>
      rw [hq] at e5
      refine ⟨i, loop_done ?_, Nat.le_refl _, by omega, fun k h1 h2 => by omega, fun _ => hq⟩
      simp only [L47_1, List.getD_cons_zero, List.getD_cons_succ, bin_leq, d, Option.bind_some, guard_bool, BEq.rfl, cond_true, e1, e2, e3, e4, from_one, e5, un_not, Bool.not_true, pick_bool, cond_bool, cond_false]
theorem down47 (B : BufT s h n0 L) (hl : L.length ≤ 1000) (a i : Nat) (ha : a < L.length) (hi : 1 ≤ i) : ∀ (n j : Nat), i + n = j + 1 → j < L.length →
    ∃ j', loop (L47_2 (E tbl)) [s, .int .i64 a, .int .i64 i, .int .i64 j] h = some (1, [s, .int .i64 a, .int .i64 i, .int .i64 (j' : Nat)], h) ∧ j' ≤ j ∧ i ≤ j' + 1 ∧ (∀ k, j' < k → k ≤ j → lt (tat L a) (tat L k) = true) ∧ (i ≤ j' → lt (tat L a) (tat L j') = false)
  | 0, j, hj, hjl => by
    have d : decide ((i : Int) ≤ (j : Int)) = false := decide_eq_false (by omega)
    refine ⟨j, loop_done ?_, Nat.le_refl _, by omega, fun k h1 h2 => by omega, fun h1 => by omega⟩
    simp only [L47_2, List.getD_cons_zero, List.getD_cons_succ, bin_leq, d, Option.bind_some, guard_bool, show (false == true) = false from rfl, cond_false, pick_bool, cond_bool]
  | n + 1, j, hj, hjl => by
    have d : decide ((i : Int) ≤ (j : Int)) = true := decide_eq_true (by omega)
    obtain ⟨p, e1, e2⟩ := BufT.rd B j hjl
    obtain ⟨q, e3, e4⟩ := BufT.rd B a ha
    have e5 := less46 (tat L a) (tat L j) h
    have ws : IntKind.i64.wrap ((j : Int) - 1) = ((j - 1 : Nat) : Int) := by rw [IntWalk.i64_in _ (by omega)]; omega
    cases hq : lt (tat L a) (tat L j) with
    | true =>
      rw [hq] at e5
      obtain ⟨j', f1, f2, f3, f4, f5⟩ := down47 B hl a i ha hi n (j - 1) (by omega) (by omega)
      refine ⟨j', (loop_more ?_).trans f1, by omega, f3, fun k h1 h2 => ?_, f5⟩
      · simp only [L47_2, List.getD_cons_zero, List.getD_cons_succ, bin_leq, d, Option.bind_some, guard_bool, BEq.rfl, cond_true, e1, e2, e3, e4, from_one, e5, pick_bool, cond_bool, bin_sub, ws]
      · by_cases e : k = j
        · subst e; exact hq
        · exact f4 k h1 (by omega)
    | false =>
      rw [hq] at e5
      refine ⟨j, loop_done ?_, Nat.le_refl _, by omega, fun k h1 h2 => by omega, fun _ => hq⟩
      simp only [L47_2, List.getD_cons_zero, List.getD_cons_succ, bin_leq, d, Option.bind_some, guard_bool, BEq.rfl, cond_true, e1, e2, e3, e4, from_one, e5, pick_bool, cond_bool, cond_false]
end Go.Proofs.Ytllogmedpmanoaa.Code
