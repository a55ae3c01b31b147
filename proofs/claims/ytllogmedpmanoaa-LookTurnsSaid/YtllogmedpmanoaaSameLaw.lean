/- The apps there are, in two ways. -/
import Derived.Test.YtllogmedpmanoaaCount
namespace Go.Proofs.Ytllogmedpmanoaa.Code
set_option linter.unusedSimpArgs false
set_option linter.unusedVariables false
open Go.Fw

theorem lt_asymm {x y : Tx} (h : lt x y = true) : lt y x = false := by
  cases e : lt y x with
  | false => rfl
  | true =>
    have := lt_trans h e
    rw [lt_irrefl] at this
    cases this
theorem lt_le_trans {x y z : Tx} (h1 : lt y x = false) (h2 : lt z y = false) : lt z x = false := by
  cases e : lt z x with
  | false => rfl
  | true =>
    cases q : lt x y with
    | true => rw [lt_trans e q] at h2; cases h2
    | false => rw [lt_total q h1] at e; rw [e] at h2; cases h2
theorem lessK_irrefl (x : Key) : lessK x x = false := by simp [lessK, lt_irrefl]
theorem lessK_trans {x y z : Key} (h1 : lessK x y = true) (h2 : lessK y z = true) : lessK x z = true := by
  unfold lessK at *
  by_cases a : x.1 = y.1
  · rw [if_pos a] at h1
    rw [a]
    by_cases b : y.1 = z.1
    · rw [if_pos b] at h2 ⊢
      exact lt_trans h1 h2
    · rw [if_neg b] at h2 ⊢
      exact h2
  · rw [if_neg a] at h1
    by_cases b : y.1 = z.1
    · rw [if_neg (by rw [← b]; exact a), ← b]
      exact h1
    · rw [if_neg b] at h2
      have h3 := lt_trans h1 h2
      by_cases c : x.1 = z.1
      · rw [c, lt_irrefl] at h3; cases h3
      · rw [if_neg c]; exact h3
theorem lessK_total {x y : Key} (h1 : lessK x y = false) (h2 : lessK y x = false) : x = y := by
  unfold lessK at *
  by_cases a : x.1 = y.1
  · rw [if_pos a] at h1
    rw [if_pos a.symm] at h2
    exact Prod.ext a (lt_total h1 h2)
  · rw [if_neg a] at h1
    rw [if_neg (fun h => a h.symm)] at h2
    exact absurd (lt_total h1 h2) a
theorem lessK_asymm {x y : Key} (h : lessK x y = true) : lessK y x = false := by
  cases e : lessK y x with
  | false => rfl
  | true =>
    have := lessK_trans h e
    rw [lessK_irrefl] at this
    cases this
theorem lessK_le_trans {x y z : Key} (h1 : lessK y x = false) (h2 : lessK z y = false) : lessK z x = false := by
  cases e : lessK z x with
  | false => rfl
  | true =>
    cases q : lessK x y with
    | true => rw [lessK_trans e q] at h2; cases h2
    | false => rw [lessK_total q h1] at e; rw [e] at h2; cases h2
theorem lessK_fst {x y : Key} (h : lessK y x = false) : lt y.1 x.1 = false := by
  unfold lessK at h
  by_cases a : y.1 = x.1
  · rw [a]; exact lt_irrefl _
  · rw [if_neg a] at h; exact h

abbrev leT (x y : Tx) : Prop := lt y x = false
theorem tsorted (l : List Tx) : (sortI lt [] l).Pairwise leT := sortI_sorted (less := lt) (d := []) leT (fun _ _ h => h) (fun _ _ h => lt_asymm h) (fun _ _ _ h1 h2 => lt_le_trans h1 h2) l
abbrev leC (x y : Cd) : Prop := lessK y.key x.key = false
theorem csorted (l : List Cd) : (sortI lessC noCd l).Pairwise leC := sortI_sorted (less := lessC) (d := noCd) leC (fun _ _ h => h) (fun _ _ h => lessK_asymm h) (fun _ _ _ h1 h2 => lessK_le_trans h1 h2) l

theorem tsort_unique {l m : List Tx} (hl : l.Pairwise leT) (hm : m.Pairwise leT) (h : l.Perm m) : l = m :=
  List.Perm.eq_of_pairwise (le := leT) (fun a b _ _ h1 h2 => lt_total h2 h1) hl hm h
theorem apps_eq (l : List Cd) : (seenC l).map Cd.a = sortI lt [] (appsRaw l) := by
  refine tsort_unique ?_ (tsorted _) ?_
  · unfold seenC
    refine List.Pairwise.map _ (fun x y h => ?_) ((csorted l).filter _)
    exact lessK_fst (x := x.key) (y := y.key) h
  · refine List.Perm.trans ?_ (sortI_perm lt [] _).symm
    unfold seenC appsRaw
    exact ((sortI_perm lessC noCd l).filter _).map _
end Go.Proofs.Ytllogmedpmanoaa.Code
