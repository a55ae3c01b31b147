/- Turn by turn: each key is counted as often as the others. -/
import Derived.Test.YtllogmedpmanoaaMapD
namespace Go.Fw
set_option linter.unusedSimpArgs false
set_option linter.unusedVariables false

theorem idxOf_none (k : Tx2) : ∀ (L : List (Tx2 × Int)) (i : Nat), (∀ e ∈ L, e.1 ≠ k) → idxOf k L i = none
  | [], _, _ => rfl
  | e :: L, i, h => by
    unfold idxOf
    have : (k == e.1) = false := beq_eq_false_iff_ne.2 fun q => h e (by simp) q.symm
    rw [this, cond_false]
    exact idxOf_none k L (i + 1) fun x hx => h x (by simp [hx])
theorem idxOf_at (k : Tx2) : ∀ (L : List (Tx2 × Int)) (i p : Nat) (c : Int), L[p]? = some (k, c) → (∀ j e, j < p → L[j]? = some e → e.1 ≠ k) → idxOf k L i = some (i + p, c)
  | [], _, _, _, h, _ => by simp at h
  | e :: L, i, 0, c, h, _ => by
    simp at h
    subst h
    simp [idxOf]
  | e :: L, i, p + 1, c, h, hn => by
    unfold idxOf
    have : (k == e.1) = false := beq_eq_false_iff_ne.2 fun q => hn 0 e (by omega) rfl q.symm
    rw [this, cond_false, idxOf_at k L (i + 1) p c (by simpa using h) fun j x hj hx => hn (j + 1) x (by omega) (by simpa using hx)]
    congr 2
    omega

def cntN (n i j : Nat) : Nat := (i - j + n - 1) / n
theorem cnt_new {n i j : Nat} (h0 : 0 < n) (h1 : n ≤ 14) (hj : j < i) (hi : i < n) : cntN n (i + 1) j = cntN n i j := by
  unfold cntN
  obtain rfl | rfl | rfl | rfl | rfl | rfl | rfl | rfl | rfl | rfl | rfl | rfl | rfl | rfl : n = 1 ∨ n = 2 ∨ n = 3 ∨ n = 4 ∨ n = 5 ∨ n = 6 ∨ n = 7 ∨ n = 8 ∨ n = 9 ∨ n = 10 ∨ n = 11 ∨ n = 12 ∨ n = 13 ∨ n = 14 := by omega
  all_goals omega
theorem cnt_self {n i : Nat} (h0 : 0 < n) (h1 : n ≤ 14) : cntN n (i + 1) i = 1 := by
  unfold cntN
  obtain rfl | rfl | rfl | rfl | rfl | rfl | rfl | rfl | rfl | rfl | rfl | rfl | rfl | rfl : n = 1 ∨ n = 2 ∨ n = 3 ∨ n = 4 ∨ n = 5 ∨ n = 6 ∨ n = 7 ∨ n = 8 ∨ n = 9 ∨ n = 10 ∨ n = 11 ∨ n = 12 ∨ n = 13 ∨ n = 14 := by omega
  all_goals omega
theorem cnt_more {n i : Nat} (h0 : 0 < n) (h1 : n ≤ 14) (hi : n ≤ i) : cntN n (i + 1) (i % n) = cntN n i (i % n) + 1 := by
  unfold cntN
  obtain rfl | rfl | rfl | rfl | rfl | rfl | rfl | rfl | rfl | rfl | rfl | rfl | rfl | rfl : n = 1 ∨ n = 2 ∨ n = 3 ∨ n = 4 ∨ n = 5 ∨ n = 6 ∨ n = 7 ∨ n = 8 ∨ n = 9 ∨ n = 10 ∨ n = 11 ∨ n = 12 ∨ n = 13 ∨ n = 14 := by omega
  all_goals omega
theorem cnt_other {n i j : Nat} (h0 : 0 < n) (h1 : n ≤ 14) (hi : n ≤ i) (hj : j < n) (hne : j ≠ i % n) : cntN n (i + 1) j = cntN n i j := by
  unfold cntN
  obtain rfl | rfl | rfl | rfl | rfl | rfl | rfl | rfl | rfl | rfl | rfl | rfl | rfl | rfl : n = 1 ∨ n = 2 ∨ n = 3 ∨ n = 4 ∨ n = 5 ∨ n = 6 ∨ n = 7 ∨ n = 8 ∨ n = 9 ∨ n = 10 ∨ n = 11 ∨ n = 12 ∨ n = 13 ∨ n = 14 := by omega
  all_goals omega
theorem cnt_three {n j : Nat} (h0 : 0 < n) (h1 : n ≤ 14) (hj : j < n) : cntN n (3 * n) j = 3 := by
  unfold cntN
  obtain rfl | rfl | rfl | rfl | rfl | rfl | rfl | rfl | rfl | rfl | rfl | rfl | rfl | rfl : n = 1 ∨ n = 2 ∨ n = 3 ∨ n = 4 ∨ n = 5 ∨ n = 6 ∨ n = 7 ∨ n = 8 ∨ n = 9 ∨ n = 10 ∨ n = 11 ∨ n = 12 ∨ n = 13 ∨ n = 14 := by omega
  all_goals omega
theorem cnt_small {n i j : Nat} (h0 : 0 < n) (hi : i ≤ 100) (h1 : n ≤ 14) : cntN n i j ≤ 200 := by
  unfold cntN
  exact Nat.le_trans (Nat.div_le_self _ _) (by omega)

/-- What is counted behind i turns. -/
def lst (n : Nat) (K : Nat → Tx2) (at_ i : Nat) : List (Tx2 × Int) := (List.range (min i n)).map fun j => (K ((at_ + j) % n), (cntN n i j : Int))
theorem lst_get (n : Nat) (K : Nat → Tx2) (at_ i j : Nat) : (lst n K at_ i)[j]? = if j < min i n then some (K ((at_ + j) % n), (cntN n i j : Int)) else none := by
  unfold lst
  rw [List.getElem?_map]
  by_cases h : j < min i n
  · rw [List.getElem?_range h, if_pos h]; rfl
  · rw [List.getElem?_eq_none (by simpa using h), if_neg h]; rfl
theorem lst_len (n : Nat) (K : Nat → Tx2) (at_ i : Nat) : (lst n K at_ i).length = min i n := by simp [lst]
theorem mod_ne {n at_ j p : Nat} (hj : j < n) (hp : p < n) (hne : j ≠ p) : (at_ + j) % n ≠ (at_ + p) % n := by
  intro e
  have h1 := Nat.div_add_mod (at_ + j) n
  have h2 := Nat.div_add_mod (at_ + p) n
  rw [e] at h1
  rcases Nat.lt_trichotomy ((at_ + j) / n) ((at_ + p) / n) with h | h | h
  · have : n * ((at_ + j) / n + 1) ≤ n * ((at_ + p) / n) := Nat.mul_le_mul_left n h
    rw [Nat.mul_add] at this
    omega
  · rw [h] at h1; omega
  · have : n * ((at_ + p) / n + 1) ≤ n * ((at_ + j) / n) := Nat.mul_le_mul_left n h
    rw [Nat.mul_add] at this
    omega
theorem modify_get {α : Type} (L : List α) (p : Nat) (f : α → α) (j : Nat) : (L.modify p f)[j]? = (L[j]?).map fun a => if p = j then f a else a := by
  rw [List.getElem?_modify]; rfl
theorem lst_step {n : Nat} {K : Nat → Tx2} (hK : ∀ i j, i < n → j < n → K i = K j → i = j) (h0 : 0 < n) (h1 : n ≤ 14) (at_ i : Nat) (hi : i < 3 * n) : counted (K ((at_ + i) % n)) (lst n K at_ i) = lst n K at_ (i + 1) := by
  have hm : ∀ x, x % n < n := fun x => Nat.mod_lt _ h0
  have wr : ∀ c : Nat, c ≤ 1000 → IntKind.i64.wrap ((c : Int) + 1) = ((c + 1 : Nat) : Int) := fun c hc => by rw [IntWalk.i64_in _ (by omega)]; omega
  by_cases hin : i < n
  · have hno : idxOf (K ((at_ + i) % n)) (lst n K at_ i) 0 = none := by
      refine idxOf_none _ _ _ fun e he => ?_
      obtain ⟨j, hj⟩ := List.mem_iff_getElem?.1 he
      rw [lst_get] at hj
      split at hj
      · rename_i hlt
        cases hj
        intro q
        have := hK _ _ (hm _) (hm _) q
        exact mod_ne (n := n) (at_ := at_) (j := j) (p := i) (by omega) hin (by omega) this
      · cases hj
    have hc : cntOf (K ((at_ + i) % n)) (lst n K at_ i) = 0 := by unfold cntOf; rw [hno]; rfl
    have hp : placed (K ((at_ + i) % n)) (lst n K at_ i) = lst n K at_ i ++ [(K ((at_ + i) % n), 0)] := by unfold placed; rw [hno]
    have hq : placeOf (K ((at_ + i) % n)) (lst n K at_ i) = (lst n K at_ i).length := by unfold placeOf; rw [hno]
    have m1 : min (i + 1) n = i + 1 := by omega
    have m2 : min i n = i := by omega
    unfold counted
    rw [hc, hp, hq]
    apply List.ext_getElem?
    intro j
    rw [modify_get, lst_get, lst_len, m1, m2]
    rcases Nat.lt_trichotomy j i with hj | rfl | hj
    · rw [if_pos (by omega), List.getElem?_append_left (by rw [lst_len, m2]; exact hj), lst_get, m2, if_pos hj, cnt_new h0 h1 hj hin]
      show some (if i = j then _ else _) = _
      rw [if_neg (by omega)]
    · rw [if_pos (by omega), List.getElem?_append_right (by rw [lst_len, m2]; exact Nat.le_refl _), lst_len, m2, Nat.sub_self, cnt_self h0 h1]
      show some (if j = j then _ else _) = _
      rw [if_pos rfl]
      rfl
    · rw [if_neg (by omega), List.getElem?_eq_none (by rw [List.length_append, lst_len, m2, List.length_singleton]; omega)]
      rfl
  · have hpn := hm i
    have hkey : (at_ + i) % n = (at_ + i % n) % n := by rw [Nat.add_mod, Nat.add_mod at_ (i % n), Nat.mod_mod]
    have hin2 : n ≤ i := by omega
    have hat : idxOf (K ((at_ + i) % n)) (lst n K at_ i) 0 = some (0 + i % n, (cntN n i (i % n) : Int)) := by
      refine idxOf_at _ _ _ _ _ ?_ ?_
      · rw [lst_get, if_pos (by omega), hkey]
      · intro j e hj he
        rw [lst_get, if_pos (by omega)] at he
        cases he
        intro q
        have := hK _ _ (hm _) (hm _) q
        rw [hkey] at this
        exact mod_ne (n := n) (at_ := at_) (by omega) hpn (by omega) this
    rw [Nat.zero_add] at hat
    have hc : cntOf (K ((at_ + i) % n)) (lst n K at_ i) = (cntN n i (i % n) : Int) := by unfold cntOf; rw [hat]; rfl
    have hp : placed (K ((at_ + i) % n)) (lst n K at_ i) = lst n K at_ i := by unfold placed; rw [hat]
    have hq : placeOf (K ((at_ + i) % n)) (lst n K at_ i) = i % n := by unfold placeOf; rw [hat]
    unfold counted
    rw [hc, hp, hq, wr _ (by have := cnt_small (n := n) (i := i) (j := i % n) h0 (by omega) h1; omega)]
    apply List.ext_getElem?
    intro j
    have m1 : min (i + 1) n = n := by omega
    have m2 : min i n = n := by omega
    rw [modify_get, lst_get, lst_get, m1, m2]
    by_cases hj : j < n
    · rw [if_pos hj, if_pos hj]
      by_cases e : i % n = j
      · subst e
        rw [cnt_more h0 h1 hin2]
        show some (if _ then _ else _) = _
        rw [if_pos rfl]
      · rw [cnt_other h0 h1 hin2 hj (fun q => e q.symm)]
        show some (if _ then _ else _) = _
        rw [if_neg e]
    · rw [if_neg hj, if_neg hj]
      rfl
theorem lst_end {n : Nat} (K : Nat → Tx2) (h0 : 0 < n) (h1 : n ≤ 14) (at_ : Nat) : (lst n K at_ (3 * n)).length = n ∧ ∀ e ∈ lst n K at_ (3 * n), e.2 = 3 := by
  refine ⟨by rw [lst_len]; omega, fun e he => ?_⟩
  obtain ⟨j, hj⟩ := List.mem_iff_getElem?.1 he
  rw [lst_get] at hj
  split at hj
  · rename_i hlt
    cases hj
    show ((cntN n (3 * n) j : Nat) : Int) = 3
    rw [cnt_three h0 h1 (by omega)]
    rfl
  · cases hj
end Go.Fw
