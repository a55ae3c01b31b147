/- Orders of texts, of keys; insertion. -/
import Derived.Test.YtllogmedpmanoaaCode
import Derived.Test.YtllogmedpmanoaaFwZm
namespace Go.Proofs.Ytllogmedpmanoaa.Code
set_option linter.unusedSimpArgs false
set_option linter.unusedVariables false
open Go.Fw

abbrev Tx := List UInt8
abbrev lt (a b : Tx) : Bool := Op.bytesLess a b
theorem lt_irrefl : ∀ a : Tx, lt a a = false
  | [] => rfl
  | a :: x => by
    show (decide (a < a) || (a == a && lt x x)) = false
    rw [lt_irrefl x]
    simp
theorem lt_cons (a b : UInt8) (x y : Tx) : lt (a :: x) (b :: y) = (decide (a < b) || (a == b && lt x y)) := rfl
theorem lt_nil (a : Tx) : lt a [] = false := by cases a <;> rfl
theorem lt_trans : ∀ {a b c : Tx}, lt a b = true → lt b c = true → lt a c = true
  | _, [], _, h, _ => by rw [lt_nil] at h; cases h
  | _, _ :: _, [], _, h => by rw [lt_nil] at h; cases h
  | [], b :: y, c :: z, _, _ => rfl
  | a :: x, b :: y, c :: z, h1, h2 => by
    rw [lt_cons, Bool.or_eq_true, decide_eq_true_eq, Bool.and_eq_true, beq_iff_eq] at h1 h2 ⊢
    rcases h1 with h1 | ⟨rfl, h1⟩
    · rcases h2 with h2 | ⟨rfl, h2⟩
      · exact .inl (UInt8.lt_trans h1 h2)
      · exact .inl h1
    · rcases h2 with h2 | ⟨rfl, h2⟩
      · exact .inl h2
      · exact .inr ⟨rfl, lt_trans h1 h2⟩
theorem lt_total : ∀ {a b : Tx}, lt a b = false → lt b a = false → a = b
  | [], [], _, _ => rfl
  | [], _ :: _, h, _ => by cases h
  | _ :: _, [], _, h => by cases h
  | a :: x, b :: y, h1, h2 => by
    rw [lt_cons, Bool.or_eq_false_iff, decide_eq_false_iff_not] at h1 h2
    have hab : a = b := by
      have e1 := UInt8.not_lt.1 h1.1
      have e2 := UInt8.not_lt.1 h2.1
      exact UInt8.le_antisymm e2 e1
    subst hab
    have h3 : lt x y = false := by simpa using h1.2
    have h4 : lt y x = false := by simpa using h2.2
    rw [lt_total h3 h4]

abbrev Key := Tx × Tx
def lessK (x y : Key) : Bool := if x.1 = y.1 then lt x.2 y.2 else lt x.1 y.1
def cmpS (a b : Tx) : Int := if lt a b then -1 else if !(lt a b || a == b) then 1 else 0
def cmpK (x y : Key) : Int := if cmpS x.1 y.1 ≠ 0 then cmpS x.1 y.1 else cmpS x.2 y.2
theorem cmpS_self (a : Tx) : cmpS a a = 0 := by simp [cmpS, lt_irrefl]
theorem cmpS_lt (a b : Tx) : decide (cmpS a b < 0) = lt a b := by
  unfold cmpS
  cases lt a b with
  | true => rfl
  | false => cases (a == b) <;> rfl
theorem cmpS_ne {a b : Tx} (h : a ≠ b) : cmpS a b ≠ 0 := by
  unfold cmpS
  have : (a == b) = false := by simpa using h
  rw [this]
  cases lt a b <;> simp
theorem cmpK_lt (x y : Key) : decide (cmpK x y < 0) = lessK x y := by
  unfold cmpK lessK
  by_cases h : x.1 = y.1
  · rw [if_pos h, h, cmpS_self]
    simp only [ne_eq, not_true_eq_false, if_false]
    exact cmpS_lt _ _
  · rw [if_neg h, if_pos (cmpS_ne h)]
    exact cmpS_lt _ _

/-! Insertion from behind. -/
section
variable {α : Type} (less : α → α → Bool) (d : α)
/-- Where x goes into the first j of l. -/
def posI (x : α) (l : List α) : Nat → Nat
  | 0 => 0
  | j + 1 => if less x (l.getD j d) then posI x l j else j + 1
def insI (l : List α) (x : α) : List α := l.take (posI less d x l l.length) ++ x :: l.drop (posI less d x l l.length)
def sortI (l : List α) : List α := l.foldl (insI less d) []
theorem posI_le (x : α) (l : List α) : ∀ j, posI less d x l j ≤ j
  | 0 => Nat.le_refl _
  | j + 1 => by
    unfold posI
    split
    · exact Nat.le_succ_of_le (posI_le x l j)
    · exact Nat.le_refl _
theorem insI_len (l : List α) (x : α) : (insI less d l x).length = l.length + 1 := by
  have := posI_le less d x l l.length
  simp [insI]
  omega
theorem insI_perm (l : List α) (x : α) : (insI less d l x).Perm (x :: l) := by
  unfold insI
  refine List.perm_middle.trans ?_
  rw [List.take_append_drop]
theorem foldI_len : ∀ (l acc : List α), (l.foldl (insI less d) acc).length = acc.length + l.length
  | [], acc => by simp
  | x :: l, acc => by rw [List.foldl_cons, foldI_len l, insI_len, List.length_cons]; omega
theorem sortI_len (l : List α) : (sortI less d l).length = l.length := by simp [sortI, foldI_len]
theorem foldI_perm : ∀ (l acc : List α), (l.foldl (insI less d) acc).Perm (acc ++ l)
  | [], acc => by simp
  | x :: l, acc => by
    rw [List.foldl_cons]
    refine (foldI_perm l _).trans ?_
    refine ((insI_perm less d acc x).append_right l).trans ?_
    rw [List.cons_append]
    exact List.perm_middle.symm
theorem sortI_perm (l : List α) : (sortI less d l).Perm l := foldI_perm less d l []
theorem sortI_snoc (l : List α) (x : α) : sortI less d (l ++ [x]) = insI less d (sortI less d l) x := by simp [sortI, List.foldl_append]

/-- x at the place j of l. -/
def atI (l : List α) (x : α) (j : Nat) : List α := l.take j ++ x :: l.drop j
theorem atI_len (l : List α) (x : α) (j : Nat) (h : j ≤ l.length) : (atI l x j).length = l.length + 1 := by simp [atI]; omega
theorem atI_at (l rest : List α) (x : α) (j : Nat) (h : j ≤ l.length) : (atI l x j ++ rest)[j]? = some x := by
  have h1 : (l.take j).length = j := by simp; omega
  unfold atI
  rw [List.append_assoc, List.getElem?_append_right (by omega), h1, Nat.sub_self]
  rfl
theorem atI_pre (l rest : List α) (x : α) (j : Nat) (h : j + 1 ≤ l.length) : (atI l x (j + 1) ++ rest)[j]? = some l[j] := by
  unfold atI
  rw [List.append_assoc, List.getElem?_append_left (by simp; omega), List.getElem?_take, if_pos (by omega), List.getElem?_eq_getElem (by omega)]
/-- Two neighbours change their places. -/
theorem atI_swap (l : List α) (x : α) (j : Nat) (h : j + 1 ≤ l.length) (rest : List α) : (((atI l x (j + 1)) ++ rest).set (j + 1) l[j]).set j x = atI l x j ++ rest := by
  have h1 : (l.take (j + 1)).length = j + 1 := by simp; omega
  have h2 : (l.take j).length = j := by simp; omega
  have e1 : ((atI l x (j + 1)) ++ rest).set (j + 1) l[j] = l.take j ++ l[j] :: l[j] :: (l.drop (j + 1) ++ rest) := by
    unfold atI
    have e0 : l.take (j + 1) = l.take j ++ [l[j]] := by rw [List.take_add_one, List.getElem?_eq_getElem (show j < l.length by omega)]; rfl
    rw [List.append_assoc, List.set_append_right _ _ (by omega), h1, Nat.sub_self, List.cons_append, List.set_cons_zero, e0, List.append_assoc]
    rfl
  rw [e1, List.set_append_right _ _ (by omega), h2, Nat.sub_self, List.set_cons_zero]
  unfold atI
  rw [List.append_assoc, List.cons_append, List.drop_eq_getElem_cons (show j < l.length by omega)]
  rfl
end

/-! What is sorted. -/
section
variable {α : Type} {less : α → α → Bool} {d : α} (le : α → α → Prop) (hle : ∀ x y, less x y = false → le y x) (hlt : ∀ x y, less x y = true → le x y) (htr : ∀ x y z, le x y → le y z → le x z)
include hle hlt htr
omit hle hlt htr in
theorem posI_spec (x : α) (l : List α) : ∀ j, j ≤ l.length → (∀ i, (hi : i < l.length) → posI less d x l j ≤ i → i < j → less x l[i] = true) ∧ (0 < posI less d x l j → ∃ hi : posI less d x l j - 1 < l.length, less x l[posI less d x l j - 1] = false)
  | 0, _ => ⟨fun i hi _ h => by omega, fun h => by simp [posI] at h⟩
  | j + 1, hj => by
    have hg : l.getD j d = l[j] := by rw [List.getD_eq_getElem?_getD, List.getElem?_eq_getElem (by omega)]; rfl
    by_cases h : less x l[j] = true
    · have e : posI less d x l (j + 1) = posI less d x l j := by
        show (if less x (l.getD j d) then posI less d x l j else j + 1) = _
        rw [hg, if_pos h]
      rw [e]
      obtain ⟨h1, h2⟩ := posI_spec x l j (by omega)
      refine ⟨fun i hi hp hij => ?_, h2⟩
      by_cases e : i = j
      · subst e; exact h
      · exact h1 i hi hp (by omega)
    · have e : posI less d x l (j + 1) = j + 1 := by
        show (if less x (l.getD j d) then posI less d x l j else j + 1) = _
        rw [hg, if_neg h]
      rw [e]
      refine ⟨fun i hi hp hij => by omega, fun _ => ⟨by simp; omega, ?_⟩⟩
      simpa using h
theorem insI_sorted (l : List α) (x : α) (hs : l.Pairwise le) : (insI less d l x).Pairwise le := by
  obtain ⟨h1, h2⟩ := posI_spec (less := less) (d := d) x l l.length (Nat.le_refl _)
  have hp := posI_le less d x l l.length
  unfold insI
  generalize posI less d x l l.length = p at *
  have hs' : (l.take p ++ l.drop p).Pairwise le := by rw [List.take_append_drop]; exact hs
  obtain ⟨s1, s2, s3⟩ := List.pairwise_append.1 hs'
  refine List.pairwise_append.2 ⟨s1, List.pairwise_cons.2 ⟨fun y hy => ?_, s2⟩, fun y hy z hz => ?_⟩
  · obtain ⟨i, hi, rfl⟩ := List.getElem_of_mem hy
    rw [List.getElem_drop]
    have hi' : p + i < l.length := by simp at hi; omega
    exact hlt _ _ (h1 (p + i) hi' (by omega) hi')
  · have hpos : 0 < p := by
      cases p with
      | zero => simp at hy
      | succ p => omega
    obtain ⟨q1, q2⟩ := h2 hpos
    have hyx : le y x := by
      have hlast := hle _ _ q2
      obtain ⟨i, hi, rfl⟩ := List.getElem_of_mem hy
      rw [List.getElem_take]
      have hi' : i < p := by simp at hi; omega
      by_cases e : i = p - 1
      · subst e; exact hlast
      · exact htr _ _ _ (List.pairwise_iff_getElem.1 hs i (p - 1) (by omega) q1 (by omega)) hlast
    rcases List.mem_cons.1 hz with rfl | hz
    · exact hyx
    · exact s3 y hy z hz
theorem foldI_sorted : ∀ (l acc : List α), acc.Pairwise le → (l.foldl (insI less d) acc).Pairwise le
  | [], _, h => h
  | x :: l, acc, h => foldI_sorted l _ (insI_sorted (d := d) le hle hlt htr acc x h)
theorem sortI_sorted (l : List α) : (sortI less d l).Pairwise le := foldI_sorted (d := d) le hle hlt htr l [] List.Pairwise.nil
end
end Go.Proofs.Ytllogmedpmanoaa.Code
