/- Chapter 3: plain laws of frames and streams. -/
import Derived.Test.YtmmfcgbcocmkgaaRuns
namespace Go.Proofs.Ytmmfcgbcocmkgaa.Code
set_option linter.unusedSimpArgs false
set_option linter.unusedVariables false
open Go.Fw

theorem get4_app (l m : List UInt8) (h : 4 ≤ l.length) : get4 (l ++ m) = get4 l := by
  rw [← get4_take (l ++ m), List.take_append_of_le_length h, get4_take]

theorem next_app (l m : List UInt8) (h : nextW l ≠ 0 ∨ nextN l ≠ 0) : nextW (l ++ m) = nextW l ∧ nextN (l ++ m) = nextN l := by
  by_cases h1 : l.length < 4
  · simp [nextW, nextN, h1] at h
  · have hg := get4_app l m (by omega)
    have h1' : ¬ (l ++ m).length < 4 := by rw [List.length_append]; omega
    by_cases h2 : 8192 < get4 l
    · simp only [nextW, nextN, h1, h1', hg, h2, if_true, if_false]; simp
    · by_cases h3 : l.length < get4 l + 8
      · simp [nextW, nextN, h1, h2, h3] at h
      · have h3' : ¬ (l ++ m).length < get4 l + 8 := by rw [List.length_append]; omega
        have t : (l ++ m).take (get4 l + 4) = l.take (get4 l + 4) := List.take_append_of_le_length (by omega)
        have d : get4 ((l ++ m).drop (get4 l + 4)) = get4 (l.drop (get4 l + 4)) := by
          rw [List.drop_append_of_le_length (by omega), get4_app _ _ (by rw [List.length_drop]; omega)]
        simp only [nextW, nextN, h1, h1', hg, h2, h3, h3', t, d, if_false]
        simp

theorem parse_app : ∀ (n : Nat) (l m : List UInt8), l.length ≤ n →
    ((parse l).2.1 ≠ 0 → parse (l ++ m) = parse l) ∧ ((parse l).2.1 = 0 → parse (l ++ m) = ((parse l).1 ++ (parse ((parse l).2.2 ++ m)).1, (parse ((parse l).2.2 ++ m)).2))
  | n, l, m, hl => by
    by_cases hw : nextW l ≠ 0
    · obtain ⟨a, b⟩ := next_app l m (.inl hw)
      have e1 : parse l = ([], nextW l, []) := by rw [parse_eq, if_pos hw]
      have e2 : parse (l ++ m) = ([], nextW l, []) := by rw [parse_eq, a, if_pos hw]
      rw [e1, e2]
      exact ⟨fun _ => rfl, fun h => absurd h hw⟩
    · by_cases hn : nextN l = 0
      · have e1 : parse l = ([], 0, l) := by rw [parse_eq, if_neg hw, if_pos hn]
        rw [e1]
        exact ⟨fun h => absurd rfl h, fun _ => rfl⟩
      · obtain ⟨a, b⟩ := next_app l m (.inr hn)
        have h8 := nextN_8 l hn
        have hle := nextN_le l
        match n, hl with
        | 0, hl => omega
        | n + 1, hl =>
          obtain ⟨q1, q2⟩ := parse_app n (l.drop (nextN l)) m (by rw [List.length_drop]; omega)
          have e1 : parse l = (((l.drop 4).take (nextN l - 8)) :: (parse (l.drop (nextN l))).1, (parse (l.drop (nextN l))).2) := by rw [parse_eq, if_neg hw, if_neg hn]
          have e2 : parse (l ++ m) = (((l.drop 4).take (nextN l - 8)) :: (parse (l.drop (nextN l) ++ m)).1, (parse (l.drop (nextN l) ++ m)).2) := by
            rw [parse_eq (l ++ m), a, b, if_neg hw, if_neg hn, List.drop_append_of_le_length (by omega), List.drop_append_of_le_length hle, List.take_append_of_le_length (by rw [List.length_drop]; omega)]
          rw [e1, e2]
          exact ⟨fun h => by rw [q1 h], fun h => by rw [q2 h]; rfl⟩

theorem next_frame (b r : List UInt8) (hb : b.length ≤ 8192) : nextW (frameB b ++ r) = 0 ∧ nextN (frameB b ++ r) = b.length + 8 := by
  have hg : get4 (frameB b ++ r) = b.length := by
    unfold frameB
    rw [List.append_assoc, List.append_assoc, get4_be4 _ (by omega)]
  have h1 : ¬ (frameB b ++ r).length < 4 := by rw [List.length_append, frameB_len]; omega
  have h2 : ¬ 8192 < b.length := by omega
  have h3 : ¬ (frameB b ++ r).length < b.length + 8 := by rw [List.length_append, frameB_len]; omega
  have hl : (be4 b.length ++ b).length = b.length + 4 := by rw [List.length_append, be4_len]; omega
  have t : (frameB b ++ r).take (b.length + 4) = be4 b.length ++ b := by
    unfold frameB
    rw [List.append_assoc (be4 b.length ++ b), ← hl, List.take_left]
  have d : (frameB b ++ r).drop (b.length + 4) = be4 (sumB (be4 b.length ++ b)) ++ r := by
    unfold frameB
    rw [List.append_assoc (be4 b.length ++ b), ← hl, List.drop_left]
  have h4 : ¬ sumB (be4 b.length ++ b) ≠ get4 (be4 (sumB (be4 b.length ++ b)) ++ r) := by
    rw [get4_be4 _ (sumB_lt _)]; omega
  simp only [nextW, nextN, hg, h1, h2, h3, t, d, h4, if_false]
  simp

theorem parse_frame (b r : List UInt8) (hb : b.length ≤ 8192) : parse (frameB b ++ r) = (b :: (parse r).1, (parse r).2) := by
  obtain ⟨h1, h2⟩ := next_frame b r hb
  have e1 : ((frameB b ++ r).drop 4).take (b.length + 8 - 8) = b := by
    unfold frameB
    rw [List.append_assoc, List.append_assoc, List.drop_left' (be4_len _), Nat.add_sub_cancel, List.take_left]
  have e2 : (frameB b ++ r).drop (b.length + 8) = r := List.drop_left' (frameB_len b)
  rw [parse_eq, h1, h2, e1, e2, if_neg (by omega), if_neg (by omega)]
theorem parse_nil : parse [] = ([], 0, []) := rfl
theorem parse_one (b : List UInt8) (hb : b.length ≤ 8192) : parse (frameB b) = ([b], 0, []) := by
  have := parse_frame b [] hb
  rw [List.append_nil, parse_nil] at this
  exact this
theorem next_short (b : List UInt8) (hb : b.length ≤ 8192) (k : Nat) (hk : k < (frameB b).length) : nextW ((frameB b).take k) = 0 ∧ nextN ((frameB b).take k) = 0 := by
  obtain ⟨h1, h2⟩ := next_frame b [] hb
  rw [List.append_nil] at h1 h2
  have hs : (frameB b).take k ++ (frameB b).drop k = frameB b := List.take_append_drop _ _
  have hl : ((frameB b).take k).length = k := by rw [List.length_take]; omega
  rw [frameB_len] at hk
  constructor
  · by_cases h : nextW ((frameB b).take k) = 0
    · exact h
    · have := (next_app _ ((frameB b).drop k) (.inl h)).1
      rw [hs, h1] at this
      exact this.symm
  · by_cases h : nextN ((frameB b).take k) = 0
    · exact h
    · have h3 := (next_app _ ((frameB b).drop k) (.inr h)).2
      rw [hs, h2] at h3
      have := nextN_le ((frameB b).take k)
      omega
theorem parse_short (b : List UInt8) (hb : b.length ≤ 8192) (k : Nat) (hk : k < (frameB b).length) : parse ((frameB b).take k) = ([], 0, (frameB b).take k) := by
  obtain ⟨h1, h2⟩ := next_short b hb k hk
  rw [parse_eq, h1, h2, if_neg (by omega), if_pos rfl]

theorem sum_apart : ∀ (r : List UInt8) (x y : Nat), x < 4294967296 → y < 4294967296 → x ≠ y → r.foldl sumStep x ≠ r.foldl sumStep y
  | [], _, _, _, _, h => h
  | c :: r, x, y, hx, hy, h => by
    rw [List.foldl_cons, List.foldl_cons]
    refine sum_apart r _ _ (Nat.mod_lt _ (by omega)) (Nat.mod_lt _ (by omega)) ?_
    unfold sumStep
    omega
theorem sum_turned (l : List UInt8) (k : Nat) (hk : k < l.length) (c : UInt8) (hc : c ≠ l[k]) : sumB (l.set k c) ≠ sumB l := by
  have e1 : l = l.take k ++ l[k] :: l.drop (k + 1) := by rw [List.getElem_cons_drop, List.take_append_drop]
  have e2 : l.set k c = l.take k ++ c :: l.drop (k + 1) := by rw [List.set_eq_take_append_cons_drop, if_pos hk]
  rw [e2]
  conv => rhs; rw [e1]
  unfold sumB
  rw [List.foldl_append, List.foldl_append, List.foldl_cons, List.foldl_cons]
  have hb := sumB_lt (l.take k)
  unfold sumB at hb
  refine sum_apart _ _ _ (Nat.mod_lt _ (by omega)) (Nat.mod_lt _ (by omega)) ?_
  have h1 := c.toNat_lt
  have h2 := l[k].toNat_lt
  have h3 : c.toNat ≠ l[k].toNat := fun e => hc (UInt8.toNat_inj.1 e)
  unfold sumStep
  omega
theorem get4_inj (a b : List UInt8) (ha : a.length = 4) (hb : b.length = 4) (h : get4 a = get4 b) : a = b := by
  have h1 := be4_get4 a (by omega)
  have h2 := be4_get4 b (by omega)
  rw [List.take_of_length_le (by omega)] at h1 h2
  rw [← h1, ← h2, h]

/-- A frame with a byte turned, not one of its length. -/
theorem turned (b : List UInt8) (hb : b.length ≤ 8192) (k : Nat) (h4 : 4 ≤ k) (hk : k < (frameB b).length) (c : UInt8) (hc : c ≠ (frameB b)[k]) :
    get4 ((frameB b).set k c) = b.length ∧ sumB (((frameB b).set k c).take (b.length + 4)) ≠ get4 (((frameB b).set k c).drop (b.length + 4)) := by
  have hlen : (frameB b).length = b.length + 8 := frameB_len b
  have hg : get4 (frameB b) = b.length := by
    unfold frameB
    rw [List.append_assoc, get4_be4 _ (by omega)]
  obtain ⟨hw, hn⟩ := next_frame b [] hb
  rw [List.append_nil] at hw hn
  have hok : sumB ((frameB b).take (b.length + 4)) = get4 ((frameB b).drop (b.length + 4)) := by
    have h1 : ¬ (frameB b).length < 4 := by omega
    have h2 : ¬ 8192 < b.length := by omega
    have h3 : ¬ (frameB b).length < b.length + 8 := by omega
    simp only [nextW, hg, h1, h2, h3, if_false] at hw
    by_cases h : sumB ((frameB b).take (b.length + 4)) = get4 ((frameB b).drop (b.length + 4))
    · exact h
    · simp [h] at hw
  constructor
  · rw [← get4_take, List.take_set_of_le h4, get4_take, hg]
  · by_cases hin : k < b.length + 4
    · rw [List.drop_set_of_lt hin, List.take_set, ← hok]
      refine sum_turned _ k (by rw [List.length_take]; omega) c ?_
      rw [List.getElem_take]; exact hc
    · rw [List.take_set_of_le (by omega), hok]
      intro e
      have e2 := get4_inj _ _ (by rw [List.length_drop]; omega) (by rw [List.length_drop, List.length_set]; omega) e
      have e3 := congrArg (fun z => z[k - (b.length + 4)]?) e2
      simp only [List.getElem?_drop] at e3
      rw [show b.length + 4 + (k - (b.length + 4)) = k by omega, List.getElem?_set_self (by omega), List.getElem?_eq_getElem (by omega)] at e3
      exact hc (Option.some.inj e3).symm
theorem turned_one (b : List UInt8) (hb : b.length ≤ 8192) (k : Nat) (h4 : 4 ≤ k) (hk : k < (frameB b).length) (c : UInt8) (hc : c ≠ (frameB b)[k]) : oneWhy ((frameB b).set k c) = 13 := by
  obtain ⟨h1, h2⟩ := turned b hb k h4 hk c hc
  have hl : ((frameB b).set k c).length = b.length + 8 := by rw [List.length_set, frameB_len]
  have e : b.length + 8 - 4 = b.length + 4 := by omega
  unfold oneWhy
  rw [hl, h1, e, if_neg (by omega), if_neg (by omega), if_neg (by omega), if_pos h2]
theorem turned_next (b : List UInt8) (hb : b.length ≤ 8192) (k : Nat) (h4 : 4 ≤ k) (hk : k < (frameB b).length) (c : UInt8) (hc : c ≠ (frameB b)[k]) : parse ((frameB b).set k c) = ([], 13, []) := by
  obtain ⟨h1, h2⟩ := turned b hb k h4 hk c hc
  have hl : ((frameB b).set k c).length = b.length + 8 := by rw [List.length_set, frameB_len]
  have hw : nextW ((frameB b).set k c) = 13 := by
    unfold nextW
    rw [hl, h1, if_neg (by omega), if_neg (by omega), if_neg (by omega), if_pos h2]
  rw [parse_eq, hw, if_pos (by omega)]

theorem parse_frames : ∀ L : List (List UInt8), (∀ b ∈ L, b.length ≤ 8192) → parse (L.map frameB).flatten = (L, 0, [])
  | [], _ => rfl
  | b :: r, h => by
    rw [List.map_cons, List.flatten_cons, parse_frame b _ (h b (by simp)), parse_frames r fun x hx => h x (by simp [hx])]
theorem parse_row (L : List (List UInt8)) : parse (rowB L) = ((L.take 5).map (·.take 60), 0, []) := by
  have : rowB L = (((L.take 5).map (·.take 60)).map frameB).flatten := by
    unfold rowB
    rw [List.map_map]
    rfl
  rw [this, parse_frames]
  intro b hb
  obtain ⟨x, _, rfl⟩ := List.mem_map.1 hb
  rw [List.length_take]; omega
/-- What is fed piece by piece comes as it would have come at once. -/
theorem parse_pieces (l k m : List UInt8) (h : parse (l ++ (k ++ m)) = ((parse (l ++ (k ++ m))).1, 0, [])) (hl : (parse l).2.1 = 0) : True := trivial
end Go.Proofs.Ytmmfcgbcocmkgaa.Code
