/- Chains: what is said of them; some runs. -/
import Derived.Test.YtkbchgbpglamcaaDoorBuild
namespace Go.Proofs.YtkbchgbpglamcaaDoor.Code
set_option linter.unusedSimpArgs false
set_option linter.unusedVariables false
open Go.Fw

/-- Rows of texts that are the same. -/
theorem ssame_ok {a b : AVal} {h : Heap} {l m : List (List UInt8)} (A : SrcT a h l) (B : SrcT b h m) (hl : l.length ≤ 1000000) : E tbl 11 [a, b] h = some (.bool (decide (l = m)), h) := by
  have ea := A.len
  have eb := B.len
  rw [c11]
  by_cases hn : l.length = m.length
  · have hb : ((l.length : Int) != (m.length : Int)) = false := by simp [hn]
    have key : ∃ res, loop (L11_0 (E tbl)) [a, b, .int .i64 0] h = some res ∧ (res = (1, [], h) ∧ l = m ∨ res = (2, [.bool false], h) ∧ l ≠ m) := by
      refine loop_ok (fun k xs G => ∃ i, k + i = l.length ∧ G = h ∧ l.take i = m.take i ∧ xs = [a, b, .int .i64 (i : Int)]) _ ?_ l.length _ _ ⟨0, rfl, rfl, by simp, rfl⟩
      rintro k xs G ⟨i, hk, rfl, ht, rfl⟩
      by_cases hi : i < l.length
      · obtain ⟨p, a1, a2⟩ := Src.str A i hi
        obtain ⟨q, b1, b2⟩ := Src.str B i (by omega)
        have i1 : (i : Int) < (l.length : Int) := by omega
        have w1 : IntKind.i64.wrap ((i : Int) + 1) = ((i + 1 : Nat) : Int) := by rw [IntWalk.i64_in _ (by omega)]; omega
        have gl : l.getD i [] = l[i] := by simp [List.getD_eq_getElem?_getD, List.getElem?_eq_getElem hi]
        have gm : m.getD i [] = m[i]'(by omega) := by simp [List.getD_eq_getElem?_getD, List.getElem?_eq_getElem (show i < m.length by omega)]
        rw [gl] at a2
        rw [gm] at b2
        by_cases he : l[i] = m[i]'(by omega)
        · left
          rw [he] at a2
          refine ⟨[a, b, .int .i64 ((i + 1 : Nat) : Int)], G, ?_, k - 1, by omega, i + 1, by omega, rfl, ?_, rfl⟩
          · simp [L11_0, ea, i1, a1, a2, b1, b2, w1]
          · rw [List.take_add_one, List.take_add_one, ht, List.getElem?_eq_getElem hi, List.getElem?_eq_getElem (show i < m.length by omega), he]
        · right
          have hbe : (l[i] == m[i]'(by omega)) = false := by simpa using he
          refine ⟨1, [.bool false], G, ?_, .inr ⟨rfl, fun hh => he (by subst hh; rfl)⟩⟩
          simp [L11_0, ea, i1, a1, a2, b1, b2, hbe]
      · right
        have i1 : ¬ (i : Int) < (l.length : Int) := by omega
        refine ⟨0, [], G, by simp [L11_0, ea, i1], .inl ⟨rfl, ?_⟩⟩
        rw [List.take_of_length_le (by omega), List.take_of_length_le (by omega)] at ht
        exact ht
    obtain ⟨res, e1, ⟨rfl, he⟩ | ⟨rfl, he⟩⟩ := key
    · simp [S11, ea, eb, hb, e1, he]
    · simp [S11, ea, eb, hb, e1, he, beq_dec]
  · have hb : ((l.length : Int) != (m.length : Int)) = true := by simp only [bne_iff_ne, ne_eq]; omega
    have he : l ≠ m := fun hh => hn (by rw [hh])
    simp [S11, ea, eb, hb, he]

def textC (ops : List (List UInt8)) (k : Int) : List UInt8 := ops.foldr (fun o t => o ++ [58, 32] ++ t) (errnoT k)
theorem textOf_chain (ops : List (List UInt8)) (k : Int) : textOf (ops.foldr .fault (.code k)) = textC ops k := by
  induction ops with
  | nil => rfl
  | cons o r ih => simp only [List.foldr_cons, textOf, ih, textC]
theorem textC_len {ops : List (List UInt8)} (k : Int) (hl : ∀ o ∈ ops, o.length ≤ 281474976710656) : (textC ops k).length ≤ (errnoT k).length + ops.length * 281474976710658 := by
  induction ops with
  | nil => simp [textC]
  | cons o r ih =>
    have h1 := ih fun x hx => hl x (List.mem_cons_of_mem _ hx)
    have h2 := hl o List.mem_cons_self
    simp only [textC, List.foldr_cons, List.length_append, List.length_cons, List.length_nil] at h1 ⊢
    omega

theorem dig_len : ∀ (f k : Nat) (acc : List UInt8), k < 10 ^ f → (dig k acc).length ≤ acc.length + f + 1
  | 0, k, acc, h => by
    obtain rfl : k = 0 := by simpa using h
    rw [dig]
    split
    · split <;> simp_all
    · omega
  | f + 1, k, acc, h => by
    rw [dig]
    split
    · split <;> simp_all <;> omega
    · have := dig_len f (k / 10) (UInt8.ofNat (48 + k % 10) :: acc) (by rw [Nat.pow_succ] at h; omega)
      simp only [List.length_cons] at this
      omega
theorem errnoT_len (n : Int) (hn : n < 9223372036854775808) : (errnoT n).length ≤ 100 := by
  unfold errnoT
  split
  · simp
  · split
    · simp
    · split
      · simp
      · have := dig_len 19 n.toNat [] (by omega)
        simp only [List.length_append, List.length_cons, List.length_nil] at this ⊢
        omega

theorem text25_ok {s : AVal} {h : Heap} {ops : List (List UInt8)} (S : SrcT s h ops) (hlen : ops.length ≤ 1000) (hl : ∀ o ∈ ops, o.length ≤ 281474976710656) (k : Int) (hk : k < 9223372036854775808) :
    ∃ H, E tbl 25 [s, .int .i64 k] h = some (.str (textC ops k), H) ∧ Went h H := by
  obtain ⟨H, e1, W⟩ := errno_ok k hk h
  have el := S.len
  have S' := W.src S
  have w1 : IntKind.i64.wrap ((ops.length : Int) - 1) = (ops.length : Int) - 1 := by rw [IntWalk.i64_in _ (by omega)]
  have key : ∃ res, loop (L25_0 (E tbl)) [s, .str (errnoT k), .int .i64 ((ops.length : Int) - 1)] H = some res ∧ res = (1, [.str (textC ops k)], H) := by
    refine loop_ok (fun m xs G => m ≤ ops.length ∧ G = H ∧ xs = [s, .str (textC (ops.drop m) k), .int .i64 ((m : Int) - 1)]) _ ?_ ops.length _ _ ⟨Nat.le_refl _, rfl, by rw [List.drop_eq_nil_of_le (Nat.le_refl _)]; rfl⟩
    rintro m xs G ⟨hm, rfl, rfl⟩
    by_cases hm0 : m = 0
    · right
      subst hm0
      exact ⟨0, [.str (textC ops k)], G, by simp [L25_0], rfl⟩
    · left
      obtain ⟨j, rfl⟩ : ∃ j, m = j + 1 := ⟨m - 1, by omega⟩
      have ej : ((j + 1 : Nat) : Int) - 1 = (j : Int) := by omega
      obtain ⟨p, b1, b2⟩ := Src.str S' j (by omega)
      have hd : ops.drop j = ops.getD j [] :: ops.drop (j + 1) := by
        rw [List.drop_eq_getElem_cons (by omega)]
        simp [List.getD_eq_getElem?_getD, List.getElem?_eq_getElem (show j < ops.length by omega)]
      have ho : (ops.getD j []).length ≤ 281474976710656 := hl _ (List.mem_of_mem_drop (by rw [hd]; exact List.mem_cons_self))
      have ht := textC_len (ops := ops.drop (j + 1)) k fun o ho => hl o (List.mem_of_mem_drop ho)
      have he := errnoT_len k hk
      rw [List.length_drop] at ht
      generalize ops.getD j [] = o at b2 hd ho
      have w3 : IntKind.i64.wrap ((j : Int) - 1) = (j : Int) - 1 := by rw [IntWalk.i64_in _ (by omega)]
      have a1 : aBin .add .plain (.str o) (.str [58, 32]) = some (.str (o ++ [58, 32])) := str_add _ _ (by simp; omega)
      have a2 : aBin .add .plain (.str (o ++ [58, 32])) (.str (textC (ops.drop (j + 1)) k)) = some (.str (o ++ [58, 32] ++ textC (ops.drop (j + 1)) k)) := str_add _ _ (by
        simp only [List.length_append, List.length_cons, List.length_nil]
        have : (ops.length - (j + 1)) * 281474976710658 ≤ 1000 * 281474976710658 := Nat.mul_le_mul_right _ (by omega)
        omega)
      refine ⟨[s, .str (textC (ops.drop j) k), .int .i64 ((j : Int) - 1)], G, ?_, j, by omega, by omega, rfl, rfl⟩
      rw [ej, hd]
      have i2 : (0 : Int) ≤ (j : Int) := by omega
      have hc : textC (o :: ops.drop (j + 1)) k = o ++ [58, 32] ++ textC (ops.drop (j + 1)) k := rfl
      rw [hc]
      generalize textC (ops.drop (j + 1)) k = t at a2
      simp [L25_0, b1, b2, w3, a1]
      simp at a2
      simp [a2]
  obtain ⟨res, e2, rfl⟩ := key
  refine ⟨H, ?_, W⟩
  rw [c25]
  simp [S25, e1, el, w1, e2]

end Go.Proofs.YtkbchgbpglamcaaDoor.Code
