/- Faults made, and what they say. -/
import Derived.Test.YtkbchgbpglamcaaDoorText
namespace Go.Proofs.YtkbchgbpglamcaaDoor.Code
set_option linter.unusedSimpArgs false
set_option linter.unusedVariables false
open Go.Fw

/-- The text of a fault of codes. -/
def textOf : Er → List UInt8
  | .code n => errnoT n
  | .fault op e => op ++ [58, 32] ++ textOf e
  | _ => []
def tOk : Er → Prop
  | .nil => True
  | .code n => n < 9223372036854775808
  | .fault _ e => tOk e
  | _ => False
abbrev errTbl : List (Nat × Nat × Option (Nat × Nat × Bool)) := [(28, 30, none), (41, 20, none), (47, 50, none), (61, 51, none)]

theorem text_ok {N : Nat} : ∀ {e : Er} {v : AVal} {h : Heap}, Rep h N e v → N ≤ h.next → e ≠ .nil → tOk e → (textOf e).length ≤ 4611686018427387904 →
    ∃ f x H, aMeth errTbl v = some (f, x) ∧ E tbl f [x] h = some (.str (textOf e), H) ∧ Went h H
  | .nil, _, _, _, _, hn, _, _ => (hn rfl).elim
  | .code n, _, h, r, _, _, ht, _ => by
    obtain rfl := r
    obtain ⟨H, e1, W⟩ := errno_ok n ht h
    exact ⟨30, .int .i64 n, H, rfl, e1, W⟩
  | .other _, _, _, _, _, _, ht, _ => ht.elim
  | .join _ _, _, _, _, _, _, ht, _ => ht.elim
  | .fault op e, _, h, r, hN, _, ht, hl => by
    obtain ⟨b, u, rw, rfl, hb, hbl, Re⟩ := r
    refine ⟨20, .ptr b 0, ?_⟩
    simp only [textOf, List.length_append, List.length_cons, List.length_nil] at hl
    have h1 : aBin .add .plain (.str op) (.str [58, 32]) = some (.str (op ++ [58, 32])) := str_add _ _ (by simp; omega)
    by_cases hen : e = .nil
    · subst hen
      obtain rfl : u = .nilIface := Re
      refine ⟨h, rfl, ?_, Went.refl _⟩
      rw [c20]
      simp [S20, rd_bind, hbl, h1, textOf, beq_dec]
    · obtain ⟨f, x, H, e1, e2, W⟩ := text_ok (e := e) Re hN hen ht (by omega)
      have h2 : aBin .add .plain (.str (op ++ [58, 32])) (.str (textOf e)) = some (.str (op ++ [58, 32] ++ textOf e)) := str_add _ _ (by simp; omega)
      obtain ⟨s, y, rfl⟩ := Re.iface hen
      refine ⟨H, rfl, ?_, W⟩
      rw [c20]
      simp only [errTbl] at e1
      simp [S20, rd_bind, hbl, h1, textOf, beq_dec, e1, e2, h2]

/-! Making. -/
theorem new_ok (op : List UInt8) (k : Int) (h : Heap) : ∃ v H, E tbl 19 [.str op, .int .i64 k] h = some (v, H) ∧ Rep H H.next (if k = 0 then .nil else .fault op (.code k)) v ∧ Went h H := by
  by_cases hk : k = 0
  · subst hk
    exact ⟨.nilIface, h, by rw [c19]; simp [S19], rfl, Went.refl _⟩
  · have hb : (k == 0) = false := by simpa using hk
    refine ⟨.iface 41 (.ptr h.next 0), h.alloc [.str op, .iface 28 (.int .i64 k)], ?_, ?_, Went.alloc _ _⟩
    · rw [c19]
      simp [S19, hb, aCells, AVal.cells?]
    · rw [if_neg hk]
      exact ⟨h.next, .iface 28 (.int .i64 k), true, rfl, by simp, alloc_same _ _, rfl⟩
def wrapE (op : List UInt8) : Er → Er
  | .nil => .nil
  | e => .fault op e
theorem wrap_ok (op : List UInt8) {N : Nat} {h : Heap} {e : Er} {v : AVal} (hr : Rep h N e v) (hN : N ≤ h.next) :
    ∃ v' H, E tbl 8 [.str op, v] h = some (v', H) ∧ Rep H H.next (wrapE op e) v' ∧ Went h H := by
  by_cases hn : e = .nil
  · subst hn
    obtain rfl : v = .nilIface := hr
    exact ⟨.nilIface, h, by rw [c8]; simp [S8], rfl, Went.refl _⟩
  · obtain ⟨s, x, rfl⟩ := hr.iface hn
    refine ⟨.iface 41 (.ptr h.next 0), h.alloc [.str op, .iface s x], ?_, ?_, Went.alloc _ _⟩
    · rw [c8]
      simp [S8, aCells, AVal.cells?]
    · have : Rep (h.alloc [.str op, .iface s x]) (h.alloc [.str op, .iface s x]).next (.fault op e) (.iface 41 (.ptr h.next 0)) :=
        ⟨h.next, .iface s x, true, rfl, by simp, alloc_same _ _, hr.mono (by simp; omega) (by simp) fun b hb => Heap.alloc_other _ _ (by omega)⟩
      cases e <;> first | exact (hn rfl).elim | exact this

def chainE (ops : List (List UInt8)) (k : Int) : Er := if ops = [] ∨ k = 0 then .nil else ops.foldr .fault (.code k)
theorem chainE_cons (o : List UInt8) (ops : List (List UInt8)) (k : Int) (hne : ops ≠ []) : chainE (o :: ops) k = wrapE o (chainE ops k) := by
  unfold chainE
  by_cases hk : k = 0
  · simp [hk, wrapE]
  · have h2 : ops.foldr Er.fault (.code k) ≠ .nil := by cases ops <;> simp
    rw [if_neg (by simp [hk]), if_neg (by simp [hk, hne])]
    cases h3 : ops.foldr Er.fault (.code k) <;> first | exact (h2 h3).elim | simp [h3, wrapE]

theorem chain_ok {s : AVal} {h : Heap} {ops : List (List UInt8)} (S : SrcT s h ops) (hl : ops.length ≤ 1000) (k : Int) :
    ∃ v H, E tbl 16 [s, .int .i64 k] h = some (v, H) ∧ Rep H H.next (chainE ops k) v ∧ Went h H := by
  have el := S.len
  by_cases h0 : ops = []
  · subst h0
    exact ⟨.nilIface, h, by rw [c16]; simp at el; simp [S16, el], rfl, Went.refl _⟩
  obtain ⟨n, hn⟩ : ∃ n, ops.length = n + 1 := ⟨ops.length - 1, by have := List.length_pos_iff.2 h0; omega⟩
  have hb0 : ((ops.length : Int) == 0) = false := by simp only [beq_eq_false_iff_ne, ne_eq]; omega
  have w1 : IntKind.i64.wrap ((ops.length : Int) - 1) = (n : Int) := by rw [IntWalk.i64_in _ (by omega)]; omega
  have w2 : IntKind.i64.wrap ((ops.length : Int) - 2) = (n : Int) - 1 := by rw [IntWalk.i64_in _ (by omega)]; omega
  obtain ⟨p, a1, a2⟩ := Src.str S n (by omega)
  obtain ⟨v0, H0, e1, R0, W0⟩ := new_ok (ops.getD n []) k h
  have hlast : ops.drop n = [ops.getD n []] := by
    rw [List.drop_eq_getElem_cons (by omega), List.drop_eq_nil_of_le (by omega)]
    simp [List.getD_eq_getElem?_getD, List.getElem?_eq_getElem (show n < ops.length by omega)]
  have R0' : Rep H0 H0.next (chainE (ops.drop n) k) v0 := by
    rw [hlast]
    by_cases hk : k = 0
    · simpa [chainE, hk] using R0
    · simpa [chainE, hk] using R0
  clear hlast
  generalize ops.getD n [] = o0 at a2 e1 R0
  have key : ∃ res, loop (L16_0 (E tbl)) [s, v0, .int .i64 ((n : Int) - 1)] H0 = some res ∧ ∃ v H, res = (1, [v], H) ∧ Rep H H.next (chainE ops k) v ∧ Went h H := by
    refine loop_ok (fun m xs G => ∃ v, m ≤ n ∧ Rep G G.next (chainE (ops.drop m) k) v ∧ Went h G ∧ xs = [s, v, .int .i64 ((m : Int) - 1)]) _ ?_ n _ _ ⟨v0, Nat.le_refl _, R0', W0, rfl⟩
    rintro m xs G ⟨v, hm, Rv, W, rfl⟩
    by_cases hm0 : m = 0
    · right
      subst hm0
      exact ⟨0, [v], G, by simp [L16_0], v, G, rfl, by simpa using Rv, W⟩
    · left
      obtain ⟨j, rfl⟩ : ∃ j, m = j + 1 := ⟨m - 1, by omega⟩
      have i1 : (0 : Int) ≤ ((j + 1 : Nat) : Int) - 1 := by omega
      have ej : ((j + 1 : Nat) : Int) - 1 = (j : Int) := by omega
      obtain ⟨p, b1, b2⟩ := Src.str (W.src S) j (by omega)
      obtain ⟨v', H', e2, R2, W2⟩ := wrap_ok (ops.getD j []) Rv (Nat.le_refl _)
      have hd : ops.drop j = ops.getD j [] :: ops.drop (j + 1) := by
        rw [List.drop_eq_getElem_cons (by omega)]
        simp [List.getD_eq_getElem?_getD, List.getElem?_eq_getElem (show j < ops.length by omega)]
      generalize ops.getD j [] = o at b2 e2 R2 hd
      have w3 : IntKind.i64.wrap ((j : Int) - 1) = (j : Int) - 1 := by rw [IntWalk.i64_in _ (by omega)]
      refine ⟨[s, v', .int .i64 ((j : Int) - 1)], H', ?_, j, by omega, v', by omega, ?_, W.trans W2, rfl⟩
      · rw [ej]
        have i2 : (0 : Int) ≤ (j : Int) := by omega
        simp [L16_0, b1, b2, e2, w3]
      · rw [hd, chainE_cons _ _ _ (by intro hh; have := congrArg List.length hh; simp at this; omega)]
        exact R2
  obtain ⟨res, e3, v, H, rfl, R, W⟩ := key
  refine ⟨v, H, ?_, R, W⟩
  rw [c16]
  simp [S16, el, hb0, w1, w2, a1, a2, e1, e3]

end Go.Proofs.YtkbchgbpglamcaaDoor.Code
