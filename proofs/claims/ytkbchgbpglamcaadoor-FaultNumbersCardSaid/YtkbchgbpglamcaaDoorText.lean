/- What errors say. -/
import Derived.Test.YtkbchgbpglamcaaDoorPath
namespace Go.Proofs.YtkbchgbpglamcaaDoor.Code
set_option linter.unusedSimpArgs false
set_option linter.unusedVariables false
open Go.Fw

def dig (k : Nat) (acc : List UInt8) : List UInt8 := if k = 0 then (if acc = [] then [48] else acc) else dig (k / 10) (UInt8.ofNat (48 + k % 10) :: acc)
termination_by k
decreasing_by omega

def errnoT (n : Int) : List UInt8 :=
  if n = 0 then [110, 111, 32, 101, 114, 114, 111, 114]
  else if n = 1 then [97, 110, 32, 97, 114, 103, 117, 109, 101, 110, 116, 32, 116, 104, 97, 116, 32, 109, 97, 121, 32, 110, 111, 116, 32, 98, 101]
  else if n = 22 then [110, 111, 116, 32, 116, 104, 101, 114, 101]
  else [114, 101, 102, 117, 115, 97, 108, 32] ++ dig n.toNat []

theorem dig_step {k : Nat} {acc : List UInt8} (h : 0 < k ∨ acc = []) : dig k acc = dig (k / 10) (UInt8.ofNat (48 + k % 10) :: acc) := by
  by_cases hk : k = 0
  · subst hk
    have : acc = [] := by rcases h with h | h; omega; exact h
    subst this
    rw [dig, dig]
    rfl
  · rw [dig, if_neg hk]
theorem dig_end {acc : List UInt8} (h : acc ≠ []) : dig 0 acc = acc := by
  rw [dig]; simp [h]

theorem str_add (a b : List UInt8) (h : a.length + b.length ≤ 4611686018427387904) : aBin .add .plain (.str a) (.str b) = some (.str (a ++ b)) := by
  simp [aBin, aStr, h]

theorem errno_ok (n : Int) (hn : n < 9223372036854775808) (h : Heap) : ∃ H, E tbl 30 [.int .i64 n] h = some (.str (errnoT n), H) ∧ Went h H := by
  by_cases h0 : n = 0
  · subst h0; exact ⟨h, by rw [c30]; simp [S30, errnoT], Went.refl _⟩
  by_cases h1 : n = 1
  · subst h1; exact ⟨h, by rw [c30]; simp [S30, errnoT], Went.refl _⟩
  by_cases h2 : n = 22
  · subst h2; exact ⟨h, by rw [c30]; simp [S30, errnoT], Went.refl _⟩
  have key : ∃ res, loop (L30_0 (E tbl)) [.int .i64 (n.toNat : Int), .nilSlice] h = some res ∧ ∃ s H, res = (1, [s], H) ∧ Fresh h s H (dig n.toNat []) ∧ (dig n.toNat []).length ≤ 1000 := by
    refine loop_ok (fun m xs G => ∃ (k : Nat) (s : AVal) (acc : List UInt8), k < 9223372036854775808 ∧ m = k + (if acc = [] then 1 else 0) ∧ dig n.toNat [] = dig k acc ∧ Fresh h s G acc ∧ (acc.length ≤ 30 ∧ k * 10 ^ acc.length < 10 ^ 20) ∧ xs = [.int .i64 (k : Int), s]) _ ?_
      (n.toNat + 1) _ _ ⟨n.toNat, .nilSlice, [], by omega, by simp, rfl, Fresh.nil _, ⟨by simp, by simp; omega⟩, rfl⟩
    rintro m xs G ⟨k, s, acc, hk, rfl, hd, F, ⟨hl, hp⟩, rfl⟩
    have el : aLen false s = some (.int .i64 acc.length) := F.own.src.len
    by_cases hgo : 0 < k ∨ acc = []
    · left
      have hl20 : acc.length ≤ 20 := by
        rcases hgo with hk0 | rfl
        · rcases Nat.lt_or_ge 20 acc.length with h3 | h3
          · have : 10 ^ 20 ≤ 10 ^ acc.length := Nat.pow_le_pow_right (by omega) (by omega)
            have : 1 * 10 ^ acc.length ≤ k * 10 ^ acc.length := Nat.mul_le_mul_right _ hk0
            omega
          · exact h3
        · simp
      have wr : IntKind.i64.wrap ((k : Int) / 10) = (k : Int) / 10 := by rw [IntWalk.i64_in _ (by omega)]
      have wm : (k : Int).tmod 10 = (k : Int) % 10 := rfl
      have wa : IntKind.i64.wrap (48 + (k : Int) % 10) = 48 + (k : Int) % 10 := by rw [IntWalk.i64_in _ (by omega)]
      have wu : IntKind.u8.wrap (48 + (k : Int) % 10) = ((UInt8.ofNat (48 + k % 10)).toNat : Int) := by
        have hlt : k % 10 < 10 := Nat.mod_lt _ (by omega)
        have : (UInt8.ofNat (48 + k % 10)).toNat = 48 + k % 10 := by simp [UInt8.toNat_ofNat]; omega
        rw [this]
        simp [IntKind.wrap, IntKind.bits, IntKind.signed]
        omega
      have hd' : dig n.toNat [] = dig (k / 10) (UInt8.ofNat (48 + k % 10) :: acc) := by rw [hd, dig_step hgo]
      generalize UInt8.ofNat (48 + k % 10) = c at wu hd'
      have FL := Fresh.lit G [c] (n := 1) rfl true
      obtain ⟨s', H, e1, F2⟩ := FL.app (F.bs.kept (by simp) fun c hc => alloc_old _ _ (by have := (F.own.blk c hc).2; omega)) (by simp; omega)
      have hc : byteCells [c] = [.int .u8 (c.toNat : Int)] := rfl
      rw [hc] at e1
      have hq : ((0 < (k : Int)) ∧ True) ∨ True := .inr trivial
      refine ⟨[.int .i64 ((k / 10 : Nat) : Int), s'], H, ?_, (k / 10) + 0, ?_, k / 10, s', c :: acc, by omega, by simp, hd', ⟨F2.own.base F.went.next, F.went.trans F2.went⟩, ⟨by simp; omega, ?_⟩, rfl⟩
      · by_cases hk0 : 0 < k
        · have i1 : (0 : Int) < (k : Int) := by omega
          simp [L30_0, hk0, wm, wa, wu, e1, wr, bin_rem, bin_quo]
        · have ha : acc = [] := by rcases hgo with hh | hh; exact (hk0 hh).elim; exact hh
          have hl0 : acc.length = 0 := by rw [ha]; rfl
          simp [L30_0, hk0, el, hl0, wm, wa, wu, e1, wr, bin_rem, bin_quo]
      · rcases hgo with hk0 | rfl
        · split <;> omega
        · simp; omega
      · rw [List.length_cons, Nat.pow_succ]
        calc k / 10 * (10 ^ acc.length * 10) = (k / 10 * 10) * 10 ^ acc.length := by rw [Nat.mul_comm (10 ^ acc.length) 10, Nat.mul_assoc]
          _ ≤ k * 10 ^ acc.length := Nat.mul_le_mul_right _ (Nat.div_mul_le_self k 10)
          _ < 10 ^ 20 := hp
    · right
      obtain ⟨hk0, ha⟩ : k = 0 ∧ acc ≠ [] := by
        constructor
        · have : ¬ 0 < k := fun hh => hgo (.inl hh)
          omega
        · exact fun hh => hgo (.inr hh)
      subst hk0
      have hal : ((acc.length : Int) == 0) = false := by
        have := List.length_pos_iff.2 ha
        simp only [beq_eq_false_iff_ne, ne_eq]
        omega
      exact ⟨0, [s], G, by simp [L30_0, el, hal], s, G, rfl, by rw [hd, dig_end ha]; exact F, by rw [hd, dig_end ha]; omega⟩
  obtain ⟨res, e1, s, H, rfl, F, hdl⟩ := key
  refine ⟨H, ?_, F.went⟩
  have ht : aConv .bytesStr s H = some (.str (dig n.toNat []), H) := F.bs.text
  have hadd : aBin .add .plain (.str [114, 101, 102, 117, 115, 97, 108, 32]) (.str (dig n.toNat [])) = some (.str ([114, 101, 102, 117, 115, 97, 108, 32] ++ dig n.toNat [])) := by
    rw [str_add]
    simp; omega
  have hb0 : (n == 0) = false := by simpa using h0
  have hb1 : (n == 1) = false := by simpa using h1
  have hb2 : (n == 22) = false := by simpa using h2
  rw [c30]
  by_cases hneg : n < 0
  · have hz : n.toNat = 0 := by omega
    rw [hz] at e1 ht hadd
    simp only [Int.natCast_zero] at e1
    simp [S30, hb0, hb1, hb2, hneg, e1, ht, errnoT, h0, h1, h2, hz, beq_dec, hadd]
  · have hz : ((n.toNat : Nat) : Int) = n := by omega
    rw [hz] at e1
    simp [S30, hb0, hb1, hb2, hneg, e1, ht, errnoT, h0, h1, h2, beq_dec, hadd]

end Go.Proofs.YtkbchgbpglamcaaDoor.Code
