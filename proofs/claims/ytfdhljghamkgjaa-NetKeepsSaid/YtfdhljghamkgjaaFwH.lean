/- What each operation that only computes does in the model. -/
import Derived.Test.YtfdhljghamkgjaaFwG
namespace Go.Fw
set_option linter.unusedSimpArgs false
set_option linter.unusedVariables false

section
variable {P : Program} (w : World)

theorem opds_rel {φ : Phi} {ev : AOpd → AVal} {ρ : Operand → Value} (hrel : ∀ x y, opdOk x y = true → VRel φ (ev y) (ρ x)) : ∀ {xs : List Operand} {ys : List AOpd}, opdsOk xs ys = true → VRels φ (ys.map ev) (xs.map ρ)
  | [], [], _ => by simp [VRels]
  | [], _ :: _, h => by simp [opdsOk] at h
  | _ :: _, [], h => by simp [opdsOk] at h
  | x :: xs, y :: ys, h => by
    simp only [opdsOk, Bool.and_eq_true] at h
    simp only [List.map_cons, VRels]
    exact ⟨hrel _ _ h.1, opds_rel hrel h.2⟩

theorem aBound_spec {x : Option AVal} {d m n : Nat} (h : aBound x d m = some n) : (x = none ∧ n = d) ∨ ∃ k i, x = some (.int k i) ∧ 0 ≤ i ∧ i ≤ m ∧ n = i.toNat := by
  unfold aBound at h
  split at h
  · cases h; exact .inl ⟨rfl, rfl⟩
  · split at h
    · rename_i hc; cases h; exact .inr ⟨_, _, rfl, hc.1, hc.2, rfl⟩
    · cases h
  · cases h

theorem optOk_spec {φ : Phi} {ev : AOpd → AVal} {ρ : Operand → Value} (hrel : ∀ x y, opdOk x y = true → VRel φ (ev y) (ρ x)) {x : Option Operand} {y : Option AOpd} (h : optOk x y = true) :
    (x.map ρ = none ∧ y.map ev = none) ∨ ∃ v a, x.map ρ = some v ∧ y.map ev = some a ∧ VRel φ a v := by
  unfold optOk at h
  split at h
  · exact .inl ⟨rfl, rfl⟩
  · exact .inr ⟨_, _, rfl, rfl, hrel _ _ h⟩
  · cases h

/-- The bounds of a slice expression. -/
theorem bounds_rel {φ : Phi} {lo hi mx : Option Value} {alo ahi amx : Option AVal} {len cap m h l : Nat} {c : Nat} (isSl : Bool)
    (hlo : (lo = none ∧ alo = none) ∨ ∃ v a, lo = some v ∧ alo = some a ∧ VRel φ a v)
    (hhi : (hi = none ∧ ahi = none) ∨ ∃ v a, hi = some v ∧ ahi = some a ∧ VRel φ a v)
    (hmx : (mx = none ∧ amx = none) ∨ ∃ v a, mx = some v ∧ amx = some a ∧ VRel φ a v)
    (hmh : mx = none ∨ hi ≠ none) (hc : cap ≤ c) (hlen : len ≤ cap)
    (e1 : aBound amx cap cap = some m) (e2 : aBound ahi len m = some h) (e3 : aBound alo 0 h = some l) :
    ∃ M, (Instr.sliceBounds isSl len c lo hi mx).run P w = .ok (l, h, M) w ∧ m ≤ M ∧ M ≤ c ∧ (mx = none → M = c) ∧ (mx ≠ none → M = m) ∧ l ≤ h ∧ h ≤ m ∧ m ≤ cap := by
  have hm : m ≤ cap ∧ ∃ M, (match mx with
    | some v => Instr.sliceBound v c (if isSl = true then .slice3Acap else .slice3Alen)
    | none => (pure c : Sem Nat)).run P w = .ok M w ∧ m ≤ M ∧ M ≤ c ∧ (mx = none → M = c) ∧ (mx ≠ none → M = m) := by
    rcases hmx with ⟨rfl, rfl⟩ | ⟨v, a, rfl, rfl, hv⟩
    · rcases aBound_spec e1 with ⟨_, rfl⟩ | ⟨_, _, e, _⟩
      · exact ⟨Nat.le_refl _, c, rfl, hc, Nat.le_refl _, by simp, by simp⟩
      · cases e
    · rcases aBound_spec e1 with ⟨e, _⟩ | ⟨k, i, e, h0, h1, rfl⟩
      · cases e
      · cases e
        rw [vrel_int.1 hv]
        exact ⟨by omega, i.toNat, run_sliceBound w k i c _ h0 (by omega), Nat.le_refl _, by omega, by simp, by simp⟩
  obtain ⟨hmc, M, hM, hmM, hMc, hM1, hM2⟩ := hm
  have hh : h ≤ m ∧ (match hi, mx with
    | some v, some _ => Instr.sliceBound v M .slice3B
    | some v, none => Instr.sliceBound v M (if isSl = true then .sliceAcap else .sliceAlen)
    | none, none => pure len
    | none, some _ => stuck "Slice: max without high").run P w = .ok h w := by
    rcases hhi with ⟨rfl, rfl⟩ | ⟨v, a, rfl, rfl, hv⟩
    · rcases aBound_spec e2 with ⟨_, rfl⟩ | ⟨_, _, e, _⟩
      · rcases hmh with rfl | hmh
        · rcases hmx with ⟨_, rfl⟩ | ⟨v, a, e, _⟩
          · rcases aBound_spec e1 with ⟨_, rfl⟩ | ⟨_, _, e, _⟩
            · exact ⟨hlen, rfl⟩
            · cases e
          · cases e
        · exact absurd rfl hmh
      · cases e
    · rcases aBound_spec e2 with ⟨e, _⟩ | ⟨k, i, e, h0, h1, rfl⟩
      · cases e
      · cases e
        rw [vrel_int.1 hv]
        refine ⟨by omega, ?_⟩
        cases mx
        · exact run_sliceBound w k i M _ h0 (by omega)
        · exact run_sliceBound w k i M _ h0 (by omega)
  have hl : l ≤ h ∧ (match lo with
    | some v => Instr.sliceBound v h (if mx.isSome = true then .slice3C else .sliceB)
    | none => (pure 0 : Sem Nat)).run P w = .ok l w := by
    rcases hlo with ⟨rfl, rfl⟩ | ⟨v, a, rfl, rfl, hv⟩
    · rcases aBound_spec e3 with ⟨_, rfl⟩ | ⟨_, _, e, _⟩
      · exact ⟨Nat.zero_le _, rfl⟩
      · cases e
    · rcases aBound_spec e3 with ⟨e, _⟩ | ⟨k, i, e, h0, h1, rfl⟩
      · cases e
      · cases e
        rw [vrel_int.1 hv]
        exact ⟨by omega, run_sliceBound w k i h _ h0 (by omega)⟩
  refine ⟨M, ?_, hmM, hMc, hM1, hM2, hl.1, hh.1, hmc⟩
  have hh := hh.2
  have hl := hl.2
  clear hM1 hM2 hlo hhi hmx hmh
  unfold Instr.sliceBounds
  cases mx <;> cases hi <;> cases lo <;> simp only [] at hM hh hl ⊢ <;>
    (first
      | (simp only [Sem.run_bind, hM, hh, hl, Result.andThen_ok]; rfl)
      | (simp only [Sem.run_pure, Result.ok.injEq, and_true] at hM; subst hM; simp only [Sem.run_bind, Sem.run_pure, hh, hl, Result.andThen_ok]; rfl)
      | (simp only [Sem.run_bind, Sem.run_pure, hM, hh, hl, Result.andThen_ok]; simp_all; done)
      | (simp_all; done))

theorem aIdx_spec {len : Nat} {i : AVal} {j : Nat} (h : aIdx len i = some j) : ∃ k n, i = .int k n ∧ 0 ≤ n ∧ n < len ∧ j = n.toNat := by
  unfold aIdx at h
  split at h
  · split at h
    · rename_i hc; cases h; exact ⟨_, _, rfl, hc.1, hc.2, rfl⟩
    · cases h
  · cases h

theorem addr_add (b off n : Nat) : (⟨b, off, none⟩ : Addr).add n = ⟨b, off + n, none⟩ := by
  unfold Addr.add
  split <;> simp_all

theorem minmax_rel {φ : Phi} (mx : Bool) : ∀ (as : List AVal) (vs : List Value) (a : AVal) (v : Value) (r : AVal), VRel φ a v → VRels φ as vs → aMinMax mx a as = some r →
    ∃ u, (vs.foldlM (if mx then Builtin.max2 else Builtin.min2) v).run P w = .ok u w ∧ VRel φ r u
  | [], [], a, v, r, ha, _, h => by
    simp only [aMinMax, Option.some.injEq] at h
    subst h
    exact ⟨v, by simp, ha⟩
  | [], _ :: _, _, _, _, _, hr, _ => by simp [VRels] at hr
  | _ :: _, [], _, _, _, _, hr, _ => by simp [VRels] at hr
  | b :: as, u :: vs, a, v, r, ha, hr, h => by
    simp only [VRels] at hr
    simp only [aMinMax, Option.bind_eq_some_iff] at h
    obtain ⟨q, hq, h⟩ := h
    cases mx with
    | true =>
      simp only [cond_true] at hq
      unfold aMax2 at hq
      split at hq
      · rename_i k x j y
        split at hq
        · rename_i hk
          subst hk
          cases hq
          have h1 := vrel_int.1 ha
          have h2 := vrel_int.1 hr.1
          subst h1; subst h2
          obtain ⟨z, hz, hzr⟩ := minmax_rel true as vs _ (.int k (if y > x then y else x)) r (vrel_int.2 rfl) hr.2 h
          refine ⟨z, ?_, hzr⟩
          simp only [List.foldlM_cons, Sem.run_bind, if_true] at hz ⊢
          rw [show Builtin.max2 (.int k x) (.int k y) = pure (.int k (if y > x then y else x)) from rfl]
          simpa using hz
        · cases hq
      · cases hq
    | false =>
      simp only [cond_false] at hq
      unfold aMin2 at hq
      split at hq
      · rename_i k x j y
        split at hq
        · rename_i hk
          subst hk
          cases hq
          have h1 := vrel_int.1 ha
          have h2 := vrel_int.1 hr.1
          subst h1; subst h2
          obtain ⟨z, hz, hzr⟩ := minmax_rel false as vs _ (.int k (if y < x then y else x)) r (vrel_int.2 rfl) hr.2 h
          refine ⟨z, ?_, hzr⟩
          simp only [List.foldlM_cons, Sem.run_bind, Bool.false_eq_true, if_false] at hz ⊢
          rw [show Builtin.min2 (.int k x) (.int k y) = pure (.int k (if y < x then y else x)) from rfl]
          simpa using hz
        · cases hq
      · cases hq

end
end Go.Fw
