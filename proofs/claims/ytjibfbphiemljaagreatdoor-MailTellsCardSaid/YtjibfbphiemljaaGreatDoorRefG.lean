/- YtjibfbphiemljaaGreatDoorRefG -/
import Derived.Test.YtjibfbphiemljaaGreatDoorRefF
set_option linter.unusedSimpArgs false
set_option linter.unusedVariables false
namespace Go.Proofs.YtjibfbphiemljaaGreatDoor.Code
open Go.Fw
theorem right_tx {m : Ms} (R : RightM m) : TxSz m := by
  have nl : ∀ {s : List UInt8}, nameB s = true → s.length ≤ 255 := fun h => by have := name_len h; omega
  refine ⟨?_, fun c hc => ?_, fun k hk => ?_⟩
  · have ho := R.op
    have hz := R.zero
    have hk := R.kind
    unfold opB at ho
    by_cases h12 : m.kind = 1 ∨ m.kind = 2
    · rw [if_pos h12] at ho
      by_cases h5 : m.op = 5
      · rw [if_pos h5] at ho
        simp only [Bool.and_eq_true, decide_eq_true_eq] at ho
        rw [ho.1, ho.2]
        simp
      · rw [if_neg h5] at ho
        simp only [Bool.and_eq_true, decide_eq_true_eq, keyB] at ho
        exact ⟨nl ho.2.1, nl ho.2.2⟩
    · have h1 : ¬ m.kind = 1 := fun h => h12 (.inl h)
      have h2 : ¬ m.kind = 2 := fun h => h12 (.inr h)
      unfold zeroB at hz
      rw [if_neg h1, if_neg h2] at hz
      simp only [Bool.and_eq_true, decide_eq_true_eq] at hz
      rw [hz.1.1.1.1.2, hz.1.1.1.2]
      simp
  · have := R.all.1 c hc
    unfold cardB at this
    simp only [Bool.and_eq_true] at this
    exact ⟨nl this.1.1.1.1.1.1.1, nl this.1.1.1.1.1.1.2⟩
  · have := R.all.2 k hk
    unfold keyB at this
    rw [Bool.and_eq_true] at this
    exact ⟨nl this.1, nl this.2⟩
theorem gtt (a b : Option J) : guardV (.bool true) true a b = a := rfl
abbrev k0 (k : Int) : AVal := .int .i64 k
section
variable {h : Heap} {m : Ms} {sc sk : AVal}
end
end Go.Proofs.YtjibfbphiemljaaGreatDoor.Code
