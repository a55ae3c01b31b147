/- awake -/
import Derived.Test.YtinkiihdnepfjaaGreatDoorDS
set_option linter.unusedSimpArgs false
set_option linter.unusedVariables false
set_option maxRecDepth 1000000
namespace Go.Proofs.YtinkiihdnepfjaaGreatDoor.Code
open Go.Fw Go.Fw.K
theorem run_22 : okR (kS tblS 100 22 [] T0) = true := by decide +kernel
theorem aw_prim : PrimOk Tryz.prog 22 semT := by
  obtain ⟨h, e⟩ := ran tbl_is run_22 0
  exact primT rfl prog_ok (by kernel_rfl) e
theorem progX_ok : CallOk Tryz.prog (E tbl) := E_ok fun f a h => by
  unfold tbl at h
  cases hf : Nat.beq f 22 with
  | true =>
    rw [hf] at h
    cases h
    rw [Nat.eq_of_beq_eq_true hf]
    exact aw_prim
  | false =>
    rw [hf] at h
    have := tbl_all.get f a h
    simpa using this
end Go.Proofs.YtinkiihdnepfjaaGreatDoor.Code
