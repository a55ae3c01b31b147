/- Insert -/
import Derived.Test.YtinkiihdnepfjaaGreatDoorDCdA
import Derived.Test.YtinkiihdnepfjaaGreatDoorDCdB
import Derived.Test.YtinkiihdnepfjaaGreatDoorDOv
set_option linter.unusedSimpArgs false
set_option linter.unusedVariables false
set_option maxRecDepth 100000
namespace Go.Proofs.YtinkiihdnepfjaaGreatDoor.Code
open Go.Fw Go.Fw.K
theorem ov159 : PrimOk Tryz.prog 159 semOv :=
  ov_prim (fn := Tryz.f159) (t := 116) (e := 120) (es := 10) Tryz.func159 (by kernel_rfl) (by kernel_rfl) (by kernel_rfl) (by kernel_rfl) (by kernel_rfl) (by kernel_rfl) (by kernel_rfl)
noncomputable def tblN (f : Nat) : Option AFn := bif Nat.beq f 128 then some (.code A128) else bif Nat.beq f 159 then some (.prim semOv) else none
theorem progN_ok : CallOk Tryz.prog (E tblN) := E_ok fun f a h => by
  unfold tblN at h
  cases hb : Nat.beq f 128 with
  | true =>
    rw [hb] at h
    cases h
    rw [Nat.eq_of_beq_eq_true hb]
    exact ⟨_, Tryz.func128, by decide +kernel, ok128⟩
  | false =>
    rw [hb] at h
    simp only [cond_false] at h
    cases hc : Nat.beq f 159 with
    | true =>
      rw [hc] at h
      cases h
      rw [Nat.eq_of_beq_eq_true hc]
      exact ov159
    | false => rw [hc] at h; cases h
theorem runIns (call : Go.Fw.Call) (a0 a1 a2 : AVal) (h : Heap) : runFn call (.code A128) [a0, a1, a2] h = (Ins.S128 call a0 a1 a2 h).bind ansOf := by kernel_rfl
theorem prim128_ok : PrimOk Tryz.prog 128 Ins.sem :=
  Ins.prim progN_ok (fun a0 a1 a2 h => (E_eq tblN 128 _ h).trans (runIns _ a0 a1 a2 h)) (fun args h => E_eq tblN 159 args h)
end Go.Proofs.YtinkiihdnepfjaaGreatDoor.Code
