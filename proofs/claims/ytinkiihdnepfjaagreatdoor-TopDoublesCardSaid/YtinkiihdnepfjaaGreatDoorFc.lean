/- runs -/
import Derived.Test.YtinkiihdnepfjaaGreatDoorCards
import Derived.JoinedCond
import Derived.KernelRfl
import Derived.ProofKit
set_option linter.unusedSimpArgs false
set_option linter.unusedVariables false
namespace Go.Proofs.YtinkiihdnepfjaaGreatDoor.facts
open Go.ChangeShapes Go.WideShapes Go.ChangeAt Go.RowKit
theorem k1 : (laidOutB Tryz.prog) = true := by kernel_rfl
theorem k2 : (mapsRowed Tryz.prog) = true := by kernel_rfl
theorem k6 : ((Tryz.prog.stops == [])) = true := by kernel_rfl
theorem k8 : ((Tryz.prog.stopKnobs == [])) = true := by kernel_rfl
theorem k22 : ((Rows.topOverridesRow.plainKeys == Tryz.prog.plainKeys)) = true := by kernel_rfl
theorem k24 : (Tryz.prog.stopsHeard) = true := by kernel_rfl
theorem k25 : (Tryz.prog.mayEnter) = true := by kernel_rfl
theorem k26 : ((Rows.topOverridesRow.lifted == Tryz.prog.liftsFinal)) = true := by kernel_rfl
theorem k27 : ((Tryz.prog.make == some Rows.topOverridesRow.make)) = true := by kernel_rfl
end Go.Proofs.YtinkiihdnepfjaaGreatDoor.facts
