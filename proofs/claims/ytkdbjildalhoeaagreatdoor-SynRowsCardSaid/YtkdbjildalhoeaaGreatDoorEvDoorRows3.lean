/- DoorRows3: SynRows, case by case. -/
import Derived.Test.YtkdbjildalhoeaaGreatDoorEvDoorRows
namespace Go.EvM.DoorRun
open Go.RowKit Go.Proofs
set_option linter.unusedVariables false
theorem r7_26 : Yes7 (.ofNat 26) := by unfold Yes7; kernel_rfl
theorem r7_27 : Yes7 (.ofNat 27) := by unfold Yes7; kernel_rfl
theorem r7_28 : Yes7 (.ofNat 28) := by unfold Yes7; kernel_rfl
theorem r7_29 : Yes7 (.ofNat 29) := by unfold Yes7; kernel_rfl
theorem r7_30 : Yes7 (.ofNat 30) := by unfold Yes7; kernel_rfl
end Go.EvM.DoorRun
