/- DoorRows2: SynRows, case by case. -/
import Derived.Test.YtkdbjildalhoeaaGreatDoorEvDoorRows
namespace Go.EvM.DoorRun
open Go.RowKit Go.Proofs
set_option linter.unusedVariables false
theorem r7_20 : Yes7 (.ofNat 20) := by unfold Yes7; kernel_rfl
theorem r7_21 : Yes7 (.ofNat 21) := by unfold Yes7; kernel_rfl
theorem r7_22 : Yes7 (.ofNat 22) := by unfold Yes7; kernel_rfl
theorem r7_23 : Yes7 (.ofNat 23) := by unfold Yes7; kernel_rfl
theorem r7_24 : Yes7 (.ofNat 24) := by unfold Yes7; kernel_rfl
theorem r7_25 : Yes7 (.ofNat 25) := by unfold Yes7; kernel_rfl
end Go.EvM.DoorRun
