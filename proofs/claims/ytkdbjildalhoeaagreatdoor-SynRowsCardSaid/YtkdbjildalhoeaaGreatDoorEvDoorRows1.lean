/- DoorRows1: SynRows, case by case. -/
import Derived.Test.YtkdbjildalhoeaaGreatDoorEvDoorRows
namespace Go.EvM.DoorRun
open Go.RowKit Go.Proofs
set_option linter.unusedVariables false
theorem r7_12 : Yes7 (.ofNat 12) := by unfold Yes7; kernel_rfl
theorem r7_13 : Yes7 (.ofNat 13) := by unfold Yes7; kernel_rfl
theorem r7_14 : Yes7 (.ofNat 14) := by unfold Yes7; kernel_rfl
theorem r7_15 : Yes7 (.ofNat 15) := by unfold Yes7; kernel_rfl
theorem r7_16 : Yes7 (.ofNat 16) := by unfold Yes7; kernel_rfl
theorem r7_17 : Yes7 (.ofNat 17) := by unfold Yes7; kernel_rfl
theorem r7_18 : Yes7 (.ofNat 18) := by unfold Yes7; kernel_rfl
theorem r7_19 : Yes7 (.ofNat 19) := by unfold Yes7; kernel_rfl
end Go.EvM.DoorRun
