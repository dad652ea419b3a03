/- DoorRows0: SynRows, case by case. -/
import Derived.Test.YtkdbjildalhoeaaGreatDoorEvDoorRows
namespace Go.EvM.DoorRun
open Go.RowKit Go.Proofs
set_option linter.unusedVariables false
theorem r7_0 : Yes7 (.ofNat 0) := by unfold Yes7; kernel_rfl
theorem r7_1 : Yes7 (.ofNat 1) := by unfold Yes7; kernel_rfl
theorem r7_2 : Yes7 (.ofNat 2) := by unfold Yes7; kernel_rfl
theorem r7_3 : Yes7 (.ofNat 3) := by unfold Yes7; kernel_rfl
theorem r7_4 : Yes7 (.ofNat 4) := by unfold Yes7; kernel_rfl
theorem r7_5 : Yes7 (.ofNat 5) := by unfold Yes7; kernel_rfl
theorem r7_6 : Yes7 (.ofNat 6) := by unfold Yes7; kernel_rfl
theorem r7_7 : Yes7 (.ofNat 7) := by unfold Yes7; kernel_rfl
theorem r7_8 : Yes7 (.ofNat 8) := by unfold Yes7; kernel_rfl
theorem r7_9 : Yes7 (.ofNat 9) := by unfold Yes7; kernel_rfl
theorem r7_10 : Yes7 (.ofNat 10) := by unfold Yes7; kernel_rfl
theorem r7_11 : Yes7 (.ofNat 11) := by unfold Yes7; kernel_rfl
end Go.EvM.DoorRun
