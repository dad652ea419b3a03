/- DoorRowsC2: SynRows, case by case, with strings.HasPrefix and three questions of a byte told. -/
import Derived.Test.YtkdbjildalhoeaaGreatDoorEvDoorHp2
namespace Go.EvM.DoorRun
open Go.RowKit Go.Proofs
set_option linter.unusedVariables false
theorem r9_38 : Yes9 (.ofNat 38) := by unfold Yes9; kernel_rfl
theorem r9_33 : Yes9 (.ofNat 33) := by unfold Yes9; kernel_rfl
end Go.EvM.DoorRun
