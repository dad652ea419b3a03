/- DoorRowsC3: SynRows, case by case, with strings.HasPrefix and three questions of a byte told. -/
import Derived.Test.YtkdbjildalhoeaaGreatDoorEvDoorHp2
namespace Go.EvM.DoorRun
open Go.RowKit Go.Proofs
set_option linter.unusedVariables false
theorem r9_35 : Yes9 (.ofNat 35) := by unfold Yes9; kernel_rfl
theorem r9_34 : Yes9 (.ofNat 34) := by unfold Yes9; kernel_rfl
end Go.EvM.DoorRun
