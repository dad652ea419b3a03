/- DoorRowsC0: SynRows, case by case, with strings.HasPrefix and three questions of a byte told. -/
import Derived.Test.YtkdbjildalhoeaaGreatDoorEvDoorHp2
namespace Go.EvM.DoorRun
open Go.RowKit Go.Proofs
set_option linter.unusedVariables false
theorem r9_31 : Yes9 (.ofNat 31) := by unfold Yes9; kernel_rfl
end Go.EvM.DoorRun
