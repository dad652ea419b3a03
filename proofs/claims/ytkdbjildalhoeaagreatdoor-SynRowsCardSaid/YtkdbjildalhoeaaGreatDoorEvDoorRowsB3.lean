/- DoorRowsB3: SynRows, case by case, with strings.HasPrefix told. -/
import Derived.Test.YtkdbjildalhoeaaGreatDoorEvDoorHp
namespace Go.EvM.DoorRun
open Go.RowKit Go.Proofs
set_option linter.unusedVariables false
theorem r8_36 : Yes8 (.ofNat 36) := by unfold Yes8; kernel_rfl
theorem r8_37 : Yes8 (.ofNat 37) := by unfold Yes8; kernel_rfl
end Go.EvM.DoorRun
