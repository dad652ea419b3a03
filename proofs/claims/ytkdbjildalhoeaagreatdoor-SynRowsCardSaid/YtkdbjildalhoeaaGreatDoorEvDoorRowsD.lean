/- DoorRowsD: SynRows at 40, with the counts' texts told too. -/
import Derived.Test.YtkdbjildalhoeaaGreatDoorEvDoorHp3
namespace Go.EvM.DoorRun
open Go.RowKit Go.Proofs
set_option linter.unusedVariables false
theorem r10_40 : Yes10 (.ofNat 40) := by unfold Yes10; kernel_rfl
end Go.EvM.DoorRun
