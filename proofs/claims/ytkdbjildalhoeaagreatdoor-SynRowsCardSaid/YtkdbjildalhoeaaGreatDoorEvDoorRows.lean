/- DoorRows: SynRows: what is asked. -/
import Derived.Test.YtkdbjildalhoeaaGreatDoorEvDoorRun
namespace Go.EvM.DoorRun
open Go.RowKit Go.Proofs
set_option linter.unusedVariables false
theorem f7 : Tryz.prog.funcs[7]? = some Tryz.f7 := by kernel_rfl
theorem b7 : Tryz.f7.body = some (Tryz.f7.body.getD .skip) := by kernel_rfl
theorem n7 : Tryz.f7.name ≠ "runtime.NumGoroutine" := by decide
def Yes7 (n : Int) : Prop := isYes (fastBody cx (fastFun cx 2000) (fastDef cx (fastFun cx 2000) 2000) 2000 Tryz.f7 [.int .i64 n] ⟨0, .nil⟩) = true
theorem r7n (m : Nat) : Yes7 (.negSucc m) := by unfold Yes7; kernel_rfl
theorem r7p (m : Nat) : Yes7 (.ofNat (Nat.succ (Nat.succ (Nat.succ (Nat.succ (Nat.succ (Nat.succ (Nat.succ (Nat.succ (Nat.succ (Nat.succ (Nat.succ (Nat.succ (Nat.succ (Nat.succ (Nat.succ (Nat.succ (Nat.succ (Nat.succ (Nat.succ (Nat.succ (Nat.succ (Nat.succ (Nat.succ (Nat.succ (Nat.succ (Nat.succ (Nat.succ (Nat.succ (Nat.succ (Nat.succ (Nat.succ (Nat.succ (Nat.succ (Nat.succ (Nat.succ (Nat.succ (Nat.succ (Nat.succ (Nat.succ (Nat.succ (Nat.succ m)))))))))))))))))))))))))))))))))))))))))) := by unfold Yes7; kernel_rfl
end Go.EvM.DoorRun
