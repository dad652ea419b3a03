/- DoorRanks: SynRanks: what is asked. -/
import Derived.Test.YtkdbjildalhoeaaGreatDoorEvDoorRun
namespace Go.EvM.DoorRun
open Go.RowKit Go.Proofs
set_option linter.unusedVariables false
theorem f5 : Tryz.prog.funcs[5]? = some Tryz.f5 := by kernel_rfl
theorem b5 : Tryz.f5.body = some (Tryz.f5.body.getD .skip) := by kernel_rfl
theorem n5 : Tryz.f5.name ≠ "runtime.NumGoroutine" := by decide
def Yes5 (a b i k : Int) : Prop := isYes (fastBody cx (fastFun cx 2000) (fastDef cx (fastFun cx 2000) 2000) 2000 Tryz.f5 [.int .i64 a, .int .i64 b, .int .i64 i, .int .i64 k] ⟨0, .nil⟩) = true
theorem r5n (m : Nat) (b i k : Int) : Yes5 (.negSucc m) b i k := by unfold Yes5; kernel_rfl
theorem r5p (m : Nat) (b i k : Int) : Yes5 (.ofNat (Nat.succ (Nat.succ (Nat.succ (Nat.succ (Nat.succ m)))))) b i k := by unfold Yes5; kernel_rfl
theorem r5n_0 (m : Nat) (i k : Int) : Yes5 (.ofNat 0) (.negSucc m) i k := by unfold Yes5; kernel_rfl
theorem r5p_0 (m : Nat) (i k : Int) : Yes5 (.ofNat 0) (.ofNat (Nat.succ (Nat.succ (Nat.succ (Nat.succ (Nat.succ m)))))) i k := by unfold Yes5; kernel_rfl
theorem r5n_1 (m : Nat) (i k : Int) : Yes5 (.ofNat 1) (.negSucc m) i k := by unfold Yes5; kernel_rfl
theorem r5p_1 (m : Nat) (i k : Int) : Yes5 (.ofNat 1) (.ofNat (Nat.succ (Nat.succ (Nat.succ (Nat.succ (Nat.succ m)))))) i k := by unfold Yes5; kernel_rfl
theorem r5n_2 (m : Nat) (i k : Int) : Yes5 (.ofNat 2) (.negSucc m) i k := by unfold Yes5; kernel_rfl
theorem r5p_2 (m : Nat) (i k : Int) : Yes5 (.ofNat 2) (.ofNat (Nat.succ (Nat.succ (Nat.succ (Nat.succ (Nat.succ m)))))) i k := by unfold Yes5; kernel_rfl
theorem r5n_3 (m : Nat) (i k : Int) : Yes5 (.ofNat 3) (.negSucc m) i k := by unfold Yes5; kernel_rfl
theorem r5p_3 (m : Nat) (i k : Int) : Yes5 (.ofNat 3) (.ofNat (Nat.succ (Nat.succ (Nat.succ (Nat.succ (Nat.succ m)))))) i k := by unfold Yes5; kernel_rfl
theorem r5n_4 (m : Nat) (i k : Int) : Yes5 (.ofNat 4) (.negSucc m) i k := by unfold Yes5; kernel_rfl
theorem r5p_4 (m : Nat) (i k : Int) : Yes5 (.ofNat 4) (.ofNat (Nat.succ (Nat.succ (Nat.succ (Nat.succ (Nat.succ m)))))) i k := by unfold Yes5; kernel_rfl
end Go.EvM.DoorRun
