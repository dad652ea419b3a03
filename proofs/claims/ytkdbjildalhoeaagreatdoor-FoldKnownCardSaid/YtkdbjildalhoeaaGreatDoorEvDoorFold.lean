/- DoorFold: FoldKnown's call. -/
import Derived.Test.YtkdbjildalhoeaaGreatDoorEvDoorRun
namespace Go.EvM.DoorRun
open Go.RowKit Go.Proofs
theorem f3 : Tryz.prog.funcs[3]? = some Tryz.f3 := by kernel_rfl
theorem b3 : Tryz.f3.body = some (Tryz.f3.body.getD .skip) := by kernel_rfl
theorem n3 : Tryz.f3.name ≠ "runtime.NumGoroutine" := by decide
theorem r3 : isYes (fastBody cx0 (fastFun cx0 2000) (fastDef cx0 (fastFun cx0 2000) 2000) 2000 Tryz.f3 [] ⟨0, .nil⟩) = true := by kernel_rfl
theorem foldKnown (w : World) : Calls Tryz.prog 3 #[] w fun e w' => e = .returned (.bool true) ∧ Below w.heap.size w w' := fast_yes sound0 2000 f3 n3 b3 r3 .nil w
#print axioms foldKnown
end Go.EvM.DoorRun
