/- DoorSyn: SynKnown's call. -/
import Derived.Test.YtkdbjildalhoeaaGreatDoorEgDoorGl
namespace Go.EvM.DoorGl
open Go.RowKit Go.Proofs
theorem f4 : Tryz.prog.funcs[4]? = some Tryz.f4 := by kernel_rfl
theorem b4 : Tryz.f4.body = some (Tryz.f4.body.getD .skip) := by kernel_rfl
theorem n4 : Tryz.f4.name ≠ "runtime.NumGoroutine" := by decide
theorem r4 : isYes (fastBody cx0 (fastFun cx0 2000) (fastDef cx0 (fastFun cx0 2000) 2000) 2000 Tryz.f4 [] ⟨0, .nil⟩) = true := by kernel_rfl
theorem synKnown (w : World) (hgl : GlOk w) : Calls Tryz.prog 4 #[] w fun e w' => e = .returned (.bool true) ∧ Below w.heap.size w w' := fast_yes sound0 2000 f4 n4 b4 r4 .nil w hgl
#print axioms synKnown
end Go.EvM.DoorGl
