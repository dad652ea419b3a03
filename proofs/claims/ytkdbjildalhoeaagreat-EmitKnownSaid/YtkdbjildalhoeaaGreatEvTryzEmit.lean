/- TryzEmit: the call. -/
import Derived.Test.YtkdbjildalhoeaaGreatEvTryzRun
namespace Go.EvM.TryzRun
open Go.RowKit Go.Proofs
theorem f7 : Tryz.prog.funcs[7]? = some Tryz.f7 := by kernel_rfl
theorem b7 : Tryz.f7.body = some (Tryz.f7.body.getD .skip) := by kernel_rfl
theorem n7 : Tryz.f7.name ≠ "runtime.NumGoroutine" := by decide
theorem r7 : isYes (fastBody cx (fastFun cx 2000) (fastDef cx (fastFun cx 2000) 2000) 2000 Tryz.f7 [] ⟨0, .nil⟩) = true := by kernel_rfl
theorem emitKnown (w : World) : Calls Tryz.prog 7 #[] w fun e w' => e = .returned (.bool true) ∧ Below w.heap.size w w' := fast_yes sound 2000 f7 n7 b7 r7 .nil w
#print axioms emitKnown
end Go.EvM.TryzRun
