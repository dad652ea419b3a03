/- TryzOrder: OrderKnown's call. -/
import Derived.Test.YtkdbjildalhoeaaGreatEvTryzRun
namespace Go.EvM.TryzRun
open Go.RowKit Go.Proofs
theorem f3 : Tryz.prog.funcs[3]? = some Tryz.f3 := by kernel_rfl
theorem b3 : Tryz.f3.body = some (Tryz.f3.body.getD .skip) := by kernel_rfl
theorem n3 : Tryz.f3.name ≠ "runtime.NumGoroutine" := by decide
theorem r3 : isYes (fastBody cx (fastFun cx 2000) (fastDef cx (fastFun cx 2000) 2000) 2000 Tryz.f3 [] ⟨0, .nil⟩) = true := by kernel_rfl
theorem orderKnown (w : World) : Calls Tryz.prog 3 #[] w fun e w' => e = .returned (.bool true) ∧ Below w.heap.size w w' := fast_yes sound 2000 f3 n3 b3 r3 .nil w
#print axioms orderKnown
end Go.EvM.TryzRun
