/- TryzLaw: the call. -/
import Derived.Test.YtkdbjildalhoeaaGreatEvTryzRun
namespace Go.EvM.TryzRun
open Go.RowKit Go.Proofs
theorem f8 : Tryz.prog.funcs[8]? = some Tryz.f8 := by kernel_rfl
theorem b8 : Tryz.f8.body = some (Tryz.f8.body.getD .skip) := by kernel_rfl
theorem n8 : Tryz.f8.name ≠ "runtime.NumGoroutine" := by decide
theorem r8 : isYes (fastBody cx (fastFun cx 2000) (fastDef cx (fastFun cx 2000) 2000) 2000 Tryz.f8 [] ⟨0, .nil⟩) = true := by kernel_rfl
theorem lawKnown (w : World) : Calls Tryz.prog 8 #[] w fun e w' => e = .returned (.bool true) ∧ Below w.heap.size w w' := fast_yes sound 2000 f8 n8 b8 r8 .nil w
#print axioms lawKnown
end Go.EvM.TryzRun
