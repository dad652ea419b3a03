/- MMean: MeanKnown's call. -/
import Derived.Test.YtmmaicjkkcljhabGreatEvMRun
namespace Go.EvM.MRun
open Go.RowKit Go.Proofs Go.EvM.MDel
theorem r3 : isYes (fastBody cx (fastFun cx 2000) (fastDef cx (fastFun cx 2000) 2000) 2000 Tryz.f3 [] ⟨0, .nil⟩) = true := by kernel_rfl
theorem meanKnown (w : World) : Calls Tryz.prog 3 #[] w fun e w' => e = .returned (.bool true) ∧ Below w.heap.size w w' := fast_yes sound 2000 f3 n3 b3 r3 .nil w (gl_ok w)
end Go.EvM.MRun
