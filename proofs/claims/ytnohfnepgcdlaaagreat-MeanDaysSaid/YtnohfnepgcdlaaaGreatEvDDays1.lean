/- DDays1: MeanDays, a day ahead of the other. -/
import Derived.Test.YtnohfnepgcdlaaaGreatEvDRun
namespace Go.EvM.DRun
open Go.RowKit Go.Proofs Go.EvM.DDel
theorem days_r1 : yesF [([1, 0], 0, 109572), ([0, 1], 0, 109572), ([-1, 1], 1, 109572)] Tryz.f3 [sy [0, 1, 0], sy [0, 0, 1]] = true := by kernel_rfl
end Go.EvM.DRun
