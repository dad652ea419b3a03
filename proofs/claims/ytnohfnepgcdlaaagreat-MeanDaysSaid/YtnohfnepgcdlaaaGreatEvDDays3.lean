/- DDays3: MeanDays, one day. -/
import Derived.Test.YtnohfnepgcdlaaaGreatEvDRun
namespace Go.EvM.DRun
open Go.RowKit Go.Proofs Go.EvM.DDel
theorem days_r3 : yesF [([1, 0], 0, 109572), ([0, 1], 0, 109572)] Tryz.f3 [sy [0, 1, 0], sy [0, 1, 0]] = true := by kernel_rfl
end Go.EvM.DRun
