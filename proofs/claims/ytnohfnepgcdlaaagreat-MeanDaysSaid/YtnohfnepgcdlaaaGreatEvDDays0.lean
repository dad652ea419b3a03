/- DDays0: MeanDays, days out of range. -/
import Derived.Test.YtnohfnepgcdlaaaGreatEvDRun
namespace Go.EvM.DRun
open Go.RowKit Go.Proofs Go.EvM.DDel
theorem days_a0 : yesF [([1, 0], -9223372036854775808, -1)] Tryz.f3 [sy [0, 1, 0], sy [0, 0, 1]] = true := by kernel_rfl
theorem days_a1 : yesF [([1, 0], 109573, 9223372036854775807)] Tryz.f3 [sy [0, 1, 0], sy [0, 0, 1]] = true := by kernel_rfl
theorem days_b0 : yesF [([1, 0], 0, 109572), ([0, 1], -9223372036854775808, -1)] Tryz.f3 [sy [0, 1, 0], sy [0, 0, 1]] = true := by kernel_rfl
theorem days_b1 : yesF [([1, 0], 0, 109572), ([0, 1], 109573, 9223372036854775807)] Tryz.f3 [sy [0, 1, 0], sy [0, 0, 1]] = true := by kernel_rfl
end Go.EvM.DRun
