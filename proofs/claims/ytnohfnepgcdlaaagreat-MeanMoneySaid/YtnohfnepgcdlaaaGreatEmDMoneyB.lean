/- DMoneyB: MeanMoney, no rate. -/
import Derived.Test.YtnohfnepgcdlaaaGreatEmDMRun
namespace Go.EvM.DRun
open Go.RowKit Go.Proofs Go.EvM.DDel
theorem money_b : yesT fx_b tabs mtB Tryz.f4 args = true := by kernel_rfl
end Go.EvM.DRun
