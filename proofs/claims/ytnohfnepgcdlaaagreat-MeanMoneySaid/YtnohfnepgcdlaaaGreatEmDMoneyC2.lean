/- DMoneyC2: MeanMoney, no rest. -/
import Derived.Test.YtnohfnepgcdlaaaGreatEmDMRun
namespace Go.EvM.DRun
open Go.RowKit Go.Proofs Go.EvM.DDel
theorem money_c2 : yesT fx_c2 tabs mtC Tryz.f4 args = true := by kernel_rfl
end Go.EvM.DRun
