/- DMoneyC1: MeanMoney, less than a millionth. -/
import Derived.Test.YtnohfnepgcdlaaaGreatEmDMRun
namespace Go.EvM.DRun
open Go.RowKit Go.Proofs Go.EvM.DDel
theorem money_c1 : yesT fx_c1 tabs mtC Tryz.f4 args = true := by kernel_rfl
end Go.EvM.DRun
