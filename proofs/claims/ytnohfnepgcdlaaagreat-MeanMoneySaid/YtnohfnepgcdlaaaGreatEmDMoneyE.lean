/- DMoneyE: MeanMoney, a rate too great. -/
import Derived.Test.YtnohfnepgcdlaaaGreatEmDMRun
namespace Go.EvM.DRun
open Go.RowKit Go.Proofs Go.EvM.DDel
theorem money_e : yesT fx_e tabs mt0 Tryz.f4 args = true := by kernel_rfl
end Go.EvM.DRun
