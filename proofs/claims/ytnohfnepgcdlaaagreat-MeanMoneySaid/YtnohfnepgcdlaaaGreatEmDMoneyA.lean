/- DMoneyA: MeanMoney, no money. -/
import Derived.Test.YtnohfnepgcdlaaaGreatEmDMRun
namespace Go.EvM.DRun
open Go.RowKit Go.Proofs Go.EvM.DDel
theorem money_a : yesT fx_a tabs mtA Tryz.f4 args = true := by kernel_rfl
end Go.EvM.DRun
