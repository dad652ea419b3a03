/- DMoneyO: MeanMoney, numbers out of range. -/
import Derived.Test.YtnohfnepgcdlaaaGreatEmDMRun
namespace Go.EvM.DRun
open Go.RowKit Go.Proofs Go.EvM.DDel
theorem money_m0 : yesT fx_m0 [] [] Tryz.f4 args = true := by kernel_rfl
theorem money_m1 : yesT fx_m1 [] [] Tryz.f4 args = true := by kernel_rfl
theorem money_r0 : yesT fx_r0 [] [] Tryz.f4 args = true := by kernel_rfl
theorem money_r1 : yesT fx_r1 [] [] Tryz.f4 args = true := by kernel_rfl
theorem money_k0 : yesT fx_k0 [] [] Tryz.f4 args = true := by kernel_rfl
theorem money_k1 : yesT fx_k1 [] [] Tryz.f4 args = true := by kernel_rfl
end Go.EvM.DRun
