/- DMRun: the summaries of MeanMoney at this dump; what is asked of its cases. -/
import Derived.Test.YtnohfnepgcdlaaaGreatEmDRun
import Derived.Test.YtnohfnepgcdlaaaGreatEmDLim
namespace Go.EvM.DRun
open Go.RowKit Go.Proofs Go.Maps Go.Sort Go.Shelf Go.EvM.DDel Go.EvM.DLim
set_option linter.unusedVariables false
set_option linter.unusedSectionVars false
variable [Unk]
noncomputable def extT (F : List Fact) (M : List MTab) : FuncId → Option (List Value → Hp → OR) := fun f => bif Nat.beq f 107 then some (mulE M) else bif Nat.beq f 121 then some (subE F) else bif Nat.beq f 123 then some (addE F) else ext f
noncomputable def cxT (F : List Fact) (T : List Tab) (M : List MTab) : Cx := mkCxT Tryz.prog sts (fun _ => none) F T (extT F M)
theorem enters107 : ∀ args w, (callFunc 107 args).run Tryz.prog w = .ok (.enter 107 args) w := enters_of Tryz.func107 (by kernel_rfl) rfl
set_option maxRecDepth 100000 in
theorem soundT {F : List Fact} {T : List Tab} {M : List MTab} (hF : FOk F) (hT : TOk T) (hM : MOk M) : Sound Tryz.prog (cxT F T M) := by
  refine ⟨cx_okT names_ok sts_ok no_gl hF hT, DDel.hm, ?_⟩
  intro f e h
  have h : (bif Nat.beq f 107 then some (mulE M) else bif Nat.beq f 121 then some (subE F) else bif Nat.beq f 123 then some (addE F) else bif Nat.beq f 5 then some yesE else bif Nat.beq f 78 then some (delE call0) else bif Nat.beq f 82 then some (sortedE 104) else none) = some e := h
  rcases ext_cases (k := 107) (x := mulE M) h with g | h
  · exact sum_of g (mul_ok (ρ := mulRen) DLim.mulL enters107 hM)
  · rcases ext_cases (k := 121) (x := subE F) h with g | h
    · exact sum_of g (sub_ok (ρ := subRen) DLim.subL hF)
    · rcases ext_cases (k := 123) (x := addE F) h with g | h
      · exact sum_of g (add_ok (ρ := addRen) DLim.addLy hF)
      · rcases ext_cases (k := 5) (x := yesE) h with g | h
        · exact sum_of g (yes_ok f5 n5 b5 (fun w _ => awake w))
        · rcases ext_cases (k := 78) (x := delE call0) h with g | h
          · exact sum_of g (DDel.del_ok call0_ok)
          · rcases ext_cases (k := 82) (x := sortedE 104) h with g | h
            · exact sum_of g (sorted_ok DDel.hu9 f82 (by kernel_rfl) b82 tells)
            · cases h
noncomputable def yesT (F : List Fact) (T : List Tab) (M : List MTab) (fn : Func) (args : List Value) : Bool := isYes (fastBody (cxT F T M) (fastFun (cxT F T M) 2000) (fastDef (cxT F T M) (fastFun (cxT F T M) 2000) 2000) 2000 fn args ⟨0, .nil⟩)
def args : List Value := [sy [0, 1, 0, 0, 0, 0, 0, 0], sy [0, 0, 1, 0, 0, 0, 0, 0], sy [0, 0, 0, 1, 0, 0, 0, 0]]
def tabs : List Tab := [(0, [0, 1, 0, 0, 0, 0, 0, 0], [0, 0, 1, 0, 0, 0, 0, 0], [0, 0, 0, 0, 1, 0, 0, 0]), (1, [0, 0, 0, 0, 1, 0, 0, 0], [1000000], [0, 0, 0, 0, 0, 1, 0, 0]), (1, [0, 1000000, 0, 0, 0, 0, 0, 0], [0, 0, 0, 1, 0, 0, 0, 0], [0, 0, 0, 0, 0, 0, 1, 0]), (2, [0, 0, 0, 0, 1, 0, 0, 0], [1000000], [0, 0, 0, 0, 1, -1000000, 0, 0]), (2, [0, 1000000, 0, 0, 0, 0, 0, 0], [0, 0, 0, 1, 0, 0, 0, 0], [0, 0, 0, 0, 0, 0, 0, 1])]
def mt0 : List MTab := [([0, 1, 0, 0, 0, 0, 0, 0], [0, 0, 1, 0, 0, 0, 0, 0], [0], [0, 0, 0, 0, 1, 0, 0, 0]), ([0, 1, 0, 0, 0, 0, 0, 0], [1000000], [0], [0, 1000000, 0, 0, 0, 0, 0, 0])]
def mtA : List MTab := [([0, -1, 0, 0, 0, 0, 0, 0], [0, 0, 1, 0, 0, 0, 0, 0], [0], [0]), ([0, 1, 0, 0, 0, 0, 0, 0], [0, 0, 1, 0, 0, 0, 0, 0], [0], [0, 0, 0, 0, 1, 0, 0, 0]), ([0, 1, 0, 0, 0, 0, 0, 0], [1000000], [0], [0, 1000000, 0, 0, 0, 0, 0, 0])]
def mtB : List MTab := [([18446744073709551616, -1, 0, 0, 0, 0, 0, 0], [0, 0, 1, 0, 0, 0, 0, 0], [0], [0]), ([0, 1, 0, 0, 0, 0, 0, 0], [0, 0, 1, 0, 0, 0, 0, 0], [0], [0, 0, 0, 0, 1, 0, 0, 0]), ([0, 1, 0, 0, 0, 0, 0, 0], [1000000], [0], [0, 1000000, 0, 0, 0, 0, 0, 0])]
def mtC : List MTab := [([18446744073709551616, -1, 0, 0, 0, 0, 0, 0], [0, 0, 1, 0, 0, 0, 0, 0], [-1, 0, 1, 0, 0, 0, 0, 0], [18446744073709551616, 0, 0, 0, -1, 0, 0, 0]), ([0, 1, 0, 0, 0, 0, 0, 0], [0, 0, 1, 0, 0, 0, 0, 0], [0], [0, 0, 0, 0, 1, 0, 0, 0]), ([0, 1, 0, 0, 0, 0, 0, 0], [1000000], [0], [0, 1000000, 0, 0, 0, 0, 0, 0])]
def fx_e : List Fact := [([1, 0, 0, 0, 0, 0, 0], 1, 1073741824), ([0, 1, 0, 0, 0, 0, 0], 0, 1000000), ([0, 0, 1, 0, 0, 0, 0], 1, 1073741824), ([0, 0, 0, 1, 0, 0, 0], 0, 1073741824000000), ([0, 0, 0, 0, 1, 0, 0], 0, 1073741824), ([0, 0, 0, 0, 0, 1, 0], 1000000000001, 1073741824000000), ([0, 0, 0, 0, 0, 0, 1], 0, 1073741824), ([1000000, 0, 0, 0, 0, 0, 0], 0, 1073741824000000), ([0, 0, 0, 1, -1000000, 0, 0], 0, 999999)]
def fx_a : List Fact := [([1, 0, 0, 0, 0, 0, 0], 0, 0), ([0, 1, 0, 0, 0, 0, 0], 0, 1000000), ([0, 0, 1, 0, 0, 0, 0], 1, 1073741824), ([0, 0, 0, 1, 0, 0, 0], 0, 0), ([0, 0, 0, 0, 1, 0, 0], 0, 0), ([0, 0, 0, 0, 0, 1, 0], 0, 0), ([0, 0, 0, 0, 0, 0, 1], 0, 1073741824), ([1000000, 0, 0, 0, 0, 0, 0], 0, 1073741824000000), ([0, 0, 0, 1, -1000000, 0, 0], 0, 0)]
def fx_b : List Fact := [([1, 0, 0, 0, 0, 0, 0], 1, 1073741824), ([0, 1, 0, 0, 0, 0, 0], 0, 0), ([0, 0, 1, 0, 0, 0, 0], 1, 1073741824), ([0, 0, 0, 1, 0, 0, 0], 0, 0), ([0, 0, 0, 0, 1, 0, 0], 0, 0), ([0, 0, 0, 0, 0, 1, 0], 0, 1000000000000), ([0, 0, 0, 0, 0, 0, 1], 0, 1073741824), ([1000000, 0, 0, 0, 0, 0, 0], 0, 1073741824000000), ([0, 0, 0, 1, -1000000, 0, 0], 0, 0)]
def fx_c1 : List Fact := [([1, 0, 0, 0, 0, 0, 0], 1, 1073741824), ([0, 1, 0, 0, 0, 0, 0], 1, 1000000), ([0, 0, 1, 0, 0, 0, 0], 1, 1073741824), ([0, 0, 0, 1, 0, 0, 0], 1, 1073741824000000), ([0, 0, 0, 0, 1, 0, 0], 0, 0), ([0, 0, 0, 0, 0, 1, 0], 0, 1000000000000), ([0, 0, 0, 0, 0, 0, 1], 0, 1073741824), ([1000000, 0, 0, 0, 0, 0, 0], 0, 1073741824000000), ([0, 0, 0, 1, -1000000, 0, 0], 1, 999999)]
def fx_c2 : List Fact := [([1, 0, 0, 0, 0, 0, 0], 1, 1073741824), ([0, 1, 0, 0, 0, 0, 0], 1, 1000000), ([0, 0, 1, 0, 0, 0, 0], 1, 1073741824), ([0, 0, 0, 1, 0, 0, 0], 1, 1073741824000000), ([0, 0, 0, 0, 1, 0, 0], 1, 1073741824), ([0, 0, 0, 0, 0, 1, 0], 0, 1000000000000), ([0, 0, 0, 0, 0, 0, 1], 0, 1073741824), ([1000000, 0, 0, 0, 0, 0, 0], 0, 1073741824000000), ([0, 0, 0, 1, -1000000, 0, 0], 0, 0)]
def fx_c3 : List Fact := [([1, 0, 0, 0, 0, 0, 0], 1, 1073741824), ([0, 1, 0, 0, 0, 0, 0], 1, 1000000), ([0, 0, 1, 0, 0, 0, 0], 1, 1073741824), ([0, 0, 0, 1, 0, 0, 0], 1, 1073741824000000), ([0, 0, 0, 0, 1, 0, 0], 1, 1073741824), ([0, 0, 0, 0, 0, 1, 0], 0, 1000000000000), ([0, 0, 0, 0, 0, 0, 1], 0, 1073741824), ([1000000, 0, 0, 0, 0, 0, 0], 0, 1073741824000000), ([0, 0, 0, 1, -1000000, 0, 0], 1, 999999)]
def fx_m0 : List Fact := [([1, 0, 0, 0, 0, 0, 0], -9223372036854775808, -1)]
def fx_m1 : List Fact := [([1, 0, 0, 0, 0, 0, 0], 1073741825, 9223372036854775807)]
def fx_r0 : List Fact := [([1, 0, 0, 0, 0, 0, 0], 0, 1073741824), ([0, 1, 0, 0, 0, 0, 0], -9223372036854775808, -1)]
def fx_r1 : List Fact := [([1, 0, 0, 0, 0, 0, 0], 0, 1073741824), ([0, 1, 0, 0, 0, 0, 0], 1000001, 9223372036854775807)]
def fx_k0 : List Fact := [([1, 0, 0, 0, 0, 0, 0], 0, 1073741824), ([0, 1, 0, 0, 0, 0, 0], 0, 1000000), ([0, 0, 1, 0, 0, 0, 0], -9223372036854775808, 0)]
def fx_k1 : List Fact := [([1, 0, 0, 0, 0, 0, 0], 0, 1073741824), ([0, 1, 0, 0, 0, 0, 0], 0, 1000000), ([0, 0, 1, 0, 0, 0, 0], 1073741825, 9223372036854775807)]
end Go.EvM.DRun
