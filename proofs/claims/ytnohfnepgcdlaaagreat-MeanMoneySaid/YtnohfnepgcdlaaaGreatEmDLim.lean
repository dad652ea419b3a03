/- DLim: math/bits.Mul64, Sub64, Add64 laid at this dump. -/
import Derived.Test.YtnohfnepgcdlaaaGreatEmSymX
import Derived.Test.YtnohfnepgcdlaaaGreatProg
import Derived.KernelRfl
namespace Go.EvM.DLim
open Go.RowKit Go.Proofs Go.Shelf
set_option linter.unusedVariables false
def mulRen : Ren := ⟨fun | 264 => 107 | n => n, fun | 46 => 155 | 53 => 139 | n => n, fun n => n⟩
theorem mulL : Lays.n264 Tryz.prog mulRen := {
  mixed := by kernel_rfl,
  f264 := Tryz.func107.trans (congrArg some (by kernel_rfl)),
  t46 := Tryz.underlying155, a46 := Tryz.isAgg155, z46 := Tryz.sizeOf155, v46 := Tryz.zeroValue155,
  t53 := Tryz.underlying139, a53 := Tryz.isAgg139, z53 := Tryz.sizeOf139, v53 := Tryz.zeroValue139 }
def subRen : Ren := ⟨fun | 26 => 121 | n => n, fun | 22 => 139 | n => n, fun n => n⟩
theorem subL : Lays7.n26 Tryz.prog subRen := {
  mixed := by kernel_rfl,
  f26 := Tryz.func121.trans (congrArg some (by kernel_rfl)),
  t22 := Tryz.underlying139, a22 := Tryz.isAgg139, z22 := Tryz.sizeOf139, v22 := Tryz.zeroValue139, i22 := by kernel_rfl }
def addRen : Ren := ⟨fun | 25 => 123 | n => n, fun | 22 => 139 | n => n, fun n => n⟩
theorem addLy : Lays7.n25 Tryz.prog addRen := {
  mixed := by kernel_rfl,
  f25 := Tryz.func123.trans (congrArg some (by kernel_rfl)),
  t22 := Tryz.underlying139, a22 := Tryz.isAgg139, z22 := Tryz.sizeOf139, v22 := Tryz.zeroValue139, i22 := by kernel_rfl }
end Go.EvM.DLim
