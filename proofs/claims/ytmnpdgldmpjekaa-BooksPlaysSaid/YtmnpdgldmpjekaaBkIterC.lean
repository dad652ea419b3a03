/- BkIterC: maps.Clone's laying at this dump. -/
import Derived.Shelf.SlMaps.Clone
import Derived.Test.YtmnpdgldmpjekaaProg
import Derived.KernelRfl
namespace Go.Proofs
open Go.RowKit Go.Maps Go.Shelf
def Try.clone32_ren : Go.Shelf.Ren := ⟨fun | 5 => 32 | 7 => 37 | n => n, fun | 23 => 48 | 25 => 9 | 3 => 2 | 4 => 4 | 20 => 20 | n => n, fun | n => n⟩
theorem Try.clone32 : Go.Proofs.SlLaysW.n5 Try.prog Try.clone32_ren := {
  mixed := by kernel_rfl,
  f5 := ⟨Try.f32.name, by decide, Try.func32.trans (congrArg some (by kernel_rfl))⟩,
  f7 := Try.func37.trans (congrArg some (by kernel_rfl)),
  t4 := Try.underlying4,
  a4 := Try.isAgg4,
  z4 := Try.sizeOf4,
  v4 := Try.zeroValue4,
  t20 := Try.underlying20,
  a20 := Try.isAgg20,
  z20 := Try.sizeOf20,
  v20 := Try.zeroValue20,
  t23 := Try.underlying48,
  a23 := Try.isAgg48,
  z23 := Try.sizeOf48,
  v23 := Try.zeroValue48 }
end Go.Proofs
