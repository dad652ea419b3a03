/- TryzRun: the summaries at this dump. -/
import Derived.Test.YtkdbjildalhoeaaGreatEvTryzDel
import Derived.Test.YtkdbjildalhoeaaGreatEvIterTryz
import Derived.Test.YtkdbjildalhoeaaGreatEvFast
import Derived.Test.YtkdbjildalhoeaaGreatEvExt2
namespace Go.EvM.TryzRun
open Go.RowKit Go.Proofs Go.Maps Go.Sort Go.Shelf
set_option linter.unusedVariables false

theorem tells : SortedTells Tryz.prog 44 87 9 := by
  intro blk b nn D0 R w hlt hcell hown hmax hbytes
  have hseq : SeqGives Fence.wide 2 Tryz.prog 87 #[.pointer (some ⟨blk, 0, none⟩)] encStr (fun ss => ss.Perm (strKeys D0)) (Maps.size D0) w :=
    AnyZ.keys_gives (ρ := Tryz.keys45_ren) { Tryz.keys45 with } Fence.wide _ trivial rfl (by omega) blk b nn D0 w hlt hcell hown
  exact callsIn_wide.1 (AnyZ.sorted_in Tryz.sorted44 Fence.wide 5 trivial trivial trivial trivial rfl (by omega) (Tryz.sorts44 _) (enters_of Tryz.func86 (by kernel_rfl) rfl) 87 #[.pointer (some ⟨blk, 0, none⟩)] trivial (enters_of Tryz.func87 (by kernel_rfl) rfl) _ _ hmax hbytes _ hseq)

def sts : List TypeId := [114, 72]
theorem sts_ok : sts.all (fun t => !Tryz.prog.stoodInHeld t && !Tryz.prog.eqGuardType Tryz.prog.depth t) = true := by kernel_rfl
theorem names_ok : Tryz.prog.funcs.toList.all (fun g => !(g.name == "runtime.NumGoroutine")) = true := by kernel_rfl
noncomputable def cx0 : Cx := mkCx Tryz.prog sts fun _ => none
noncomputable def call0 : Caller := fastFun cx0 300
noncomputable def ext : FuncId → Option (List Value → Hp → OR) := fun f => bif Nat.beq f 40 then some (delE call0) else bif Nat.beq f 44 then some (sortedE 87) else none
noncomputable def cx : Cx := mkCx Tryz.prog sts ext

theorem f44 : Tryz.prog.funcs[44]? = some Tryz.f44 := by kernel_rfl
theorem b44 : Tryz.f44.body = some (Tryz.f44.body.getD .skip) := by kernel_rfl
set_option maxRecDepth 100000 in
theorem sound0 : Sound Tryz.prog cx0 := ⟨cx_ok names_ok sts_ok, TryzDel.hm, fun f e h => by cases h⟩
set_option maxRecDepth 100000 in
theorem call0_ok : CallSound Tryz.prog call0 := by
  unfold call0
  rw [fastFun_eq]
  exact fun_ok sound0 300
set_option maxRecDepth 100000 in
theorem sound : Sound Tryz.prog cx := by
  refine ⟨cx_ok names_ok sts_ok, TryzDel.hm, ?_⟩
  intro f e h
  have h : (bif Nat.beq f 40 then some (delE call0) else bif Nat.beq f 44 then some (sortedE 87) else none) = some e := h
  rcases ext_cases (k := 40) (x := delE call0) h with g | h
  · exact sum_of g (TryzDel.del_ok call0_ok)
  · rcases ext_cases (k := 44) (x := sortedE 87) h with g | h
    · exact sum_of g (sorted_ok TryzDel.hu9 f44 (by kernel_rfl) b44 tells)
    · cases h
end Go.EvM.TryzRun
