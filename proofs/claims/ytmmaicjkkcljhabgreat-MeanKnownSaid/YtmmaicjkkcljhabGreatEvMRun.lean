/- MRun: the summaries at this dump; MeanKnown's call. -/
import Derived.Test.YtmmaicjkkcljhabGreatEvMDel
import Derived.Test.YtmmaicjkkcljhabGreatEvIterM
import Derived.Test.YtmmaicjkkcljhabGreatEvFast
import Derived.Test.YtmmaicjkkcljhabGreatEvExt2
namespace Go.EvM.MRun
open Go.RowKit Go.Proofs Go.Maps Go.Sort Go.Shelf Go.EvM.MDel
set_option linter.unusedVariables false

theorem tells : SortedTells Tryz.prog 81 103 9 := by
  intro blk b nn D0 R w hlt hcell hown hmax hbytes
  have hseq : SeqGives Fence.wide 2 Tryz.prog 103 #[.pointer (some ⟨blk, 0, none⟩)] encStr (fun ss => ss.Perm (strKeys D0)) (Maps.size D0) w :=
    AnyZ.keys_gives (ρ := Tryz.keys82_ren) { Tryz.keys82 with } Fence.wide _ trivial rfl (by omega) blk b nn D0 w hlt hcell hown
  exact callsIn_wide.1 (AnyZ.sorted_in Tryz.sorted81 Fence.wide 5 trivial trivial trivial trivial rfl (by omega) (Tryz.sorts81 _) (enters_of Tryz.func102 (by kernel_rfl) rfl) 103 #[.pointer (some ⟨blk, 0, none⟩)] trivial (enters_of Tryz.func103 (by kernel_rfl) rfl) _ _ hmax hbytes _ hseq)

def sts : List TypeId := []
theorem sts_ok : sts.all (fun t => !Tryz.prog.stoodInHeld t && !Tryz.prog.eqGuardType Tryz.prog.depth t) = true := by rfl
theorem names_ok : Tryz.prog.funcs.toList.all (fun g => !(g.name == "runtime.NumGoroutine")) = true := by kernel_rfl
noncomputable def cx0 : Cx := mkCx Tryz.prog sts fun _ => none
noncomputable def call0 : Caller := fastFun cx0 300
noncomputable def ext : FuncId → Option (List Value → Hp → OR) := fun f => bif Nat.beq f 77 then some (delE call0) else bif Nat.beq f 81 then some (sortedE 103) else none
noncomputable def cx : Cx := mkCx Tryz.prog sts ext

theorem f81 : Tryz.prog.funcs[81]? = some Tryz.f81 := by kernel_rfl
theorem b81 : Tryz.f81.body = some (Tryz.f81.body.getD .skip) := by kernel_rfl
set_option maxRecDepth 100000 in
theorem sound0 : Sound Tryz.prog cx0 := ⟨cx_ok names_ok sts_ok, MDel.hm, fun f e h => by cases h⟩
set_option maxRecDepth 100000 in
theorem call0_ok : CallSound Tryz.prog call0 := by
  unfold call0
  rw [fastFun_eq]
  exact fun_ok sound0 300
set_option maxRecDepth 100000 in
theorem sound : Sound Tryz.prog cx := by
  refine ⟨cx_ok names_ok sts_ok, MDel.hm, ?_⟩
  intro f e h
  have h : (bif Nat.beq f 77 then some (delE call0) else bif Nat.beq f 81 then some (sortedE 103) else none) = some e := h
  rcases ext_cases (k := 77) (x := delE call0) h with g | h
  · exact sum_of g (MDel.del_ok call0_ok)
  · rcases ext_cases (k := 81) (x := sortedE 103) h with g | h
    · exact sum_of g (sorted_ok MDel.hu9 f81 (by kernel_rfl) b81 tells)
    · cases h
theorem f3 : Tryz.prog.funcs[3]? = some Tryz.f3 := by kernel_rfl
theorem b3 : Tryz.f3.body = some (Tryz.f3.body.getD .skip) := by kernel_rfl
theorem n3 : Tryz.f3.name ≠ "runtime.NumGoroutine" := by decide
end Go.EvM.MRun
