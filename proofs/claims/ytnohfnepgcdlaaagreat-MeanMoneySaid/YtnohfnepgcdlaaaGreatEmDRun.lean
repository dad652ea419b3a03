/- DRun: the summaries at this dump. -/
import Derived.Test.YtnohfnepgcdlaaaGreatEmDDel
import Derived.Test.YtnohfnepgcdlaaaGreatEmIterD
import Derived.Test.YtnohfnepgcdlaaaGreatEmFast
import Derived.Test.YtnohfnepgcdlaaaGreatEmExt2
namespace Go.EvM.DRun
open Go.RowKit Go.Proofs Go.Maps Go.Sort Go.Shelf Go.EvM.DDel
set_option linter.unusedVariables false
set_option linter.unusedSectionVars false
variable [Unk]

theorem tells : SortedTells Tryz.prog 82 104 9 := by
  intro blk b nn D0 R w hlt hcell hown hmax hbytes
  have hseq : SeqGives Fence.wide 2 Tryz.prog 104 #[.pointer (some ⟨blk, 0, none⟩)] encStr (fun ss => ss.Perm (strKeys D0)) (Maps.size D0) w :=
    AnyZ.keys_gives (ρ := Tryz.keys83_ren) { Tryz.keys83 with } Fence.wide _ trivial rfl (by omega) blk b nn D0 w hlt hcell hown
  exact callsIn_wide.1 (AnyZ.sorted_in Tryz.sorted82 Fence.wide 5 trivial trivial trivial trivial rfl (by omega) (Tryz.sorts82 _) (enters_of Tryz.func103 (by kernel_rfl) rfl) 104 #[.pointer (some ⟨blk, 0, none⟩)] trivial (enters_of Tryz.func104 (by kernel_rfl) rfl) _ _ hmax hbytes _ hseq)

def sts : List TypeId := []
theorem sts_ok : sts.all (fun t => !Tryz.prog.stoodInHeld t && !Tryz.prog.eqGuardType Tryz.prog.depth t) = true := by rfl
theorem names_ok : Tryz.prog.funcs.toList.all (fun g => !(g.name == "runtime.NumGoroutine")) = true := by kernel_rfl
theorem no_gl : ∀ g c, (fun _ : Nat => (none : Option (Tr Value))) g = some c → ∃ cs, GLs.tab g = some cs ∧ ∀ j, c.get j = cs[j]? := fun _ _ h => by cases h
noncomputable def cx0 : Cx := mkCx Tryz.prog sts fun _ => none
noncomputable def call0 : Caller := fastFun cx0 300
noncomputable def ext1 : FuncId → Option (List Value → Hp → OR) := fun f => bif Nat.beq f 78 then some (delE call0) else bif Nat.beq f 82 then some (sortedE 104) else none
noncomputable def ext : FuncId → Option (List Value → Hp → OR) := fun f => bif Nat.beq f 5 then some yesE else bif Nat.beq f 78 then some (delE call0) else bif Nat.beq f 82 then some (sortedE 104) else none
noncomputable def cx1 : Cx := mkCx Tryz.prog sts ext1
noncomputable def cxF (F : List Fact) : Cx := mkCxF Tryz.prog sts (fun _ => none) F ext

theorem f82 : Tryz.prog.funcs[82]? = some Tryz.f82 := by kernel_rfl
theorem b82 : Tryz.f82.body = some (Tryz.f82.body.getD .skip) := by kernel_rfl
theorem f5 : Tryz.prog.funcs[5]? = some Tryz.f5 := by kernel_rfl
theorem b5 : Tryz.f5.body = some (Tryz.f5.body.getD .skip) := by kernel_rfl
theorem n5 : Tryz.f5.name ≠ "runtime.NumGoroutine" := by decide
set_option maxRecDepth 100000 in
theorem sound0 : Sound Tryz.prog cx0 := ⟨cx_ok names_ok sts_ok, DDel.hm, fun f e h => by cases h⟩
set_option maxRecDepth 100000 in
theorem call0_ok : CallSound Tryz.prog call0 := by
  unfold call0
  rw [fastFun_eq]
  exact fun_ok sound0 300
set_option maxRecDepth 100000 in
theorem sound1 : Sound Tryz.prog cx1 := by
  refine ⟨cx_ok names_ok sts_ok, DDel.hm, ?_⟩
  intro f e h
  have h : (bif Nat.beq f 78 then some (delE call0) else bif Nat.beq f 82 then some (sortedE 104) else none) = some e := h
  rcases ext_cases (k := 78) (x := delE call0) h with g | h
  · exact sum_of g (DDel.del_ok call0_ok)
  · rcases ext_cases (k := 82) (x := sortedE 104) h with g | h
    · exact sum_of g (sorted_ok DDel.hu9 f82 (by kernel_rfl) b82 tells)
    · cases h
theorem r5 : isYes (fastBody cx1 (fastFun cx1 2000) (fastDef cx1 (fastFun cx1 2000) 2000) 2000 Tryz.f5 [] ⟨0, .nil⟩) = true := by kernel_rfl
theorem awake (w : World) : Calls Tryz.prog 5 #[] w fun e w' => e = .returned (.bool true) ∧ Below w.heap.size w w' := fast_yes sound1 2000 f5 n5 b5 r5 .nil w (gl_ok w)
set_option maxRecDepth 100000 in
theorem sound {F : List Fact} (hF : FOk F) : Sound Tryz.prog (cxF F) := by
  refine ⟨cx_okF names_ok sts_ok no_gl hF, DDel.hm, ?_⟩
  intro f e h
  have h : (bif Nat.beq f 5 then some yesE else bif Nat.beq f 78 then some (delE call0) else bif Nat.beq f 82 then some (sortedE 104) else none) = some e := h
  rcases ext_cases (k := 5) (x := yesE) h with g | h
  · exact sum_of g (yes_ok f5 n5 b5 (fun w _ => awake w))
  · rcases ext_cases (k := 78) (x := delE call0) h with g | h
    · exact sum_of g (DDel.del_ok call0_ok)
    · rcases ext_cases (k := 82) (x := sortedE 104) h with g | h
      · exact sum_of g (sorted_ok DDel.hu9 f82 (by kernel_rfl) b82 tells)
      · cases h
theorem f3 : Tryz.prog.funcs[3]? = some Tryz.f3 := by kernel_rfl
theorem b3 : Tryz.f3.body = some (Tryz.f3.body.getD .skip) := by kernel_rfl
theorem n3 : Tryz.f3.name ≠ "runtime.NumGoroutine" := by decide
theorem f4 : Tryz.prog.funcs[4]? = some Tryz.f4 := by kernel_rfl
theorem b4 : Tryz.f4.body = some (Tryz.f4.body.getD .skip) := by kernel_rfl
theorem n4 : Tryz.f4.name ≠ "runtime.NumGoroutine" := by decide

/-- An unknown, by its coefficients. -/
def sy (l : List Int) : Value := .func (.yield 0) ⟨l.map (.int .i64)⟩ ⟨[]⟩
noncomputable def yesF (F : List Fact) (fn : Func) (args : List Value) : Bool := isYes (fastBody (cxF F) (fastFun (cxF F) 2000) (fastDef (cxF F) (fastFun (cxF F) 2000) 2000) 2000 fn args ⟨0, .nil⟩)
end Go.EvM.DRun
