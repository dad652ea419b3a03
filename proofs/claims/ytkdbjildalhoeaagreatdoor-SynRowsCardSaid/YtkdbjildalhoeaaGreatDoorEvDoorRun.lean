/- DoorRun: the summaries at this dump. -/
import Derived.Test.YtkdbjildalhoeaaGreatDoorEvFast
import Derived.Test.YtkdbjildalhoeaaGreatDoorEvExt2
import Derived.Test.YtkdbjildalhoeaaGreatDoorProg
import Derived.KernelRfl
namespace Go.EvM.DoorRun
open Go.RowKit Go.Proofs
set_option linter.unusedVariables false

theorem names_ok : Tryz.prog.funcs.toList.all (fun g => !(g.name == "runtime.NumGoroutine")) = true := by kernel_rfl
theorem hm : Tryz.prog.follows .mixedOrders = true := by kernel_rfl
noncomputable def ext0 : FuncId → Option (List Value → Hp → OR) := fun f => bif Nat.beq f 108 then some noEscE else none
noncomputable def cx0 : Cx := mkCx Tryz.prog [] ext0
theorem f108 : Tryz.prog.funcs[108]? = some Tryz.f108 := by kernel_rfl
set_option maxRecDepth 100000 in
theorem noEsc : SumOk Tryz.prog 108 noEscE := noEsc_ok f108 (by kernel_rfl) (by kernel_rfl) (by kernel_rfl) (by kernel_rfl)
set_option maxRecDepth 100000 in
theorem sound0 : Sound Tryz.prog cx0 := by
  refine ⟨cx_ok names_ok rfl, hm, ?_⟩
  intro f e h
  have h : (bif Nat.beq f 108 then some noEscE else none) = some e := h
  rcases ext_cases (k := 108) (x := noEscE) h with g | h
  · exact sum_of g noEsc
  · cases h

theorem f13 : Tryz.prog.funcs[13]? = some Tryz.f13 := by kernel_rfl
theorem b13 : Tryz.f13.body = some (Tryz.f13.body.getD .skip) := by kernel_rfl
theorem n13 : Tryz.f13.name ≠ "runtime.NumGoroutine" := by decide
theorem r13 : isYes (fastBody cx0 (fastFun cx0 2000) (fastDef cx0 (fastFun cx0 2000) 2000) 2000 Tryz.f13 [] ⟨0, .nil⟩) = true := by kernel_rfl
theorem awake (w : World) : Calls Tryz.prog 13 #[] w fun e w' => e = .returned (.bool true) ∧ Below w.heap.size w w' := fast_yes sound0 2000 f13 n13 b13 r13 .nil w

noncomputable def ext : FuncId → Option (List Value → Hp → OR) := fun f => bif Nat.beq f 13 then some yesE else bif Nat.beq f 108 then some noEscE else none
noncomputable def cx : Cx := mkCx Tryz.prog [] ext
set_option maxRecDepth 100000 in
theorem sound : Sound Tryz.prog cx := by
  refine ⟨cx_ok names_ok rfl, hm, ?_⟩
  intro f e h
  have h : (bif Nat.beq f 13 then some yesE else bif Nat.beq f 108 then some noEscE else none) = some e := h
  rcases ext_cases (k := 13) (x := yesE) h with g | h
  · exact sum_of g (yes_ok f13 n13 b13 awake)
  · rcases ext_cases (k := 108) (x := noEscE) h with g | h
    · exact sum_of g noEsc
    · cases h
end Go.EvM.DoorRun
