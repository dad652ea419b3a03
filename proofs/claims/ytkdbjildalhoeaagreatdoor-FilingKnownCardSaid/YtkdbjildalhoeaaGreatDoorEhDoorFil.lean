/- DoorFil: FilingKnown's call. -/
import Derived.Test.YtkdbjildalhoeaaGreatDoorEhDoorGl
import Derived.Test.YtkdbjildalhoeaaGreatDoorEhExtS
namespace Go.EvM.DoorGl
open Go.RowKit Go.Proofs
set_option linter.unusedVariables false
noncomputable def ext8 : FuncId → Option (List Value → Hp → OR) := fun f => bif Nat.beq f 108 then some noEscE else bif Nat.beq f 114 then some cntE else bif Nat.beq f 213 then some idxE else bif Nat.beq f 176 then some (mnzE 5) else none
noncomputable def cx8 : Cx := mkCxG Tryz.prog [55] gl ext8
theorem f114 : Tryz.prog.funcs[114]? = some Tryz.f114 := by kernel_rfl
theorem f213 : Tryz.prog.funcs[213]? = some Tryz.f213 := by kernel_rfl
theorem f176 : Tryz.prog.funcs[176]? = some Tryz.f176 := by kernel_rfl
theorem u63 : Tryz.prog.underlying 63 = some (.slice 5) := by kernel_rfl
theorem sts8 : ([55] : List TypeId).all (fun t => !Tryz.prog.stoodInHeld t && !Tryz.prog.eqGuardType Tryz.prog.depth t) = true := by kernel_rfl
set_option maxRecDepth 100000 in
theorem cnt : SumOk Tryz.prog 114 cntE := cnt_ok f114 (by kernel_rfl) (by kernel_rfl) (by kernel_rfl) (by kernel_rfl)
set_option maxRecDepth 100000 in
theorem idx : SumOk Tryz.prog 213 idxE := idx_ok f213 (by kernel_rfl) (by kernel_rfl) (by kernel_rfl) (by kernel_rfl)
set_option maxRecDepth 100000 in
theorem mnz : SumOk Tryz.prog 176 (mnzE 5) := mnz_ok (ps := #[3]) (t := 63) f176 (by kernel_rfl) (by kernel_rfl) (by kernel_rfl) (by kernel_rfl) u63
set_option maxRecDepth 100000 in
theorem sound8 : Sound Tryz.prog cx8 := by
  refine ⟨cx_okG names_ok sts8 gl_ok, hm, ?_⟩
  intro f e h
  have h : (bif Nat.beq f 108 then some noEscE else bif Nat.beq f 114 then some cntE else bif Nat.beq f 213 then some idxE else bif Nat.beq f 176 then some (mnzE 5) else none) = some e := h
  rcases ext_cases (k := 108) (x := noEscE) h with g | h
  · exact sum_of g noEsc
  · rcases ext_cases (k := 114) (x := cntE) h with g | h
    · exact sum_of g cnt
    · rcases ext_cases (k := 213) (x := idxE) h with g | h
      · exact sum_of g idx
      · rcases ext_cases (k := 176) (x := mnzE 5) h with g | h
        · exact sum_of g mnz
        · cases h
theorem f8 : Tryz.prog.funcs[8]? = some Tryz.f8 := by kernel_rfl
theorem b8 : Tryz.f8.body = some (Tryz.f8.body.getD .skip) := by kernel_rfl
theorem n8 : Tryz.f8.name ≠ "runtime.NumGoroutine" := by decide
theorem r8 : isYes (fastBody cx8 (fastFun cx8 2000) (fastDef cx8 (fastFun cx8 2000) 2000) 2000 Tryz.f8 [] ⟨0, .nil⟩) = true := by kernel_rfl
theorem filingKnown (w : World) (hgl : GlOk w) : Calls Tryz.prog 8 #[] w fun e w' => e = .returned (.bool true) ∧ Below w.heap.size w w' := fast_yes sound8 2000 f8 n8 b8 r8 .nil w hgl
#print axioms filingKnown
end Go.EvM.DoorGl
