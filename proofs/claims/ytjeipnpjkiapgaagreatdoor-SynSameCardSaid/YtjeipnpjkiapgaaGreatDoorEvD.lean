/- DoorGl: the table of the powers of ten, told; and the summaries at this dump. -/
import Derived.Test.YtjeipnpjkiapgaaGreatDoorEvC
import Derived.Test.YtjeipnpjkiapgaaGreatDoorRows
import Derived.Lib.LaidU8
import Derived.MakeChecks
import Derived.KernelRfl
set_option linter.unusedVariables false
set_option linter.unusedSectionVars false
set_option linter.unusedSimpArgs false
namespace Go.EvM.DoorGl
open Go.RowKit Go.Proofs Go.Proofs.YtjeipnpjkiapgaaGreatDoor
set_option linter.unusedVariables false
def p10 : List Int := [1, 10, 100, 1000, 10000, 100000, 1000000, 10000000, 100000000, 1000000000, 10000000000, 100000000000, 1000000000000, 10000000000000, 100000000000000, 1000000000000000, 10000000000000000, 100000000000000000, 1000000000000000000, 10000000000000000000]
def p10V : List Value := p10.map fun z => .int .u64 z
theorem plain10 : (p10V.all fun v => plainV 4 v && oneB v) = true := by kernel_rfl
instance unk : Unk := ⟨[]⟩
instance gls : GLs where
  tab := fun g => match Nat.beq g 3 with | true => some p10V | false => none
  plain := fun g cs e v hv => by
    have e : (match Nat.beq g 3 with | true => some p10V | false => none) = some cs := e
    split at e
    · cases e
      have := List.all_eq_true.1 plain10 v hv
      simpa using this
    · cases e
noncomputable def p10T : Tr Value := Tr.ofL p10V
noncomputable def gl : Nat → Option (Tr Value) := fun g => match Nat.beq g 3 with | true => some p10T | false => none
theorem gl_ok : ∀ g c, gl g = some c → ∃ cs, GLs.tab g = some cs ∧ ∀ j, c.get j = cs[j]? := fun g c h => by
  have h : (match Nat.beq g 3 with | true => some p10T | false => none) = some c := h
  split at h
  · rename_i hb
    cases h
    refine ⟨p10V, ?_, fun j => Tr.get_ofL p10V j⟩
    show (match Nat.beq g 3 with | true => some p10V | false => none) = some p10V
    rw [hb]
  · cases h
theorem g3 : Tryz.prog.globalNamed "internal/strconv.uint64pow10" = some 3 := by kernel_rfl
theorem t3 : (Tryz.prog.globals[3]?).map (·.type) = some 147 := by kernel_rfl
theorem u147 : Tryz.prog.underlying 147 = some (.array 20 128) := by kernel_rfl
theorem u128 : Tryz.prog.underlying 128 = some (.int .u64) := by kernel_rfl
theorem c128 : Tryz.prog.cellsOf 128 = 1 := by kernel_rfl
theorem c147 : Tryz.prog.cellsOf 147 = 20 := by kernel_rfl
theorem glOk {L : List (String × DataW Unit)} (hL : (L.all fun x => x.2.handleName?.isNone) = true) (hm : ("internal/strconv.uint64pow10", Rows.laid_internal_strconv_uint64pow10) ∈ L) {W : World} (h : laidMetH Tryz.prog L W) : GlOk W := by
  intro g cs e
  have e : (match Nat.beq g 3 with | true => some p10V | false => none) = some cs := e
  split at e
  · rename_i hb
    cases e
    have hg := Nat.eq_of_beq_eq_true hb
    subst hg
    rw [MakeChecks.laidMetH_plain _ _ _ hL] at h
    obtain ⟨g, t, cs, fuel, p, h1, h2, h3, h4⟩ := Lib.laidMet.reads h hm
    obtain rfl := Option.some.inj (g3.symm.trans h1)
    obtain rfl := Option.some.inj (t3.symm.trans h2)
    have hd : (Rows.laid_internal_strconv_uint64pow10 : DataW Unit) = Lib.tabData .u64 p10 := rfl
    rw [hd] at h4
    have hcs := Lib.cells_of_tab u147 u128 c128 c147 h4
    simp only [World.var?, g3, Option.bind_some] at h3
    split at h3
    · rename_i cs' e' fz' hh
      cases h3
      refine ⟨e', fz', ?_⟩
      rw [hh]
      have : cs = ⟨p10V⟩ := by
        obtain ⟨l⟩ := cs
        exact congrArg Array.mk hcs
      rw [this]
    · cases h3
  · cases e
theorem names_ok : Tryz.prog.funcs.toList.all (fun g => !(g.name == "runtime.NumGoroutine")) = true := by kernel_rfl
theorem hm : Tryz.prog.follows .mixedOrders = true := by kernel_rfl
noncomputable def ext0 : FuncId → Option (List Value → Hp → OR) := fun f => bif Nat.beq f 91 then some noEscE else none
noncomputable def cx0 : Cx := mkCxG Tryz.prog [] gl ext0
theorem f91 : Tryz.prog.funcs[91]? = some Tryz.f91 := by kernel_rfl
set_option maxRecDepth 100000 in
theorem noEsc : SumOk Tryz.prog 91 noEscE := noEsc_ok f91 (by kernel_rfl) (by kernel_rfl) (by kernel_rfl) (by kernel_rfl)
set_option maxRecDepth 100000 in
theorem sound0 : Sound Tryz.prog cx0 := by
  refine ⟨cx_okG names_ok rfl gl_ok, hm, ?_⟩
  intro f e h
  have h : (bif Nat.beq f 91 then some noEscE else none) = some e := h
  rcases ext_cases (k := 91) (x := noEscE) h with g | h
  · exact sum_of g noEsc
  · cases h
end Go.EvM.DoorGl
namespace Go.EvM.DoorGl
open Go.RowKit Go.Proofs
theorem f7 : Tryz.prog.funcs[7]? = some Tryz.f7 := by kernel_rfl
theorem b7 : Tryz.f7.body = some (Tryz.f7.body.getD .skip) := by kernel_rfl
theorem n7 : Tryz.f7.name ≠ "runtime.NumGoroutine" := by decide
theorem r7 : isYes (fastBody cx0 (fastFun cx0 2000) (fastDef cx0 (fastFun cx0 2000) 2000) 2000 Tryz.f7 [] ⟨0, .nil⟩) = true := by kernel_rfl
set_option maxRecDepth 100000 in
theorem awake (w : World) (hgl : GlOk w) : Calls Tryz.prog 7 #[] w fun e w' => e = .returned (.bool true) ∧ Below w.heap.size w w' := fast_yes sound0 2000 f7 n7 b7 r7 .nil w hgl
end Go.EvM.DoorGl
