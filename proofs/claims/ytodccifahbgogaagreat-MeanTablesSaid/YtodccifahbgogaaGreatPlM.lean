/- MeanTables: the call answers yes. -/
import Derived.Test.YtodccifahbgogaaGreatPlA
import Derived.Test.YtodccifahbgogaaGreatPmE
import Derived.Test.YtodccifahbgogaaGreatEvD
set_option linter.unusedVariables false
set_option linter.unusedSectionVars false
set_option linter.unusedSimpArgs false
namespace Go.Pm
open Go Go.EvM Go.Pv Go.Proofs Go.RowKit Go.EvM.MDel Go.EvM.MRun
theorem sem_eq {R : Type} (m : Nat) (t : List UInt8) (key : Int) (κ : V → List PObj → Option R) : publicanlaw13_MeanTables_sem m [.str t, .int .i64 key] [] κ = publicanlaw13_MeanTables m t key (fun b => κ (.bool b) []) := rfl
theorem call_ok (t : List UInt8) (key : Int) : CallOK cxP 9 [.str t, .int .i64 key] [] (.bool true) [] := by
  have h : publicanlaw13_MeanTables_sem (R := V × List PObj) 300000 [.str t, .int .i64 key] [] (fun v os => some (v, os)) = some (.bool true, []) := by
    rw [sem_eq]; exact law_sp (G := (· = some ((.bool true : V), ([] : List PObj)))) (Nat.le_refl _) t key rfl
  obtain ⟨v, os', h1, h2⟩ := publicanlaw13_MeanTables_ok 300000 _ _ _ _ h
  cases h1
  exact h2
theorem f9 : Tryz.prog.funcs[9]? = some Tryz.f9 := by kernel_rfl
theorem b9 : Tryz.f9.body = some (Tryz.f9.body.getD .skip) := by kernel_rfl
theorem n9 : Tryz.f9.name ≠ "runtime.NumGoroutine" := by decide
theorem fn9 : cxP.fn 9 = some Tryz.f9 := by show Tryz.prog.funcs.toList[9]? = _; rw [Array.getElem?_toList]; exact f9
theorem yesP_eq : yesP = yesE := by funext a h; cases a <;> rfl
set_option maxRecDepth 100000 in
theorem soundP : Sound Tryz.prog cxP := by
  refine ⟨cx_ok names_ok sts_ok, MDel.hm, ?_⟩
  intro f e h
  have h : (bif Nat.beq f 32 then some yesP else none) = some e := h
  rcases ext_cases (k := 32) (x := yesP) h with g | h
  · exact sum_of g (yesP_eq ▸ yes_ok Awake.f32 Awake.n32 Awake.b32 (fun w _ => Awake.awake13 w))
  · cases h
theorem meanTables (t : ByteArray) (key : Int) (w : World) : Calls Tryz.prog 9 #[.string t, .int .i64 key] w fun e w' => e = .returned (.bool true) ∧ Below w.heap.size w w' := by
  obtain ⟨⟨l⟩⟩ := t
  obtain ⟨m, v, H', h1, Φ, g, h2⟩ := call_top (call_ok l key) (ws := [.string ⟨⟨l⟩⟩, .int .i64 key]) fun Φ g => .cons (.str l) (.cons (.int _ _) .nil)
  cases h2
  have h1 : (match cxP.ext 9 with | some e => e [.string ⟨⟨l⟩⟩, .int .i64 key] ⟨0, .nil⟩ | none => match cxP.fn 9 with | some fn => evBody cxP (evFun cxP m) (evDef cxP (evFun cxP m) m) m fn [.string ⟨⟨l⟩⟩, .int .i64 key] ⟨0, .nil⟩ | none => .no) = .ok (.bool true) H' := h1
  rw [show cxP.ext 9 = none from rfl, fn9] at h1
  have h1 : evBody cxP (evFun cxP m) (evDef cxP (evFun cxP m) m) m Tryz.f9 [.string ⟨⟨l⟩⟩, .int .i64 key] ⟨0, .nil⟩ = .ok (.bool true) H' := h1
  exact run_yes soundP f9 n9 b9 (n := m) (args := [.string ⟨⟨l⟩⟩, .int .i64 key]) (by rw [h1]) (.cons (.string _) (.cons (.int _ _) .nil)) w (gl_ok w)
end Go.Pm
