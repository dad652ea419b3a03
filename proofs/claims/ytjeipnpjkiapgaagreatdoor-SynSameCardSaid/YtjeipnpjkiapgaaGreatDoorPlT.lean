/- SynSame: the call answers yes. -/
import Derived.Test.YtjeipnpjkiapgaaGreatDoorPlA
import Derived.Test.YtjeipnpjkiapgaaGreatDoorPmE
import Derived.Test.YtjeipnpjkiapgaaGreatDoorEvD
set_option linter.unusedVariables false
set_option linter.unusedSectionVars false
set_option linter.unusedSimpArgs false
namespace Go.Pm
open Go Go.EvM Go.Pv Go.Proofs Go.RowKit Go.EvM.DoorGl
theorem sem_eq {R : Type} (m : Nat) (s t : List UInt8) (n : Int) (κ : V → List PObj → Option R) : publicanlaw10_SynSame_sem m [.str s, .str t, .int .i64 n] [] κ = publicanlaw10_SynSame m s t n (fun b => κ (.bool b) []) := rfl
theorem call_ok (s t : List UInt8) (n : Int) : CallOK cxP 5 [.str s, .str t, .int .i64 n] [] (.bool true) [] := by
  have h : publicanlaw10_SynSame_sem (R := V × List PObj) 400000 [.str s, .str t, .int .i64 n] [] (fun v os => some (v, os)) = some (.bool true, []) := by
    rw [sem_eq]; exact law_sp (G := (· = some ((.bool true : V), ([] : List PObj)))) (Nat.le_refl _) s t n rfl
  obtain ⟨v, os', h1, h2⟩ := publicanlaw10_SynSame_ok 400000 _ _ _ _ h
  cases h1
  exact h2
theorem f5 : Tryz.prog.funcs[5]? = some Tryz.f5 := by kernel_rfl
theorem b5 : Tryz.f5.body = some (Tryz.f5.body.getD .skip) := by kernel_rfl
theorem n5 : Tryz.f5.name ≠ "runtime.NumGoroutine" := by decide
theorem fn5 : cxP.fn 5 = some Tryz.f5 := by show Tryz.prog.funcs.toList[5]? = _; rw [Array.getElem?_toList]; exact f5
theorem yesP_eq : yesP = yesE := by funext a h; cases a <;> rfl
set_option maxRecDepth 100000 in
theorem soundP : Sound Tryz.prog cxP := by
  refine ⟨cx_ok names_ok rfl, DoorGl.hm, ?_⟩
  intro f e h
  have h : (bif Nat.beq f 7 then some yesP else none) = some e := h
  rcases ext_cases (k := 7) (x := yesP) h with g | h
  · exact sum_of g (yesP_eq ▸ yes_ok DoorGl.f7 DoorGl.n7 DoorGl.b7 (fun w hgl => DoorGl.awake w hgl))
  · cases h
theorem synSame (s t : ByteArray) (n : Int) (w : World) (hgl : GlOk w) : Calls Tryz.prog 5 #[.string s, .string t, .int .i64 n] w fun e w' => e = .returned (.bool true) ∧ Below w.heap.size w w' := by
  obtain ⟨⟨l⟩⟩ := s
  obtain ⟨⟨k⟩⟩ := t
  obtain ⟨m, v, H', h1, Φ, g, h2⟩ := call_top (call_ok l k n) (ws := [.string ⟨⟨l⟩⟩, .string ⟨⟨k⟩⟩, .int .i64 n]) fun Φ g => .cons (.str l) (.cons (.str k) (.cons (.int _ _) .nil))
  cases h2
  have h1 : (match cxP.ext 5 with | some e => e [.string ⟨⟨l⟩⟩, .string ⟨⟨k⟩⟩, .int .i64 n] ⟨0, .nil⟩ | none => match cxP.fn 5 with | some fn => evBody cxP (evFun cxP m) (evDef cxP (evFun cxP m) m) m fn [.string ⟨⟨l⟩⟩, .string ⟨⟨k⟩⟩, .int .i64 n] ⟨0, .nil⟩ | none => .no) = .ok (.bool true) H' := h1
  rw [show cxP.ext 5 = none from rfl, fn5] at h1
  have h1 : evBody cxP (evFun cxP m) (evDef cxP (evFun cxP m) m) m Tryz.f5 [.string ⟨⟨l⟩⟩, .string ⟨⟨k⟩⟩, .int .i64 n] ⟨0, .nil⟩ = .ok (.bool true) H' := h1
  exact run_yes soundP f5 n5 b5 (n := m) (args := [.string ⟨⟨l⟩⟩, .string ⟨⟨k⟩⟩, .int .i64 n]) (by rw [h1]) (.cons (.string _) (.cons (.string _) (.cons (.int _ _) .nil))) w hgl
end Go.Pm
