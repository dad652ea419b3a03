/- TRun: TrayKnown's call. -/
import Derived.Test.YtmmaicjkkcljhaaEvTSum
namespace Go.EvM.TTray
open Go.RowKit Go.Proofs
set_option linter.unusedVariables false
def sts : List TypeId := [28]
theorem sts_ok : sts.all (fun t => !Try.prog.stoodInHeld t && !Try.prog.eqGuardType Try.prog.depth t) = true := by kernel_rfl
theorem names_ok : Try.prog.funcs.toList.all (fun g => !(g.name == "runtime.NumGoroutine")) = true := by kernel_rfl
theorem hm : Try.prog.follows .mixedOrders = true := by kernel_rfl
noncomputable def ext : FuncId → Option (List Value → Hp → OR) := fun f => bif Nat.beq f 7 then some putE else bif Nat.beq f 10 then some takeE else none
noncomputable def cx : Cx := mkCx Try.prog sts ext
theorem ext_cases {k f : Nat} {x : List Value → Hp → OR} {r : Option (List Value → Hp → OR)} {e : List Value → Hp → OR} (h : (bif Nat.beq f k then some x else r) = some e) : (f = k ∧ x = e) ∨ r = some e := by
  cases hb : Nat.beq f k with
  | true => rw [hb] at h; cases h; exact .inl ⟨Nat.eq_of_beq_eq_true hb, rfl⟩
  | false => rw [hb] at h; exact .inr h
set_option maxRecDepth 100000 in
theorem sound : Sound Try.prog cx := by
  refine ⟨cx_ok names_ok sts_ok, hm, ?_⟩
  intro f e h
  have h : (bif Nat.beq f 7 then some putE else bif Nat.beq f 10 then some takeE else none) = some e := h
  rcases ext_cases (k := 7) (x := putE) h with ⟨rfl, rfl⟩ | h
  · exact put_ok
  · rcases ext_cases (k := 10) (x := takeE) h with ⟨rfl, rfl⟩ | h
    · exact take_ok
    · cases h
theorem f3 : Try.prog.funcs[3]? = some Try.f3 := by kernel_rfl
theorem b3 : Try.f3.body = some (Try.f3.body.getD .skip) := by kernel_rfl
theorem n3 : Try.f3.name ≠ "runtime.NumGoroutine" := by decide
theorem f5 : Try.prog.funcs[5]? = some Try.f5 := by kernel_rfl
theorem b5 : Try.f5.body = some (Try.f5.body.getD .skip) := by kernel_rfl
theorem n5 : Try.f5.name ≠ "runtime.NumGoroutine" := by decide
theorem r5 : isYes (fastBody cx (fastFun cx 200) (fastDef cx (fastFun cx 200) 200) 200 Try.f5 [] ⟨0, .nil⟩) = true := by kernel_rfl
theorem awake (w : World) : Calls Try.prog 5 #[] w fun e w' => e = .returned (.bool true) ∧ Below w.heap.size w w' := fast_yes sound 200 f5 n5 b5 r5 .nil w (gl_ok w)
theorem r3 : isYes (fastBody cx (fastFun cx 200) (fastDef cx (fastFun cx 200) 200) 200 Try.f3 [] ⟨0, .nil⟩) = true := by kernel_rfl
theorem trayKnown (w : World) : Calls Try.prog 3 #[] w fun e w' => e = .returned (.bool true) ∧ Below w.heap.size w w' := fast_yes sound 200 f3 n3 b3 r3 .nil w (gl_ok w)
end Go.EvM.TTray
