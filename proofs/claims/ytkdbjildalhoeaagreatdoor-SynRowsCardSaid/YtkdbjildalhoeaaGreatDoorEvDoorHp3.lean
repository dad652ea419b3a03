/- DoorHp3: the texts of the counts up to 40, told. -/
import Derived.Test.YtkdbjildalhoeaaGreatDoorEvDoorHp2
namespace Go.EvM.DoorRun
open Go.RowKit Go.Proofs
set_option linter.unusedVariables false

def litL (i : Nat) : List UInt8 := bif Nat.blt i 10 then [UInt8.ofNat (Nat.add 48 i)] else [UInt8.ofNat (Nat.add 48 (Nat.div i 10)), UInt8.ofNat (Nat.add 48 (Nat.mod i 10))]
noncomputable def isSt (l : List UInt8) : OR → Bool
  | .ok (.string s) _ => eqL s.data.toList l
  | _ => false
theorem fast_str {P : Program} {cx : Cx} (H : Sound P cx) (n : Nat) {f : FuncId} {fn : Func} {c : Code} (hf : P.funcs[f]? = some fn) (hn : fn.name ≠ "runtime.NumGoroutine") (hb : fn.body = some c) {args args' : List Value} {l : List UInt8}
    (e : isSt l (fastBody cx (fastFun cx n) (fastDef cx (fastFun cx n) n) n fn args ⟨0, .nil⟩) = true) (hv : VRs (fun _ => none) args args') (w : World) :
    Calls P f args'.toArray w fun e w' => e = .returned (.string ⟨⟨l⟩⟩) ∧ Below w.heap.size w w' := by
  rw [fastDef_eq, fastFun_eq, fastBody_eq] at e
  cases he : evBody cx (evFun cx n) (evDef cx (evFun cx n) n) n fn args ⟨0, .nil⟩ with
  | no => rw [he] at e; cases e
  | ok v h =>
    rw [he] at e
    have hvb : v = .string ⟨⟨l⟩⟩ := by
      cases v with
      | string s =>
        obtain ⟨⟨l'⟩⟩ := s
        have e : eqL l' l = true := e
        rw [eqL_eq] at e
        rw [show l' = l by simpa using e]
      | _ => cases e
    subst hvb
    refine (run_ok H hf hn hb he hv (rel_empty w)).mono fun e w' ⟨v', h1, μ', h2, h3, _⟩ => ?_
    cases h2
    exact ⟨h1, h3.below⟩
noncomputable def litE (args : List Value) (h : Hp) : OR :=
  match args with
  | [.int .i64 (.ofNat 2), .int .i64 (.ofNat i)] => bif Nat.blt i 41 then .ok (.string ⟨⟨litL i⟩⟩) h else .no
  | _ => .no
theorem f15 : Tryz.prog.funcs[15]? = some Tryz.f15 := by kernel_rfl
theorem b15 : Tryz.f15.body = some (Tryz.f15.body.getD .skip) := by kernel_rfl
theorem n15 : Tryz.f15.name ≠ "runtime.NumGoroutine" := by decide
noncomputable def all41 : Bool :=
  (List.range 41).all fun k => isSt (litL k) (fastBody cx0 (fastFun cx0 2000) (fastDef cx0 (fastFun cx0 2000) 2000) 2000 Tryz.f15 [.int .i64 (.ofNat 2), .int .i64 (.ofNat k)] ⟨0, .nil⟩)
theorem a15 : all41 = true := by kernel_rfl
set_option maxRecDepth 100000 in
theorem lits (k : Nat) (hk : k < 41) (w : World) : Calls Tryz.prog 15 #[.int .i64 (.ofNat 2), .int .i64 (.ofNat k)] w fun e w' => e = .returned (.string ⟨⟨litL k⟩⟩) ∧ Below w.heap.size w w' := by
  have h := a15
  unfold all41 at h
  rw [List.all_eq_true] at h
  have hv : VRs (fun _ => none) [Value.int .i64 (.ofNat 2), Value.int .i64 (.ofNat k)] [Value.int .i64 (.ofNat 2), Value.int .i64 (.ofNat k)] := .cons (.int _ _) (.cons (.int _ _) .nil)
  have hb2 := h k (List.mem_range.2 hk)
  exact fast_str sound0 2000 f15 n15 b15 hb2 hv w
set_option maxRecDepth 100000 in
theorem lit_ok : SumOk Tryz.prog 15 litE := by
  intro args h v h' ev W μ w args' hv R
  unfold litE at ev
  split at ev
  · rename_i k
    cases hk : Nat.blt k 41 with
    | false => rw [hk] at ev; cases ev
    | true =>
      rw [hk] at ev; cases ev
      have hk := blt_lt hk
      cases hv with
      | cons h1 h2 => cases h2 with
        | cons h3 h4 =>
          cases h4; cases h1; cases h3
          rw [MuLone.run_callFunc_enter f15 (by simpa using n15) b15]
          refine (lits k hk w).mono ?_
          rintro e' w' ⟨rfl, hbel⟩
          exact ⟨_, rfl, μ, .string _, ⟨R.dom, fun b i o h1 h2 => have ro := R.ob b i o h1 h2; ro.move (Le.refl _) (hbel.block _ ro.old), R.inj, R.below.trans (hbel.mono R.below.size)⟩, Ext.refl _ _, Nat.le_refl _⟩
  · cases ev
noncomputable def ext4 : FuncId → Option (List Value → Hp → OR) := fun f => bif Nat.beq f 15 then some litE else ext3 f
noncomputable def cx4 : Cx := mkCx Tryz.prog [] ext4
set_option maxRecDepth 100000 in
theorem sound4 : Sound Tryz.prog cx4 := by
  refine ⟨cx_ok names_ok rfl, hm, ?_⟩
  intro f e h
  have h : (bif Nat.beq f 15 then some litE else ext3 f) = some e := h
  rcases ext_cases (k := 15) (x := litE) h with g | h
  · exact sum_of g lit_ok
  · exact sound3.ext f e h
def Yes10 (n : Int) : Prop := isYes (fastBody cx4 (fastFun cx4 2000) (fastDef cx4 (fastFun cx4 2000) 2000) 2000 Tryz.f7 [.int .i64 n] ⟨0, .nil⟩) = true
end Go.EvM.DoorRun
