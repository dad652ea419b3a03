/- FoldLits: the call answers yes. -/
import Derived.Test.YtodccifahbgogaaFlA
import Derived.Test.YtodccifahbgogaaFmC
import Derived.Test.YtodccifahbgogaaFeC
import Derived.Shelf.Spec.BitsCarry
set_option linter.unusedVariables false
set_option linter.unusedSectionVars false
set_option linter.unusedSimpArgs false
namespace Go.Pm
open Go Go.EvM Go.Pv Go.Proofs Go.RowKit Go.Shelf
set_option linter.unusedVariables false
instance unk : Unk := ⟨[]⟩
instance gls : GLs := { tab := fun _ => none, plain := fun _ _ h => by cases h }
def subRen : Ren := ⟨fun | 26 => 85 | n => n, fun | 22 => 99 | n => n, fun n => n⟩
theorem subL : Lays7.n26 Try.prog subRen := {
  mixed := by kernel_rfl,
  f26 := Try.func85.trans (congrArg some (by kernel_rfl)),
  t22 := Try.underlying99, a22 := Try.isAgg99, z22 := Try.sizeOf99, v22 := Try.zeroValue99, i22 := by kernel_rfl }
def addRen : Ren := ⟨fun | 25 => 87 | n => n, fun | 22 => 99 | n => n, fun n => n⟩
theorem addL : Lays7.n25 Try.prog addRen := {
  mixed := by kernel_rfl,
  f25 := Try.func87.trans (congrArg some (by kernel_rfl)),
  t22 := Try.underlying99, a22 := Try.isAgg99, z22 := Try.sizeOf99, v22 := Try.zeroValue99, i22 := by kernel_rfl }
theorem same_After {W : World} {μ : Mu} {h : Hp} {w : World} {v v' : Value} (R : Rel W μ h w) (hv : VR μ v v') : After W μ h v h v' w := ⟨μ, hv, R, Ext.refl _ _, Nat.le_refl _⟩
theorem add_sum : SumOk Try.prog 87 addP := by
  intro args h v h' e W μ w args' hv R
  unfold addP at e
  split at e
  · rename_i x y b
    cases hb : Nat.ble b 1 with
    | false => rw [hb] at e; cases e
    | true =>
      rw [hb] at e
      cases hv with
      | cons hx hv => cases hx; cases hv with
        | cons hy hv => cases hy; cases hv with
          | cons hz hv =>
            cases hz; cases hv
            cases e
            have hrun := Any7.bits_Add64 addL x y b (Nat.le_of_ble_eq_true hb) w
            have hrun : (callFunc 87 [Value.int .u64 (Int.ofNat x), Value.int .u64 (Int.ofNat y), Value.int .u64 (Int.ofNat b)].toArray).run Try.prog w = _ := hrun
            rw [hrun]
            exact same_After R (.tuple (.cons (.int _ _) (.cons (.int _ _) .nil)))
  · cases e
theorem sub_sum : SumOk Try.prog 85 subP := by
  intro args h v h' e W μ w args' hv R
  unfold subP at e
  split at e
  · rename_i x y b
    cases hb : Nat.ble b 1 with
    | false => rw [hb] at e; cases e
    | true =>
      rw [hb] at e
      cases hv with
      | cons hx hv => cases hx; cases hv with
        | cons hy hv => cases hy; cases hv with
          | cons hz hv =>
            cases hz; cases hv
            cases e
            have hrun := Any7.bits_Sub64 subL x y b (Nat.le_of_ble_eq_true hb) w
            have hrun : (callFunc 85 [Value.int .u64 (Int.ofNat x), Value.int .u64 (Int.ofNat y), Value.int .u64 (Int.ofNat b)].toArray).run Try.prog w = _ := hrun
            rw [hrun]
            exact same_After R (.tuple (.cons (.int _ _) (.cons (.int _ _) .nil)))
  · cases e
theorem ext_cases {f k : Nat} {x e : List Value → Hp → OR} {r : Option (List Value → Hp → OR)} (h : (bif Nat.beq f k then some x else r) = some e) : (f = k ∧ x = e) ∨ r = some e := by
  cases h1 : Nat.beq f k with
  | true => rw [h1] at h; exact .inl ⟨Nat.eq_of_beq_eq_true h1, Option.some.inj h⟩
  | false => rw [h1] at h; exact .inr h
theorem sum_of {P : Program} {f k : Nat} {x e : List Value → Hp → OR} (h : f = k ∧ x = e) (H : SumOk P k x) : SumOk P f e := by
  obtain ⟨rfl, rfl⟩ := h; exact H
theorem names_ok : Try.prog.funcs.toList.all (fun g => !(g.name == "runtime.NumGoroutine")) = true := by kernel_rfl
set_option maxRecDepth 100000 in
theorem soundP : Sound Try.prog cxP := by
  refine ⟨cx_ok names_ok rfl, by kernel_rfl, ?_⟩
  intro f e h
  have h : (bif Nat.beq f 87 then some addP else bif Nat.beq f 85 then some subP else none) = some e := h
  rcases ext_cases (k := 87) (x := addP) h with g | h
  · exact sum_of g add_sum
  · rcases ext_cases (k := 85) (x := subP) h with g | h
    · exact sum_of g sub_sum
    · cases h
theorem sem_eq {R : Type} (m : Nat) (a b o : Int) (κ : V → List PObj → Option R) : L15_FoldLits_s (L15_FoldLits m) [.int .i64 a, .int .i64 b, .int .i64 o] [] κ = L15_FoldLits m a b o (fun b => κ (.bool b) []) := rfl
theorem call_ok (a b o : Int) : CallOK cxP 3 [.int .i64 a, .int .i64 b, .int .i64 o] [] (.bool true) [] := by
  have h : L15_FoldLits_s (R := V × List PObj) (L15_FoldLits 1200000) [.int .i64 a, .int .i64 b, .int .i64 o] [] (fun v os => some (v, os)) = some (.bool true, []) := by
    rw [sem_eq]; exact law_sp (G := (· = some ((.bool true : V), ([] : List PObj)))) a b o rfl
  obtain ⟨v, os', h1, h2⟩ := L15_FoldLits_k 1200000 _ _ _ _ h
  cases h1
  exact h2
theorem f3 : Try.prog.funcs[3]? = some Try.f3 := by kernel_rfl
theorem b3 : Try.f3.body = some (Try.f3.body.getD .skip) := by kernel_rfl
theorem n3 : Try.f3.name ≠ "runtime.NumGoroutine" := by decide
theorem fn3 : cxP.fn 3 = some Try.f3 := by show Try.prog.funcs.toList[3]? = _; rw [Array.getElem?_toList]; exact f3
theorem foldLits (a b o : Int) (w : World) : Calls Try.prog 3 #[.int .i64 a, .int .i64 b, .int .i64 o] w fun e w' => e = .returned (.bool true) ∧ Below w.heap.size w w' := by
  obtain ⟨m, v, H', h1, Φ, g, h2⟩ := call_top (call_ok a b o) (ws := [.int .i64 a, .int .i64 b, .int .i64 o]) fun Φ g => .cons (.int _ _) (.cons (.int _ _) (.cons (.int _ _) .nil))
  cases h2
  have h1 : (match cxP.ext 3 with | some e => e [.int .i64 a, .int .i64 b, .int .i64 o] ⟨0, .nil⟩ | none => match cxP.fn 3 with | some fn => evBody cxP (evFun cxP m) (evDef cxP (evFun cxP m) m) m fn [.int .i64 a, .int .i64 b, .int .i64 o] ⟨0, .nil⟩ | none => .no) = .ok (.bool true) H' := h1
  rw [show cxP.ext 3 = none from rfl, fn3] at h1
  have h1 : evBody cxP (evFun cxP m) (evDef cxP (evFun cxP m) m) m Try.f3 [.int .i64 a, .int .i64 b, .int .i64 o] ⟨0, .nil⟩ = .ok (.bool true) H' := h1
  exact run_yes soundP f3 n3 b3 (n := m) (args := [.int .i64 a, .int .i64 b, .int .i64 o]) (by rw [h1]) (.cons (.int _ _) (.cons (.int _ _) (.cons (.int _ _) .nil))) w fun _ _ h => by cases h
end Go.Pm
