/- Run: a function's answer is its call's. -/
import Derived.Test.YtmnpdgldmpjekaaEvCode2
namespace Go.EvM
open Go.RowKit
set_option linter.unusedVariables false
variable {P : Program} {cx : Cx}

theorem enter_R {μ : Mu} {args args' : List Value} {h : Hp} {m : Nat} (hv : VRs μ args args') :
    ActR μ ⟨bif Nat.ble m args.length then args.length else m, Tr.ofL args, [], h⟩ { tmps := args'.toArray ++ Array.replicate (m - args'.toArray.size) undef, defers := [] } := by
  have hl := hv.length
  refine ⟨?_, fun t => ?_, trivial⟩
  · cases hb : Nat.ble m args.length with
    | true => have := Nat.le_of_ble_eq_true hb; simp; omega
    | false => have : ¬ m ≤ args.length := fun h => by rw [Nat.ble_eq_true_of_le h] at hb; cases hb
               simp; omega
  · simp only [slot, Tr.get_ofL, Array.getD_eq_getD_getElem?]
    rw [Array.getElem?_append]
    simp only [List.size_toArray]
    by_cases hlt : t < args'.length
    · rw [if_pos hlt]
      obtain ⟨a, ha⟩ : ∃ a, args[t]? = some a := ⟨_, List.getElem?_eq_getElem (by omega)⟩
      obtain ⟨v, h1, h2⟩ := hv.get ha
      rw [ha]
      simp [h1]; exact h2
    · rw [if_neg hlt, List.getElem?_eq_none (l := args) (by omega), Array.getElem?_replicate]
      have : (if t - args'.length < m - args'.length then some undef else none).getD undef = undef := by split <;> rfl
      rw [this]
      exact undefR μ

structure Sound (P : Program) (cx : Cx) : Prop where
  ok : CxOk P cx
  order : P.follows .mixedOrders = true
  ext : ∀ f e, cx.ext f = some e → SumOk P f e

theorem body_ok (H : Sound P cx) {call : Caller} (hc : CallSound P call) {n : Nat} {f : FuncId} {fn : Func} (hf : P.funcs[f]? = some fn) (hn : fn.name ≠ "runtime.NumGoroutine") : SumOk P f (evBody cx call n fn) := by
  intro args h v h' e W μ w args' hv R
  unfold evBody at e
  split at e
  · rename_i c hb
    rw [MuLone.run_callFunc_enter hf (by simpa using hn) hb]
    refine calls_of_wp hf hb ?_
    unfold evEnd at e
    split at e
    · rename_i ex s' hev
      split at e
      · rename_i n' T D H' 
        split at e
        · have key : ∀ a' w', Went W μ ⟨bif Nat.ble fn.ntmps args.length then args.length else fn.ntmps, Tr.ofL args, [], h⟩ ⟨n', T, [], H'⟩ a' w' → evOut cx fn.results.toList T H' = .ok v h' →
              a'.defers = [] ∧ ∃ v1, (results fn a'.tmps).run P w' = .ok v1 w' ∧ ∃ v2, Ending.returned v1 = .returned v2 ∧ After W μ h v h' v2 w' := by
            intro a' w' ⟨μ', q1, q2, q3, q4⟩ eo
            obtain ⟨rfl, v1, g1, g2⟩ := out_ok H.ok fn q1.tmp q2 eo
            have hd := q1.dfr
            cases hdd : a'.defers with
            | nil => exact ⟨rfl, v1, g1, v1, rfl, μ', g2, q2, q3, q4⟩
            | cons d l => rw [hdd] at hd; exact hd.elim
          refine code_ok H.ok H.order hc n c _ _ _ hev W μ _ w (enter_R hv) R _ fun a' w' hw => ?_
          split at e
          · cases e
          · cases ex with
            | norm => exact key a' w' hw e
            | ret => exact key a' w' hw e
            | exit i => rename_i hx; exact absurd rfl (hx i)
        · cases e
    · cases e
  · cases e

theorem fun_ok (H : Sound P cx) : ∀ n, CallSound P (evFun cx n) := by
  intro n
  induction n with
  | zero => intro f args h v h' e; cases e
  | succ n ih =>
    intro f args h v h' e
    have e : (match cx.ext f with | some e => e args h | none => match cx.fn f with | some fn => evBody cx (evFun cx n) n fn args h | none => .no) = .ok v h' := e
    split at e
    · rename_i g hg
      exact H.ext f g hg args h v h' e
    · split at e
      · rename_i fn hfn
        exact body_ok H ih (H.ok.fn f fn hfn).1 (H.ok.fn f fn hfn).2 args h v h' e
      · cases e

/-- A call, from anywhere. -/
theorem run_ok (H : Sound P cx) {n : Nat} {f : FuncId} {fn : Func} {c : Code} (hf : P.funcs[f]? = some fn) (hn : fn.name ≠ "runtime.NumGoroutine") (hb : fn.body = some c) {args : List Value} {h : Hp} {v : Value} {h' : Hp} (e : evBody cx (evFun cx n) n fn args h = .ok v h')
    {μ : Mu} {w : World} {args' : List Value} (hv : VRs μ args args') (R : Rel w μ h w) : Calls P f args'.toArray w fun e w' => ∃ v', e = .returned v' ∧ After w μ h v h' v' w' := by
  have := body_ok H (fun_ok H n) (n := n) hf hn args h v h' e w μ w args' hv R
  rw [MuLone.run_callFunc_enter hf (by simpa using hn) hb] at this
  exact this

theorem rel_empty (w : World) : Rel w (fun _ => none) ⟨0, .nil⟩ w :=
  ⟨fun _ _ h => (Option.some_ne_none _ h.symm).elim, fun _ _ _ h => (Option.some_ne_none _ h.symm).elim, fun _ _ _ _ _ _ h => (Option.some_ne_none _ h.symm).elim, Below.refl _ _⟩

/-- A call without arguments that answers yes. -/
theorem run_true (H : Sound P cx) {n : Nat} {f : FuncId} {fn : Func} {c : Code} (hf : P.funcs[f]? = some fn) (hn : fn.name ≠ "runtime.NumGoroutine") (hb : fn.body = some c)
    (e : (match evBody cx (evFun cx n) n fn [] ⟨0, .nil⟩ with | .ok (.bool b) _ => b | _ => false) = true) (w : World) :
    Calls P f #[] w fun e w' => e = .returned (.bool true) ∧ Below w.heap.size w w' := by
  split at e
  · rename_i b h' he
    subst e
    refine (run_ok H hf hn hb he .nil (rel_empty w)).mono fun e w' ⟨v', h1, μ', h2, h3, _⟩ => ?_
    cases h2
    exact ⟨h1, h3.below⟩
  · cases e

theorem cx_ok {ext : FuncId → Option (List Value → Hp → OR)} (hn : P.funcs.toList.all (fun g => !(g.name == "runtime.NumGoroutine")) = true) : CxOk P (mkCx P ext) := by
  refine ⟨fun t i h => ?_, fun f fn h => ?_, fun t i h => ?_⟩
  · have h : mkTI P t = some i := h
    unfold mkTI at h
    split at h
    · rename_i inf hinf
      split at h
      · rename_i d z hd hz
        cases hb : Nat.beq z.cells.toList.length inf.size && z.cells.toList.all (fun x => plainV 4 x && oneB x) && plainV 5 z with
        | false => rw [hb] at h; cases h
        | true =>
          rw [hb] at h; cases h
          rw [Bool.and_eq_true, Bool.and_eq_true] at hb
          refine ⟨inf, z, hinf, hd, rfl, rfl, hz, rfl, Nat.eq_of_beq_eq_true hb.1.1, fun x hx => ?_⟩
          have := List.all_eq_true.1 hb.1.2 x hx
          simpa using this
      · cases h
    · cases h
  · have h : P.funcs.toList[f]? = some fn := h
    rw [Array.getElem?_toList] at h
    refine ⟨h, ?_⟩
    have := List.all_eq_true.1 hn fn (Array.mem_toList_iff.2 (Array.mem_of_getElem? h))
    simpa using this
  · have h : mkTI P t = some i := h
    unfold mkTI at h
    split at h
    · rename_i inf hinf
      split at h
      · rename_i d z hd hz
        cases hb : Nat.beq z.cells.toList.length inf.size && z.cells.toList.all (fun x => plainV 4 x && oneB x) && plainV 5 z with
        | false => rw [hb] at h; cases h
        | true =>
          rw [hb] at h; cases h
          rw [Bool.and_eq_true] at hb
          exact ⟨inf, hinf, hz, hb.2⟩
      · cases h
    · cases h

end Go.EvM
