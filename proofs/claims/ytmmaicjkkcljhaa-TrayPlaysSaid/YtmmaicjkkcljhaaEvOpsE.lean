/- OpsE: '==' of two structs of plain fields. -/
import Derived.Test.YtmmaicjkkcljhaaEvOpsM
import Derived.Laws.StructEq
namespace Go.EvM
set_option linter.unusedSectionVars false
variable [GLs]
open Go.RowKit
set_option linter.unusedVariables false
variable {P : Program} {cx : Cx} {o : Oper}

theorem sameE_equal {d : TypeDesc} {a b a' b' : Value} {r : Bool} {μ : Mu} (ha : VR μ a a') (hb : VR μ b b') (h : sameE d a b = some r) (w : World) (t : TypeId) (hu : P.underlying t = some d) (n : Nat) :
    (Op.equalIn (n + 1) t a' b').run P w = .ok r w := by
  have hun : (underlying t).run P w = .ok d w := by simp [underlying, hu]
  unfold sameE at h
  split at h
  · split at h
    · rename_i k x l y
      cases ha; cases hb
      split at h
      · rename_i hk
        have hk := of_decide_eq_true hk
        subst hk
        cases h
        simp only [Op.equalIn, Sem.run_bind, hun, Result.andThen_ok, if_true, Sem.run_pure, eqI_eq]
      · cases h
    · cases h
  · split at h
    · rename_i x y
      cases ha; cases hb
      cases h
      simp only [Op.equalIn, Sem.run_bind, hun, Result.andThen_ok, Sem.run_pure, eqL_eq, bytes_beq]
    · cases h
  · split at h
    · rename_i x y
      cases ha; cases hb
      cases h
      simp only [Op.equalIn, Sem.run_bind, hun, Result.andThen_ok, Sem.run_pure]
      cases x <;> cases y <;> rfl
    · cases h
  · cases h

theorem run_part {t : TypeId} {d : TypeDesc} {xs : Array Value} {off : Nat} {v : Value} (hu : P.underlying t = some d) (hk : keyD d = true) (h : xs[off]? = some v) (w : World) : (part t xs off).run P w = .ok v w := by
  have hagg : (isAgg t).run P w = .ok false w := by
    simp only [isAgg, Sem.run_bind, underlying]
    cases d <;> first | (cases hk; done) | simp [hu]
  unfold part
  simp only [Sem.run_bind, hagg, Result.andThen_ok, Bool.false_eq_true, if_false, h, Sem.run_pure]

theorem eqFields_ok {μ : Mu} {xs ys xs' ys' : List Value} (hx : VRs μ xs xs') (hy : VRs μ ys ys') (w : World) (n : Nat) : ∀ {fs : List Field} {ls : List (Nat × TypeDesc)} {b : Bool}, LeavesOf P fs ls → eqLv ls xs ys = some b →
    (Op.eqFields (n + 1) ⟨xs'⟩ ⟨ys'⟩ fs).run P w = .ok b w
  | [], [], b, _, h => by cases h; simp [Op.eqFields]
  | f :: fs, p :: ls, b, ⟨h1, h2, h3, h4, h5⟩, h => by
    have h : (match nth xs p.1, nth ys p.1 with
      | some a, some b => (match sameE p.2 a b with
        | some c => (match c with
          | true => eqLv ls xs ys
          | false => some false)
        | none => none)
      | _, _ => none) = some b := h
    split at h
    · rename_i a c ha hc
      rw [nth_eq] at ha hc
      obtain ⟨a', ha1, ha2⟩ := hx.get ha
      obtain ⟨c', hc1, hc2⟩ := hy.get hc
      have e1 := run_part (xs := ⟨xs'⟩) (off := f.offset) h3 h4 (by rw [h2]; simpa using ha1) w
      have e2 := run_part (xs := ⟨ys'⟩) (off := f.offset) h3 h4 (by rw [h2]; simpa using hc1) w
      split at h
      · rename_i r hr
        have e3 := sameE_equal ha2 hc2 hr w f.type h3 n
        simp only [Op.eqFields, if_pos h1, Sem.run_bind, e1, Result.andThen_ok, e2, e3, Sem.run_ite]
        cases r with
        | true => simp only [Bool.not_true, Bool.false_eq_true, if_false]; exact eqFields_ok hx hy w n h5 h
        | false => cases h; simp only [Bool.not_false, if_true, Sem.run_pure]
      · cases h
    · cases h
  | [], _ :: _, _, h, _ => h.elim
  | _ :: _, [], _, h, _ => h.elim

theorem ok_eqAgg (C : CxOk P cx) {ne : Bool} {t u : TypeId} {x y : Operand} {ls : List (Nat × TypeDesc)} (hl : cx.eqs t = some ls) (ho : o.op = .binOp (eqOp ne) t x y u) :
    PureOk P o fun ρ => eqAgg ls ne (ρ x) (ρ y) := by
  intro μ ρ ρ' w v hop h
  have hx := mem_ops hop ho (x := x) (by simp [Op.operands])
  have hy := mem_ops hop ho (x := y) (by simp [Op.operands])
  obtain ⟨fs, h1, h2, h3, h4⟩ := C.eqs t ls hl
  have h : eqAgg ls ne (ρ x) (ρ y) = some v := h
  unfold eqAgg at h
  split at h
  · rename_i xs ys ex ey
    rw [ex] at hx; rw [ey] at hy
    obtain ⟨xs⟩ := xs; obtain ⟨ys⟩ := ys
    generalize hX : ρ' x = X at hx
    generalize hY : ρ' y = Y at hy
    cases hx with
    | agg hx _ =>
      cases hy with
      | agg hy _ =>
        rename_i xs' _ ys' _
        split at h
        · rename_i b hb
          cases h
          have hfo : P.fieldsOf t = fs := by simp [Program.fieldsOf, h1]
          have he : (Op.equalIn 10000 t (.agg ⟨xs'⟩) (.agg ⟨ys'⟩)).run P w = .ok b w := by
            rw [run_equalIn_struct w 9999 t _ _ (by rw [hfo]; exact h1) h2, hfo]
            exact eqFields_ok hx hy w 9998 h4 hb
          refine ⟨.bool (turn ne b), ?_, .bool _⟩
          simp only [execOp, ho, hX, hY, Sem.run_bind, run_eqGuard_agg w _ t x y _ _ h3, Result.andThen_ok]
          cases ne with
          | true => simp only [eqOp, run_neq_struct, he, Result.andThen_ok, turn, Sem.run_pure]
          | false => simp only [eqOp, run_eql_struct, he, Result.andThen_ok, turn, Sem.run_pure]
        · cases h
  · cases h
end Go.EvM
