/- OpsN: interfaces, clear. -/
import Derived.Test.YtmnpdgldmpjekaaEvOpsM
namespace Go.EvM
open Go.RowKit
set_option linter.unusedVariables false
variable {P : Program} {cx : Cx} {o : Oper}

def CallOk (o : Oper) (f : Operand) (args : List Operand) : Prop :=
  (f ∈ o.op.operands.toList ∧ ∀ x ∈ args, x ∈ o.op.operands.toList) ∧
  ∀ (ρ : Env) (g : FuncId) (a c : Array Value), ρ f = .func (.func g) a c → execOp ρ o = callFunc g ((a ++ (args.map ρ).toArray) ++ c)
def DeferOk (o : Oper) (f : Operand) (args : List Operand) : Prop :=
  (f ∈ o.op.operands.toList ∧ ∀ x ∈ args, x ∈ o.op.operands.toList) ∧
  ∀ (ρ : Env) (g : FuncId) (a c : Array Value), ρ f = .func (.func g) a c → execOp ρ o = pure (.defer { target := .fn (.func g) c, args := a ++ (args.map ρ).toArray })

def ClsOk (P : Program) (o : Oper) : Cls → Prop
  | .pure f => PureOk P o f
  | .look f => LookOk P o f
  | .make f => MakeOk P o f
  | .eff f => EffOk P o f
  | .call f args => CallOk o f args
  | .defer f args => DeferOk o f args
  | .bad => True

theorem run_undef_notif (C : CxOk P cx) {t : TypeId} {i : TI} (h : cx.ti t = some i) (hi : isIf i.desc = false) : ∀ (w : World), ∃ d, (underlying t).run P w = .ok d w ∧ ∀ ms, d ≠ .interface ms := fun w => ⟨i.desc, C.run_und h w, fun ms e => by rw [e] at hi; cases hi⟩

theorem cls_mkIface (C : CxOk P cx) {t : TypeId} {x : Operand} (ho : o.op = .makeInterface t x) : ClsOk P o (cMkIface cx t x) := by
  unfold cMkIface
  split
  · rename_i i hi
    split
    · trivial
    · rename_i hd
      intro μ ρ ρ' w v hop e
      have hx := mem_ops hop ho (x := x) (by simp [Op.operands])
      cases e
      refine ⟨.iface t (ρ' x), ?_, .iface t hx⟩
      have hu := C.run_und hi w
      simp only [execOp, ho, Instr.makeInterface, Sem.run_bind, hu, Result.andThen_ok]
      cases hdd : i.desc <;> rw [hdd] at hd <;> first | (cases hd; done) | rfl
  · trivial

theorem cls_assert (C : CxOk P cx) {x : Operand} {u t : TypeId} {ok : Bool} (ho : o.op = .typeAssert x u t ok) : ClsOk P o (cAssert cx x t ok) := by
  unfold cAssert
  split
  · rename_i i hi
    split
    · trivial
    · rename_i hd
      intro μ ρ ρ' w v hop e
      have hx := mem_ops hop ho (x := x) (by simp [Op.operands])
      dsimp only at e
      have hu := C.run_und hi w
      obtain ⟨z1, z2⟩ := C.zv_ok hi w μ
      split at e
      · rename_i ty a hxa
        rw [hxa] at hx
        generalize hr : ρ' x = r at hx
        cases hx with
        | iface _ hv =>
          rename_i a'
          cases hb : Nat.beq ty t with
          | true =>
            rw [hb] at e
            have hb := Nat.eq_of_beq_eq_true hb
            subst hb
            have e : some (okV ok a true) = some v := e
            cases e
            refine ⟨_, ?_, okV_VR hv ok true⟩
            simp only [execOp, ho, Instr.typeAssert, Sem.run_bind, hu, Result.andThen_ok, hr]
            cases hdd : i.desc <;> rw [hdd] at hd <;> first | (cases hd; done) | simp
          | false =>
            rw [hb] at e
            have hb := Nat.ne_of_beq_eq_false hb
            cases ok with
            | true =>
              have e : some (okV true i.zv false) = some v := e
              cases e
              refine ⟨_, ?_, okV_VR z2 true false⟩
              simp only [execOp, ho, Instr.typeAssert, Sem.run_bind, hu, Result.andThen_ok, hr]
              cases hdd : i.desc <;> rw [hdd] at hd <;> first | (cases hd; done) | simp [hb, z1]
            | false => cases e
      · rename_i hxa
        rw [hxa] at hx
        generalize hr : ρ' x = r at hx
        cases hx
        split at e
        · cases e
          refine ⟨_, ?_, okV_VR z2 true false⟩
          simp only [execOp, ho, Instr.typeAssert, Sem.run_bind, hu, Result.andThen_ok, hr]
          cases hdd : i.desc <;> rw [hdd] at hd <;> first | (cases hd; done) | simp [z1]
        · cases e
      · cases e
  · trivial

theorem cls_clear (C : CxOk P cx) {t : TypeId} {x : Operand} (ho : o.op = .call { callee := .builtin .clear, args := #[x], argTypes := #[t] }) : ClsOk P o (cClear cx t x) := by
  unfold cClear
  split
  · rename_i i hi
    split
    · rename_i e hd
      split
      · rename_i ei he
        split
        · rename_i hpos
          have hpos := blt_lt hpos
          intro W μ ρ ρ' h w v h' hop R e
          have hx := mem_ops hop ho (x := x) (by simp [Op.operands, Call.operands])
          dsimp only at e
          have hu := C.run_und hi w
          rw [hd] at hu
          split at e
          · rename_i n c hxa
            rw [hxa] at hx
            generalize hr : ρ' x = r at hx
            cases e
            cases hx
            refine ⟨.value (.tuple #[]), undef, w, μ, ?_, rfl, undefR μ, R, Ext.refl _ _, Nat.le_refl _⟩
            simp [execOp, ho, hr, resolve, invoke, builtin, Builtin.clear_, hu]
          · rename_i b off n c hxa
            rw [hxa] at hx
            generalize hr : ρ' x = r at hx
            cases hx with
            | slice _ _ _ xx ra hb hlc hxx hra =>
              rename_i bi
              split at e
              · cases e
                refine ⟨.value (.tuple #[]), undef, w, μ, ?_, rfl, undefR μ, R, Ext.refl _ _, Nat.le_refl _⟩
                simp [execOp, ho, hr, resolve, invoke, builtin, Builtin.clear_, hu]
              · rename_i n' 
                split at e
                · rename_i h2 hput
                  cases e
                  have hra : ra = ⟨bi.rb, bi.d + off, none⟩ := by
                    rcases hra with h | ⟨h, _⟩
                    · exact h
                    · omega
                  subst hra
                  obtain ⟨z, hz, hzc⟩ := C.run_zero he w
                  obtain ⟨p1, p2⟩ := plains_VRs C he μ (Nat.succ n')
                  obtain ⟨k1, k2, k3⟩ := R.putCells (P := P) hb hput p1 p2
                  have hlen := C.zero_len he
                  have hzl : (Builtin.zeroCells z.cells (n' + 1)).toList = repL ei.zero (n' + 1) := by
                    rw [zeroCells_ok _ _ (by rw [← Array.length_toList, hzc, hlen]; exact hpos), hzc]
                  refine ⟨.value (.tuple #[]), undef, _, μ, ?_, rfl, undefR μ, k2, Ext.refl _ _, by rw [k3]; exact Nat.le_refl _⟩
                  simp [execOp, ho, hr, resolve, invoke, builtin, Builtin.clear_, hu, hz, hzl]
                  rw [k1]; simp
                · cases e
          · cases e
        · trivial
      · trivial
    · trivial
  · trivial

end Go.EvM
