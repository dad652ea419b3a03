/- OpsC: channels that are made, and how much lies in them. -/
import Derived.Test.YtmmaicjkkcljhaaEvOpsM
import Derived.Conc.SmallLaws
namespace Go.EvM
set_option linter.unusedSectionVars false
variable [GLs]
open Go.RowKit
set_option linter.unusedVariables false
variable {P : Program} {cx : Cx} {o : Oper}

theorem chanBuf_ok {W : World} {μ : Mu} {h : Hp} {w : World} (R : Rel W μ h w) {x x' : Value} (hx : VR μ x x') {c : Nat} {l : List Value} (e : chanBuf h x = some (c, l)) :
    ∃ b i vs s r, x = .chan (some (Nat.succ b)) ∧ μ b = some i ∧ h.b.get b = some (.chan c l) ∧ x' = .chan (some i.rb) ∧ w.heap[i.rb]? = some (.chan c ⟨vs⟩ false s r false) ∧ VRs μ l vs ∧ W.heap.size ≤ i.rb := by
  unfold chanBuf at e
  split at e
  · rename_i b
    split at e
    · rename_i c1 l1 hb
      cases e
      cases hx with
      | chan hi =>
        rename_i i
        obtain ⟨vs, s, r, h1, h2, h3⟩ := R.ob b i _ hi hb
        exact ⟨b, i, vs, s, r, rfl, hi, hb, rfl, h1, h2, h3⟩
    · cases e
  · cases e

theorem ok_lenC (C : CxOk P cx) {t : TypeId} {x : Operand} {i : TI} {dr : ChanDir} {et : TypeId} (ht : cx.ti t = some i) (hd : i.desc = .chan dr et) (ho : o.op = .call { callee := .builtin .len, args := #[x], argTypes := #[t] }) :
    LookOk P o fun ρ h => (match chanBuf h (ρ x) with | some p => some (.int .i64 (.ofNat p.2.length)) | none => none) := by
  intro W μ ρ ρ' h w v hop R e
  have hx := mem_ops hop ho (x := x) (by simp [Op.operands, Call.operands])
  have hu := C.run_und ht w
  dsimp only at e
  split at e
  · rename_i p hp
    obtain ⟨c, l⟩ := p
    cases e
    obtain ⟨b, j, vs, s, r, g1, g2, g3, g4, g5, g6, g7⟩ := chanBuf_ok R hx hp
    refine ⟨_, ?_, .int _ _⟩
    have hl := g6.length
    simp [execOp, ho, g4, resolve, invoke, builtin, Builtin.len_, hu, hd, goInt, getObj, Sem.run, g5, hl]
  · cases e

theorem ok_makeChan (C : CxOk P cx) {t e : TypeId} {n : Operand} {i ei : TI} {dr : ChanDir} (ht : cx.ti t = some i) (hd : i.desc = .chan dr e) (he : cx.ti e = some ei) (ho : o.op = .makeChan t n) :
    MakeOk P o fun ρ => (match ρ n with
        | .int _ (.ofNat m) => bif Nat.ble m 1000 && Nat.ble ei.bytes 1000000 then some ⟨.chan m [], fun b => .chan (some (Nat.succ b))⟩ else none
        | _ => none) := by
  intro W μ ρ ρ' h w m hop R em
  have hn := mem_ops hop ho (x := n) (by simp [Op.operands])
  dsimp only at em
  split at em
  · rename_i k q hq
    cases hb : (Nat.ble q 1000 && Nat.ble ei.bytes 1000000) with
    | false => rw [hb] at em; cases em
    | true =>
      rw [hb] at em; cases em
      rw [Bool.and_eq_true] at hb
      have h1 := Nat.le_of_ble_eq_true hb.1
      have h2 := Nat.le_of_ble_eq_true hb.2
      rw [hq] at hn
      generalize hr : ρ' n = r at hn
      cases hn
      obtain ⟨f, z, k1, k2, k3, k4, _⟩ := C.ti e ei he
      obtain ⟨_, _, _, q2, _⟩ := C.ti t i ht
      have hrun := Go.Conc.run_makeChan (P := P) (w := w) (q2.trans (congrArg some hd)) k1 k q (by omega) (by
        rw [k4]
        have : ei.bytes * q ≤ 1000000 * 1000 := Nat.mul_le_mul h2 h1
        have h3 : ((ei.bytes : Int) * (q : Int)) = ((ei.bytes * q : Nat) : Int) := by simp
        rw [h3]; omega)
      refine ⟨.chan (some w.heap.size), w.alloc (.chan q #[] false 0 0 false), ⟨w.heap.size, 0, 0, 0, 0, default⟩, ?_, rfl, ⟨_, rfl⟩, rfl, rfl, rfl, fun b hb => ⟨.chan (Mu.set_eq _ _ _), ⟨[], 0, 0, heap_new w _, .nil, R.below.size⟩⟩⟩
      have hrun : (Instr.makeChan t (.int k (Int.ofNat q))).run P w = _ := hrun
      simp only [execOp, ho, hr, Sem.run_bind, hrun, Result.andThen_ok, Sem.run_pure]
  · cases em

end Go.EvM
