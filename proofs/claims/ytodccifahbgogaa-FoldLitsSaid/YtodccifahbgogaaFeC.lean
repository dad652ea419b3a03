/- Code: what the interpreter answers the model does, whatever is drawn. -/
import Derived.Test.YtodccifahbgogaaFeB
import Derived.Test.YtodccifahbgogaaFeA
import Derived.Orders
import Derived.Defers
import Derived.Conc.MuLone
import Derived.RangeFuncRecord
import Derived.RangeFuncIn
import Derived.RangeFuncSeq
import Derived.OrdersIn
import Derived.Scope
import Derived.RangeFuncLeaves
import Derived.ProofKit
import Derived.OpenShut
import Derived.ChangeSame
import Derived.Below
set_option linter.unusedVariables false
set_option linter.unusedSectionVars false
set_option linter.unusedSimpArgs false
namespace Go.EvM
set_option linter.unusedSectionVars false
variable [GLs]
open Go.RowKit
set_option linter.unusedVariables false
variable {P : Program} {cx : Cx}
def DfrR1 (μ : Mu) : Dfr → Deferred → Prop
  | .call f args, e => ∃ c a, e = { target := .fn (.func f) c, args := a } ∧ VRs μ args (a ++ c).toList
  | .mark b, e => ∃ i, μ b = some i ∧ e = { target := .collected i.rb, args := #[] }
theorem DfrR1.mono {μ μ' : Mu} (hl : Le μ μ') : ∀ {d : Dfr} {e : Deferred}, DfrR1 μ d e → DfrR1 μ' d e
  | .call _ _, _, ⟨c, a, h1, h2⟩ => ⟨c, a, h1, h2.mono hl⟩
  | .mark _, _, ⟨i, h1, h2⟩ => ⟨i, hl _ _ h1, h2⟩
def DfrR (μ : Mu) : List Dfr → List Deferred → Prop
  | [], [] => True
  | d :: l, e :: m => DfrR1 μ d e ∧ DfrR μ l m
  | _, _ => False
theorem DfrR.mono {μ μ' : Mu} (hl : Le μ μ') : ∀ {l : List Dfr} {m : List Deferred}, DfrR μ l m → DfrR μ' l m
  | [], [], _ => trivial
  | _ :: _, _ :: _, ⟨h1, h3⟩ => ⟨h1.mono hl, DfrR.mono hl h3⟩
  | [], _ :: _, h => h.elim
  | _ :: _, [], h => h.elim
noncomputable def slot (T : Tr Value) (t : Nat) : Value := match T.get t with | some v => v | none => undef
structure ActR (μ : Mu) (s : St) (a : Act) : Prop where
  size : a.tmps.size = s.n
  tmp : ∀ t, VR μ (slot s.T t) (a.tmps.getD t undef)
  dfr : DfrR μ s.D a.defers
theorem ActR.mono {μ μ' : Mu} (hl : Le μ μ') {s : St} {a : Act} (h : ActR μ s a) : ActR μ' s a := ⟨h.size, fun t => (h.tmp t).mono hl, h.dfr.mono hl⟩
theorem ActR.eval {μ : Mu} {s : St} {a : Act} (h : ActR μ s a) {x : Operand} (hx : okOpnd x = true) : VR μ (evO s.T x) (a.eval x) := by
  cases x with
  | tmp t => exact h.tmp t
  | const v => exact plain_VR μ 4 v hx
  | global g => exact .gptr g 0
  | func f => exact .func f .nil .nil
theorem ActR.ops {μ : Mu} {s : St} {a : Act} (h : ActR μ s a) {o : Oper} (ho : ∀ x ∈ o.op.operands.toList, okOpnd x = true) : Ops o μ (evO s.T) a.eval := fun x hx => h.eval (ho x hx)
theorem setD_eq {s s' : St} {d : Option Tmp} {v : Value} {h : Hp} (e : s.setD d v h = .ok s') : s'.H = h ∧ s'.n = s.n ∧ s'.D = s.D ∧ ∀ {μ : Mu} {a : Act} {u : Value}, ActR μ s a → VR μ v u → ActR μ s' (a.put d u) := by
  obtain ⟨n, T, D, H⟩ := s
  unfold St.setD at e
  cases d with
  | none => cases e; exact ⟨rfl, rfl, rfl, fun h _ => ⟨h.size, h.tmp, h.dfr⟩⟩
  | some d =>
    dsimp only at e
    cases hb : Nat.blt d n with
    | false => rw [hb] at e; cases e
    | true =>
      rw [hb] at e; cases e
      have hd := blt_lt hb
      refine ⟨rfl, rfl, rfl, fun {μ a u} h hv => ⟨by simp [Act.put, h.size], fun t => ?_, h.dfr⟩⟩
      have hlt : d < a.tmps.size := by rw [h.size]; exact hd
      by_cases ht : t = d
      · subst ht
        simp [slot, Tr.get_put_eq, Act.put, hlt]; exact hv
      · have := h.tmp t
        simp only [slot, Tr.get_put_ne _ _ ht] at this ⊢
        simp only [Act.put, Array.getD_eq_getD_getElem?] at this ⊢
        rw [Array.getElem?_setIfInBounds_ne (fun e => ht e.symm)]; exact this
def NextOk (P : Program) (Q : Value → World → Prop) : Result Next → Prop
  | .ok (.value v) w => Q v w
  | .ok (.enter f args) w => Calls P f args w fun e w' => ∃ v, e = .returned v ∧ Q v w'
  | _ => False
def After (W : World) (μ : Mu) (h : Hp) (v : Value) (h' : Hp) (v' : Value) (w' : World) : Prop :=
  ∃ μ', VR μ' v v' ∧ Rel W μ' h' w' ∧ Ext h.n μ μ' ∧ h.n ≤ h'.n
def SumOk (P : Program) (f : FuncId) (e : List Value → Hp → OR) : Prop :=
  ∀ args h v h', e args h = .ok v h' → ∀ W μ w args', VRs μ args args' → Rel W μ h w → NextOk P (After W μ h v h') ((callFunc f args'.toArray).run P w)
def CallSound (P : Program) (call : Caller) : Prop := ∀ f, SumOk P f (call f)
theorem upon_next {o : Oper} {a : Act} {Q : Exit → Act → World → Prop} {K : Act → World → Prop} {R : Value → World → Prop} {r : Result Next} (h : NextOk P R r) (hk : ∀ v w, R v w → K (a.put o.dst v) w) : o.upon P a K Q r := by
  cases r with
  | ok n w =>
    cases n <;> simp only [NextOk] at h <;> simp only [Oper.upon]
    · exact hk _ _ h
    · exact h.mono fun e w' ⟨v, he, hr⟩ => by subst he; exact hk _ _ hr
  | halt x w => exact h.elim
def Went (W : World) (μ : Mu) (s s' : St) (a : Act) (w : World) : Prop :=
  ∃ μ', ActR μ' s' a ∧ Rel W μ' s'.H w ∧ Ext s.H.n μ μ' ∧ s.H.n ≤ s'.H.n
theorem want_ok {μ : Mu} {s : St} {a : Act} (h : ActR μ s a) (ops : Array Oper) (o : Oper) : Region.wanted o (yielded ops a.tmps) = wantT s.T ops.toList o.guard := by
  unfold Region.wanted wantT
  cases o.guard with
  | none => rfl
  | some g =>
    obtain ⟨j, w⟩ := g
    simp only [yielded, nth_eq, Array.getElem?_toList]
    cases ho : ops[j]? with
    | none => simp
    | some p =>
      simp only [Option.bind_some]
      cases hd : p.dst with
      | none => simp
      | some d =>
        simp only [Option.bind_some]
        have ht := h.tmp d
        simp only [slot, Array.getD_eq_getD_getElem?] at ht
        cases hg : s.T.get d with
        | none =>
          rw [hg] at ht
          cases hq : a.tmps[d]? with
          | none => simp
          | some v =>
            rw [hq] at ht; simp at ht
            cases ht with
            | tuple _ => rfl
        | some u =>
          rw [hg] at ht
          cases hq : a.tmps[d]? with
          | none =>
            rw [hq] at ht; simp at ht
            cases ht with
            | tuple _ => rfl
          | some v =>
            rw [hq] at ht; simp at ht
            cases ht <;> first
              | rfl
              | (rename_i b; cases b <;> cases w <;> rfl)
theorem res_ok (C : CxOk P cx) {call : Caller} (hc : CallSound P call) {o : Oper} {ρ : Env} {D D' : List Dfr} {H H' : Hp} {v : Value} (e : resCls call (cls cx o) ρ D H = .ok v D' H') {W : World} {μ : Mu} {a : Act} {w : World}
    (hops : (∀ x ∈ o.op.operands.toList, okOpnd x = true) → Ops o μ ρ a.eval) (hD : DfrR μ D a.defers) (R : Rel W μ H w)
    {Q : Exit → Act → World → Prop} {K : Act → World → Prop}
    (hk : ∀ (a' : Act) (v' : Value) (w' : World) (μ' : Mu), a'.tmps = a.tmps → VR μ' v v' → DfrR μ' D' a'.defers → Rel W μ' H' w' → Ext H.n μ μ' → H.n ≤ H'.n → (isM cx o = false → D' = D ∧ a'.defers = a.defers) → K (a'.put o.dst v') w') : o.wp P a w K Q := by
  have hcls := cls_ok C o
  have hopn := cls_opnd (cx := cx) (o := o)
  have hism : ∀ c, cls cx o = c → isM cx o = (match c with | .pure _ => false | .look _ => false | .make _ => false | _ => true) := fun c hc => by unfold isM; rw [hc]; cases c <;> rfl
  unfold Oper.wp
  generalize hcl : cls cx o = c at e hcls hopn
  replace hism := hism c hcl
  cases c with
  | pure f =>
    have hops := hops (hopn (by simp))
    simp only [resCls] at e
    split at e
    · rename_i v1 hv
      cases e
      obtain ⟨v', hr, hvr⟩ := hcls μ _ _ w v hops hv
      rw [hr]
      exact hk a _ _ μ rfl hvr hD R (Ext.refl _ _) (Nat.le_refl _) (fun _ => ⟨rfl, rfl⟩)
    · cases e
  | look f =>
    have hops := hops (hopn (by simp))
    simp only [resCls] at e
    split at e
    · rename_i v1 hv
      cases e
      obtain ⟨v', hr, hvr⟩ := hcls W μ _ _ H w v hops R hv
      rw [hr]
      exact hk a _ _ μ rfl hvr hD R (Ext.refl _ _) (Nat.le_refl _) (fun _ => ⟨rfl, rfl⟩)
    · cases e
  | make f =>
    have hops := hops (hopn (by simp))
    simp only [resCls] at e
    split at e
    · rename_i m hm
      cases e
      obtain ⟨v', w', bi, hr, h1, h2, h3, h4, h5, h6⟩ := hcls W μ _ _ H w m hops R hm
      have hfr : μ H.n = none := R.fresh (Nat.le_refl _)
      obtain ⟨g1, g2⟩ := h6 H.n hfr
      rw [hr]
      exact hk a _ _ (μ.set H.n bi) rfl g1 (hD.mono (Mu.le_set hfr))
        (R.alloc (h' := ⟨Nat.succ H.n, _⟩) hfr h1 (Nat.le_succ _) (Nat.lt_succ_self _) (Tr.get_put_eq _ _ _) (fun c j hc => Tr.get_put_ne _ _ (fun (e : c = H.n) => by subst e; rw [hfr] at hc; cases hc)) h2 h3 h4 h5 g2)
        (Mu.ext_set hfr (Nat.le_refl _)) (Nat.le_succ _) (fun _ => ⟨rfl, rfl⟩)
    · cases e
  | eff f =>
    have hops := hops (hopn (by simp))
    simp only [resCls] at e
    split at e
    · rename_i v1 h' hv
      cases e
      obtain ⟨nx, v', w', μ', hr, hn, hvr, hrel, hext, hle⟩ := hcls W μ _ _ H w v _ hops R hv
      rw [hr]
      cases nx <;> simp only [nextV] at hn <;> cases hn
      · exact hk a _ _ μ' rfl hvr (hD.mono hext.le) hrel hext hle (fun h => by rw [hism] at h; cases h)
      · exact hk a _ _ μ' rfl hvr (hD.mono hext.le) hrel hext hle (fun h => by rw [hism] at h; cases h)
    · cases e
  | call f args =>
    obtain ⟨⟨m1, m2⟩, m3⟩ := hcls
    have hops := hops (hopn (by simp))
    simp only [resCls] at e
    split at e
    · rename_i g fi ca hf
      split at e
      · rename_i v1 h' hcall
        cases e
        have hfv := hops f m1
        rw [hf] at hfv
        generalize hr : a.eval f = r at hfv
        obtain ⟨fi⟩ := fi; obtain ⟨ca⟩ := ca
        cases hfv with
        | func _ ha hcc =>
          rename_i fi' ca'
          have hargs : VRs μ (args.map ρ) (args.map a.eval) := VRs.map fun x hx => hops x (m2 x hx)
          have hex := m3 a.eval g ⟨fi'⟩ ⟨ca'⟩ hr
          have hnx := hc g _ _ _ _ hcall W μ w (fi' ++ (args.map a.eval ++ ca')) (ha.append (hargs.append hcc)) R
          rw [hex]
          have harr : ((⟨fi'⟩ : Array Value) ++ (args.map a.eval).toArray) ++ ⟨ca'⟩ = (fi' ++ (args.map a.eval ++ ca')).toArray := by
            apply Array.ext'; simp
          rw [harr]
          exact upon_next hnx fun v' w' ⟨μ', q1, q2, q3, q4⟩ => hk a _ _ μ' rfl q1 (hD.mono q3.le) q2 q3 q4 (fun h => by rw [hism] at h; cases h)
      · cases e
    · cases e
  | defer f args =>
    obtain ⟨⟨m1, m2⟩, m3⟩ := hcls
    have hops := hops (hopn (by simp))
    simp only [resCls] at e
    split at e
    · rename_i g fi ca hf
      cases e
      have hfv := hops f m1
      rw [hf] at hfv
      generalize hr : a.eval f = r at hfv
      obtain ⟨fi⟩ := fi; obtain ⟨ca⟩ := ca
      cases hfv with
      | func _ ha hcc =>
        rename_i fi' ca'
        have hargs : VRs μ (args.map ρ) (args.map a.eval) := VRs.map fun x hx => hops x (m2 x hx)
        have hex := m3 a.eval g ⟨fi'⟩ ⟨ca'⟩ hr
        rw [hex]
        show K ({ a with defers := _ :: a.defers }.put o.dst undef) w
        refine hk { a with defers := _ :: a.defers } undef w μ rfl (undefR μ) ⟨⟨⟨ca'⟩, (⟨fi'⟩ : Array Value) ++ (args.map a.eval).toArray, rfl, ?_⟩, hD⟩ R (Ext.refl _ _) (Nat.le_refl _) (fun h => by rw [hism] at h; cases h)
        have := ha.append (hargs.append hcc)
        simpa using this
    · cases e
  | bad => simp only [resCls] at e; cases e
theorem step_ok (C : CxOk P cx) {call : Caller} (hc : CallSound P call) {o : Oper} {s s' : St} (e : stepCls call (cls cx o) o.dst s = .ok s') {W : World} {μ : Mu} {a : Act} {w : World} (hA : ActR μ s a) (R : Rel W μ s.H w)
    {Q : Exit → Act → World → Prop} {K : Act → World → Prop} (hk : ∀ a' w', Went W μ s s' a' w' → K a' w') : o.wp P a w K Q := by
  obtain ⟨n, T, D, H⟩ := s
  unfold stepCls at e
  dsimp only at e
  split at e
  · rename_i v d h' hres
    obtain ⟨e1, e2, e3, e4⟩ := setD_eq e
    refine res_ok C hc hres (fun ho => hA.ops ho) hA.dfr R fun a' v' w' μ' g1 g2 g3 g4 g5 g6 _ => ?_
    refine hk _ _ ⟨μ', e4 (a := a') ⟨by rw [g1]; exact hA.size, fun t => by rw [g1]; exact (hA.tmp t).mono g5.le, g3⟩ g2, by rw [e1]; exact g4, g5, by rw [e1]; exact g6⟩
  · cases e
theorem Went.trans {W : World} {μ μ1 : Mu} {s s1 s2 : St} {a : Act} {w : World} (h1 : Ext s.H.n μ μ1) (hn : s.H.n ≤ s1.H.n) (h : Went W μ1 s1 s2 a w) : Went W μ s s2 a w := by
  obtain ⟨μ2, q1, q2, q3, q4⟩ := h
  exact ⟨μ2, q1, q2, h1.trans q3 hn, Nat.le_trans hn q4⟩
theorem stepOp_ok (C : CxOk P cx) {call : Caller} (hc : CallSound P call) {ops : Array Oper} {i : Nat} {o : Oper} (hi : ops[i]? = some o) {s s' : St} (e : stepOp cx call ops.toList o s = .ok s') {W : World} {μ : Mu} {a : Act} {w : World} (hA : ActR μ s a) (R : Rel W μ s.H w)
    {Q : Exit → Act → World → Prop} {K : Act → World → Prop} (hk : ∀ a' w', Went W μ s s' a' w' → K a' w') : wpOp P ops Q i K a w := by
  unfold wpOp
  simp only [hi, want_ok hA ops o]
  obtain ⟨n, T, D, H⟩ := s
  unfold stepOp at e
  dsimp only at e ⊢
  cases hw : wantT T ops.toList o.guard with
  | true =>
    rw [hw] at e
    simp only [cond_true] at e
    exact .inl (step_ok C hc e hA R hk)
  | false =>
    rw [hw] at e
    simp only [cond_false] at e
    obtain ⟨e1, e2, e3, e4⟩ := setD_eq e
    exact hk _ _ ⟨μ, e4 hA (undefR μ), by rw [e1]; exact R, Ext.refl _ _, by rw [e1]; exact Nat.le_refl _⟩
theorem runOps_cons (call : Caller) (ops : List Oper) (o : Oper) (l : List Oper) (s : St) : runOps cx call ops (o :: l) s = match stepOp cx call ops o s with | .ok s => runOps cx call ops l s | .no => .no := rfl
theorem runOps_ok (C : CxOk P cx) {call : Caller} (hc : CallSound P call) {ops : Array Oper} {W : World} {Q : Exit → Act → World → Prop} :
    ∀ (k n : Nat) (s s' : St) (μ : Mu) (a : Act) (w : World), n + k = ops.size → runOps cx call ops.toList (ops.toList.drop n) s = .ok s' → ActR μ s a → Rel W μ s.H w →
      (∀ a' w', Went W μ s s' a' w' → Q .normal a' w') → wpOps P ops Q (List.range' n k) a w := by
  intro k
  induction k with
  | zero =>
    intro n s s' μ a w hn e hA R hq
    have hdrop : ops.toList.drop n = [] := List.drop_of_length_le (by rw [Array.length_toList]; omega)
    rw [hdrop] at e
    cases e
    exact hq _ _ ⟨μ, hA, R, Ext.refl _ _, Nat.le_refl _⟩
  | succ k ih =>
    intro n s s' μ a w hn e hA R hq
    have hlt : n < ops.toList.length := by simp; omega
    rw [List.drop_eq_getElem_cons hlt, runOps_cons] at e
    have hi : ops[n]? = some ops.toList[n] := by simp at hlt ⊢
    split at e
    · rename_i s1 h1
      rw [List.range'_succ, wpOps_cons]
      refine stepOp_ok C hc hi h1 hA R fun a' w' ⟨μ1, q1, q2, q3, q4⟩ => ?_
      exact ih (n + 1) s1 s' μ1 a' w' (by omega) e q1 q2 fun a2 w2 h2 => hq _ _ (h2.trans q3 q4)
    · cases e
end Go.EvM
namespace Go.EvM
set_option linter.unusedSectionVars false
variable [GLs]
open Go.RowKit
set_option linter.unusedVariables false
variable {P : Program} {cx : Cx}
theorem eqAddr_eq {a b : Option Addr} (h : eqAddr a b = true) : a = b := by
  unfold eqAddr at h
  split at h
  · rfl
  · simp at h; obtain ⟨rfl, rfl⟩ := h; rfl
  · cases h
theorem eqNO_eq {a b : Option Nat} (h : eqNO a b = true) : a = b := by
  unfold eqNO at h
  split at h
  · rfl
  · simp at h; rw [h]
  · cases h
mutual
theorem eqVal_eq : ∀ (k : Nat) (a b : Value), eqVal k a b = true → a = b
  | 0, _, _, h => by simp [eqVal] at h
  | k + 1, a, b, h => by
    unfold eqVal at h
    split at h
    · rename_i a b
      cases a <;> cases b <;> first | rfl | cases h
    · simp [eqI_eq] at h; obtain ⟨rfl, rfl⟩ := h; rfl
    · rename_i a b
      rw [eqL_eq] at h
      have h := eq_of_beq h
      obtain ⟨⟨a⟩⟩ := a; obtain ⟨⟨b⟩⟩ := b
      dsimp only at h; subst h; rfl
    · rw [eqAddr_eq h]
    · simp at h; obtain ⟨⟨h1, rfl⟩, rfl⟩ := h; rw [eqAddr_eq h1]
    · rw [eqNO_eq h]
    · rw [eqNO_eq h]
    · rename_i f a c g b d
      simp at h; obtain ⟨⟨rfl, h1⟩, h2⟩ := h
      have h1 := eqVals_eq k _ _ h1
      have h2 := eqVals_eq k _ _ h2
      obtain ⟨a⟩ := a; obtain ⟨b⟩ := b; obtain ⟨c⟩ := c; obtain ⟨d⟩ := d
      dsimp only at h1 h2; subst h1; subst h2; rfl
    · rename_i f a c g b d
      simp at h; obtain ⟨⟨rfl, h1⟩, h2⟩ := h
      have h1 := eqVals_eq k _ _ h1
      have h2 := eqVals_eq k _ _ h2
      obtain ⟨a⟩ := a; obtain ⟨b⟩ := b; obtain ⟨c⟩ := c; obtain ⟨d⟩ := d
      dsimp only at h1 h2; subst h1; subst h2; rfl
    · rfl
    · simp at h; obtain ⟨rfl, h1⟩ := h; rw [eqVal_eq k _ _ h1]
    · rfl
    · rename_i a b
      have h1 := eqVals_eq k _ _ h
      obtain ⟨a⟩ := a; obtain ⟨b⟩ := b
      dsimp only at h1; subst h1; rfl
    · rename_i a b
      have h1 := eqVals_eq k _ _ h
      obtain ⟨a⟩ := a; obtain ⟨b⟩ := b
      dsimp only at h1; subst h1; rfl
    · cases h
theorem eqVals_eq : ∀ (k : Nat) (a b : List Value), eqVals k a b = true → a = b
  | 0, _, _, h => by simp [eqVals] at h
  | k + 1, a, b, h => by
    unfold eqVals at h
    split at h
    · rfl
    · simp at h; rw [eqVal_eq k _ _ h.1, eqVals_eq k _ _ h.2]
    · cases h
end
theorem eqTr_eq : ∀ (k : Nat) (a b : Tr Value), eqTr k a b = true → a = b
  | 0, _, _, h => by simp [eqTr] at h
  | k + 1, .nil, .nil, _ => rfl
  | k + 1, .nil, .nd .., h => by simp [eqTr] at h
  | k + 1, .nd .., .nil, h => by simp [eqTr] at h
  | k + 1, .nd v a b c d, .nd v' a' b' c' d', h => by
    simp only [eqTr, Bool.and_eq_true] at h
    obtain ⟨⟨⟨⟨h0, h1⟩, h2⟩, h3⟩, h4⟩ := h
    rw [eqTr_eq k _ _ h1, eqTr_eq k _ _ h2, eqTr_eq k _ _ h3, eqTr_eq k _ _ h4]
    cases v <;> cases v' <;> first | rfl | cases h0 | (rw [eqVal_eq _ _ _ h0])
theorem eqOb_eq {a b : Ob} (h : eqOb a b = true) : a = b := by
  cases a with
  | map _ => cases h
  | mark => cases h
  | lock _ _ => cases h
  | chan c l =>
    cases b with
    | chan c' l' =>
      cases l with
      | nil =>
        cases l' with
        | nil => rw [Nat.eq_of_beq_eq_true h]
        | cons _ _ => cases h
      | cons _ _ => cases h
    | _ => cases l <;> cases h
  | cells c n z t r => cases b with
    | map _ => cases h
    | mark => cases h
    | lock _ _ => cases h
    | chan _ _ => cases h
    | cells c' n' z' t' r' =>
      simp only [eqOb, Bool.and_eq_true] at h
      obtain ⟨⟨⟨⟨h0, h1⟩, h2⟩, h3⟩, h4⟩ := h
      rw [eqTr_eq _ _ _ h0]
      have h1 := Nat.eq_of_beq_eq_true h1
      obtain ⟨z, ze⟩ := z
      obtain ⟨z', ze'⟩ := z'
      have h2a := Nat.eq_of_beq_eq_true h2.1
      have h2b := eqNO_eq h2.2
      simp only at h2a h2b
      subst h1; subst h2a; subst h2b
      cases t <;> cases t' <;> cases r <;> cases r' <;> first | rfl | (cases h3; done) | (cases h4; done)
theorem flOk_look {k : Nat} {h : Hp} {f : Env → Hp → Option Value} {T : Tr Value} {v : Value} {hi : Nat} (e : flOk k h (.look f T v hi) = true) (hk : k ≤ hi) : f (evO T) h = some v := by
  simp only [flOk, Nat.ble_eq_true_of_le hk, cond_true] at e
  split at e
  · rename_i u hu; rw [hu, eqVal_eq _ _ _ e]
  · cases e
theorem flOk_make {k : Nat} {h : Hp} {b : Nat} {ob : Ob} {hi : Nat} (e : flOk k h (.make b ob hi) = true) (hk : k ≤ hi) : h.b.get b = some ob := by
  simp only [flOk, Nat.ble_eq_true_of_le hk, cond_true] at e
  split at e
  · rename_i u hu; rw [hu, eqOb_eq e]
  · cases e
theorem bit_eq (m i : Nat) : bit m i = m.testBit i := by
  unfold bit
  rw [Nat.testBit, Nat.one_and_eq_mod_two]
  show Nat.beq ((m >>> i) &&& 1) 1 = _
  rw [Nat.and_one_is_mod]
  rcases Nat.mod_two_eq_zero_or_one (m >>> i) with h | h <;> rw [h] <;> rfl
theorem maskOf_go (an : List Nat) (j : Nat) : ∀ (es : List Edge) (m : Nat),
    bit (es.foldl (fun s e => bif Region.binds .any e then Nat.lor (Nat.lor s (Nat.shiftLeft 1 e.on)) ((an[e.on]?).getD 0) else s) m) j = true ↔
      bit m j = true ∨ ∃ e ∈ es, Region.binds .any e = true ∧ (e.on = j ∨ bit (maskAt an e.on) j = true) := by
  intro es
  induction es with
  | nil => intro m; simp
  | cons e es ih =>
    intro m
    rw [List.foldl_cons, ih]
    cases hb : Region.binds .any e with
    | false => simp [hb]
    | true =>
      simp only [cond_true, List.mem_cons, exists_eq_or_imp, hb, true_and]
      have : bit (Nat.lor (Nat.lor m (Nat.shiftLeft 1 e.on)) ((an[e.on]?).getD 0)) j = true ↔ bit m j = true ∨ e.on = j ∨ bit (maskAt an e.on) j = true := by
        simp only [bit_eq, maskAt]
        show ((m ||| 1 <<< e.on) ||| _).testBit j = true ↔ _
        rw [Nat.testBit_or, Nat.testBit_or, Nat.one_shiftLeft, Nat.testBit_two_pow]
        simp [or_assoc]
      rw [this, or_assoc, or_assoc]
theorem bit_zero (j : Nat) : bit 0 j = false := by rw [bit_eq]; exact Nat.zero_testBit j
theorem maskOf_bit (an : List Nat) (es : List Edge) (j : Nat) : bit (maskOf an es) j = true ↔ ∃ e ∈ es, Region.binds .any e = true ∧ (e.on = j ∨ bit (maskAt an e.on) j = true) := by
  unfold maskOf
  rw [maskOf_go, bit_zero]; simp
theorem bit_lor (a b j : Nat) : bit (Nat.lor a b) j = (bit a j || bit b j) := by
  simp only [bit_eq]; exact Nat.testBit_or a b j
theorem bit_one (i j : Nat) : bit (Nat.shiftLeft 1 i) j = decide (i = j) := by
  rw [bit_eq]
  show (1 <<< i).testBit j = _
  rw [Nat.one_shiftLeft, Nat.testBit_two_pow]
theorem sub_bit {a b : Nat} (h : Nat.beq (Nat.land a b) a = true) (j : Nat) (hj : bit a j = true) : bit b j = true := by
  have h := Nat.eq_of_beq_eq_true h
  have : bit (Nat.land a b) j = (bit a j && bit b j) := by simp only [bit_eq]; exact Nat.testBit_and a b j
  rw [h, hj] at this
  simpa using this.symm
theorem bit_full (n j : Nat) : bit (Nat.pred (Nat.shiftLeft 1 n)) j = decide (j < n) := by
  rw [bit_eq]
  show (1 <<< n - 1).testBit j = _
  rw [Nat.one_shiftLeft, Nat.testBit_two_pow_sub_one]
theorem setD_facts {s s' : St} {d : Option Tmp} {v : Value} {h : Hp} (e : s.setD d v h = .ok s') :
    s'.H = h ∧ s'.n = s.n ∧ s'.D = s.D ∧ (∀ t, d ≠ some t → slot s'.T t = slot s.T t) ∧ (∀ t, d = some t → slot s'.T t = v ∧ t < s.n) := by
  obtain ⟨n, T, D, H⟩ := s
  unfold St.setD at e
  cases d with
  | none => cases e; exact ⟨rfl, rfl, rfl, fun _ _ => rfl, fun _ h => by cases h⟩
  | some d =>
    dsimp only at e
    cases hb : Nat.blt d n with
    | false => rw [hb] at e; cases e
    | true =>
      rw [hb] at e; cases e
      refine ⟨rfl, rfl, rfl, fun t ht => ?_, fun t ht => ?_⟩
      · simp only [slot]; rw [Tr.get_put_ne]; exact fun e => ht (by rw [e])
      · cases ht; exact ⟨by simp only [slot, Tr.get_put_eq], blt_lt hb⟩
theorem stepOp_facts {call : Caller} {ops : List Oper} {o : Oper} {s s' : St} (e : stepOp cx call ops o s = .ok s') :
    s'.n = s.n ∧ (∀ t, o.dst ≠ some t → slot s'.T t = slot s.T t) := by
  obtain ⟨n, T, D, H⟩ := s
  unfold stepOp at e
  dsimp only at e
  cases hw : wantT T ops o.guard with
  | true =>
    rw [hw] at e
    simp only [cond_true] at e
    unfold stepCls at e
    dsimp only at e
    split at e
    · obtain ⟨_, h2, _, h4, _⟩ := setD_facts e
      exact ⟨h2, h4⟩
    · cases e
  | false =>
    rw [hw] at e
    simp only [cond_false] at e
    obtain ⟨_, h2, _, h4, _⟩ := setD_facts e
    exact ⟨h2, h4⟩
end Go.EvM
namespace Go.EvM
set_option linter.unusedSectionVars false
variable [GLs]
open Go.RowKit
set_option linter.unusedVariables false
variable {P : Program} {cx : Cx}
structure Rc where
  i : Nat
  o : Oper
  s : St
  s' : St
  lo : Nat
  hi : Nat
def Chain : St → List Rc → St → Prop
  | s, [], sf => s = sf
  | s, r :: l, sf => r.s = s ∧ Chain r.s' l sf
theorem Chain.append : ∀ {l m : List Rc} {a b c : St}, Chain a l b → Chain b m c → Chain a (l ++ m) c
  | [], _, _, _, _, h, k => by cases h; exact k
  | _ :: _, _, _, _, _, ⟨h1, h2⟩, k => ⟨h1, Chain.append h2 k⟩
def Grow (h h' : Hp) : Prop := h.n ≤ h'.n ∧ ∀ b, b < h.n → h'.b.get b = h.b.get b
theorem Grow.refl (h : Hp) : Grow h h := ⟨Nat.le_refl _, fun _ _ => rfl⟩
theorem Grow.trans {a b c : Hp} (h : Grow a b) (k : Grow b c) : Grow a c := ⟨Nat.le_trans h.1 k.1, fun x hx => (k.2 x (Nat.lt_of_lt_of_le hx h.1)).trans (h.2 x hx)⟩
def QuietW (cx : Cx) (ops : List Oper) (L : (Env → Hp → Option Value) → Tr Value → Value → Nat → Prop) (M : Nat → Ob → Nat → Prop) (r : Rc) : Prop :=
  (wantT r.s.T ops r.o.guard = false ∧ r.s.setD r.o.dst undef r.s.H = .ok r.s') ∨
  (wantT r.s.T ops r.o.guard = true ∧
    ((∃ f v, cls cx r.o = .pure f ∧ f (evO r.s.T) = some v ∧ r.s.setD r.o.dst v r.s.H = .ok r.s') ∨
     (∃ f v, cls cx r.o = .look f ∧ L f r.s.T v r.hi ∧ r.s.setD r.o.dst v r.s.H = .ok r.s') ∨
     (∃ f m, cls cx r.o = .make f ∧ f (evO r.s.T) = some m ∧ M r.s.H.n m.ob r.hi ∧ r.s.setD r.o.dst (m.val r.s.H.n) ⟨r.s.H.n + 1, r.s.H.b.put r.s.H.n m.ob⟩ = .ok r.s')))
theorem QuietW.imp {ops : List Oper} {L L' : (Env → Hp → Option Value) → Tr Value → Value → Nat → Prop} {M M' : Nat → Ob → Nat → Prop} {r : Rc}
    (hL : ∀ f T v, L f T v r.hi → L' f T v r.hi) (hM : ∀ b o, M b o r.hi → M' b o r.hi) (h : QuietW cx ops L M r) : QuietW cx ops L' M' r := by
  rcases h with h | ⟨h0, ⟨f, v, h1, h2, h3⟩ | ⟨f, v, h1, h2, h3⟩ | ⟨f, m, h1, h2, h3, h4⟩⟩
  · exact .inl h
  · exact .inr ⟨h0, .inl ⟨f, v, h1, h2, h3⟩⟩
  · exact .inr ⟨h0, .inr (.inl ⟨f, v, h1, hL _ _ _ h2, h3⟩)⟩
  · exact .inr ⟨h0, .inr (.inr ⟨f, m, h1, h2, hM _ _ h3, h4⟩)⟩
theorem drawIt_spec {ops : List Oper} {it : It} {s s' : St} {fl fl' : List Fl} (e : drawIt cx ops it s fl = some (s', fl')) :
    QuietW cx ops (fun f T v hi => Fl.look f T v hi ∈ fl') (fun b o hi => Fl.make b o hi ∈ fl') ⟨it.i, it.o, s, s', it.lo, it.hi⟩ ∧ (∀ f ∈ fl, f ∈ fl') ∧ Grow s.H s'.H ∧ s'.D = s.D := by
  unfold drawIt at e
  cases hw : wantT s.T ops it.o.guard with
  | false =>
    rw [hw] at e
    simp only [cond_false] at e
    split at e
    · rename_i s1 h1
      cases e
      obtain ⟨g1, _, g3, _⟩ := setD_facts h1
      exact ⟨.inl ⟨hw, h1⟩, fun _ h => h, by rw [g1]; exact Grow.refl _, g3⟩
    · cases e
  | true =>
    rw [hw] at e
    simp only [cond_true] at e
    split at e
    · rename_i f hf
      split at e
      · rename_i v hv
        split at e
        · rename_i s1 h1
          cases e
          obtain ⟨g1, _, g3, _⟩ := setD_facts h1
          exact ⟨.inr ⟨hw, .inl ⟨f, v, hf, hv, h1⟩⟩, fun _ h => h, by rw [g1]; exact Grow.refl _, g3⟩
        · cases e
      · cases e
    · rename_i f hf
      split at e
      · rename_i v hv
        split at e
        · rename_i s1 h1
          cases e
          obtain ⟨g1, _, g3, _⟩ := setD_facts h1
          exact ⟨.inr ⟨hw, .inr (.inl ⟨f, v, hf, List.mem_cons_self, h1⟩)⟩, fun _ h => List.mem_cons_of_mem _ h, by rw [g1]; exact Grow.refl _, g3⟩
        · cases e
      · cases e
    · rename_i f hf
      split at e
      · rename_i m hm
        split at e
        · rename_i s1 h1
          cases e
          obtain ⟨g1, _, g3, _⟩ := setD_facts h1
          exact ⟨.inr ⟨hw, .inr (.inr ⟨f, m, hf, hm, List.mem_cons_self, h1⟩)⟩, fun _ h => List.mem_cons_of_mem _ h, by rw [g1]; exact ⟨Nat.le_succ _, fun b hb => Tr.get_put_ne _ _ (Nat.ne_of_lt hb)⟩, g3⟩
        · cases e
      · cases e
    · cases e
theorem drawIts_spec {ops : List Oper} {k : Nat} : ∀ {its : List It} {s s' : St} {fl fl' : List Fl}, drawIts cx ops k its s fl = some (s', fl') →
    ∃ recs, Chain s recs s' ∧ recs.map (fun r => (r.i, r.o)) = segL its k ∧
      (∀ r ∈ recs, QuietW cx ops (fun f T v hi => Fl.look f T v hi ∈ fl') (fun b o hi => Fl.make b o hi ∈ fl') r ∧ r.lo = k ∧ (∃ it ∈ its, it.i = r.i ∧ it.lo = r.lo ∧ it.hi = r.hi) ∧ r.s'.H.n ≤ s'.H.n) ∧
      (∀ f ∈ fl, f ∈ fl') ∧ Grow s.H s'.H ∧ s'.D = s.D
  | [], s, s', fl, fl', e => by cases e; exact ⟨[], rfl, rfl, fun r h => by simp at h, fun _ h => h, Grow.refl _, rfl⟩
  | it :: its, s, s', fl, fl', e => by
    unfold drawIts at e
    cases hb : Nat.beq it.lo k with
    | false =>
      rw [hb] at e
      simp only [cond_false] at e
      obtain ⟨recs, h1, h2, h3, h4⟩ := drawIts_spec e
      refine ⟨recs, h1, by simpa [segL, hb] using h2, fun r hr => ?_, h4⟩
      obtain ⟨g1, g2, ⟨it', g3, g4⟩, g5⟩ := h3 r hr
      exact ⟨g1, g2, ⟨it', List.mem_cons_of_mem _ g3, g4⟩, g5⟩
    | true =>
      rw [hb] at e
      simp only [cond_true] at e
      split at e
      · rename_i s1 fl1 h
        obtain ⟨a1, a2, a3, a4⟩ := drawIt_spec h
        obtain ⟨recs, h1, h2, h3, h4, h5, h6⟩ := drawIts_spec e
        refine ⟨⟨it.i, it.o, s, s1, it.lo, it.hi⟩ :: recs, ⟨rfl, h1⟩, by simpa [segL, hb] using h2, fun r hr => ?_, fun f hf => h4 f (a2 f hf), a3.trans h5, h6.trans a4⟩
        rcases List.mem_cons.1 hr with rfl | hr
        · exact ⟨a1.imp (fun f T v h => h4 _ h) (fun b o h => h4 _ h), Nat.eq_of_beq_eq_true hb, ⟨it, List.mem_cons_self, rfl, rfl, rfl⟩, h5.1⟩
        · obtain ⟨g1, g2, ⟨it', g3, g4⟩, g5⟩ := h3 r hr
          exact ⟨g1, g2, ⟨it', List.mem_cons_of_mem _ g3, g4⟩, g5⟩
      · cases e
def Quiet (cx : Cx) (ops : List Oper) (its : List It) (Hs : Nat → Hp) (J : Nat) (r : Rc) : Prop :=
  (∃ it ∈ its, it.i = r.i ∧ it.lo = r.lo ∧ it.hi = r.hi) ∧ (∀ j, r.lo ≤ j → j ≤ J → r.s'.H.n ≤ (Hs j).n) ∧
  QuietW cx ops (fun f T v hi => ∀ j, r.lo ≤ j → j ≤ hi → j ≤ J → f (evO T) (Hs j) = some v) (fun b o hi => ∀ j, r.lo ≤ j → j ≤ hi → j ≤ J → (Hs j).b.get b = some o) r
def Acts (cx : Cx) (call : Caller) (ops : List Oper) (ms : List (Nat × Oper)) (k0 : Nat) (Hs : Nat → Hp) (Ds : Nat → List Dfr) (r : Rc) : Prop :=
  ∃ q, ms[q]? = some (r.i, r.o) ∧ stepOp cx call ops r.o r.s = .ok r.s' ∧ r.s.H = Hs (k0 + q) ∧ r.s.D = Ds (k0 + q) ∧ Grow r.s'.H (Hs (k0 + q + 1)) ∧ Ds (k0 + q + 1) = r.s'.D ∧ r.s.H.n ≤ r.s'.H.n
structure Traced (cx : Cx) (call : Caller) (ops : List Oper) (its : List It) (k : Nat) (ms : List (Nat × Oper)) (s sf : St) (fl : List Fl) (recs : List Rc) (Hs : Nat → Hp) (Ds : Nat → List Dfr) : Prop where
  chain : Chain s recs sf
  ord : recs.map (fun r => (r.i, r.o)) = ordL its k ms
  d0 : Ds k = s.D
  h0 : Grow s.H (Hs k)
  dj : Ds (k + ms.length) = sf.D
  hj : Hs (k + ms.length) = sf.H
  fls : ∀ f ∈ fl, ∀ j, k ≤ j → j ≤ k + ms.length → flOk j (Hs j) f = true
  mon : ∀ j, k ≤ j → j ≤ k + ms.length → (Hs k).n ≤ (Hs j).n
  all : ∀ r ∈ recs, Quiet cx ops its Hs (k + ms.length) r ∧ k ≤ r.lo ∨ Acts cx call ops ms k Hs Ds r
theorem drawSegs_spec {call : Caller} {ops : List Oper} {its : List It} : ∀ {ms : List (Nat × Oper)} {k : Nat} {s sf : St} {fl : List Fl}, drawSegs cx call ops its k ms s fl = .ok sf →
    ∃ recs Hs Ds, Traced cx call ops its k ms s sf fl recs Hs Ds
  | [], k, s, sf, fl, e => by
    unfold drawSegs at e
    split at e
    · rename_i s1 fl1 h
      obtain ⟨recs, h1, h2, h3, h4, h5, h6⟩ := drawIts_spec h
      cases hf : fl1.all (flOk k s1.H) with
      | false => rw [hf] at e; cases e
      | true =>
        rw [hf] at e; cases e
        have hf := List.all_eq_true.1 hf
        have hjk : ∀ {j}, k ≤ j → j ≤ k + ([] : List (Nat × Oper)).length → j = k := fun a b => by simp at b; omega
        refine ⟨recs, fun _ => sf.H, fun _ => sf.D, ⟨h1, by simpa [ordL] using h2, h6, h5, rfl, rfl, fun f hfm j a b => ?_, fun _ _ _ => Nat.le_refl _, fun r hr => .inl ?_⟩⟩
        · cases hjk a b; exact hf _ (h4 f hfm)
        · obtain ⟨g1, g2, g3, g4⟩ := h3 r hr
          refine ⟨⟨g3, fun j _ _ => g4, g1.imp (fun f T v hm => fun j ja jb jc => ?_) (fun b o hm => fun j ja jb jc => ?_)⟩, Nat.le_of_eq g2.symm⟩
          · have hj := hjk (by omega) jc; subst hj; exact flOk_look (hf _ hm) jb
          · have hj := hjk (by omega) jc; subst hj; exact flOk_make (hf _ hm) jb
    · cases e
  | m :: ms, k, s, sf, fl, e => by
    unfold drawSegs at e
    split at e
    · rename_i s1 fl1 h
      obtain ⟨recs, h1, h2, h3, h4, h5, h6⟩ := drawIts_spec h
      cases hf : fl1.all (flOk k s1.H) with
      | false => rw [hf] at e; cases e
      | true =>
        rw [hf] at e
        simp only [cond_true] at e
        have hf := List.all_eq_true.1 hf
        split at e
        · rename_i s2 hs2
          cases hb : Nat.ble s1.H.n s2.H.n with
          | false => rw [hb] at e; cases e
          | true =>
            rw [hb] at e
            simp only [cond_true] at e
            have hb := Nat.le_of_ble_eq_true hb
            obtain ⟨recs', Hs, Ds, t⟩ := drawSegs_spec e
            have e1 : ∀ j, k + 1 ≤ j → (if j ≤ k then s1.H else Hs j) = Hs j := fun j h => if_neg (by omega)
            have e2 : ∀ j, k + 1 ≤ j → (if j ≤ k then s1.D else Ds j) = Ds j := fun j h => if_neg (by omega)
            have e3 : (if k ≤ k then s1.H else Hs k) = s1.H := if_pos (Nat.le_refl _)
            have e4 : (if k ≤ k then s1.D else Ds k) = s1.D := if_pos (Nat.le_refl _)
            have hlen : k + (m :: ms).length = k + 1 + ms.length := by simp; omega
            have hstep : s1.H.n ≤ (Hs (k + 1)).n := Nat.le_trans hb t.h0.1
            refine ⟨recs ++ ⟨m.1, m.2, s1, s2, 0, 0⟩ :: recs', fun j => if j ≤ k then s1.H else Hs j, fun j => if j ≤ k then s1.D else Ds j,
              ⟨h1.append ⟨rfl, t.chain⟩, by simp [ordL, h2, t.ord], by (try dsimp only); rw [e4]; exact h6, by (try dsimp only); rw [e3]; exact h5, by (try dsimp only); rw [hlen, e2 _ (by omega)]; exact t.dj, by (try dsimp only); rw [hlen, e1 _ (by omega)]; exact t.hj, ?_, ?_, ?_⟩⟩
            · intro f hfm j ja jb
              rcases Nat.eq_or_lt_of_le ja with rfl | ja
              · (try dsimp only); rw [e3]; exact hf _ (h4 f hfm)
              · (try dsimp only); rw [e1 _ ja]; exact t.fls f (h4 f hfm) j ja (by omega)
            · intro j ja jb
              rcases Nat.eq_or_lt_of_le ja with rfl | ja
              · exact Nat.le_refl _
              · (try dsimp only); rw [e3, e1 _ ja]; exact Nat.le_trans hstep (t.mon j ja (by omega))
            · intro r hr
              rcases List.mem_append.1 hr with hr | hr
              · refine .inl ?_
                obtain ⟨g1, g2, g3, g4⟩ := h3 r hr
                refine ⟨⟨g3, fun j ja jb => ?_, g1.imp (fun f T v h => fun j ja jb jc => ?_) (fun b o h => fun j ja jb jc => ?_)⟩, Nat.le_of_eq g2.symm⟩
                · rw [g2] at ja
                  rcases Nat.eq_or_lt_of_le ja with rfl | ja
                  · (try dsimp only); rw [e3]; exact g4
                  · (try dsimp only); rw [e1 _ ja]; exact Nat.le_trans g4 (Nat.le_trans hstep (t.mon j ja (by omega)))
                · rw [g2] at ja
                  rcases Nat.eq_or_lt_of_le ja with rfl | ja
                  · (try dsimp only); rw [e3]; exact flOk_look (hf _ h) jb
                  · (try dsimp only); rw [e1 _ ja]; exact flOk_look (t.fls _ h j ja (by omega)) jb
                · rw [g2] at ja
                  rcases Nat.eq_or_lt_of_le ja with rfl | ja
                  · (try dsimp only); rw [e3]; exact flOk_make (hf _ h) jb
                  · (try dsimp only); rw [e1 _ ja]; exact flOk_make (t.fls _ h j ja (by omega)) jb
              · rcases List.mem_cons.1 hr with rfl | hr
                · refine .inr ⟨0, by simp, hs2, ?_, ?_, ?_, ?_, hb⟩ <;> try dsimp only
                  · rw [Nat.add_zero, e3]
                  · rw [Nat.add_zero, e4]
                  · rw [Nat.add_zero, e1 _ (Nat.le_refl _)]; exact t.h0
                  · rw [Nat.add_zero, e2 _ (Nat.le_refl _)]; exact t.d0
                · rcases t.all r hr with ⟨⟨g1, g2, g3⟩, g4⟩ | ⟨q, g1, g2, g3, g4, g5, g6, g7⟩
                  · refine .inl ⟨⟨g1, fun j ja jb => ?_, g3.imp (fun f T v h => fun j ja jb jc => ?_) (fun b o h => fun j ja jb jc => ?_)⟩, by omega⟩
                    · (try dsimp only); rw [e1 _ (by omega)]; exact g2 j ja (by omega)
                    · (try dsimp only); rw [e1 _ (by omega)]; exact h j ja jb (by omega)
                    · (try dsimp only); rw [e1 _ (by omega)]; exact h j ja jb (by omega)
                  · have ha : k + (q + 1) = k + 1 + q := by omega
                    refine .inr ⟨q + 1, by simpa using g1, g2, ?_, ?_, ?_, ?_, g7⟩ <;> (try dsimp only) <;> rw [ha]
                    · rw [e1 _ (by omega)]; exact g3
                    · rw [e2 _ (by omega)]; exact g4
                    · rw [e1 _ (by omega)]; exact g5
                    · rw [e2 _ (by omega)]; exact g6
        · cases e
    · cases e
end Go.EvM
namespace Go.EvM
set_option linter.unusedSectionVars false
variable [GLs]
open Go.RowKit
set_option linter.unusedVariables false
variable {P : Program} {cx : Cx}
theorem numbered_get : ∀ {l : List Oper} {k i : Nat} {o : Oper}, (i, o) ∈ numbered k l → k ≤ i ∧ l[i - k]? = some o
  | [], _, _, _, h => by simp [numbered] at h
  | x :: l, k, i, o, h => by
    simp only [numbered, List.mem_cons, Prod.mk.injEq] at h
    rcases h with ⟨rfl, rfl⟩ | h
    · simp
    · obtain ⟨h1, h2⟩ := numbered_get h
      refine ⟨by omega, ?_⟩
      have : i - k = i - (k + 1) + 1 := by omega
      rw [this]; simpa using h2
theorem numbered_mem : ∀ {l : List Oper} {k i : Nat} {o : Oper}, l[i]? = some o → (k + i, o) ∈ numbered k l
  | [], _, _, _, h => by simp at h
  | x :: l, k, 0, o, h => by simp at h; subst h; simp [numbered]
  | x :: l, k, i + 1, o, h => by
    simp only [numbered, List.mem_cons]
    have := numbered_mem (k := k + 1) (i := i) (l := l) (o := o) (by simpa using h)
    exact .inr (by rw [show k + (i + 1) = k + 1 + i by omega]; exact this)
theorem numbered_lt : ∀ (l : List Oper) (k : Nat), (numbered k l).Pairwise (fun a b => a.1 < b.1)
  | [], _ => .nil
  | x :: l, k => .cons (fun p hp => by obtain ⟨i, o⟩ := p; exact (numbered_get hp).1) (numbered_lt l (k + 1))
theorem ordOk_spec {an : List Nat} {all : Nat} : ∀ {L : List (Nat × Oper)} {acc : Nat}, ordOk an L acc all = true →
    (∀ (p : Nat) (y : Nat × Oper), L[p]? = some y → (∀ x, bit (maskAt an y.1) x = true → bit acc x = true ∨ ∃ (q : Nat) (z : Nat × Oper), q < p ∧ L[q]? = some z ∧ z.1 = x) ∧ bit acc y.1 = false ∧ ∀ (q : Nat) (z : Nat × Oper), q < p → L[q]? = some z → z.1 ≠ y.1) ∧
    ∀ x, bit all x = true → bit acc x = true ∨ ∃ (q : Nat) (z : Nat × Oper), L[q]? = some z ∧ z.1 = x
  | [], acc, h => ⟨fun p y hp => by simp at hp, fun x hx => by rw [← Nat.eq_of_beq_eq_true h] at hx; exact .inl hx⟩
  | y0 :: L, acc, h => by
    simp only [ordOk, Bool.and_eq_true, Bool.not_eq_true'] at h
    obtain ⟨⟨h1, h2⟩, h3⟩ := h
    have hsub : ∀ x, bit (maskAt an y0.1) x = true → bit acc x = true := by
      intro x hx
      have e := Nat.eq_of_beq_eq_true h1
      have : bit (Nat.land (maskAt an y0.1) acc) x = (bit (maskAt an y0.1) x && bit acc x) := by simp only [bit_eq]; exact Nat.testBit_and _ _ x
      rw [e, hx] at this
      simpa using this.symm
    obtain ⟨g1, g2⟩ := ordOk_spec h3
    have hor : ∀ x, bit (Nat.lor acc (Nat.shiftLeft 1 y0.1)) x = true → bit acc x = true ∨ y0.1 = x := fun x hx => by
      rw [bit_lor, bit_one] at hx; simpa using hx
    refine ⟨fun p y hp => ?_, fun x hx => ?_⟩
    · cases p with
      | zero =>
        simp at hp; subst hp
        exact ⟨fun x hx => .inl (hsub x hx), h2, fun q z hq => absurd hq (Nat.not_lt_zero _)⟩
      | succ p =>
        simp at hp
        obtain ⟨a1, a2, a3⟩ := g1 p y hp
        rw [bit_lor, bit_one] at a2
        simp at a2
        refine ⟨fun x hx => ?_, a2.1, fun q z hq hz => ?_⟩
        · rcases a1 x hx with h | ⟨q, z, hq, hz, e⟩
          · rcases hor x h with h | h
            · exact .inl h
            · exact .inr ⟨0, y0, Nat.succ_pos _, rfl, h⟩
          · exact .inr ⟨q + 1, z, Nat.succ_lt_succ hq, by simpa using hz, e⟩
        · cases q with
          | zero => simp at hz; subst hz; exact a2.2
          | succ q => exact a3 q z (by omega) (by simpa using hz)
    · rcases g2 x hx with h | ⟨q, z, hz, e⟩
      · rcases hor x h with h | h
        · exact .inl h
        · exact .inr ⟨0, y0, rfl, h⟩
      · exact .inr ⟨q + 1, z, by simpa using hz, e⟩
theorem ordL_mem {its : List It} : ∀ {ms : List (Nat × Oper)} {k : Nat} {y : Nat × Oper}, y ∈ ordL its k ms → y ∈ ms ∨ ∃ it ∈ its, y = (it.i, it.o)
  | [], k, y, h => by
    simp only [ordL, segL, List.mem_map, List.mem_filter] at h
    obtain ⟨it, ⟨h1, _⟩, h2⟩ := h
    exact .inr ⟨it, h1, h2.symm⟩
  | m :: ms, k, y, h => by
    simp only [ordL, List.mem_append, List.mem_cons] at h
    rcases h with h | rfl | h
    · simp only [segL, List.mem_map, List.mem_filter] at h
      obtain ⟨it, ⟨h1, _⟩, h2⟩ := h
      exact .inr ⟨it, h1, h2.symm⟩
    · exact .inl List.mem_cons_self
    · rcases ordL_mem h with h | h
      · exact .inl (List.mem_cons_of_mem _ h)
      · exact .inr h
theorem memN_iff {n : Nat} {l : List Nat} : memN n l = true ↔ n ∈ l := by
  unfold memN
  simp [List.any_eq_true]
def Apart (ops : List Oper) (x y : Oper) : Prop := (∀ d, x.dst = some d → d ∉ looks ops y ∧ y.dst ≠ some d) ∧ ∀ d, y.dst = some d → d ∉ looks ops x
theorem Apart.symm {ops : List Oper} {x y : Oper} (h : Apart ops x y) : Apart ops y x :=
  ⟨fun d hd => ⟨h.2 d hd, fun e => (h.1 d e).2 hd⟩, fun d hd => (h.1 d hd).1⟩
theorem apartB_ok {ops : List Oper} {x y : Oper} (h : apartB ops x y = true) : Apart ops x y := by
  unfold apartB at h
  rw [Bool.and_eq_true] at h
  obtain ⟨h1, h2⟩ := h
  refine ⟨fun d hd => ?_, fun d hd => ?_⟩
  · rw [hd] at h1
    simp only [Bool.and_eq_true, Bool.not_eq_true'] at h1
    refine ⟨fun hm => ?_, fun e => ?_⟩
    · rw [memN_iff.2 hm] at h1; cases h1.1
    · rw [e] at h1; simp at h1
  · rw [hd] at h2
    simp only [Bool.not_eq_true'] at h2
    intro hm
    rw [memN_iff.2 hm] at h2; cases h2
theorem chainFrom_get {an : List Nat} : ∀ {l : List Nat} {m : Nat}, chainFrom an m l = true → ∀ q x y, (m :: l)[q]? = some x → (m :: l)[q + 1]? = some y → bit (maskAt an y) x = true
  | [], m, h, q, x, y, hx, hy => by simp at hy
  | n :: l, m, h, q, x, y, hx, hy => by
    simp only [chainFrom, Bool.and_eq_true] at h
    cases q with
    | zero => simp at hx hy; subst hx; subst hy; exact h.1
    | succ q => exact chainFrom_get h.2 q x y (by simpa using hx) (by simpa using hy)
structure PF (cx : Cx) (ops : Array Oper) (an : List Nat) (its : List It) (ms : List (Nat × Oper)) (recs : List Rc) : Prop where
  op : ∀ (p : Nat) (r : Rc), recs[p]? = some r → ops[r.i]? = some r.o
  full : ∀ i, i < ops.size → ∃ (p : Nat) (r : Rc), recs[p]? = some r ∧ r.i = i
  uniq : ∀ (p q : Nat) (r r' : Rc), recs[p]? = some r → recs[q]? = some r' → r.i = r'.i → p = q
  anc : ∀ (p : Nat) (r : Rc), recs[p]? = some r → ∀ x, bit (maskAt an r.i) x = true → ∃ (q : Nat) (r' : Rc), q < p ∧ recs[q]? = some r' ∧ r'.i = x
  clos : ∀ (i : Nat) (o : Oper), ops[i]? = some o → ∀ x, bit (maskAt an i) x = true ↔ ∃ e ∈ o.after, Region.binds .any e = true ∧ (e.on = x ∨ bit (maskAt an e.on) x = true)
  cmp : ∀ (p q : Nat) (r r' : Rc), recs[p]? = some r → recs[q]? = some r' → p ≠ q → bit (maskAt an r'.i) r.i = true ∨ bit (maskAt an r.i) r'.i = true ∨ Apart ops.toList r.o r'.o
  chain : ∀ (q : Nat) (m m' : Nat × Oper), ms[q]? = some m → ms[q + 1]? = some m' → bit (maskAt an m'.1) m.1 = true
  itlo : ∀ it ∈ its, ∀ n, it.lo = n + 1 → ∃ m : Nat × Oper, ms[n]? = some m ∧ bit (maskAt an it.i) m.1 = true
  ithi : ∀ it ∈ its, ∀ m : Nat × Oper, ms[it.hi]? = some m → bit (maskAt an m.1) it.i = true
  msop : ∀ m ∈ ms, ops[m.1]? = some m.2 ∧ isM cx m.2 = true
  itop : ∀ it ∈ its, ops[it.i]? = some it.o ∧ isM cx it.o = false
  msuniq : ∀ (q q' : Nat) (m m' : Nat × Oper), ms[q]? = some m → ms[q']? = some m' → m.1 = m'.1 → q = q'
theorem planOf_ok {ops : Array Oper} {p : Plan} (h : planOf cx ops.toList = some p) {recs : List Rc} (ho : recs.map (fun r => (r.i, r.o)) = ordL p.its 0 p.ms) :
    PF cx ops (ancs ops.toList) p.its p.ms recs := by
  unfold planOf at h
  cases hc : planOk ops.toList (ancs ops.toList) (numbered 0 ops.toList) (mkPlan cx (ancs ops.toList) (numbered 0 ops.toList)) with
  | false => rw [hc] at h; cases h
  | true =>
    rw [hc] at h
    simp only [cond_true, Option.some.injEq] at h
    rw [h] at hc
    generalize hnb : numbered 0 ops.toList = nb at *
    generalize han : ancs ops.toList = an at *
    simp only [planOk, Bool.and_eq_true] at hc
    obtain ⟨⟨⟨⟨c1, c2⟩, c3⟩, c4⟩, c5⟩ := hc
    have nbget : ∀ {i : Nat} {o : Oper}, (i, o) ∈ nb → ops[i]? = some o := fun hm => by
      subst hnb
      have := (numbered_get hm).2
      simpa using this
    have nbmem : ∀ {i : Nat} {o : Oper}, ops[i]? = some o → (i, o) ∈ nb := fun hm => by
      subst hnb
      have := numbered_mem (k := 0) (l := ops.toList) (i := _) (o := _) (by simpa using hm)
      simpa using this
    have nblt : nb.Pairwise (fun a b => a.1 < b.1) := by subst hnb; exact numbered_lt _ _
    have hms : p.ms = nb.filter fun p => isM cx p.2 := by subst h; rfl
    have msop : ∀ m ∈ p.ms, ops[m.1]? = some m.2 ∧ isM cx m.2 = true := fun m hm => by
      rw [hms, List.mem_filter] at hm
      exact ⟨nbget (i := m.1) (o := m.2) hm.1, hm.2⟩
    have itop : ∀ it ∈ p.its, ops[it.i]? = some it.o ∧ isM cx it.o = false := fun it hm => by
      subst h
      simp only [mkPlan, List.mem_map, List.mem_filter] at hm
      obtain ⟨q, ⟨h1, h2⟩, rfl⟩ := hm
      exact ⟨nbget (i := q.1) (o := q.2) h1, by simpa using h2⟩
    have hget : ∀ {q : Nat} {r : Rc}, recs[q]? = some r → (ordL p.its 0 p.ms)[q]? = some (r.i, r.o) := fun hr => by rw [← ho, List.getElem?_map, hr]; rfl
    have hget' : ∀ {q : Nat} {y : Nat × Oper}, (ordL p.its 0 p.ms)[q]? = some y → ∃ r : Rc, recs[q]? = some r ∧ r.i = y.1 := fun hy => by
      rw [← ho, List.getElem?_map, Option.map_eq_some_iff] at hy
      obtain ⟨r, h1, rfl⟩ := hy
      exact ⟨r, h1, rfl⟩
    have rop : ∀ (q : Nat) (r : Rc), recs[q]? = some r → ops[r.i]? = some r.o := fun q r hr => by
      rcases ordL_mem (List.mem_of_getElem? (hget hr)) with h | ⟨it, h1, h2⟩
      · exact (msop _ h).1
      · have e := Prod.mk.inj h2; rw [e.1, e.2]; exact (itop _ h1).1
    obtain ⟨o1, o2⟩ := ordOk_spec c5
    refine ⟨rop, fun i hi => ?_, fun q q' r r' hr hr' e => ?_, fun q r hr x hx => ?_, fun i o hi x => ?_, fun q q' r r' hr hr' hne => ?_, fun q m m' hm hm' => ?_, fun it hit n hn => ?_, fun it hit m hm => ?_, msop, itop, fun q q' m m' hm hm' e => ?_⟩
    · rcases o2 i (by rw [bit_full]; simpa using hi) with h | ⟨q, z, hz, e⟩
      · rw [bit_zero] at h; cases h
      · obtain ⟨r, h1, h2⟩ := hget' hz
        exact ⟨q, r, h1, h2.trans e⟩
    · rcases Nat.lt_trichotomy q q' with hlt | rfl | hlt
      · exact absurd e ((o1 q' _ (hget hr')).2.2 q _ hlt (hget hr))
      · rfl
      · exact absurd e.symm ((o1 q _ (hget hr)).2.2 q' _ hlt (hget hr'))
    · rcases (o1 q _ (hget hr)).1 x hx with h | ⟨q', z, h1, h2, h3⟩
      · rw [bit_zero] at h; cases h
      · obtain ⟨r', h4, h5⟩ := hget' h2
        exact ⟨q', r', h1, h4, h5.trans h3⟩
    · have := List.all_eq_true.1 c1 (i, o) (nbmem hi)
      rw [Bool.and_eq_true] at this
      have := Nat.eq_of_beq_eq_true this.2
      rw [← this, maskOf_bit]
      simp
    · have hi := nbmem (rop q r hr)
      have hi' := nbmem (rop q' r' hr')
      have hne' : r.i ≠ r'.i := by
        intro e
        rcases Nat.lt_trichotomy q q' with hlt | rfl | hlt
        · exact absurd e ((o1 q' _ (hget hr')).2.2 q _ hlt (hget hr))
        · exact hne rfl
        · exact absurd e.symm ((o1 q _ (hget hr)).2.2 q' _ hlt (hget hr'))
      have hap : ∀ {x y : Nat × Oper}, x ∈ nb → y ∈ nb → x.1 < y.1 → bit (maskAt an y.1) x.1 = true ∨ Apart ops.toList x.2 y.2 := fun {x y} hx hy hlt => by
        have := List.all_eq_true.1 (List.all_eq_true.1 c3 x hx) y hy
        have hb : Nat.blt x.1 y.1 = true := by simp [hlt]
        rw [hb] at this
        simp only [cond_true, Bool.or_eq_true] at this
        exact this.imp id apartB_ok
      rcases Nat.lt_or_gt_of_ne hne' with hlt | hlt
      · rcases hap hi hi' hlt with h | h
        · exact .inl h
        · exact .inr (.inr h)
      · rcases hap hi' hi hlt with h | h
        · exact .inr (.inl h)
        · exact .inr (.inr h.symm)
    · cases hmm : p.ms with
      | nil => rw [hmm] at hm; simp at hm
      | cons m0 l =>
        rw [hmm] at c2 hm hm'
        have c2 : chainFrom an m0.1 (l.map (·.1)) = true := c2
        exact chainFrom_get c2 q m.1 m'.1 (by rw [← List.map_cons (f := fun x : Nat × Oper => x.1), List.getElem?_map, hm]; rfl) (by rw [← List.map_cons (f := fun x : Nat × Oper => x.1), List.getElem?_map, hm']; rfl)
    · have := List.all_eq_true.1 c4 it hit
      unfold itOk at this
      rw [Bool.and_eq_true] at this
      have := this.1
      rw [hn] at this
      simp only at this
      rw [List.getElem?_map] at this
      cases hm : p.ms[n]? with
      | none => rw [hm] at this; cases this
      | some m => rw [hm] at this; exact ⟨m, rfl, this⟩
    · have := List.all_eq_true.1 c4 it hit
      unfold itOk at this
      rw [Bool.and_eq_true] at this
      have := this.2
      rw [List.getElem?_map, hm] at this
      exact this
    · have hpw : p.ms.Pairwise (fun a b => a.1 < b.1) := by rw [hms]; exact nblt.filter _
      rw [List.pairwise_iff_getElem] at hpw
      obtain ⟨l1, g1⟩ := List.getElem?_eq_some_iff.1 hm
      obtain ⟨l2, g2⟩ := List.getElem?_eq_some_iff.1 hm'
      rcases Nat.lt_trichotomy q q' with hlt | rfl | hlt
      · have := hpw q q' l1 l2 hlt; rw [g1, g2] at this; omega
      · rfl
      · have := hpw q' q l2 l1 hlt; rw [g1, g2] at this; omega
end Go.EvM
namespace Go.EvM
set_option linter.unusedSectionVars false
variable [GLs]
open Go.RowKit
set_option linter.unusedVariables false
variable {P : Program} {cx : Cx}
theorem Rel.grow {W : World} {μ : Mu} {h h' : Hp} {w : World} (R : Rel W μ h w) (g : Grow h h') : Rel W μ h' w :=
  ⟨R.gl, fun b i hb => Nat.lt_of_lt_of_le (R.dom b i hb) g.1, fun b i o hb ho => R.ob b i o hb (by rw [← g.2 b (R.dom b i hb)]; exact ho),
   fun b c i j o p hb hc ho hp => R.inj b c i j o p hb hc (by rw [← g.2 b (R.dom b i hb)]; exact ho) (by rw [← g.2 c (R.dom c j hc)]; exact hp), R.below⟩
noncomputable def atS (recs : List Rc) (sf : St) (p : Nat) : St := match recs[p]? with | some r => r.s | none => sf
theorem atS_some {recs : List Rc} {sf : St} {p : Nat} {r : Rc} (h : recs[p]? = some r) : atS recs sf p = r.s := by simp [atS, h]
theorem atS_len (recs : List Rc) (sf : St) : atS recs sf recs.length = sf := by simp [atS]
theorem chain_first : ∀ {recs : List Rc} {s sf : St}, Chain s recs sf → atS recs sf 0 = s
  | [], _, _, h => by cases h; rfl
  | r :: l, _, _, h => h.1
theorem chain_next : ∀ {recs : List Rc} {s sf : St}, Chain s recs sf → ∀ {p : Nat} {r : Rc}, recs[p]? = some r → atS recs sf (p + 1) = r.s'
  | [], _, _, _, _, _, h => by simp at h
  | x :: l, s, sf, hc, 0, r, h => by
    simp at h; subst h
    have := chain_first hc.2
    simpa [atS] using this
  | x :: l, s, sf, hc, p + 1, r, h => by
    have := chain_next hc.2 (p := p) (r := r) (by simpa using h)
    simpa [atS] using this
structure RF (r : Rc) : Prop where
  n : r.s'.n = r.s.n
  hn : r.s.H.n ≤ r.s'.H.n
  sl : ∀ t, r.o.dst ≠ some t → slot r.s'.T t = slot r.s.T t
theorem quiet_facts {ops : List Oper} {L : (Env → Hp → Option Value) → Tr Value → Value → Nat → Prop} {M : Nat → Ob → Nat → Prop} {r : Rc} (h : QuietW cx ops L M r) : RF r := by
  rcases h with ⟨_, h⟩ | ⟨_, ⟨f, v, _, _, h⟩ | ⟨f, v, _, _, h⟩ | ⟨f, m, _, _, _, h⟩⟩ <;> obtain ⟨h1, h2, _, h4, _⟩ := setD_facts h <;>
    exact ⟨h2, by rw [h1]; first | exact Nat.le_refl _ | exact Nat.le_succ _, h4⟩
section
variable {recs : List Rc} {s sf : St} (hc : Chain s recs sf) (hf : ∀ (p : Nat) (r : Rc), recs[p]? = some r → RF r)
include hc hf
theorem chain_n : ∀ p, p ≤ recs.length → (atS recs sf p).n = s.n
  | 0, _ => by rw [chain_first hc]
  | p + 1, h => by
    have hr : recs[p]? = some recs[p] := List.getElem?_eq_getElem (by omega)
    rw [chain_next hc hr, (hf p _ hr).n, ← atS_some (sf := sf) hr]
    exact chain_n p (by omega)
theorem chain_slot {t : Nat} {p : Nat} : ∀ k, p + k ≤ recs.length → (∀ x r, recs[x]? = some r → p ≤ x → x < p + k → r.o.dst ≠ some t) → slot (atS recs sf (p + k)).T t = slot (atS recs sf p).T t
  | 0, _, _ => rfl
  | k + 1, h, g => by
    have hr : recs[p + k]? = some recs[p + k] := List.getElem?_eq_getElem (by omega)
    rw [← Nat.add_assoc, chain_next hc hr, (hf _ _ hr).sl t (g _ _ hr (by omega) (by omega)), ← atS_some (sf := sf) hr]
    exact chain_slot k (by omega) fun x r hx h1 h2 => g x r hx h1 (by omega)
theorem chain_mono {p : Nat} : ∀ k, p + k ≤ recs.length → (atS recs sf p).H.n ≤ (atS recs sf (p + k)).H.n
  | 0, _ => Nat.le_refl _
  | k + 1, h => by
    have hr : recs[p + k]? = some recs[p + k] := List.getElem?_eq_getElem (by omega)
    have := chain_mono (p := p) k (by omega)
    rw [← Nat.add_assoc, chain_next hc hr]
    refine Nat.le_trans this ?_
    rw [atS_some hr]
    exact (hf _ _ hr).hn
theorem chain_lt {p q : Nat} {r r' : Rc} (hr : recs[p]? = some r) (hr' : recs[q]? = some r') (h : p < q) : r.s'.H.n ≤ r'.s.H.n := by
  have hq : q < recs.length := (List.getElem?_eq_some_iff.1 hr').1
  have := chain_mono hc hf (p := p + 1) (q - (p + 1)) (by omega)
  rw [show p + 1 + (q - (p + 1)) = q by omega, chain_next hc hr, atS_some hr'] at this
  exact this
end
theorem want_ok' {μ : Mu} {T : Tr Value} {tmps : Array Value} (ops : Array Oper) (o : Oper) (h : ∀ t ∈ looks ops.toList o, VR μ (slot T t) (tmps.getD t undef)) : Region.wanted o (yielded ops tmps) = wantT T ops.toList o.guard := by
  unfold Region.wanted wantT
  cases hgd : o.guard with
  | none => rfl
  | some g =>
    obtain ⟨j, w⟩ := g
    simp only [yielded, nth_eq, Array.getElem?_toList]
    cases ho : ops[j]? with
    | none => simp
    | some p =>
      simp only [Option.bind_some]
      cases hd : p.dst with
      | none => simp
      | some d =>
        simp only [Option.bind_some]
        have ht := h d (by unfold looks; rw [hgd]; simp [ho, hd])
        simp only [slot, Array.getD_eq_getD_getElem?] at ht
        cases hg : T.get d with
        | none =>
          rw [hg] at ht
          cases hq : tmps[d]? with
          | none => simp
          | some v =>
            rw [hq] at ht; simp at ht
            cases ht with
            | tuple _ => rfl
        | some u =>
          rw [hg] at ht
          cases hq : tmps[d]? with
          | none =>
            rw [hq] at ht; simp at ht
            cases ht with
            | tuple _ => rfl
          | some v =>
            rw [hq] at ht; simp at ht
            cases ht <;> first
              | rfl
              | (rename_i b; cases b <;> cases w <;> rfl)
theorem looks_ops {μ : Mu} {T : Tr Value} {a : Act} (ops : Array Oper) (o : Oper) (h : ∀ t ∈ looks ops.toList o, VR μ (slot T t) (a.tmps.getD t undef)) (ho : ∀ x ∈ o.op.operands.toList, okOpnd x = true) : Ops o μ (evO T) a.eval := by
  intro x hx
  have hk := ho x hx
  cases x with
  | tmp t =>
    have := h t (by unfold looks; exact List.mem_append_right _ (List.mem_filterMap.2 ⟨.tmp t, hx, rfl⟩))
    exact this
  | const v => exact plain_VR μ 4 v hk
  | global g => exact .gptr g 0
  | func f => exact .func f .nil .nil
abbrev Sd (listed : Array Bool) (i : Nat) : Prop := listed.getD i false = true
def Makes (cx : Cx) (ops : List Oper) (r : Rc) : Prop := wantT r.s.T ops r.o.guard = true ∧ ∃ f, cls cx r.o = .make f
structure Inv (cx : Cx) (ops : Array Oper) (an : List Nat) (ms : List (Nat × Oper)) (recs : List Rc) (s sf : St) (Hs : Nat → Hp) (Ds : Nat → List Dfr) (W : World) (μ0 : Mu)
    (S : Nat → Prop) (j : Nat) (μ : Mu) (a : Act) (w : World) : Prop where
  jle : j ≤ ms.length
  pre : ∀ (q : Nat) (m : Nat × Oper), ms[q]? = some m → (S m.1 ↔ q < j)
  down : ∀ i, S i → ∀ x, bit (maskAt an i) x = true → S x
  slots : ∀ p t, p ≤ recs.length → (p = recs.length ∨ ∃ r, recs[p]? = some r ∧ ¬ S r.i ∧ t ∈ looks ops.toList r.o) → (∀ q r, recs[q]? = some r → q < p → r.o.dst = some t → S r.i) →
    VR μ (slot (atS recs sf p).T t) (a.tmps.getD t undef)
  size : a.tmps.size = s.n
  dfr : DfrR μ (Ds j) a.defers
  rel : Rel W μ (Hs j) w
  ext : Ext s.H.n μ0 μ
  hn : s.H.n ≤ (Hs j).n
  pend : ∀ r ∈ recs, Makes cx ops.toList r → ¬ S r.i → r.lo ≤ j → μ r.s.H.n = none
section
variable {ops : Array Oper} {an : List Nat} {its : List It} {ms : List (Nat × Oper)} {recs : List Rc} {s sf : St} {Hs : Nat → Hp} {Ds : Nat → List Dfr} {W : World} {μ0 : Mu} {call : Caller}
theorem Inv.put_slots (F : PF cx ops an its ms recs) (hc : Chain s recs sf) (hf : ∀ (p : Nat) (r : Rc), recs[p]? = some r → RF r)
    {S : Nat → Prop} {j : Nat} {μ : Mu} {a : Act} {w : World} (I : Inv cx ops an ms recs s sf Hs Ds W μ0 S j μ a w) {p : Nat} {r : Rc} (hr : recs[p]? = some r) (hS : ¬ S r.i) (hanc : ∀ x, bit (maskAt an r.i) x = true → S x)
    {μ' : Mu} {a' : Act} {v' : Value} (ha : a'.tmps = a.tmps) (hle : Le μ μ') (hv : ∀ t, r.o.dst = some t → VR μ' (slot r.s'.T t) v' ∧ t < s.n) :
    ∀ p' t, p' ≤ recs.length → (p' = recs.length ∨ ∃ r', recs[p']? = some r' ∧ ¬ (S r'.i ∨ r'.i = r.i) ∧ t ∈ looks ops.toList r'.o) → (∀ q r', recs[q]? = some r' → q < p' → r'.o.dst = some t → S r'.i ∨ r'.i = r.i) →
      VR μ' (slot (atS recs sf p').T t) ((a'.put r.o.dst v').tmps.getD t undef) := by
  intro p' t hp' hw hall
  have hp : p < recs.length := (List.getElem?_eq_some_iff.1 hr).1
  have pos_lt : ∀ {q x : Nat} {r' : Rc}, recs[q]? = some r' → bit (maskAt an r'.i) x = true → ∀ {q' : Nat} {r'' : Rc}, recs[q']? = some r'' → r''.i = x → q' < q := fun {q x r'} hq hb {q' r''} hq' e => by
    obtain ⟨q2, r2, h1, h2, h3⟩ := F.anc q r' hq x hb
    have := F.uniq q' q2 r'' r2 hq' h2 (e.trans h3.symm)
    omega
  by_cases hd : r.o.dst = some t
  · obtain ⟨hv, htn⟩ := hv t hd
    have hlt : p < p' := by
      rcases hw with rfl | ⟨r', h1, h2, h3⟩
      · exact hp
      · have hne : p ≠ p' := fun e => by subst e; rw [hr] at h1; cases h1; exact h2 (.inr rfl)
        rcases F.cmp p p' r r' hr h1 hne with h | h | h
        · exact pos_lt h1 h hr rfl
        · exact absurd (.inl (hanc _ h)) h2
        · exact absurd h3 (h.1 t hd).1
    have hslot : slot (atS recs sf p').T t = slot r.s'.T t := by
      have := chain_slot hc hf (t := t) (p := p + 1) (p' - (p + 1)) (by omega) fun x rx hx h1 h2 hdx => by
        have hSx := (hall x rx hx (by omega) hdx)
        have hnx : p ≠ x := by omega
        have hSx : S rx.i := hSx.resolve_right fun e => hnx (F.uniq _ _ _ _ hr hx e.symm)
        rcases F.cmp p x r rx hr hx hnx with h | h | h
        · exact hS (I.down _ hSx _ h)
        · have := pos_lt hr h hx rfl; omega
        · exact (h.1 t hd).2 hdx
      rw [show p + 1 + (p' - (p + 1)) = p' by omega, chain_next hc hr] at this
      exact this
    rw [hslot, hd]
    have : t < a'.tmps.size := by rw [ha, I.size]; exact htn
    simpa [Act.put, this] using hv
  · have hold := I.slots p' t hp' (hw.imp id fun ⟨r', h1, h2, h3⟩ => ⟨r', h1, fun h => h2 (.inl h), h3⟩) fun q r' hq hlt hdq => (hall q r' hq hlt hdq).resolve_right fun e => by
      have := F.uniq _ _ _ _ hq hr e; subst this; rw [hr] at hq; cases hq; exact hd hdq
    have : (a'.put r.o.dst v').tmps.getD t undef = a.tmps.getD t undef := by
      cases hdd : r.o.dst with
      | none => simp [Act.put, ha]
      | some d =>
        have hne : d ≠ t := fun e => hd (by rw [hdd, e])
        simp only [Act.put, ha, Array.getD_eq_getD_getElem?]
        rw [Array.getElem?_setIfInBounds_ne hne]
    rw [this]
    exact hold.mono hle
theorem put_size {a : Act} {d : Option Tmp} {v : Value} : (a.put d v).tmps.size = a.tmps.size := by cases d <;> simp [Act.put]
theorem put_dfr {a : Act} {d : Option Tmp} {v : Value} : (a.put d v).defers = a.defers := by cases d <;> rfl
theorem Inv.looks (F : PF cx ops an its ms recs) {S : Nat → Prop} {j : Nat} {μ : Mu} {a : Act} {w : World} (I : Inv cx ops an ms recs s sf Hs Ds W μ0 S j μ a w) {p : Nat} {r : Rc} (hr : recs[p]? = some r) (hS : ¬ S r.i)
    (hanc : ∀ x, bit (maskAt an r.i) x = true → S x) : ∀ t ∈ looks ops.toList r.o, VR μ (slot r.s.T t) (a.tmps.getD t undef) := by
  intro t ht
  have hp : p < recs.length := (List.getElem?_eq_some_iff.1 hr).1
  rw [← atS_some (sf := sf) hr]
  refine I.slots p t (by omega) (.inr ⟨r, hr, hS, ht⟩) fun q rq hq hlt hd => ?_
  rcases F.cmp q p rq r hq hr (by omega) with h | h | h
  · exact hanc _ h
  · obtain ⟨q2, r2, h1, h2, h3⟩ := F.anc q rq hq _ h
    have := F.uniq p q2 r r2 hr h2 h3.symm
    omega
  · exact absurd ht (h.1 t hd).1
theorem Inv.imp {S S' : Nat → Prop} (h : ∀ i, S' i ↔ S i) {j : Nat} {μ : Mu} {a : Act} {w : World} (I : Inv cx ops an ms recs s sf Hs Ds W μ0 S j μ a w) : Inv cx ops an ms recs s sf Hs Ds W μ0 S' j μ a w := by
  have : S' = S := funext fun i => propext (h i)
  rw [this]; exact I
theorem quiet_ok (C : CxOk P cx) (F : PF cx ops an its ms recs) (hc : Chain s recs sf) (hf : ∀ (p : Nat) (r : Rc), recs[p]? = some r → RF r) (hmk : ∀ r ∈ recs, Makes cx ops.toList r → r.s.H.n < r.s'.H.n)
    {S : Nat → Prop} {j : Nat} {μ : Mu} {a : Act} {w : World} (I : Inv cx ops an ms recs s sf Hs Ds W μ0 S j μ a w) {p : Nat} {r : Rc} (hr : recs[p]? = some r) (hS : ¬ S r.i) (hanc : ∀ x, bit (maskAt an r.i) x = true → S x)
    (hq : Quiet cx ops.toList its Hs ms.length r) {Q : Exit → Act → World → Prop} {K : Act → World → Prop}
    (hk : ∀ a' w' μ', Inv cx ops an ms recs s sf Hs Ds W μ0 (fun i => S i ∨ i = r.i) j μ' a' w' → K a' w') : wpOp P ops Q r.i K a w := by
  obtain ⟨⟨it, hit, ei, elo, ehi⟩, hcount, hw⟩ := hq
  have hop := F.op p r hr
  have hito := F.itop it hit
  have hoo : it.o = r.o := by rw [ei, hop] at hito; exact (Option.some.inj hito.1).symm
  have hnm : isM cx r.o = false := by rw [← hoo]; exact hito.2
  have hlo : r.lo ≤ j := by
    cases hl : r.lo with
    | zero => omega
    | succ n =>
      obtain ⟨m, h1, h2⟩ := F.itlo it hit n (by rw [elo, hl])
      rw [ei] at h2
      have := (I.pre n m h1).1 (hanc _ h2)
      omega
  have hhi : j ≤ r.hi := by
    refine Nat.le_of_not_lt fun hlt => ?_
    have hjl := I.jle
    obtain ⟨m, hm⟩ : ∃ m, ms[r.hi]? = some m := ⟨_, List.getElem?_eq_getElem (by omega)⟩
    have := F.ithi it hit m (by rw [ehi]; exact hm)
    rw [ei] at this
    exact hS (I.down _ ((I.pre _ m hm).2 hlt) _ this)
  have hlooks := I.looks F hr hS hanc
  have hwant := want_ok' ops r.o hlooks
  have hops : (∀ x ∈ r.o.op.operands.toList, okOpnd x = true) → Ops r.o μ (evO r.s.T) a.eval := fun h => looks_ops ops r.o hlooks h
  have pre' : ∀ (q : Nat) (m : Nat × Oper), ms[q]? = some m → ((S m.1 ∨ m.1 = r.i) ↔ q < j) := fun q m hm => by
    have hmo := F.msop m (List.mem_of_getElem? hm)
    have hne : m.1 ≠ r.i := fun e => by
      rw [e, hop] at hmo
      have h1 := Option.some.inj hmo.1
      rw [← h1, hnm] at hmo; exact absurd hmo.2 (by simp)
    simp only [hne, or_false]
    exact I.pre q m hm
  have down' : ∀ i, (S i ∨ i = r.i) → ∀ x, bit (maskAt an i) x = true → S x ∨ x = r.i := fun i hi x hx => by
    rcases hi with h | rfl
    · exact .inl (I.down i h x hx)
    · exact .inl (hanc x hx)
  have hsn : r.s.n = s.n := by rw [← atS_some (sf := sf) hr]; exact chain_n hc hf p (Nat.le_of_lt (List.getElem?_eq_some_iff.1 hr).1)
  have calm : ∀ v v', VR μ v v' → (∀ t, r.o.dst = some t → slot r.s'.T t = v ∧ t < r.s.n) → K (a.put r.o.dst v') w := fun v v' hv hd => by
    refine hk _ _ μ ⟨I.jle, pre', down', ?_, by rw [put_size]; exact I.size, by rw [put_dfr]; exact I.dfr, I.rel, I.ext, I.hn, fun r2 h1 h2 h3 h4 => I.pend r2 h1 h2 (fun h => h3 (.inl h)) h4⟩
    exact I.put_slots F hc hf hr hS hanc rfl (Le.refl _) fun t ht => by
      obtain ⟨h1, h2⟩ := hd t ht
      rw [h1, ← hsn]; exact ⟨hv, h2⟩
  unfold wpOp
  simp only [hop]
  rw [hwant]
  rcases hw with ⟨hw, hset⟩ | ⟨hw, hw2⟩
  · rw [hw]
    obtain ⟨_, _, _, _, h5⟩ := setD_facts hset
    exact calm undef undef (undefR μ) h5
  · rw [hw]
    refine .inl ?_
    have hcls := cls_ok C r.o
    have hopn := cls_opnd (cx := cx) (o := r.o)
    unfold Oper.wp
    rcases hw2 with ⟨f, v, h1, h2, h3⟩ | ⟨f, v, h1, h2, h3⟩ | ⟨f, m, h1, h2, h3, h4⟩
    · rw [h1] at hcls hopn
      obtain ⟨_, _, _, _, h5⟩ := setD_facts h3
      obtain ⟨v', hrun, hvr⟩ := hcls μ _ _ w v (hops (hopn (by simp))) h2
      rw [hrun]
      exact calm v v' hvr h5
    · rw [h1] at hcls hopn
      obtain ⟨_, _, _, _, h5⟩ := setD_facts h3
      obtain ⟨v', hrun, hvr⟩ := hcls W μ _ _ (Hs j) w v (hops (hopn (by simp))) I.rel (h2 j hlo hhi I.jle)
      rw [hrun]
      exact calm v v' hvr h5
    · rw [h1] at hcls hopn
      obtain ⟨g1, _, _, _, h5⟩ := setD_facts h4
      obtain ⟨v', w', bi, hrun, q1, q2, q3, q4, q5, q6⟩ := hcls W μ _ _ (Hs j) w m (hops (hopn (by simp))) I.rel h2
      have hfr : μ r.s.H.n = none := I.pend r (List.mem_of_getElem? hr) ⟨hw, f, h1⟩ hS hlo
      obtain ⟨p1, p2⟩ := q6 _ hfr
      have hnn : r.s'.H.n = r.s.H.n + 1 := by rw [g1]
      have hbn : r.s.H.n < (Hs j).n := by have := hcount j hlo I.jle; omega
      rw [hrun]
      refine hk _ _ (μ.set r.s.H.n bi) ⟨I.jle, pre', down', ?_, by rw [put_size]; exact I.size, by rw [put_dfr]; exact I.dfr.mono (Mu.le_set hfr),
        I.rel.alloc hfr q1 (Nat.le_refl _) hbn (h3 j hlo hhi I.jle) (fun c k hck => rfl) q2 q3 q4 q5 p2, I.ext.trans (m := s.H.n) (Mu.ext_set hfr ?_) (Nat.le_refl _), I.hn, fun r2 z1 z2 z3 z4 => ?_⟩
      · exact I.put_slots F hc hf hr hS hanc rfl (Mu.le_set hfr) fun t ht => by
          obtain ⟨y1, y2⟩ := h5 t ht
          rw [y1, ← hsn]; exact ⟨p1, y2⟩
      · have := chain_mono hc hf (p := 0) p (by have := (List.getElem?_eq_some_iff.1 hr).1; omega)
        rw [chain_first hc, Nat.zero_add, atS_some hr] at this
        exact this
      · have hold := I.pend r2 z1 z2 (fun h => z3 (.inl h)) z4
        have hne : r2.s.H.n ≠ r.s.H.n := by
          obtain ⟨q, hlq, hq⟩ := List.getElem_of_mem z1
          have hq : recs[q]? = some r2 := by rw [List.getElem?_eq_getElem hlq, hq]
          have hqp : q ≠ p := fun e => by subst e; rw [hr] at hq; cases hq; exact z3 (.inr rfl)
          rcases Nat.lt_or_gt_of_ne hqp with hlt | hlt
          · have h9 := chain_lt hc hf hq hr hlt
            have := hmk r2 z1 z2
            omega
          · have := chain_lt hc hf hr hq hlt; omega
        unfold Mu.set
        rw [if_neg hne]
        exact hold
theorem acts_ok (C : CxOk P cx) (hcall : CallSound P call) (F : PF cx ops an its ms recs) (hc : Chain s recs sf) (hf : ∀ (p : Nat) (r : Rc), recs[p]? = some r → RF r) (hmk : ∀ r ∈ recs, Makes cx ops.toList r → r.s.H.n < r.s'.H.n)
    (hall : ∀ r ∈ recs, Quiet cx ops.toList its Hs ms.length r ∨ Acts cx call ops.toList ms 0 Hs Ds r)
    {S : Nat → Prop} {j : Nat} {μ : Mu} {a : Act} {w : World} (I : Inv cx ops an ms recs s sf Hs Ds W μ0 S j μ a w) {p : Nat} {r : Rc} (hr : recs[p]? = some r) (hS : ¬ S r.i) (hanc : ∀ x, bit (maskAt an r.i) x = true → S x)
    (hq : Acts cx call ops.toList ms 0 Hs Ds r) {Q : Exit → Act → World → Prop} {K : Act → World → Prop}
    (hk : ∀ a' w' μ' j', Inv cx ops an ms recs s sf Hs Ds W μ0 (fun i => S i ∨ i = r.i) j' μ' a' w' → K a' w') : wpOp P ops Q r.i K a w := by
  obtain ⟨q, hmq, hstep, e1, e2, e3, e4, e5⟩ := hq
  simp only [Nat.zero_add] at e1 e2 e3 e4
  have hop := F.op p r hr
  have hqlt : q < ms.length := (List.getElem?_eq_some_iff.1 hmq).1
  have hqj : q = j := by
    have h1 : ¬ q < j := fun h => hS ((I.pre q _ hmq).2 h)
    refine Nat.le_antisymm (Nat.le_of_not_lt fun h => ?_) (Nat.le_of_not_lt h1)
    obtain ⟨k, rfl⟩ : ∃ k, q = k + 1 := ⟨q - 1, by omega⟩
    obtain ⟨m, hm⟩ : ∃ m, ms[k]? = some m := ⟨_, List.getElem?_eq_getElem (by omega)⟩
    have := (I.pre k m hm).1 (hanc _ (F.chain k m _ hm hmq))
    omega
  subst hqj
  have hlooks := I.looks F hr hS hanc
  have hwant := want_ok' ops r.o hlooks
  have pre' : ∀ (q' : Nat) (m : Nat × Oper), ms[q']? = some m → ((S m.1 ∨ m.1 = r.i) ↔ q' < q + 1) := fun q' m hm => by
    have h1 := I.pre q' m hm
    constructor
    · rintro (h | h)
      · have := h1.1 h; omega
      · have := F.msuniq q' q m _ hm hmq h; omega
    · intro h
      rcases Nat.lt_or_eq_of_le (Nat.le_of_lt_succ h) with h | rfl
      · exact .inl (h1.2 h)
      · rw [hmq] at hm; cases hm; exact .inr rfl
  have down' : ∀ i, (S i ∨ i = r.i) → ∀ x, bit (maskAt an i) x = true → S x ∨ x = r.i := fun i hi x hx => by
    rcases hi with h | rfl
    · exact .inl (I.down i h x hx)
    · exact .inl (hanc x hx)
  have hsn : r.s.n = s.n := by rw [← atS_some (sf := sf) hr]; exact chain_n hc hf p (Nat.le_of_lt (List.getElem?_eq_some_iff.1 hr).1)
  have next : ∀ (a' : Act) (v' : Value) (w' : World) (μ' : Mu), a'.tmps = a.tmps → (∀ t, r.o.dst = some t → VR μ' (slot r.s'.T t) v' ∧ t < r.s.n) → DfrR μ' r.s'.D a'.defers → Rel W μ' r.s'.H w' → Ext r.s.H.n μ μ' → K (a'.put r.o.dst v') w' := by
    intro a' v' w' μ' ha hd hdf hrel hext
    refine hk _ _ μ' (q + 1) ⟨hqlt, pre', down', ?_, by rw [put_size, ha]; exact I.size, by rw [put_dfr, e4]; exact hdf, hrel.grow e3, I.ext.trans hext (by rw [e1]; exact I.hn), ?_, fun r2 z1 z2 z3 z4 => ?_⟩
    · exact I.put_slots F hc hf hr hS hanc ha hext.le fun t ht => by
        obtain ⟨h1, h2⟩ := hd t ht
        rw [← hsn]; exact ⟨h1, h2⟩
    · have := I.hn; rw [← e1] at this; exact Nat.le_trans this (Nat.le_trans e5 e3.1)
    · obtain ⟨x, hlx, hx⟩ := List.getElem_of_mem z1
      have hx : recs[x]? = some r2 := by rw [List.getElem?_eq_getElem hlx, hx]
      obtain ⟨⟨it, hit, ei, elo, ehi⟩, hcount, _⟩ : Quiet cx ops.toList its Hs ms.length r2 := (hall r2 z1).resolve_right fun ⟨q', h1, _⟩ => by
        have hmo := (F.msop _ (List.mem_of_getElem? h1)).2
        obtain ⟨_, f, hf2⟩ := z2
        unfold isM at hmo; rw [hf2] at hmo; cases hmo
      rcases Nat.lt_or_eq_of_le z4 with hlt | heq
      · have hold := I.pend r2 z1 z2 (fun h => z3 (.inl h)) (by omega)
        cases hm : μ' r2.s.H.n with
        | none => rfl
        | some i =>
          rcases hext.new _ _ hm with h | h
          · rw [hold] at h; cases h
          · have h1 := hmk r2 z1 z2
            have h2 := hcount q (by omega) (by omega)
            rw [e1] at h; omega
      · obtain ⟨m, h1, h2⟩ := F.itlo it hit q (by rw [elo]; exact heq)
        rw [hmq] at h1; cases h1
        rw [ei] at h2
        obtain ⟨q2, r3, y1, y2, y3⟩ := F.anc x r2 hx _ h2
        have := F.uniq p q2 r r3 hr y2 y3.symm
        subst this
        exact hrel.fresh (chain_lt hc hf hr hx y1)
  rcases hs0 : r.s with ⟨n, T, D, H⟩
  rw [hs0] at hstep hwant
  unfold stepOp at hstep
  dsimp only at hstep hwant
  have hR : Rel W μ H w := by have := I.rel; rw [← e1, hs0] at this; exact this
  have hDf : DfrR μ D a.defers := by have := I.dfr; rw [← e2, hs0] at this; exact this
  unfold wpOp
  simp only [hop]
  rw [hwant]
  cases hw : wantT T ops.toList r.o.guard with
  | true =>
    rw [hw] at hstep
    simp only [cond_true] at hstep
    unfold stepCls at hstep
    dsimp only at hstep
    refine .inl ?_
    split at hstep
    · rename_i v d h' hres
      obtain ⟨g1, g2, g3, g4, g5⟩ := setD_facts hstep
      refine res_ok C hcall hres (fun ho => ?_) hDf hR fun a' v' w' μ' y1 y2 y3 y4 y5 y6 _ => ?_
      · have := looks_ops ops r.o hlooks ho; rw [hs0] at this; exact this
      · refine next a' v' w' μ' y1 (fun t ht => ?_) (by rw [g3]; exact y3) (by rw [g1]; exact y4) (by rw [hs0]; exact y5)
        obtain ⟨z1, z2⟩ := g5 t ht
        rw [z1]; exact ⟨y2, by rw [hs0]; exact z2⟩
    · cases hstep
  | false =>
    rw [hw] at hstep
    simp only [cond_false] at hstep
    obtain ⟨g1, g2, g3, g4, g5⟩ := setD_facts hstep
    refine next a undef w μ rfl (fun t ht => ?_) (by rw [g3]; exact hDf) (by rw [g1]; exact hR) (Ext.refl _ _)
    obtain ⟨z1, z2⟩ := g5 t ht
    rw [z1]; exact ⟨undefR μ, by rw [hs0]; exact z2⟩
theorem sd_set {listed : Array Bool} {i : Nat} (hi : i < listed.size) (x : Nat) : Sd (listed.setIfInBounds i true) x ↔ Sd listed x ∨ x = i := by
  unfold Sd
  by_cases h : i = x
  · subst h; simp [hi]
  · rw [getD_set_ne false h]
    have : x ≠ i := fun e => h e.symm
    simp [this]
theorem draw_go (C : CxOk P cx) (hcall : CallSound P call) (F : PF cx ops an its ms recs) (hc : Chain s recs sf) (hf : ∀ (p : Nat) (r : Rc), recs[p]? = some r → RF r) (hmk : ∀ r ∈ recs, Makes cx ops.toList r → r.s.H.n < r.s'.H.n)
    (hall : ∀ r ∈ recs, Quiet cx ops.toList its Hs ms.length r ∨ Acts cx call ops.toList ms 0 Hs Ds r) (hH : Hs ms.length = sf.H) (hD : Ds ms.length = sf.D)
    {Q : Exit → Act → World → Prop} (hq : ∀ a' w', Went W μ0 s sf a' w' → Q .normal a' w') :
    ∀ (fuel : Nat) (R : List Nat) (listed : Array Bool) (j : Nat) (μ : Mu) (a : Act) (w : World), R.length ≤ fuel → (∀ i, i < ops.size → ¬ Sd listed i → i ∈ R) → listed.size = ops.size →
      Inv cx ops an ms recs s sf Hs Ds W μ0 (Sd listed) j μ a w → wpAny P .any ops Q fuel listed a w := by
  have fin : ∀ (listed : Array Bool) (j : Nat) (μ : Mu) (a : Act) (w : World), (∀ i, i < ops.size → Sd listed i) → Inv cx ops an ms recs s sf Hs Ds W μ0 (Sd listed) j μ a w → Q .normal a w := by
    intro listed j μ a w hS I
    have hj : j = ms.length := by
      refine Nat.le_antisymm I.jle (Nat.le_of_not_lt fun hlt => ?_)
      have hm : ms[j]? = some ms[j] := List.getElem?_eq_getElem hlt
      have := (I.pre j _ hm).1 (hS _ (Array.getElem?_eq_some_iff.1 (F.msop _ (List.mem_of_getElem? hm)).1).1)
      omega
    subst hj
    refine hq a w ⟨μ, ⟨?_, fun t => ?_, by rw [← hD]; exact I.dfr⟩, by rw [← hH]; exact I.rel, I.ext, by rw [← hH]; exact I.hn⟩
    · have := chain_n hc hf recs.length (Nat.le_refl _)
      rw [atS_len] at this
      rw [this]; exact I.size
    · have := I.slots recs.length t (Nat.le_refl _) (.inl rfl) fun q r hr _ _ => hS _ (Array.getElem?_eq_some_iff.1 (F.op q r hr)).1
      rw [atS_len] at this
      exact this
  intro fuel
  induction fuel with
  | zero =>
    intro R listed j μ a w hR hm hsz I
    have hnil : R = [] := List.length_eq_zero_iff.1 (Nat.le_zero.1 hR)
    subst hnil
    have hS : ∀ i, i < ops.size → Sd listed i := fun i hi => Classical.byContradiction fun h => absurd (hm i hi h) (by simp)
    refine ⟨?_, fin listed j μ a w hS I⟩
    rw [List.eq_nil_iff_forall_not_mem]
    intro i hi
    obtain ⟨h1, o, h2, _⟩ := mem_ready.1 hi
    have hlt := (Array.getElem?_eq_some_iff.1 h2).1
    have := hS i hlt
    unfold Sd at this
    simp [hsz, hlt] at h1 this
    rw [h1] at this; cases this
  | succ fuel ih =>
    intro R listed j μ a w hR hm hsz I
    have hgd : ∀ i, i < ops.size → (listed.getD i true = false ↔ ¬ Sd listed i) := fun i hi => by
      have hi : i < listed.size := by omega
      unfold Sd; simp [hi]
    refine ⟨fun hnil => fin listed j μ a w ?_ I, fun i hi => ?_⟩
    · have : ∀ (p : Nat) (r : Rc), recs[p]? = some r → Sd listed r.i := by
        intro p
        induction p using Nat.strongRecOn with
        | _ p ihp =>
          intro r hr
          refine Classical.byContradiction fun hS => ?_
          have hop := F.op p r hr
          have hlt := (Array.getElem?_eq_some_iff.1 hop).1
          have : r.i ∈ Region.ready .any ops listed := mem_ready.2 ⟨(hgd _ hlt).2 hS, r.o, hop, fun e he hb => by
            obtain ⟨q, r', h1, h2, h3⟩ := F.anc p r hr e.on ((F.clos _ _ hop e.on).2 ⟨e, he, hb, .inl rfl⟩)
            rw [← h3]; exact ihp q h1 r' h2⟩
          rw [hnil] at this; simp at this
      intro i hi
      obtain ⟨p, r, h1, rfl⟩ := F.full i hi
      exact this p r h1
    · obtain ⟨h1, o, h2, h3⟩ := mem_ready.1 hi
      have hlt := (Array.getElem?_eq_some_iff.1 h2).1
      obtain ⟨p, r, hr, rfl⟩ := F.full i hlt
      have hop := F.op p r hr
      have hS := (hgd _ hlt).1 h1
      have hanc : ∀ x, bit (maskAt an r.i) x = true → Sd listed x := fun x hx => by
        obtain ⟨e, he, hb, h⟩ := (F.clos _ _ h2 x).1 hx
        have hon := h3 e he hb
        rcases h with rfl | h
        · exact hon
        · exact I.down _ hon _ h
      have go : ∀ a' w' μ' j', Inv cx ops an ms recs s sf Hs Ds W μ0 (fun i => Sd listed i ∨ i = r.i) j' μ' a' w' → wpAny P .any ops Q fuel (listed.setIfInBounds r.i true) a' w' := fun a' w' μ' j' I' => by
        have hb : r.i < listed.size := by omega
        refine ih (R.erase r.i) _ j' μ' a' w' ?_ (fun x hx hn => ?_) (by simp [hsz]) (I'.imp fun x => sd_set hb x)
        · have := List.length_erase_of_mem (hm _ hlt hS); omega
        · rw [sd_set hb] at hn
          have hne : x ≠ r.i := fun e => hn (.inr e)
          exact (List.mem_erase_of_ne hne).2 (hm x hx fun h => hn (.inl h))
      rcases hall r (List.mem_of_getElem? hr) with hqt | hac
      · exact quiet_ok C F hc hf hmk I hr hS hanc hqt fun a' w' μ' I' => go a' w' μ' j I'
      · exact acts_ok C hcall F hc hf hmk hall I hr hS hanc hac go
end
theorem draw_ok (C : CxOk P cx) {call : Caller} (hcall : CallSound P call) {ops : Array Oper} {s sf : St} (e : runDraw cx call ops.toList s = .ok sf) {W : World} {μ : Mu} {a : Act} {w : World} (hA : ActR μ s a) (R : Rel W μ s.H w)
    {Q : Exit → Act → World → Prop} (hq : ∀ a' w', Went W μ s sf a' w' → Q .normal a' w') : wpAny P .any ops Q ops.size (Array.replicate ops.size false) a w := by
  unfold runDraw at e
  split at e
  · rename_i p hp
    obtain ⟨recs, Hs, Ds, t⟩ := drawSegs_spec e
    have F := planOf_ok hp t.ord
    have hall : ∀ r ∈ recs, Quiet cx ops.toList p.its Hs p.ms.length r ∨ Acts cx call ops.toList p.ms 0 Hs Ds r := fun r hr => by
      have := t.all r hr
      rw [Nat.zero_add] at this
      exact this.imp (fun h => h.1) id
    have hf : ∀ (q : Nat) (r : Rc), recs[q]? = some r → RF r := fun q r hr => by
      rcases hall r (List.mem_of_getElem? hr) with ⟨_, _, h⟩ | ⟨_, _, h, _, _, _, _, hn⟩
      · exact quiet_facts h
      · obtain ⟨h1, h2⟩ := stepOp_facts h
        exact ⟨h1, hn, h2⟩
    have hmk : ∀ r ∈ recs, Makes cx ops.toList r → r.s.H.n < r.s'.H.n := fun r hr ⟨hw, f, hcl⟩ => by
      rcases hall r hr with ⟨_, _, h⟩ | ⟨q, h1, _⟩
      · rcases h with ⟨h, _⟩ | ⟨_, ⟨_, _, h, _⟩ | ⟨_, _, h, _⟩ | ⟨f', m, h1, h2, h3, h4⟩⟩
        · rw [hw] at h; cases h
        · rw [hcl] at h; cases h
        · rw [hcl] at h; cases h
        · obtain ⟨g1, _⟩ := setD_facts h4
          rw [g1]; exact Nat.lt_succ_self _
      · have hmo := (F.msop _ (List.mem_of_getElem? h1)).2
        unfold isM at hmo; rw [hcl] at hmo; cases hmo
    have hJ := t.dj; have hHJ := t.hj
    rw [Nat.zero_add] at hJ hHJ
    have no : ∀ i, ¬ Sd (Array.replicate ops.size false) i := fun i h => by
      unfold Sd at h
      rw [Array.getD_eq_getD_getElem?, Array.getElem?_replicate] at h
      split at h <;> simp at h
    refine draw_go C hcall F t.chain hf hmk hall hHJ hJ hq ops.size (List.range ops.size) _ 0 μ a w (by simp) (fun i hi _ => List.mem_range.2 hi) (by simp) ⟨Nat.zero_le _, fun q m hm => ⟨fun h => absurd h (no _), fun h => absurd h (Nat.not_lt_zero _)⟩, fun i h => absurd h (no i), ?_, hA.size, by rw [t.d0]; exact hA.dfr, R.grow t.h0, Ext.refl _ _, t.h0.1, fun r hr hm _ hlo => ?_⟩
    · intro p' x hp' hw hall'
      have hs := chain_slot t.chain hf (t := x) (p := 0) p' (by omega) fun y ry hy _ hlt hd => no _ (hall' y ry hy (by omega) hd)
      rw [Nat.zero_add, chain_first t.chain] at hs
      rw [hs]
      exact hA.tmp x
    · obtain ⟨x, hlx, hx⟩ := List.getElem_of_mem hr
      have hx : recs[x]? = some r := by rw [List.getElem?_eq_getElem hlx, hx]
      have := chain_mono t.chain hf (p := 0) x (by omega)
      rw [Nat.zero_add, chain_first t.chain, atS_some hx] at this
      exact R.fresh this
  · cases e
end Go.EvM
namespace Go.EvM
set_option linter.unusedSectionVars false
variable [GLs]
open Go.RowKit
set_option linter.unusedVariables false
variable {P : Program} {cx : Cx}
def Ex.exit! : Ex → Exit
  | .norm => .normal
  | .exit i => .exit i
  | .ret => .ret
theorem Went.refl {W : World} {μ : Mu} {s : St} {a : Act} {w : World} (hA : ActR μ s a) (R : Rel W μ s.H w) : Went W μ s s a w := ⟨μ, hA, R, Ext.refl _ _, Nat.le_refl _⟩
structure FAll (F : Fence) (P : Program) : Prop where
  fn : ∀ f, F.fn f
  dep : F.depth.isSome = false
  calls : ∀ {f args w R}, Calls P f args w R → CallsIn F 0 P f args w R
  rows : ∀ {r args w R}, Rows P r args w R → RowsIn F 0 P r args w R
theorem wide_all (P : Program) : FAll Fence.wide P :=
  ⟨fun _ => trivial, rfl, fun h => callsIn_wide.2 h, fun h c cs _ => let ⟨v, w', r, s⟩ := h c cs; ⟨v, w', r, stepsIn_wide.2 s⟩⟩
theorem round_all (P : Program) (l : Nat) : FAll (Fence.wide.inRound l) P :=
  ⟨fun _ => trivial, rfl, fun h => (callsIn_wide (n := 0)).2 h, fun h => (wide_all P).rows h⟩
section
variable {F : Fence} (A : FAll F P) {ops : Array Oper} {Q : Exit → Act → World → Prop} (hQ : ¬ LetsOut Q)
include A
theorem oper_in {o : Oper} (ho : F.round = none ∨ noDef o = true) {a : Act} {w : World} {K : Act → World → Prop} (h : o.wp P a w K Q) : o.wpIn F 0 P a w K Q := by
  unfold Oper.wp at h
  refine ⟨fun _ _ => A.fn _, ?_⟩
  have hs : o.semAt F.round a.eval = execOp a.eval o := by
    rcases ho with ho | ho
    · rw [ho]; rfl
    · refine Oper.semAt_eq _ _ _ fun c hc => ?_
      unfold noDef at ho; rw [hc] at ho; cases ho
  rw [hs]
  generalize (execOp a.eval o).run P w = r at h ⊢
  cases r with
  | ok x w' =>
    cases x with
    | enter f args => exact ⟨fun hd => (by rw [A.dep] at hd; cases hd), A.calls h⟩
    | row r args => exact ⟨fun hd => (by rw [A.dep] at hd; cases hd), A.rows h⟩
    | _ => first | exact h | exact (h : False).elim
  | halt x w' => cases x <;> simp only [Oper.upon, Oper.uponIn] at h ⊢ <;> exact h
include hQ
theorem op_in (ho : ∀ o ∈ ops.toList, F.round = none ∨ noDef o = true) {i : Nat} {a : Act} {w : World} {K : Act → World → Prop} (h : wpOp P ops Q i K a w) : wpOpIn F 0 P ops Q i K a w := by
  unfold wpOp at h; unfold wpOpIn
  split
  · rename_i hi; simp only [hi] at h; exact h
  · rename_i o hi
    simp only [hi] at h
    split
    · rename_i hw
      simp only [hw, if_true] at h
      exact oper_in A (ho o (Array.mem_toList_iff.2 (Array.mem_of_getElem? hi))) (h.resolve_right fun x => hQ x.2)
    · rename_i hw
      simp only [hw] at h
      exact ⟨fun _ _ => A.fn _, h⟩
theorem ops_in (ho : ∀ o ∈ ops.toList, F.round = none ∨ noDef o = true) : ∀ (l : List Nat) (a : Act) (w : World), wpOps P ops Q l a w → wpOpsIn F 0 P ops Q l a w
  | [], _, _, h => h
  | i :: l, a, w, h => by
    rw [wpOps_cons] at h; rw [wpOpsIn_cons]
    exact wpOpIn_mono (fun a w => ops_in ho l a w) (op_in A hQ ho h)
theorem any_in (ho : ∀ o ∈ ops.toList, F.round = none ∨ noDef o = true) {md : Region.Mode} : ∀ (k : Nat) (b : Array Bool) (a : Act) (w : World), wpAny P md ops Q k b a w → wpAnyIn F 0 P md ops Q k b a w
  | 0, _, _, _, h => h
  | k + 1, b, a, w, h => ⟨h.1, fun i hi => wpOpIn_mono (fun a w => any_in ho k _ a w) (op_in A hQ ho (h.2 i hi))⟩
end
def InOk (F : Fence) (P : Program) (ev : St → CR) (c : Code) (G : Mu → Prop) : Prop :=
  ∀ (s : St) (e : Ex) (s' : St), ev s = .ok e s' → ∀ (W : World) (μ : Mu) (a : Act) (w : World), G μ → ActR μ s a → Rel W μ s.H w →
    ∀ Q : Exit → Act → World → Prop, (∀ a' w', Went W μ s s' a' w' → Q e.exit! a' w') → c.wpIn F 0 P Q a w
def Up (G : Mu → Prop) : Prop := ∀ {μ μ' : Mu}, Le μ μ' → G μ → G μ'
section
variable {F : Fence} (A : FAll F P) {G : Mu → Prop} (hG : Up G)
include A
theorem region_in {ops : Array Oper} {id : Nat} (hm : P.follows .mixedOrders = true) (C : CxOk P cx) {call : Caller} (hc : CallSound P call) (ho : ∀ o ∈ ops.toList, F.round = none ∨ noDef o = true) {draw : Bool} {s s' : St} {e : Ex}
    (h : (match draw with
        | false => (match runOps cx call ops.toList ops.toList s with | .ok s => CR.ok .norm s | .no => .no)
        | true => (match runDraw cx call ops.toList s with | .ok s => CR.ok .norm s | .no => .no)) = .ok e s') {W : World} {μ : Mu} {a : Act} {w : World} (hA : ActR μ s a) (R : Rel W μ s.H w)
    {Q : Exit → Act → World → Prop} (hq : ∀ a' w', Went W μ s s' a' w' → Q e.exit! a' w') : (Code.region id ops draw).wpIn F 0 P Q a w := by
  have hN : ¬ LetsOut (fun e a w => e = Exit.normal ∧ Went W μ s s' a w) := fun ⟨_, _, h, _⟩ => by cases h
  cases draw with
  | false =>
    dsimp only at h
    split at h
    · rename_i s1 h1
      cases h
      refine wpIn_mono (wpIn_region (ops_in A hN ho _ _ _ ?_)) fun e a' w' ⟨h1, h2⟩ => by subst h1; exact hq a' w' h2
      rw [List.range_eq_range']
      exact runOps_ok C hc ops.size 0 s _ μ a w (by simp) (by simpa using h1) hA R fun a' w' hw => ⟨rfl, hw⟩
    · cases h
  | true =>
    dsimp only at h
    split at h
    · rename_i s1 h1
      cases h
      refine wpIn_mono (wpIn_region_any hm (any_in A hN ho _ _ _ _ ?_)) fun e a' w' ⟨h1, h2⟩ => by subst h1; exact hq a' w' h2
      exact draw_ok C hc h1 hA R.drew fun a' w' hw => ⟨rfl, hw⟩
    · cases h
include hG
theorem loop_in {ev : St → CR} {c : Code} (ih : InOk F P ev c G) : ∀ (n : Nat) (s : St) (e : Ex) (s' : St), loopN ev n s = .ok e s' →
    ∀ (W : World) (μ : Mu) (a : Act) (w : World), G μ → ActR μ s a → Rel W μ s.H w → ∀ Q : Exit → Act → World → Prop, (∀ a' w', Went W μ s s' a' w' → Q e.exit! a' w') →
      ∀ (b : Frame) (k : List Item) (cs : List Frame), b.roundOf = F.round → F.fn b.fn → F.room (cs.length + 1 + 0) → ∃ e a' w', Q e a' w' ∧ ArrivesIn (Machine.fenced P F) P (lone (b.atR a (.code c :: .inLoop c :: k)) cs w) b k cs e a' w' := by
  intro n
  induction n with
  | zero => intro s e s' h; cases h
  | succ n ihn =>
    intro s e s' h W μ a w hg hA R Q hq b k cs hro hb hr
    have h : (match ev s with | .ok .norm s => loopN ev n s | r => r) = .ok e s' := h
    split at h
    · rename_i s1 h1
      obtain ⟨e1, a1, w1, hq1, harr⟩ := ih s .norm s1 h1 W μ a w hg hA R (fun e a w => e = .normal ∧ Went W μ s s1 a w) (fun a' w' hw => ⟨rfl, hw⟩) b (.inLoop c :: k) cs hro hb hr
      obtain ⟨rfl, μ1, q1, q2, q3, q4⟩ := hq1
      obtain ⟨e2, a2, w2, hq2, harr2⟩ := ihn s1 e s' h W μ1 a1 w1 (hG q3.le hg) q1 q2 Q (fun a' w' hw => hq a' w' (hw.trans q3 q4)) b k cs hro hb hr
      exact ⟨e2, a2, w2, hq2, .of_steps (StepsIn.trans harr (.one (fenced_calm hb hr rfl) stepR_inLoop)) harr2⟩
    · rename_i r hr'
      have hne : e ≠ .norm := fun he => by subst he; exact hr' _ h
      obtain ⟨e1, a1, w1, hq1, harr⟩ := ih s e s' h W μ a w hg hA R (fun x a w => x = e.exit! ∧ Went W μ s s' a w) (fun a' w' hw => ⟨rfl, hw⟩) b (.inLoop c :: k) cs hro hb hr
      obtain ⟨rfl, hw⟩ := hq1
      refine ⟨e.exit!, a1, w1, hq a1 w1 hw, .pass (x := .inLoop c) rfl (fun _ _ => .inl ?_) harr⟩
      cases e <;> simp_all [Ex.exit!]
theorem seq_in {ex ey : St → CR} {x y : Code} (ix : InOk F P ex x G) (iy : InOk F P ey y G) : InOk F P (fun s => match ex s with | .ok .norm s => ey s | r => r) (.seq x y) G := by
  intro s e s' h W μ a w hg hA R Q hq
  dsimp only at h
  refine wpIn_seq ?_
  split at h
  · rename_i s1 h1
    refine ix s .norm s1 h1 W μ a w hg hA R _ fun a1 w1 ⟨μ1, q1, q2, q3, q4⟩ => ?_
    exact iy s1 e s' h W μ1 a1 w1 (hG q3.le hg) q1 q2 Q fun a' w' hw => hq a' w' (hw.trans q3 q4)
  · rename_i r hr
    have hne : e ≠ .norm := fun he => by subst he; exact hr _ h
    refine ix s e s' h W μ a w hg hA R _ fun a1 w1 hw => ?_
    have := hq a1 w1 hw
    cases e with
    | norm => exact absurd rfl hne
    | exit i => exact this
    | ret => exact this
omit hG in
theorem cond_in {ex ey : St → CR} {x y : Code} {c : Operand} (ix : InOk F P ex x G) (iy : InOk F P ey y G) : InOk F P (fun s => match evO s.T c with | .bool true => ex s | .bool false => ey s | _ => .no) (.cond c x y) G := by
  intro s e s' h W μ a w hg hA R Q hq
  dsimp only at h
  have hv : ∀ t, evO s.T c = .bool t → a.eval c = .bool t := fun t ht => by
    have hk : okOpnd c = true := by
      cases c with
      | tmp t => rfl
      | const v => cases ht; rfl
      | global g => cases ht
      | func f => cases ht
    have := hA.eval hk
    rw [ht] at this
    generalize a.eval c = v at this
    cases this; rfl
  split at h
  · rename_i hb
    exact wpIn_cond_true (hv _ hb) (ix s e s' h W μ a w hg hA R Q hq)
  · rename_i hb
    exact wpIn_cond_false (hv _ hb) (iy s e s' h W μ a w hg hA R Q hq)
  · cases h
omit hG in
theorem block_in {ex : St → CR} {x : Code} {id : Nat} (ix : InOk F P ex x G) : InOk F P (fun s => match ex s with | .ok (.exit i) s => bif Nat.beq i id then CR.ok .norm s else CR.ok (.exit i) s | r => r) (.block id x) G := by
  intro s e s' h W μ a w hg hA R Q hq
  dsimp only at h
  refine wpIn_block ?_
  split at h
  · rename_i i s1 h1
    refine ix s (.exit i) s1 h1 W μ a w hg hA R _ fun a1 w1 hw => ?_
    show if i = id then Q .normal a1 w1 else Q (.exit i) a1 w1
    cases hb : Nat.beq i id with
    | true =>
      rw [hb] at h; cases h
      rw [if_pos (Nat.eq_of_beq_eq_true hb)]
      exact hq a1 w1 hw
    | false =>
      rw [hb] at h; cases h
      rw [if_neg (Nat.ne_of_beq_eq_false hb)]
      exact hq a1 w1 hw
  · rename_i r hr
    refine ix s e s' h W μ a w hg hA R _ fun a1 w1 hw => ?_
    have := hq a1 w1 hw
    cases e with
    | norm => exact this
    | exit i => exact absurd h (hr i s')
    | ret => exact this
theorem loopc_in {ex : St → CR} {x : Code} {n : Nat} (ix : InOk F P ex x G) : InOk F P (fun s => loopN ex n s) (.loop x) G := by
  intro s e s' h W μ a w hg hA R Q hq b k cs hro hb hr
  obtain ⟨e1, a1, w1, h1, h2⟩ := loop_in A hG ix n s e s' h W μ a w hg hA R Q hq b k cs hro hb hr
  exact ⟨e1, a1, w1, h1, .of_steps (.one (fenced_calm hb hr rfl) stepR_loop) h2⟩
end
theorem evR_ok (C : CxOk P cx) (hm : P.follows .mixedOrders = true) {call : Caller} (hc : CallSound P call) (n l : Nat) : ∀ c, InOk (Fence.wide.inRound l) P (evR cx call n c) c (fun _ => True) := by
  have A := round_all P l
  have hG : Up (fun _ : Mu => True) := fun _ _ => trivial
  intro c
  induction c with
  | skip => intro s e s' h W μ a w hg hA R Q hq; cases h; exact wpIn_skip (hq _ _ (.refl hA R))
  | region id ops draw =>
    intro s e s' h W μ a w hg hA R Q hq
    have h : (match ops.toList.all noDef with
      | true => (match draw with
        | false => (match runOps cx call ops.toList ops.toList s with | .ok s => CR.ok .norm s | .no => .no)
        | true => (match runDraw cx call ops.toList s with | .ok s => CR.ok .norm s | .no => .no))
      | false => .no) = .ok e s' := h
    split at h
    · rename_i hd
      exact region_in A hm C hc (fun o ho => .inr (List.all_eq_true.1 hd o ho)) h hA R hq
    · cases h
  | seq x y ix iy => exact seq_in A hG ix iy
  | cond c x y ix iy => exact cond_in A ix iy
  | block id x ix => exact block_in A ix
  | loop x ix => exact loopc_in A hG ix
  | rangeFunc f ps x y ix iy => intro s e s' h; cases h
  | exit id => intro s e s' h W μ a w hg hA R Q hq; cases h; exact wpIn_exit (hq _ _ (.refl hA R))
  | scope x ix => intro s e s' h; cases h
  | label l => intro s e s' h W μ a w hg hA R Q hq; cases h; exact wpIn_label (hq _ _ (.refl hA R))
  | goto l => intro s e s' h; cases h
  | ret => intro s e s' h W μ a w hg hA R Q hq; cases h; exact wpIn_ret (hq _ _ (.refl hA R))
  | refuse why => intro s e s' h; cases h
theorem lockIs_eq {l : Nat} {h : Hp} {st : LoopState} {p : Option Code} (e : lockIs l h = some (st, p)) : h.b.get l = some (.lock st p) := by
  unfold lockIs at e
  split at e
  · rename_i h1; cases e; exact h1
  · cases e
theorem Rel.setLock {W : World} {μ : Mu} {h : Hp} {w : World} (R : Rel W μ h w) {b : Nat} {i : BI} {st : LoopState} {p : Option Code} (hb : μ b = some i) (ho : h.b.get b = some (.lock st p)) (st' : LoopState) (p' : Option Code) :
    Rel W μ ⟨h.n, h.b.put b (.lock st' p')⟩ (w.putObj i.rb (.loop { i.lp with state := st', pending := p' })) := by
  obtain ⟨r1, r2⟩ := R.ob b i _ hb ho
  have hlt : i.rb < w.heap.size := (Array.getElem?_eq_some_iff.1 r1).1
  have hother : ∀ {x : Obj} k, k ≠ i.rb → (w.putObj i.rb x).heap[k]? = w.heap[k]? := fun k hk => World.putObj_heap_other hk
  have old : ∀ {c o}, (h.b.put b (.lock st' p')).get c = some o → (c = b ∧ o = .lock st' p') ∨ (c ≠ b ∧ h.b.get c = some o) := fun {c o} hc => by
    rw [Tr.get_put] at hc
    split at hc
    · cases hc; exact .inl ⟨‹_›, rfl⟩
    · exact .inr ⟨‹_›, hc⟩
  refine ⟨R.gl, R.dom, fun c j o hc hoc => ?_, fun c d j k o q hc hd hoc hpd wo wp hjk => ?_,
    ⟨R.below.os, R.below.tape, R.below.output, by simpa [World.putObj] using R.below.size, fun k hk => (hother k (by omega)).trans (R.below.block k hk)⟩⟩
  · rcases old hoc with ⟨rfl, rfl⟩ | ⟨hne, hoc⟩
    · rw [hb] at hc; cases hc
      exact ⟨World.putObj_heap_same hlt, r2⟩
    · have ro := R.ob c j o hc hoc
      refine ro.move (Le.refl _) (hother _ fun hrb => ?_)
      cases o with
      | cells c2 n2 z2 ti2 ro2 =>
        obtain ⟨cs, e, fz, h1, _⟩ := ro
        rw [hrb, r1] at h1; cases h1
      | map es =>
        obtain ⟨arr, cl, h1, _⟩ := ro
        rw [hrb, r1] at h1; cases h1
      | mark => exact hne (R.inj c b j i _ _ hc hb hoc ho trivial trivial hrb)
      | lock _ _ => exact hne (R.inj c b j i _ _ hc hb hoc ho trivial trivial hrb)
      | chan _ _ => exact hne (R.inj c b j i _ _ hc hb hoc ho trivial trivial hrb)
  · have fix : ∀ {c o}, (h.b.put b (.lock st' p')).get c = some o → o.wr → ∃ q, h.b.get c = some q ∧ q.wr := fun {c o} hc hw => by
      rcases old hc with ⟨rfl, rfl⟩ | ⟨_, hc⟩
      · exact ⟨_, ho, trivial⟩
      · exact ⟨_, hc, hw⟩
    obtain ⟨q1, k1, l1⟩ := fix hoc wo
    obtain ⟨q2, k2, l2⟩ := fix hpd wp
    exact R.inj c d j k q1 q2 hc hd k1 k2 l1 l2 hjk
theorem zip_ok {μ : Mu} {n : Nat} : ∀ (ps : List Tmp) (vs vs' : List Value) (T T' : Tr Value) (tm : Array Value), zipT n ps vs T = some T' → VRs μ vs vs' → tm.size = n → (∀ t, VR μ (slot T t) (tm.getD t undef)) →
    ps.length = vs'.length ∧ ((ps.zip vs').foldl (fun tm (x : Tmp × Value) => tm.setIfInBounds x.1 x.2) tm).size = n ∧
      ∀ t, VR μ (slot T' t) (((ps.zip vs').foldl (fun tm (x : Tmp × Value) => tm.setIfInBounds x.1 x.2) tm).getD t undef)
  | [], _, _, T, T', tm, h, .nil, hs, ht => by cases h; exact ⟨rfl, hs, ht⟩
  | p :: ps, _, _, T, T', tm, h, .nil, hs, ht => by cases h
  | [], _, _, T, T', tm, h, .cons _ _, hs, ht => by cases h
  | p :: ps, v :: vs, v' :: vs', T, T', tm, h, .cons hv hvs, hs, ht => by
    have h : (bif Nat.blt p n then zipT n ps vs (T.put p v) else none) = some T' := h
    cases hb : Nat.blt p n with
    | false => rw [hb] at h; cases h
    | true =>
      rw [hb] at h
      have hlt : p < tm.size := by rw [hs]; exact blt_lt hb
      have := zip_ok ps vs vs' (T.put p v) T' (tm.setIfInBounds p v') h hvs (by simpa using hs) fun t => by
        by_cases e : t = p
        · subst e
          simp [slot, Tr.get_put_eq, hlt]; exact hv
        · have := ht t
          simp only [slot, Tr.get_put_ne _ _ e] at this ⊢
          simp only [Array.getD_eq_getD_getElem?] at this ⊢
          rw [Array.getElem?_setIfInBounds_ne (fun x => e x.symm)]; exact this
      exact ⟨by simp [this.1], by simpa using this.2.1, by simpa using this.2.2⟩
def YSound (P : Program) (l : Nat) (i : BI) (G : Mu → Prop) (Y : List Value → Hp → YR) : Prop :=
  ∀ vals h b h', Y vals h = .ok b h' → ∀ W μ w vals', G μ → VRs μ vals vals' → Rel W μ h w →
    YieldAt Fence.wide 0 P i.rb vals'.toArray w fun e w' => e = .returned (.bool b) ∧ ∃ μ', Rel W μ' h' w' ∧ Ext h.n μ μ' ∧ h.n ≤ h'.n
theorem round_ok (C : CxOk P cx) (hm : P.follows .mixedOrders = true) {call : Caller} (hc : CallSound P call) {fuel : Nat} {ps : Array Tmp} {x y : Code} {n : Nat} {T : Tr Value} {l : Nat} {i : BI} {μ0 : Mu} {a : Act}
    (hA : a.tmps.size = n ∧ ∀ t, VR μ0 (slot T t) (a.tmps.getD t undef)) (h1 : i.lp.tmps = a.tmps) (h2 : i.lp.params = ps) (h3 : i.lp.assign = x) (h4 : i.lp.body = y) :
    YSound P l i (fun μ => Le μ0 μ ∧ μ l = some i) (roundY ps.toList (evR cx call fuel x) (evR cx call fuel y) n T l) := by
  intro vals h b h' e W μ w vals' ⟨hg, hl⟩ hv R
  unfold roundY at e
  split at e
  · rename_i T1 hk hz
    split at e
    · rename_i s1 hasg
      obtain ⟨n1, T2, D1, H1⟩ := s1
      dsimp only at e
      split at e
      · rename_i hk1
        split at e
        · rename_i ex s2 hbody
          obtain ⟨n2, T3, D2, H2⟩ := s2
          dsimp only at e
          split at e
          · rename_i hk2
            obtain ⟨z1, z2, z3⟩ := zip_ok ps.toList vals vals' T T1 a.tmps hz hv hA.1 fun t => (hA.2 t).mono hg
            obtain ⟨r1, r2⟩ := R.ob l i _ hl (lockIs_eq hk)
            have hy := run_yield (P := P) (args := vals'.toArray) r1 (by show _ = i.lp.params.size; rw [h2]; simpa using z1.symm)
            refine ⟨_, _, _, _, hy, roundIn_of_wpIn trivial ?_⟩
            show i.lp.assign.wpIn _ 0 P _ _ w
            rw [h3]
            have htm : ((i.lp.params.zip vals'.toArray).foldl (fun tmps (t, a) => tmps.setIfInBounds t a) i.lp.tmps) = ((ps.toList.zip vals').foldl (fun tm (x : Tmp × Value) => tm.setIfInBounds x.1 x.2) a.tmps) := by
              rw [h1, h2, ← Array.foldl_toList, Array.toList_zip]
            refine evR_ok C hm hc fuel i.rb x _ _ _ hasg W μ _ w trivial ⟨?_, fun t => ?_, by trivial⟩ R _ fun a1 w1 ⟨μ1, q1, q2, q3, q4⟩ => ?_
            · show Array.size (Array.foldl _ _ _) = n; rw [htm]; exact z2
            · show VR μ (slot T1 t) (Array.getD (Array.foldl _ _ _) t undef); rw [htm]; exact z3 t
            · have hl1 := q3.le l i hl
              obtain ⟨r3, r4⟩ := q2.ob l i _ hl1 (lockIs_eq hk1)
              refine ⟨_, run_beginRound r3 rfl, ?_⟩
              change i.lp.body.wpIn _ 0 P _ _ (w1.putObj i.rb (.loop { i.lp with state := .busy, pending := none }))
              rw [h4]
              refine evR_ok C hm hc fuel i.rb y _ _ _ hbody W μ1 a1 _ trivial ⟨q1.size, q1.tmp, q1.dfr⟩ (q2.setLock hl1 (lockIs_eq hk1) .busy none) _ fun a2 w2 ⟨μ2, q5, q6, q7, q8⟩ => ?_
              have hl2 := q7.le l i hl1
              obtain ⟨r5, r6⟩ := q6.ob l i _ hl2 (lockIs_eq hk2)
              have hext : Ext h.n μ μ2 := q3.trans q7 q4
              have hle : h.n ≤ H2.n := Nat.le_trans q4 q8
              cases ex with
              | norm => cases e; exact ⟨_, _, run_endRound none r5, rfl, μ2, q6.setLock hl2 (lockIs_eq hk2) .ready none, hext, hle⟩
              | ret => cases e; exact ⟨_, _, run_endRound (some .ret) r5, rfl, μ2, q6.setLock hl2 (lockIs_eq hk2) .done (some .ret), hext, hle⟩
              | exit id => cases e; exact ⟨_, _, run_endRound (some (.exit id)) r5, rfl, μ2, q6.setLock hl2 (lockIs_eq hk2) .done (some (.exit id)), hext, hle⟩
          · cases e
        · cases e
      · cases e
    · cases e
  · cases e
section
variable {l : Nat} {i : BI} {G : Mu → Prop} {Y : List Value → Hp → YR}
theorem yieldOf_eq {T : Tr Value} {o : Oper} {args : List Operand} (h : yieldOf l T o = some args) : ∃ c f, o.op = .call c ∧ c.callee = .value f ∧ o.guard = none ∧ evO T f = .func (.yield l) ⟨[]⟩ ⟨[]⟩ ∧ okOpnd f = true ∧ c.args.toList = args ∧ ∀ x ∈ args, okOpnd x = true := by
  unfold yieldOf at h
  split at h
  · rename_i c hop
    split at h
    · rename_i f hf
      split at h
      · rename_i k hk hg
        cases hb : (Nat.beq k l && okOpnd f && c.args.toList.all okOpnd) with
        | false => rw [hb] at h; cases h
        | true =>
          rw [hb] at h; cases h
          rw [Bool.and_eq_true, Bool.and_eq_true] at hb
          have := Nat.eq_of_beq_eq_true hb.1.1
          subst this
          exact ⟨c, f, hop, hf, hg, hk, hb.1.2, rfl, fun x hx => List.all_eq_true.1 hb.2 x hx⟩
      · cases h
    · cases h
  · cases h
theorem stepY_ok (C : CxOk P cx) {call : Caller} (hc : CallSound P call) (hY : YSound P l i G Y) (hGl : ∀ {μ}, G μ → μ l = some i) {ops : Array Oper} {k : Nat} {o : Oper} (hk : ops[k]? = some o) {s s' : St}
    (e : stepY cx call Y l ops.toList o s = .ok s') {W : World} {μ : Mu} {a : Act} {w : World} (hg : G μ) (hA : ActR μ s a) (R : Rel W μ s.H w)
    {Q : Exit → Act → World → Prop} (hQ : ¬ LetsOut Q) {K : Act → World → Prop} (hK : ∀ a' w', Went W μ s s' a' w' → K a' w') : wpOpIn Fence.wide 0 P ops Q k K a w := by
  obtain ⟨n, T, D, H⟩ := s
  unfold stepY at e
  dsimp only at e
  split at e
  · rename_i args hy
    split at e
    · rename_i b h hYv
      obtain ⟨c, f, y1, y2, y3, y4, y5, y6, y7⟩ := yieldOf_eq hy
      obtain ⟨e1, e2, e3, e4⟩ := setD_eq e
      unfold wpOpIn
      simp only [hk]
      have hw : Region.wanted o (yielded ops a.tmps) = true := by unfold Region.wanted; rw [y3]
      rw [if_pos hw]
      refine ⟨fun _ _ => trivial, ?_⟩
      have hf := hA.eval y5
      rw [show evO (St.T ⟨n, T, D, H⟩) f = _ from y4] at hf
      have hfv : a.eval f = .func (.yield i.rb) #[] #[] := by
        generalize a.eval f = v at hf
        cases hf with
        | yield hb => rw [hGl hg] at hb; cases hb; rfl
        | sym h1 _ => cases h1
      have hargs : VRs μ (args.map (evO T)) (args.map a.eval) := VRs.map fun x hx => hA.eval (y7 x hx)
      obtain ⟨fn, tm, asg, body, hrun, hround⟩ := hY _ _ _ _ hYv W μ w _ hg hargs R
      have hexec : (o.semAt Fence.wide.round a.eval).run P w = (Instr.yield i.rb (args.map a.eval).toArray).run P w := by
        show (execOp a.eval o).run P w = _
        have harr : c.args.map a.eval = (args.map a.eval).toArray := by rw [← y6]; apply Array.ext'; simp
        simp [execOp, y1, resolve, invoke, y2, hfv, harr, Deferred.ofValue]
      rw [hexec, hrun]
      refine ⟨fun hd => by simp [Fence.wide] at hd, hround.mono ?_⟩
      rintro e' w' ⟨rfl, μ', k1, k2, k3⟩
      exact hK _ _ ⟨μ', e4 (hA.mono k2.le) (.bool b), by rw [e1]; exact k1, k2, by rw [e1]; exact k3⟩
    · cases e
  · exact op_in (wide_all P) hQ (fun o _ => .inl rfl) (stepOp_ok C hc hk e hA R hK)
theorem runY_ok (C : CxOk P cx) {call : Caller} (hc : CallSound P call) (hY : YSound P l i G Y) (hG : Up G) (hGl : ∀ {μ}, G μ → μ l = some i) {ops : Array Oper} {W : World} {Q : Exit → Act → World → Prop} (hQ : ¬ LetsOut Q) :
    ∀ (k n : Nat) (s s' : St) (μ : Mu) (a : Act) (w : World), n + k = ops.size → runY cx call Y l ops.toList (ops.toList.drop n) s = .ok s' → G μ → ActR μ s a → Rel W μ s.H w →
      (∀ a' w', Went W μ s s' a' w' → Q .normal a' w') → wpOpsIn Fence.wide 0 P ops Q (List.range' n k) a w := by
  intro k
  induction k with
  | zero =>
    intro n s s' μ a w hn e hg hA R hq
    have hdrop : ops.toList.drop n = [] := List.drop_of_length_le (by rw [Array.length_toList]; omega)
    rw [hdrop] at e
    cases e
    exact hq _ _ ⟨μ, hA, R, Ext.refl _ _, Nat.le_refl _⟩
  | succ k ih =>
    intro n s s' μ a w hn e hg hA R hq
    have hlt : n < ops.toList.length := by simp; omega
    rw [List.drop_eq_getElem_cons hlt] at e
    have e : (match stepY cx call Y l ops.toList ops.toList[n] s with | .ok s => runY cx call Y l ops.toList (ops.toList.drop (n + 1)) s | .no => .no) = .ok s' := e
    have hi : ops[n]? = some ops.toList[n] := by simp at hlt ⊢
    split at e
    · rename_i s1 h1
      rw [List.range'_succ, wpOpsIn_cons]
      refine stepY_ok C hc hY hGl hi h1 hg hA R hQ fun a' w' ⟨μ1, q1, q2, q3, q4⟩ => ?_
      exact ih (n + 1) s1 s' μ1 a' w' (by omega) e (hG q3.le hg) q1 q2 fun a2 w2 h2 => hq _ _ (h2.trans q3 q4)
    · cases e
theorem evY_ok (C : CxOk P cx) (hm : P.follows .mixedOrders = true) {call : Caller} (hc : CallSound P call) (hY : YSound P l i G Y) (hG : Up G) (hGl : ∀ {μ}, G μ → μ l = some i) (n : Nat) : ∀ c, InOk Fence.wide P (evY cx call Y l n c) c G := by
  have A := wide_all P
  intro c
  induction c with
  | skip => intro s e s' h W μ a w hg hA R Q hq; cases h; exact wpIn_skip (hq _ _ (.refl hA R))
  | region id ops draw =>
    intro s e s' h W μ a w hg hA R Q hq
    cases draw with
    | false =>
      have h : (match runY cx call Y l ops.toList ops.toList s with | .ok s => CR.ok .norm s | .no => .no) = .ok e s' := h
      split at h
      · rename_i s1 h1
        cases h
        have hN : ¬ LetsOut (fun e a w => e = Exit.normal ∧ Went W μ s s' a w) := fun ⟨_, _, h, _⟩ => by cases h
        refine wpIn_mono (Q := fun e a w => e = Exit.normal ∧ Went W μ s s' a w) (wpIn_region ?_) fun e a' w' ⟨h1, h2⟩ => by subst h1; exact hq a' w' h2
        rw [List.range_eq_range']
        exact runY_ok C hc hY hG hGl hN ops.size 0 s _ μ a w (by simp) (by simpa using h1) hg hA R fun a' w' hw => ⟨rfl, hw⟩
      · cases h
    | true =>
      exact region_in A hm C hc (draw := true) (fun o _ => .inl rfl) h hA R hq
  | seq x y ix iy => exact seq_in A hG ix iy
  | cond c x y ix iy => exact cond_in A ix iy
  | block id x ix => exact block_in A ix
  | loop x ix => exact loopc_in A hG ix
  | rangeFunc f ps x y ix iy => intro s e s' h; cases h
  | exit id => intro s e s' h W μ a w hg hA R Q hq; cases h; exact wpIn_exit (hq _ _ (.refl hA R))
  | scope x ix => intro s e s' h; cases h
  | label l => intro s e s' h W μ a w hg hA R Q hq; cases h; exact wpIn_label (hq _ _ (.refl hA R))
  | goto l => intro s e s' h; cases h
  | ret => intro s e s' h W μ a w hg hA R Q hq; cases h; exact wpIn_ret (hq _ _ (.refl hA R))
  | refuse why => intro s e s' h; cases h
end
theorem enter_R {μ : Mu} {args args' : List Value} {h : Hp} {fn : Func} (hv : VRs μ args args') :
    ActR μ (enterS fn args h) { tmps := args'.toArray ++ Array.replicate (fn.ntmps - args'.toArray.size) undef, defers := [] } := by
  have hl := hv.length
  unfold enterS
  refine ⟨?_, fun t => ?_, trivial⟩
  · cases hb : Nat.ble fn.ntmps args.length with
    | true => have := Nat.le_of_ble_eq_true hb; simp; omega
    | false => have : ¬ fn.ntmps ≤ args.length := fun h => by rw [Nat.ble_eq_true_of_le h] at hb; cases hb
               simp; omega
  · simp only [slot, Tr.get_ofL, Array.getD_eq_getD_getElem?]
    rw [Array.getElem?_append]
    simp only [List.size_toArray]
    by_cases hlt : t < args'.length
    · rw [if_pos hlt]
      obtain ⟨a, ha⟩ : ∃ a, args[t]? = some a := ⟨_, List.getElem?_eq_getElem (by omega)⟩
      obtain ⟨v, h1, h2⟩ := hv.get ha
      rw [ha]
      simp [h1]; exact h2
    · rw [if_neg hlt, List.getElem?_eq_none (l := args) (by omega), Array.getElem?_replicate]
      have : (if t - args'.length < fn.ntmps - args'.length then some undef else none).getD undef = undef := by split <;> rfl
      rw [this]
      exact undefR μ
theorem Rel.lockHead {W : World} {μ : Mu} {H : Hp} {w : World} (R : Rel W μ H w) (L : Loop) (hL : L.state = .ready) (hp : L.pending = none) :
    ∃ μ', Ext H.n μ μ' ∧ μ' H.n = some ⟨w.heap.size, 0, 0, 0, 0, default⟩ ∧ μ' (Nat.succ H.n) = some ⟨w.heap.size + 1, 0, 0, 0, 0, L⟩ ∧ Rel W μ' (lockH H) ((w.alloc (.deferred (some []))).alloc (.loop L)) := by
  have hf0 : μ H.n = none := R.fresh (Nat.le_refl _)
  have hf1 : μ (Nat.succ H.n) = none := R.fresh (Nat.le_succ _)
  obtain ⟨w1, hw1⟩ : ∃ w1, ((w.alloc (.deferred (some []))).alloc (.loop L)) = w1 := ⟨_, rfl⟩
  rw [hw1]
  have hsz : w1.heap.size = w.heap.size + 2 := by rw [← hw1]; simp [World.size_alloc]
  have hold : ∀ k, k < w.heap.size → w1.heap[k]? = w.heap[k]? := fun k hk => by
    rw [← hw1, Below.heap_alloc _ _ _ (by rw [World.size_alloc]; omega), Below.heap_alloc _ _ _ hk]
  have hLk : w1.heap[w.heap.size + 1]? = some (.loop L) := by
    rw [← hw1]; have := World.alloc_heap_new (w.alloc (.deferred (some []))) (.loop L); rwa [World.size_alloc] at this
  have hK : w1.heap[w.heap.size]? = some (.deferred (some [])) := by
    rw [← hw1]; exact (Below.heap_alloc _ _ _ (by simp)).trans (World.alloc_heap_new w _)
  have hb1 : Below W.heap.size W w1 := by
    rw [← hw1]; exact R.below.trans ((((Below.refl _ w).alloc (Nat.le_refl _) _).alloc (by simp) _).mono R.below.size)
  have hN := R.below.size
  refine ⟨(μ.set H.n ⟨w.heap.size, 0, 0, 0, 0, default⟩).set (Nat.succ H.n) ⟨w.heap.size + 1, 0, 0, 0, 0, L⟩, ?_, ?_, Mu.set_eq _ _ _, ?_⟩
  · refine (Mu.ext_set hf0 (Nat.le_refl _)).trans (Mu.ext_set (n := H.n) ?_ (Nat.le_succ _)) (Nat.le_refl _)
    unfold Mu.set; rw [if_neg (by omega)]; exact hf1
  · have : H.n ≠ Nat.succ H.n := by omega
    show (if H.n = Nat.succ H.n then _ else _) = _
    rw [if_neg this]; exact Mu.set_eq _ _ _
  · have cases3 : ∀ {b i o}, ((μ.set H.n ⟨w.heap.size, 0, 0, 0, 0, default⟩).set (Nat.succ H.n) ⟨w.heap.size + 1, 0, 0, 0, 0, L⟩) b = some i → (lockH H).b.get b = some o →
        (b = Nat.succ H.n ∧ i = ⟨w.heap.size + 1, 0, 0, 0, 0, L⟩ ∧ o = .lock .ready none) ∨ (b = H.n ∧ i = ⟨w.heap.size, 0, 0, 0, 0, default⟩ ∧ o = .mark) ∨ (μ b = some i ∧ H.b.get b = some o ∧ i.rb < w.heap.size) := fun {b i o} hb ho => by
      unfold Mu.set at hb
      split at hb
      · subst_vars; cases hb
        unfold lockH at ho
        rw [Tr.get_put_eq] at ho; cases ho
        exact .inl ⟨rfl, rfl, rfl⟩
      · rename_i h1
        split at hb
        · subst_vars; cases hb
          unfold lockH at ho
          rw [Tr.get_put_ne _ _ h1, Tr.get_put_eq] at ho; cases ho
          exact .inr (.inl ⟨rfl, rfl, rfl⟩)
        · rename_i h2
          unfold lockH at ho
          rw [Tr.get_put_ne _ _ h1, Tr.get_put_ne _ _ h2] at ho
          exact .inr (.inr ⟨hb, ho, (R.ob b i o hb ho).old⟩)
    have hle : Le μ ((μ.set H.n ⟨w.heap.size, 0, 0, 0, 0, default⟩).set (Nat.succ H.n) ⟨w.heap.size + 1, 0, 0, 0, 0, L⟩) := by
      refine (Mu.le_set hf0).trans (Mu.le_set ?_)
      unfold Mu.set; rw [if_neg (by omega)]; exact hf1
    refine ⟨R.gl, fun b i hb => ?_, fun b i o hb ho => ?_, fun b c i j o p hb hc ho hp wo wp hij => ?_, hb1⟩
    · unfold Mu.set at hb
      split at hb
      · subst_vars; exact Nat.lt_succ_self _
      · split at hb
        · subst_vars; exact Nat.lt_succ_of_lt (Nat.lt_succ_self _)
        · exact Nat.lt_succ_of_lt (Nat.lt_succ_of_lt (R.dom b i hb))
    · rcases cases3 hb ho with ⟨rfl, rfl, rfl⟩ | ⟨rfl, rfl, rfl⟩ | ⟨g1, g2, g3⟩
      · refine ⟨hLk.trans ?_, by show _ ≤ w.heap.size + 1; omega⟩
        show some (Obj.loop L) = some (Obj.loop { L with state := .ready, pending := none })
        rw [← hL, ← hp]
      · exact ⟨hK, hN⟩
      · exact (R.ob b i o g1 g2).move hle (hold _ g3)
    · rcases cases3 hb ho with ⟨rfl, rfl, rfl⟩ | ⟨rfl, rfl, rfl⟩ | ⟨g1, g2, g3⟩ <;> rcases cases3 hc hp with ⟨rfl, rfl, rfl⟩ | ⟨rfl, rfl, rfl⟩ | ⟨f1, f2, f3⟩
      · rfl
      · exact absurd hij (by show w.heap.size + 1 ≠ w.heap.size; omega)
      · exact absurd hij (by show w.heap.size + 1 ≠ _; omega)
      · exact absurd hij (by show w.heap.size ≠ w.heap.size + 1; omega)
      · rfl
      · exact absurd hij (by show w.heap.size ≠ _; omega)
      · exact absurd hij (by show _ ≠ w.heap.size + 1; omega)
      · exact absurd hij (by show _ ≠ w.heap.size; omega)
      · exact R.inj b c i j o p g1 f1 g2 f2 wo wp hij
theorem range_ok (C : CxOk P cx) (hm : P.follows .mixedOrders = true) {call : Caller} (hc : CallSound P call) {fuel : Nat} {f : Operand} {ps : Array Tmp} {x y : Code} {s s' : St} {e : Ex} (h : evRange cx call fuel f ps x y s = .ok e s')
    {W : World} {μ : Mu} {a : Act} {w : World} (hA : ActR μ s a) (R : Rel W μ s.H w)
    {Q : Exit → Act → World → Prop} (hq : ∀ a' w', Went W μ s s' a' w' → Q e.exit! a' w') : (Code.rangeFunc f ps x y).wp P Q a w := by
  obtain ⟨n, T, D, H⟩ := s
  unfold evRange at h
  dsimp only at h
  split at h
  · rename_i g fi ca hk hf
    split at h
    · rename_i fnc hx hfn
      split at h
      · rename_i c hres hbody
        split at h
        · rename_i ex s1 hev
          split at h
          · rename_i n1 T1 H'
            obtain ⟨hfun, hname⟩ := C.fn g fnc hfn
            have hfv := hA.eval hk
            rw [hf] at hfv
            generalize hr : a.eval f = r at hfv
            obtain ⟨fi⟩ := fi; obtain ⟨ca⟩ := ca
            cases hfv with
            | func _ ha hcc =>
              rename_i fi' ca'
              refine wpIn_wide.1 (wpIn_rangeFunc (F := Fence.wide) (n := 0) fun fn _ => ?_)
              obtain ⟨L, hLd⟩ : ∃ L : Loop, L = { state := .ready, pending := none, fn, tmps := a.tmps, params := ps, assign := x, body := y, defers := w.heap.size } := ⟨_, rfl⟩
              obtain ⟨μ1, x1, x2, x3, x4⟩ := R.lockHead L (by rw [hLd]) (by rw [hLd])
              obtain ⟨w1, hw1⟩ : ∃ w1, (w.alloc (.deferred (some []))).alloc (.loop L) = w1 := ⟨_, rfl⟩
              rw [hw1] at x4
              have hargs : VRs μ1 (fi ++ (.func (.yield (Nat.succ H.n)) ⟨[]⟩ ⟨[]⟩ :: ca)) (fi' ++ (.func (.yield (w.heap.size + 1)) #[] #[] :: ca')) := (ha.mono x1.le).append (.cons (.yield x3) (hcc.mono x1.le))
              have harr : (#[] ++ (fi' ++ [Value.func (.yield (w.heap.size + 1)) #[] #[]]).toArray) ++ (⟨ca'⟩ : Array Value) = (fi' ++ (.func (.yield (w.heap.size + 1)) #[] #[] :: ca')).toArray := by
                apply Array.ext'; simp
              refine ⟨w.heap.size + 1, [{ target := .collected w.heap.size, args := #[] }], w1, { target := .fn (.func g) ⟨ca'⟩, args := (⟨fi'⟩ : Array Value) ++ #[.func (.yield (w.heap.size + 1)) #[] #[]] }, w1, g,
                (fi' ++ (.func (.yield (w.heap.size + 1)) #[] #[] :: ca')).toArray, w1, ?_, ?_, fun _ _ => trivial, ?_, fun h => by simp [Fence.wide] at h, ?_⟩
              · rw [← hw1, hLd]; exact run_enterLoop_outer _ _ _ _ _
              · simp only [resolve, hr]
                simp [go_sem]
              · simp only [invoke]
                rw [← MuLone.run_callFunc_enter hfun (by simpa using hname) hbody]
                congr 2
                rw [← harr]; apply Array.ext'; simp
              · refine callsIn_of_wp hfun hbody trivial ?_
                have hY := round_ok (l := Nat.succ H.n) C hm hc (fuel := fuel) (i := ⟨w.heap.size + 1, 0, 0, 0, 0, L⟩) (μ0 := μ1) (ps := ps) (x := x) (y := y) (n := n) (T := T) (a := a) ⟨hA.size, fun t => (hA.tmp t).mono x1.le⟩ (by rw [hLd]) (by rw [hLd]) (by rw [hLd]) (by rw [hLd])
                refine evY_ok C hm hc hY (fun hl ⟨h1, h2⟩ => ⟨h1.trans hl, hl _ _ h2⟩) (fun h => h.2) fuel c _ _ _ hev W μ1 _ _ ⟨Le.refl _, x3⟩ (enter_R hargs) x4 _ fun a' w' ⟨μ2, q1, q2, q3, q4⟩ => ?_
                have hd : a'.defers = [] := by
                  have hd := q1.dfr
                  cases hdd : a'.defers with
                  | nil => rfl
                  | cons d l => rw [hdd] at hd; exact hd.elim
                have hl2 := q3.le _ _ x3
                have hm2 := q3.le _ _ x2
                have hHn : H.n ≤ H'.n := by
                  have : (lockH H).n ≤ H'.n := q4
                  have h2 : (lockH H).n = H.n + 2 := rfl
                  omega
                have hext : Ext H.n μ μ2 := x1.trans q3 (by show H.n ≤ H.n + 2; omega)
                have hrun : (results fnc a'.tmps).run P w' = .ok (.tuple #[]) w' := by
                  have hr0 : fnc.results = #[] := Array.toList_eq_nil_iff.1 hres
                  unfold results; rw [hr0]; simp
                have key : ∀ (st : LoopState) (pd : Option Code) (hst : st ≠ .busy), lockIs (Nat.succ H.n) H' = some (st, pd) →
                    (Instr.endLoop (w.heap.size + 1)).run P w' = .ok pd (w'.putObj (w.heap.size + 1) (.loop { L with state := .exhausted, pending := pd })) ∧
                    Went W μ ⟨n, T, D, H⟩ ⟨n, T, .mark H.n :: D, ⟨H'.n, H'.b.put (Nat.succ H.n) (.lock .exhausted pd)⟩⟩ { a with defers := [{ target := .collected w.heap.size, args := #[] }] ++ a.defers } (w'.putObj (w.heap.size + 1) (.loop { L with state := .exhausted, pending := pd })) := fun st pd hst hlk => by
                  obtain ⟨r1, r2⟩ := q2.ob _ _ _ hl2 (lockIs_eq hlk)
                  refine ⟨run_endLoop r1 hst, μ2, ⟨hA.size, fun t => (hA.tmp t).mono hext.le, ⟨⟨_, hm2, rfl⟩, hA.dfr.mono hext.le⟩⟩, ?_, hext, hHn⟩
                  exact q2.setLock hl2 (lockIs_eq hlk) .exhausted pd
                have fin : endY n T D H.n (Nat.succ H.n) H' = .ok e s' → bodyPost P fnc (rangePost Fence.wide (0 - 1) P (w.heap.size + 1) Q { a with defers := [{ target := .collected w.heap.size, args := #[] }] ++ a.defers }) .ret a' w' := fun he => by
                  refine ⟨hd, _, hrun, ?_⟩
                  unfold endY at he
                  split at he
                  · rename_i hlk
                    cases he
                    obtain ⟨g1, g2⟩ := key _ _ (by simp) hlk
                    exact ⟨_, _, g1, hq _ _ g2⟩
                  · rename_i hlk
                    cases he
                    obtain ⟨g1, g2⟩ := key _ _ (by simp) hlk
                    exact ⟨_, _, g1, wpIn_ret (hq _ _ g2)⟩
                  · rename_i i hlk
                    cases he
                    obtain ⟨g1, g2⟩ := key _ _ (by simp) hlk
                    exact ⟨_, _, g1, wpIn_exit (hq _ _ g2)⟩
                  · cases he
                cases ex with
                | exit i => cases h
                | norm => exact fin h
                | ret => exact fin h
          · cases h
        · cases h
      · cases h
    · cases h
  · cases h
end Go.EvM
namespace Go.EvM
set_option linter.unusedSectionVars false
variable [GLs]
open Go.RowKit
set_option linter.unusedVariables false
variable {P : Program} {cx : Cx}
def CodeOk (P : Program) (cx : Cx) (call callD : Caller) (n : Nat) (c : Code) : Prop :=
  ∀ (s : St) (e : Ex) (s' : St), evCode cx call callD n c s = .ok e s' → ∀ (W : World) (μ : Mu) (a : Act) (w : World), ActR μ s a → Rel W μ s.H w →
    ∀ Q : Exit → Act → World → Prop, (∀ a' w', Went W μ s s' a' w' → Q e.exit! a' w') → c.wp P Q a w
theorem loop_ok {call callD : Caller} {n0 : Nat} {c : Code} (ih : CodeOk P cx call callD n0 c) : ∀ (n : Nat) (s : St) (e : Ex) (s' : St), loopN (evCode cx call callD n0 c) n s = .ok e s' →
    ∀ (W : World) (μ : Mu) (a : Act) (w : World), ActR μ s a → Rel W μ s.H w → ∀ Q : Exit → Act → World → Prop, (∀ a' w', Went W μ s s' a' w' → Q e.exit! a' w') →
      ∀ (b : Frame) (k : List Item) (cs : List Frame), ∃ e a' w', Q e a' w' ∧ Arrives P (lone (b.at a (.code c :: .inLoop c :: k)) cs w) b k cs e a' w' := by
  intro n
  induction n with
  | zero => intro s e s' h; cases h
  | succ n ihn =>
    intro s e s' h W μ a w hA R Q hq b k cs
    have h : (match evCode cx call callD n0 c s with | .ok .norm s => loopN (evCode cx call callD n0 c) n s | r => r) = .ok e s' := h
    split at h
    · rename_i s1 h1
      obtain ⟨e1, a1, w1, hq1, harr⟩ := ih s .norm s1 h1 W μ a w hA R (fun e a w => e = .normal ∧ Went W μ s s1 a w) (fun a' w' hw => ⟨rfl, hw⟩) b (.inLoop c :: k) cs
      obtain ⟨rfl, μ1, q1, q2, q3, q4⟩ := hq1
      obtain ⟨e2, a2, w2, hq2, harr2⟩ := ihn s1 e s' h W μ1 a1 w1 q1 q2 Q (fun a' w' hw => hq a' w' (hw.trans q3 q4)) b k cs
      exact ⟨e2, a2, w2, hq2, .of_steps (Steps.trans harr (.one step_inLoop)) harr2⟩
    · rename_i r hr
      have hne : e ≠ .norm := fun he => by subst he; exact hr _ h
      obtain ⟨e1, a1, w1, hq1, harr⟩ := ih s e s' h W μ a w hA R (fun x a w => x = e.exit! ∧ Went W μ s s' a w) (fun a' w' hw => ⟨rfl, hw⟩) b (.inLoop c :: k) cs
      obtain ⟨rfl, hw⟩ := hq1
      refine ⟨e.exit!, a1, w1, hq a1 w1 hw, .pass (x := .inLoop c) rfl (fun _ _ => .inl ?_) harr⟩
      cases e <;> simp_all [Ex.exit!]
def DefSound (P : Program) (callD : Caller) : Prop :=
  ∀ f args h v h', callD f args h = .ok v h' → ∀ W μ w args', VRs μ args args' → Rel W μ h w →
    (callFunc f args'.toArray).run P w = .ok (.enter f args'.toArray) w ∧ (∀ u, CallsDIn Fence.wide 0 P f args'.toArray u w fun e u' w' => u' = u ∧ ∃ v', e = .returned v' ∧ After W μ h v h' v' w') ∧
      Calls P f args'.toArray w fun e w' => ∃ v', e = .returned v' ∧ After W μ h v h' v' w'
theorem noCall_sound : DefSound P noCall := fun _ _ _ _ _ e => by cases e
theorem get_roTr (n : Nat) (t : Tr Ob) : (roTr t).get n = match t.get n with | some o => roOb o | none => none := by
  have key : ∀ (p : List D4) (t : Tr Ob), (roTr t).getP p = match t.getP p with | some o => roOb o | none => none := by
    intro p
    induction p with
    | nil => intro t; cases t <;> rfl
    | cons d p ih =>
      intro t
      cases t with
      | nil => rfl
      | nd v a b c e => cases d <;> exact ih _
  exact key _ _
theorem roOb_eq {o o' : Ob} (h : roOb o = some o') : ∃ c n z t ro, o = .cells c n z t ro ∧ o' = .cells c n z t true := by
  cases o <;> cases h
  exact ⟨_, _, _, _, _, rfl, rfl⟩
theorem Rel.ro {W : World} {μ : Mu} {h : Hp} {w : World} (R : Rel W μ h w) {w1 : World} (hw : ∀ k, k < w.heap.size → w1.heap[k]? = w.heap[k]?) (hs : w.heap.size ≤ w1.heap.size) : Rel w1 μ ⟨h.n, roTr h.b⟩ w1 := by
  have hob : ∀ b i o, μ b = some i → (roTr h.b).get b = some o → ∃ c n z t ro, h.b.get b = some (.cells c n z t ro) ∧ o = .cells c n z t true := fun b i o hb ho => by
    rw [get_roTr] at ho
    split at ho
    · rename_i o1 h1
      obtain ⟨c, n, z, t, ro, rfl, h2⟩ := roOb_eq ho
      exact ⟨c, n, z, t, ro, h1, h2⟩
    · cases ho
  refine ⟨fun g cs e => let ⟨u, fz, k⟩ := (R.gl.mono R.below) g cs e; ⟨u, fz, (hw g (Array.getElem?_eq_some_iff.1 k).1).trans k⟩, R.dom, fun b i o hb ho => ?_, fun b c i j o p hb hc ho hp wo wp => ?_, Below.refl _ _⟩
  · obtain ⟨c, n, z, t, ro, h1, rfl⟩ := hob b i o hb ho
    have ro1 := R.ob b i _ hb h1
    have hlt := ro1.old
    obtain ⟨cs, e, fz, q1, q2, q3, q4, q5, q6, q7, q8, q9⟩ := ro1
    exact ⟨cs, e, fz, by rw [hw _ hlt]; exact q1, q2, q3, q4, q5, q6, q7, fun _ => Nat.lt_of_lt_of_le hlt hs, fun h => by cases h⟩
  · obtain ⟨c', n, z, t, ro, h1, rfl⟩ := hob b i o hb ho
    cases wo
theorem code_ok (C : CxOk P cx) (hm : P.follows .mixedOrders = true) {call callD : Caller} (hc : CallSound P call) (hD : DefSound P callD) (n : Nat) : ∀ c, CodeOk P cx call callD n c := by
  intro c
  induction c with
  | skip =>
    intro s e s' h W μ a w hA R Q hq
    cases h
    exact wp_skip (hq _ _ (.refl hA R))
  | region id ops draw =>
    intro s e s' h W μ a w hA R Q hq
    cases draw with
    | false =>
      have h : (match runOps cx call ops.toList ops.toList s with | .ok s => CR.ok .norm s | .no => .no) = .ok e s' := h
      split at h
      · rename_i s1 h1
        cases h
        refine wp_region ?_
        rw [List.range_eq_range']
        exact runOps_ok C hc ops.size 0 s _ μ a w (by simp) (by simpa using h1) hA R hq
      · cases h
    | true =>
      have h : (match runDraw cx call ops.toList s with | .ok s => CR.ok .norm s | .no => .no) = .ok e s' := h
      split at h
      · rename_i s1 h1
        cases h
        exact wp_region_any hm (draw_ok C hc h1 hA R.drew hq)
      · cases h
  | seq x y ix iy =>
    intro s e s' h W μ a w hA R Q hq
    have h : (match evCode cx call callD n x s with | .ok .norm s => evCode cx call callD n y s | r => r) = .ok e s' := h
    refine wp_seq ?_
    split at h
    · rename_i s1 h1
      refine ix s .norm s1 h1 W μ a w hA R _ fun a1 w1 ⟨μ1, q1, q2, q3, q4⟩ => ?_
      exact iy s1 e s' h W μ1 a1 w1 q1 q2 Q fun a' w' hw => hq a' w' (hw.trans q3 q4)
    · rename_i r hr
      have hne : e ≠ .norm := fun he => by subst he; exact hr _ h
      refine ix s e s' h W μ a w hA R _ fun a1 w1 hw => ?_
      have := hq a1 w1 hw
      cases e with
      | norm => exact absurd rfl hne
      | exit i => exact this
      | ret => exact this
  | cond c x y ix iy =>
    intro s e s' h W μ a w hA R Q hq
    have h : (match evO s.T c with | .bool true => evCode cx call callD n x s | .bool false => evCode cx call callD n y s | _ => .no) = .ok e s' := h
    have hv : ∀ t, evO s.T c = .bool t → a.eval c = .bool t := fun t ht => by
      have hk : okOpnd c = true := by
        cases c with
        | tmp t => rfl
        | const v => cases ht; rfl
        | global g => cases ht
        | func f => cases ht
      have := hA.eval hk
      rw [ht] at this
      generalize a.eval c = v at this
      cases this; rfl
    split at h
    · rename_i hb
      exact wp_cond_true (hv _ hb) (ix s e s' h W μ a w hA R Q hq)
    · rename_i hb
      exact wp_cond_false (hv _ hb) (iy s e s' h W μ a w hA R Q hq)
    · cases h
  | block id x ix =>
    intro s e s' h W μ a w hA R Q hq
    have h : (match evCode cx call callD n x s with | .ok (.exit i) s => bif Nat.beq i id then CR.ok .norm s else CR.ok (.exit i) s | r => r) = .ok e s' := h
    refine wp_block ?_
    split at h
    · rename_i i s1 h1
      refine ix s (.exit i) s1 h1 W μ a w hA R _ fun a1 w1 hw => ?_
      show if i = id then Q .normal a1 w1 else Q (.exit i) a1 w1
      cases hb : Nat.beq i id with
      | true =>
        rw [hb] at h; cases h
        rw [if_pos (Nat.eq_of_beq_eq_true hb)]
        exact hq a1 w1 hw
      | false =>
        rw [hb] at h; cases h
        rw [if_neg (Nat.ne_of_beq_eq_false hb)]
        exact hq a1 w1 hw
    · rename_i r hr
      refine ix s e s' h W μ a w hA R _ fun a1 w1 hw => ?_
      have := hq a1 w1 hw
      cases e with
      | norm => exact this
      | exit i => exact absurd h (hr i s')
      | ret => exact this
  | loop x ix =>
    intro s e s' h W μ a w hA R Q hq b k cs
    obtain ⟨e1, a1, w1, h1, h2⟩ := loop_ok ix n s e s' h W μ a w hA R Q hq b k cs
    exact ⟨e1, a1, w1, h1, .of_steps (.one step_loop) h2⟩
  | rangeFunc f ps x y ix iy =>
    intro s e s' h W μ a w hA R Q hq
    exact range_ok C hm hc h hA R hq
  | exit id =>
    intro s e s' h W μ a w hA R Q hq
    cases h
    exact wp_exit (hq _ _ (.refl hA R))
  | scope x ix =>
    intro s e s' h W μ a w hA R Q hq
    have h : evCode cx call callD n x s = .ok e s' := h
    refine wp_scope_straight (ix s e s' h W μ a w hA R _ fun a1 w1 hw => ?_)
    have := hq a1 w1 hw
    cases e <;> exact this
  | label l =>
    intro s e s' h W μ a w hA R Q hq
    cases h
    exact wp_label (hq _ _ (.refl hA R))
  | goto l =>
    intro s e s' h
    cases h
  | ret =>
    intro s e s' h W μ a w hA R Q hq
    cases h
    exact wp_ret (hq _ _ (.refl hA R))
  | refuse why =>
    intro s e s' h
    cases h
theorem run_load (C : CxOk P cx) {W : World} {μ : Mu} {h : Hp} {w : World} (R : Rel W μ h w) {t : TypeId} {i : TI} (ht : cx.ti t = some i) {x x' v : Value} {b off : Nat} (hx : VR μ x x') (hp : ptrV x = some (b, off))
    (e : (match isAggB i.desc with | true => loadA h i.size b off | false => load1 h b off) = some v) : ∃ v', (do loadVar t (← asAddr x') : Sem Value).run P w = .ok v' w ∧ VR μ v v' := by
  have key : ∀ f, LookOk P { dst := none, op := .load t (.tmp 0), type := t, pos := "", after := #[], guard := none } f → f (fun _ => x) h = some v → ∃ v', (do loadVar t (← asAddr x') : Sem Value).run P w = .ok v' w ∧ VR μ v v' := by
    intro f hf he
    obtain ⟨v', h1, h2⟩ := hf W μ (fun _ => x) (fun _ => x') h w v (fun _ _ => hx) R he
    refine ⟨v', ?_, h2⟩
    have hx := hx
    rw [ptrV_eq hp] at hx
    cases hx with
    | ptr _ hb =>
      simp only [execOp, Instr.loadAt, Instr.sureAddr, asAddr, pure_bind] at h1 ⊢
      simp only [Sem.run_bind] at h1
      generalize hr2 : (loadVar t _).run P w = r at h1 ⊢
      cases r with
      | halt z w2 => cases h1
      | ok v2 w2 => simp only [Result.andThen_ok, Sem.run_pure] at h1; cases h1; rfl
  cases hd : isAggB i.desc with
  | true =>
    rw [hd] at e
    exact key _ (ok_loadA C ht hd rfl) (by dsimp only; rw [hp]; exact e)
  | false =>
    rw [hd] at e
    exact key _ (ok_load1 C ht hd rfl) (by dsimp only; rw [hp]; exact e)
def resF (a : Act) : ResultVar → Sem Value
  | .tmp t => pure (a.tmps.getD t undef)
  | .cell ad t => do loadVar t (← asAddr (a.tmps.getD ad undef))
theorem res_list (C : CxOk P cx) {W : World} {μ : Mu} {T : Tr Value} {h : Hp} {w : World} {a : Act} (hT : ∀ t, VR μ (slot T t) (a.tmps.getD t undef)) (R : Rel W μ h w) :
    ∀ (rs : List ResultVar) (l : List Value), evRes cx T h rs = some l → ∃ l', (rs.mapM (resF a)).run P w = .ok l' w ∧ VRs μ l l'
  | [], l, e => by cases e; exact ⟨[], by simp, .nil⟩
  | .tmp t :: rs, l, e => by
    simp only [evRes] at e
    split at e
    · rename_i l1 h1
      cases e
      obtain ⟨l', g1, g2⟩ := res_list C hT R rs l1 h1
      exact ⟨a.tmps.getD t undef :: l', by simp only [List.mapM_cons, resF, Sem.run_bind, Sem.run_pure, Result.andThen_ok, g1], .cons (hT t) g2⟩
    · cases e
  | .cell ad t :: rs, l, e => by
    simp only [evRes] at e
    split at e
    · rename_i i hi
      split at e
      · rename_i b off hp
        split at e
        · rename_i v l1 hv h1
          cases e
          obtain ⟨l', g1, g2⟩ := res_list C hT R rs l1 h1
          have hpt : ptrV (slot T ad) = some (b, off) := by
            unfold slot
            split at hp
            · rename_i u hu; rw [hu]; exact hp
            · cases hp
          obtain ⟨v', y1, y2⟩ := run_load C R hi (hT ad) hpt hv
          exact ⟨v' :: l', by rw [List.mapM_cons, Sem.run_bind]; rw [show resF a (.cell ad t) = (do loadVar t (← asAddr (a.tmps.getD ad undef)) : Sem Value) from rfl, y1]; simp only [Sem.run_bind, Sem.run_pure, Result.andThen_ok, g1], .cons y2 g2⟩
        · cases e
      · cases e
    · cases e
theorem out_ok (C : CxOk P cx) {W : World} {μ : Mu} {T : Tr Value} {h h' : Hp} {w : World} {a : Act} {v : Value} (fn : Func) (hT : ∀ t, VR μ (slot T t) (a.tmps.getD t undef)) (R : Rel W μ h w)
    (e : evOut cx fn.results.toList T h = .ok v h') : h' = h ∧ ∃ v', (results fn a.tmps).run P w = .ok v' w ∧ VR μ v v' := by
  unfold evOut at e
  split at e
  · rename_i l hl
    obtain ⟨l', g1, g2⟩ := res_list C hT R _ l hl
    have hrun : (results fn a.tmps).run P w = .ok (if h : l'.toArray.size = 1 then l'.toArray[0] else .tuple l'.toArray) w := by
      have hres : results fn a.tmps = (do let vs ← fn.results.mapM (resF a); pure (if h : vs.size = 1 then vs[0] else .tuple vs)) := rfl
      rw [hres, Array.mapM_eq_mapM_toList]
      simp only [Sem.run_bind, bind_map_left]
      rw [g1]
      simp only [Result.andThen_ok, Sem.run_pure]
    rw [hrun]
    split at e
    · cases e
      cases g2 with
      | cons y1 y2 =>
        cases y2
        exact ⟨rfl, _, rfl, by simpa using y1⟩
    · rename_i hne
      cases e
      refine ⟨rfl, _, rfl, ?_⟩
      have hlen := g2.length
      have : ¬ l'.toArray.size = 1 := by
        simp only [List.size_toArray]
        rw [hlen]
        intro h1
        match l, h1 with
        | [v], _ => exact hne v rfl
      rw [dif_neg this]
      exact .tuple g2
  · cases e
end Go.EvM
namespace Go.EvM
set_option linter.unusedSectionVars false
variable [GLs]
open Go.RowKit
set_option linter.unusedVariables false
variable {P : Program} {cx : Cx}
structure Sound (P : Program) (cx : Cx) : Prop where
  ok : CxOk P cx
  order : P.follows .mixedOrders = true
  ext : ∀ f e, cx.ext f = some e → SumOk P f e
theorem leaves_mono {fn : Func} {tmps : Array Value} {R R' : Ending → World → Prop} (h : ∀ e w, R e w → R' e w) : ∀ (ds : List Deferred) (u : FrameMode) (w : World), LeavesInM Fence.wide 0 P fn tmps R ds u w → LeavesInM Fence.wide 0 P fn tmps R' ds u w
  | [], .returning, w, ⟨v, hr, hR⟩ => ⟨v, hr, h _ _ hR⟩
  | [], .panicking chain, w, hR => h _ _ hR
  | [], .run, _, hf => hf
  | d :: ds, u, w, ⟨hu, .inl ⟨r, w', h1, h2, h3⟩⟩ => ⟨hu, .inl ⟨r, w', h1, h2, leaves_mono h ds u w' h3⟩⟩
  | d :: ds, u, w, ⟨hu, .inr ⟨hn, fv, cap, f, args, h1, h2, h3, h4⟩⟩ => ⟨hu, .inr ⟨hn, fv, cap, f, args, h1, h2, h3, h4.mono fun e u' w' hr => by
      cases e with
      | returned v => exact leaves_mono h ds _ w' hr
      | panicked c => exact leaves_mono h ds _ w' hr
      | outgrown => exact h _ _ hr⟩⟩
theorem runD_call (callD : Caller) (f : FuncId) (args : List Value) (D : List Dfr) (h : Hp) : runD callD (.call f args :: D) h = match callD f args h with | .ok _ h => runD callD D h | .no => none := rfl
theorem runD_mark (callD : Caller) (b : Nat) (D : List Dfr) (h : Hp) : runD callD (.mark b :: D) h = match h.b.get b with | some .mark => runD callD D ⟨h.n, h.b.del b⟩ | _ => none := rfl
theorem Rel.unmark {W : World} {μ : Mu} {h : Hp} {w : World} (R : Rel W μ h w) {b : Nat} {i : BI} (hb : μ b = some i) (ho : h.b.get b = some .mark) (x : Obj) : Rel W μ ⟨h.n, h.b.del b⟩ (w.putObj i.rb x) := by
  obtain ⟨r1, r2⟩ := R.ob b i _ hb ho
  have hother : ∀ k, k ≠ i.rb → (w.putObj i.rb x).heap[k]? = w.heap[k]? := fun k hk => World.putObj_heap_other hk
  have old : ∀ {c o}, (h.b.del b).get c = some o → c ≠ b ∧ h.b.get c = some o := fun {c o} hc => by
    rw [Tr.get_del] at hc
    split at hc
    · cases hc
    · rename_i hne; exact ⟨hne, hc⟩
  refine ⟨R.gl, R.dom, fun c j o hc hoc => ?_, fun c d j k o p hc hd hoc hpd wo wp hjk => R.inj c d j k o p hc hd (old hoc).2 (old hpd).2 wo wp hjk,
    ⟨R.below.os, R.below.tape, R.below.output, by simpa [World.putObj] using R.below.size, fun k hk => (hother k (by omega)).trans (R.below.block k hk)⟩⟩
  obtain ⟨hne, hoc⟩ := old hoc
  have ro := R.ob c j o hc hoc
  refine ro.move (Le.refl _) (hother _ fun hrb => ?_)
  cases o with
  | cells c2 n2 z2 ti2 ro2 =>
    obtain ⟨cs, e, fz, h1, _⟩ := ro
    rw [hrb, r1] at h1; cases h1
  | map es =>
    obtain ⟨arr, cl, h1, _⟩ := ro
    rw [hrb, r1] at h1; cases h1
  | mark => exact hne (R.inj c b j i _ _ hc hb hoc ho trivial trivial hrb)
  | lock _ _ => exact hne (R.inj c b j i _ _ hc hb hoc ho trivial trivial hrb)
  | chan _ _ => exact hne (R.inj c b j i _ _ hc hb hoc ho trivial trivial hrb)
theorem leaves_ok (C : CxOk P cx) {callD : Caller} (hD : DefSound P callD) {fn : Func} {tmps : Array Value} {T : Tr Value} {W : World} {v : Value} {h' H2 : Hp} (eo : evOut cx fn.results.toList T H2 = .ok v h') :
    ∀ (D : List Dfr) (ds : List Deferred) (H : Hp) (μ : Mu) (w : World), runD callD D H = some H2 → DfrR μ D ds → (∀ t, VR μ (slot T t) (tmps.getD t undef)) → Rel W μ H w →
      LeavesInM Fence.wide 0 P fn tmps (fun e w' => ∃ v2, e = .returned v2 ∧ After W μ H v h' v2 w') ds .returning w
  | [], [], H, μ, w, e, hd, hT, R => by
    cases e
    obtain ⟨rfl, v1, g1, g2⟩ := out_ok C (a := { tmps := tmps, defers := [] }) fn hT R eo
    exact ⟨v1, g1, v1, rfl, μ, g2, R, Ext.refl _ _, Nat.le_refl _⟩
  | .call f args :: D, d' :: ds, H, μ, w, e, ⟨⟨c, a, h1, h2⟩, h3⟩, hT, R => by
    rw [runD_call] at e
    split at e
    · rename_i u1 H1 hcall
      subst h1
      obtain ⟨g1, g2, _⟩ := hD _ _ _ _ _ hcall W μ w _ h2 R
      have harr : ((a ++ c).toList).toArray = a ++ c := by simp
      rw [harr] at g1 g2
      refine ⟨by simp, .inr ⟨fun h => by simp [Fence.wide] at h, .func f, c, f, a ++ c, rfl, by simp only [invoke]; exact g1, fun _ _ => trivial, (g2 .returning).mono ?_⟩⟩
      rintro e' u' w' ⟨rfl, v', rfl, μ1, k1, k2, k3, k4⟩
      show LeavesInM Fence.wide 0 P fn tmps _ ds .returning w'
      have := leaves_ok C hD eo D ds H1 μ1 w' e (h3.mono k3.le) (fun t => (hT t).mono k3.le) k2
      exact leaves_mono (fun e w ⟨v2, m1, μ2, m2, m3, m4, m5⟩ => ⟨v2, m1, μ2, m2, m3, k3.trans m4 k4, Nat.le_trans k4 m5⟩) ds .returning w' this
    · cases e
  | .mark b :: D, d' :: ds, H, μ, w, e, ⟨⟨i, h1, h2⟩, h3⟩, hT, R => by
    rw [runD_mark] at e
    split at e
    · rename_i hb
      subst h2
      obtain ⟨r1, r2⟩ := R.ob b i _ h1 hb
      refine ⟨by simp, .inl ⟨i.rb, _, rfl, run_takeDeferred r1, ?_⟩⟩
      exact leaves_ok C hD eo D ds ⟨H.n, H.b.del b⟩ μ _ e h3 hT (R.unmark h1 hb _)
    · cases e
  | [], _ :: _, _, _, _, _, h, _, _ => h.elim
  | _ :: _, [], _, _, _, _, h, _, _ => h.elim
theorem body_go (H : Sound P cx) {call : Caller} (hc : CallSound P call) {callD : Caller} (hD : DefSound P callD) {n : Nat} {fn : Func} {c : Code} {args : List Value} {h : Hp} {ex : Ex} {s' : St} (hev : evCode cx call callD n c (enterS fn args h) = .ok ex s')
    {W : World} {μ : Mu} {w : World} {args' : List Value} (hv : VRs μ args args') (R : Rel W μ h w) {Q : Exit → Act → World → Prop}
    (hq : ∀ a' w', Went W μ (enterS fn args h) s' a' w' → Q ex.exit! a' w') :
    c.wp P Q { tmps := args'.toArray ++ Array.replicate (fn.ntmps - args'.toArray.size) undef, defers := [] } w :=
  code_ok H.ok H.order hc hD n c _ _ _ hev W μ _ w (enter_R hv) R _ hq
theorem body_def (H : Sound P cx) {call : Caller} (hc : CallSound P call) {n : Nat} {f : FuncId} {fn : Func} (hf : P.funcs[f]? = some fn) {args : List Value} {h : Hp} {v : Value} {h' : Hp} (e : evBody0 cx call n fn args h = .ok v h')
    {W : World} {μ : Mu} {w : World} {args' : List Value} (hv : VRs μ args args') (R : Rel W μ h w) :
    ∃ c, fn.body = some c ∧ c.wp P (bodyPost P fn fun e w' => ∃ v', e = .returned v' ∧ After W μ h v h' v' w') { tmps := args'.toArray ++ Array.replicate (fn.ntmps - args'.toArray.size) undef, defers := [] } w := by
  unfold evBody0 at e
  split at e
  · rename_i c hb
    refine ⟨c, hb, ?_⟩
    unfold evEnd0 at e
    split at e
    · rename_i ex s' hev
      obtain ⟨n', T, D, H1⟩ := s'
      dsimp only at e
      refine body_go H hc noCall_sound hev hv R fun a' w' ⟨μ', q1, q2, q3, q4⟩ => ?_
      cases D with
      | cons d l => cases e
      | nil =>
        dsimp only at e
        have hd : a'.defers = [] := by
          have hd := q1.dfr
          cases hdd : a'.defers with
          | nil => rfl
          | cons d l => rw [hdd] at hd; exact hd.elim
        have key : evOut cx fn.results.toList T H1 = .ok v h' → a'.defers = [] ∧ ∃ v1, (results fn a'.tmps).run P w' = .ok v1 w' ∧ ∃ v2, Ending.returned v1 = .returned v2 ∧ After W μ h v h' v2 w' := fun eo => by
          obtain ⟨rfl, v1, g1, g2⟩ := out_ok H.ok fn q1.tmp q2 eo
          exact ⟨hd, v1, g1, v1, rfl, μ', g2, q2, q3, q4⟩
        cases ex with
        | exit i => cases e
        | norm => exact key e
        | ret => exact key e
    · cases e
  · cases e
theorem body_calls (H : Sound P cx) {call : Caller} (hc : CallSound P call) {callD : Caller} (hD : DefSound P callD) {n : Nat} {f : FuncId} {fn : Func} (hf : P.funcs[f]? = some fn) {args : List Value} {h : Hp} {v : Value} {h' : Hp} (e : evBody cx call callD n fn args h = .ok v h')
    {W : World} {μ : Mu} {w : World} {args' : List Value} (hv : VRs μ args args') (R : Rel W μ h w) :
    ∃ c, fn.body = some c ∧ Calls P f args'.toArray w fun e w' => ∃ v', e = .returned v' ∧ After W μ h v h' v' w' := by
  unfold evBody at e
  split at e
  · rename_i c hb
    refine ⟨c, hb, ?_⟩
    unfold evEnd at e
    split at e
    · rename_i ex s' hev
      obtain ⟨n', T, D, H1⟩ := s'
      dsimp only at e
      refine callsIn_wide.1 (callsIn_of_wp_marks (n := 0) (R := fun e w' => ∃ v', e = .returned v' ∧ After W μ h v h' v' w') hf hb trivial (wpIn_wide.2 (body_go H hc hD hev hv R fun a' w' ⟨μ', q1, q2, q3, q4⟩ => ?_)))
      have key : ∀ H2, runD callD D H1 = some H2 → evOut cx fn.results.toList T H2 = .ok v h' → LeavesInM Fence.wide 0 P fn a'.tmps (fun e w' => ∃ v', e = .returned v' ∧ After W μ h v h' v' w') a'.defers .returning w' := fun H2 hr eo =>
        leaves_mono (fun e w ⟨v2, m1, μ2, m2, m3, m4, m5⟩ => ⟨v2, m1, μ2, m2, m3, q3.trans m4 q4, Nat.le_trans q4 m5⟩) _ _ _ (leaves_ok H.ok hD eo D a'.defers H1 μ' w' hr q1.dfr q1.tmp q2)
      cases ex with
      | exit i => cases e
      | norm =>
        dsimp only at e
        split at e
        · rename_i H2 hr; exact key H2 hr e
        · cases e
      | ret =>
        dsimp only at e
        split at e
        · rename_i H2 hr; exact key H2 hr e
        · cases e
    · cases e
  · cases e
theorem body_ok (H : Sound P cx) {call : Caller} (hc : CallSound P call) {callD : Caller} (hD : DefSound P callD) {n : Nat} {f : FuncId} {fn : Func} (hf : P.funcs[f]? = some fn) (hn : fn.name ≠ "runtime.NumGoroutine") : SumOk P f (evBody cx call callD n fn) := by
  intro args h v h' e W μ w args' hv R
  obtain ⟨c, hb, hcalls⟩ := body_calls H hc hD hf e hv R
  rw [MuLone.run_callFunc_enter hf (by simpa using hn) hb]
  exact hcalls
theorem def_ok (H : Sound P cx) {call : Caller} (hc : CallSound P call) (n : Nat) : DefSound P (evDef cx call n) := by
  intro f args h v h' e W μ w args' hv R
  have e : (match cx.ext f with | some _ => OR.no | none => match cx.fn f with | some fn => evBody0 cx call n fn args h | none => .no) = .ok v h' := e
  split at e
  · cases e
  · split at e
    · rename_i fn hfn
      obtain ⟨hf, hn⟩ := H.ok.fn f fn hfn
      obtain ⟨c, hb, hwp⟩ := body_def H hc hf e hv R
      exact ⟨MuLone.run_callFunc_enter hf (by simpa using hn) hb _ _, fun u => callsDIn_of_wp hf hb trivial (wpIn_wide.2 hwp), calls_of_wp hf hb hwp⟩
    · cases e
theorem fun_ok (H : Sound P cx) : ∀ n, CallSound P (evFun cx n) := by
  intro n
  induction n with
  | zero => intro f args h v h' e; cases e
  | succ n ih =>
    intro f args h v h' e
    have e : (match cx.ext f with | some e => e args h | none => match cx.fn f with | some fn => evBody cx (evFun cx n) (evDef cx (evFun cx n) n) n fn args h | none => .no) = .ok v h' := e
    split at e
    · rename_i g hg
      exact H.ext f g hg args h v h' e
    · split at e
      · rename_i fn hfn
        exact body_ok H ih (def_ok H ih n) (H.ok.fn f fn hfn).1 (H.ok.fn f fn hfn).2 args h v h' e
      · cases e
theorem run_ok (H : Sound P cx) {n : Nat} {f : FuncId} {fn : Func} {c : Code} (hf : P.funcs[f]? = some fn) (hn : fn.name ≠ "runtime.NumGoroutine") (hb : fn.body = some c) {args : List Value} {h : Hp} {v : Value} {h' : Hp} (e : evBody cx (evFun cx n) (evDef cx (evFun cx n) n) n fn args h = .ok v h')
    {μ : Mu} {w : World} {args' : List Value} (hv : VRs μ args args') (R : Rel w μ h w) : Calls P f args'.toArray w fun e w' => ∃ v', e = .returned v' ∧ After w μ h v h' v' w' := by
  obtain ⟨_, _, h2⟩ := body_calls H (fun_ok H n) (def_ok H (fun_ok H n) n) hf e hv R
  exact h2
theorem rel_empty (w : World) (hgl : GlOk w) : Rel w (fun _ => none) ⟨0, .nil⟩ w :=
  ⟨hgl, fun _ _ h => (Option.some_ne_none _ h.symm).elim, fun _ _ _ h => (Option.some_ne_none _ h.symm).elim, fun _ _ _ _ _ _ h => (Option.some_ne_none _ h.symm).elim, Below.refl _ _⟩
theorem run_yes (H : Sound P cx) {n : Nat} {f : FuncId} {fn : Func} {c : Code} (hf : P.funcs[f]? = some fn) (hn : fn.name ≠ "runtime.NumGoroutine") (hb : fn.body = some c) {args args' : List Value}
    (e : (match evBody cx (evFun cx n) (evDef cx (evFun cx n) n) n fn args ⟨0, .nil⟩ with | .ok (.bool b) _ => b | _ => false) = true) (hv : VRs (fun _ => none) args args') (w : World) (hgl : GlOk w) :
    Calls P f args'.toArray w fun e w' => e = .returned (.bool true) ∧ Below w.heap.size w w' := by
  split at e
  · rename_i b h' he
    subst e
    refine (run_ok H hf hn hb he hv (rel_empty w hgl)).mono fun e w' ⟨v', h1, μ', h2, h3, _⟩ => ?_
    cases h2
    exact ⟨h1, h3.below⟩
  · cases e
theorem run_true (H : Sound P cx) {n : Nat} {f : FuncId} {fn : Func} {c : Code} (hf : P.funcs[f]? = some fn) (hn : fn.name ≠ "runtime.NumGoroutine") (hb : fn.body = some c)
    (e : (match evBody cx (evFun cx n) (evDef cx (evFun cx n) n) n fn [] ⟨0, .nil⟩ with | .ok (.bool b) _ => b | _ => false) = true) (w : World) (hgl : GlOk w) :
    Calls P f #[] w fun e w' => e = .returned (.bool true) ∧ Below w.heap.size w w' :=
  run_yes H hf hn hb e .nil w hgl
theorem mkTI_eq {t : TypeId} {i : TI} (h : mkTI P t = some i) : ∃ inf z, P.info? t = some inf ∧ P.underlying t = some i.desc ∧ inf.size = i.size ∧ inf.bytes = i.bytes ∧ inf.zero = some z ∧ z.cells.toList = i.zero ∧ i.zero.length = i.size ∧
    (∀ x ∈ i.zero, plainV 4 x = true ∧ oneB x = true) ∧ i.zv = z ∧ plainV 5 z = true := by
  unfold mkTI at h
  split at h
  · rename_i inf hinf
    split at h
    · rename_i d z hd hz
      cases hb : Nat.beq z.cells.toList.length inf.size && z.cells.toList.all (fun x => plainV 4 x && oneB x) && plainV 5 z with
      | false => rw [hb] at h; cases h
      | true =>
        rw [hb] at h; cases h
        rw [Bool.and_eq_true, Bool.and_eq_true] at hb
        refine ⟨inf, z, hinf, hd, rfl, rfl, hz, rfl, Nat.eq_of_beq_eq_true hb.1.1, fun x hx => ?_, rfl, hb.2⟩
        have := List.all_eq_true.1 hb.1.2 x hx
        simpa using this
    · cases h
  · cases h
theorem leaves_of : ∀ {fs : List Field} {ls : List (Nat × TypeDesc)}, leavesL P fs = some ls → LeavesOf P fs ls
  | [], ls, h => by cases h; trivial
  | f :: fs, ls, h => by
    unfold leavesL at h
    split at h
    · rename_i i hi
      obtain ⟨inf, z, h1, h2, _⟩ := mkTI_eq hi
      cases hb : (keyD i.desc && !(f.name == "_")) with
      | false => rw [hb] at h; cases h
      | true =>
        rw [hb] at h
        simp only [cond_true] at h
        rw [Bool.and_eq_true] at hb
        split at h
        · rename_i l hl
          cases h
          exact ⟨by simpa using hb.2, rfl, h2, hb.1, leaves_of hl⟩
        · cases h
    · cases h
theorem cx_ok {sts : List TypeId} {ext : FuncId → Option (List Value → Hp → OR)} (hn : P.funcs.toList.all (fun g => !(g.name == "runtime.NumGoroutine")) = true) (hs : sts.all (fun t => !P.stoodInHeld t && !P.eqGuardType P.depth t) = true) : CxOk P (mkCx P sts ext) := by
  refine ⟨fun t i h => ?_, fun f fn h => ?_, fun t ls h => ?_, fun e n off u h => h, fun e h => Nat.eq_of_beq_eq_true h, fun g c h => (by cases h), fun f h => (by cases h), fun f h => (by cases h), fun t i h => ?_⟩
  · obtain ⟨inf, z, h1, h2, h3, h4, h5, h6, h7, h8, _⟩ := mkTI_eq (show mkTI P t = some i from h)
    exact ⟨inf, z, h1, h2, h3, h4, h5, h6, h7, h8⟩
  · have h : P.funcs.toList[f]? = some fn := h
    rw [Array.getElem?_toList] at h
    refine ⟨h, ?_⟩
    have := List.all_eq_true.1 hn fn (Array.mem_toList_iff.2 (Array.mem_of_getElem? h))
    simpa using this
  · have h : mkEq P sts t = some ls := h
    unfold mkEq at h
    cases hm : memN t sts with
    | false => rw [hm] at h; cases h
    | true =>
      rw [hm] at h
      simp only [cond_true] at h
      obtain ⟨u, hu1, hu2⟩ := List.any_eq_true.1 hm
      have hu2 := Nat.eq_of_beq_eq_true hu2
      subst hu2
      have := List.all_eq_true.1 hs _ hu1
      rw [Bool.and_eq_true] at this
      split at h
      · rename_i fs hfs
        exact ⟨fs, hfs, by simpa using this.1, by simpa using this.2, leaves_of h⟩
      · cases h
  · obtain ⟨inf, z, h1, h2, h3, h4, h5, h6, h7, h8, h9, h10⟩ := mkTI_eq (show mkTI P t = some i from h)
    exact ⟨inf, h1, by rw [h9]; exact h5, by rw [h9]; exact h10⟩
noncomputable def mkCxG (P : Program) (sts : List TypeId) (gl : Nat → Option (Tr Value)) (ext : FuncId → Option (List Value → Hp → OR)) : Cx :=
  { ti := mkTI P, fn := fun f => P.funcs.toList[f]?, eqs := mkEq P sts, lies := fun e n off u => liesAt P P.depth e (n / P.cellsOf e) off u 1, one := fun e => Nat.beq (P.cellsOf e) 1, ext, gl }
theorem cx_okG {sts : List TypeId} {ext : FuncId → Option (List Value → Hp → OR)} {gl : Nat → Option (Tr Value)} (hn : P.funcs.toList.all (fun g => !(g.name == "runtime.NumGoroutine")) = true)
    (hs : sts.all (fun t => !P.stoodInHeld t && !P.eqGuardType P.depth t) = true) (hg : ∀ g c, gl g = some c → ∃ cs, GLs.tab g = some cs ∧ ∀ j, c.get j = cs[j]?) : CxOk P (mkCxG P sts gl ext) :=
  have C := cx_ok (P := P) (sts := sts) (ext := ext) hn hs
  ⟨C.ti, C.fn, C.eqs, C.lies, C.one, hg, fun f h => (by cases h), fun f h => (by cases h), C.zv⟩
noncomputable def mkCxF (P : Program) (sts : List TypeId) (gl : Nat → Option (Tr Value)) (facts : List Fact) (ext : FuncId → Option (List Value → Hp → OR)) : Cx :=
  { ti := mkTI P, fn := fun f => P.funcs.toList[f]?, eqs := mkEq P sts, lies := fun e n off u => liesAt P P.depth e (n / P.cellsOf e) off u 1, one := fun e => Nat.beq (P.cellsOf e) 1, ext, gl, facts }
theorem cx_okF {sts : List TypeId} {ext : FuncId → Option (List Value → Hp → OR)} {gl : Nat → Option (Tr Value)} {facts : List Fact} (hn : P.funcs.toList.all (fun g => !(g.name == "runtime.NumGoroutine")) = true)
    (hs : sts.all (fun t => !P.stoodInHeld t && !P.eqGuardType P.depth t) = true) (hg : ∀ g c, gl g = some c → ∃ cs, GLs.tab g = some cs ∧ ∀ j, c.get j = cs[j]?) (hF : FOk facts) : CxOk P (mkCxF P sts gl facts ext) :=
  have C := cx_ok (P := P) (sts := sts) (ext := ext) hn hs
  ⟨C.ti, C.fn, C.eqs, C.lies, C.one, hg, hF, fun f h => (by cases h), C.zv⟩
noncomputable def mkCxT (P : Program) (sts : List TypeId) (gl : Nat → Option (Tr Value)) (facts : List Fact) (tabs : List Tab) (ext : FuncId → Option (List Value → Hp → OR)) : Cx :=
  { ti := mkTI P, fn := fun f => P.funcs.toList[f]?, eqs := mkEq P sts, lies := fun e n off u => liesAt P P.depth e (n / P.cellsOf e) off u 1, one := fun e => Nat.beq (P.cellsOf e) 1, ext, gl, facts, tabs }
theorem cx_okT {sts : List TypeId} {ext : FuncId → Option (List Value → Hp → OR)} {gl : Nat → Option (Tr Value)} {facts : List Fact} {tabs : List Tab} (hn : P.funcs.toList.all (fun g => !(g.name == "runtime.NumGoroutine")) = true)
    (hs : sts.all (fun t => !P.stoodInHeld t && !P.eqGuardType P.depth t) = true) (hg : ∀ g c, gl g = some c → ∃ cs, GLs.tab g = some cs ∧ ∀ j, c.get j = cs[j]?) (hF : FOk facts) (hT : TOk tabs) : CxOk P (mkCxT P sts gl facts tabs ext) :=
  have C := cx_ok (P := P) (sts := sts) (ext := ext) hn hs
  ⟨C.ti, C.fn, C.eqs, C.lies, C.one, hg, hF, hT, C.zv⟩
end Go.EvM
namespace Go.EvM
open Go.ChangeShapes Go.WideShapes Go.RowKit
theorem post_of_below {H : Type} {enc : TypeId × Value → H} {P : Program} {f : Func} {s : ChangeSpec} {apart fresh handsOn : Bool} {W W' : World} {args : Array Value} {v : Value} {ds gs : List (DataW H)} {before pa pv : List MemPlace}
    (hW : DataW.Whole enc P f.params.toList s.vars apart W args.toList ds gs before)
    (hres : ∀ (b : Nat) (sp : Nat → Bool) (hd : Bool), DataW.TrodAll enc P W' b sp hd f.resultTypes.toList (v.resultList f.resultTypes.size) (s.fn H (ds ++ gs)).results [])
    (hargs : ∀ sp : Nat → Bool, (∀ p ∈ before, sp p.block = true) → DataW.TrodAll enc P W' 0 sp true f.params.toList args.toList (s.fn H (ds ++ gs)).args pa)
    (hvars : ∀ sp : Nat → Bool, (∀ p ∈ before, sp p.block = true) → DataW.TrodVars enc P W' sp s.vars (s.fn H (ds ++ gs)).vars pv)
    (hps : before = pa ++ pv) (hb : Below W.heap.size W W') : s.post enc P f apart fresh handsOn false W args v W' := by
  have hold : ∀ p ∈ before, (fun b => decide (b < W.heap.size)) p.block = true := fun p hp => by simpa using hW.lt p hp
  refine ⟨ds, gs, before, [], pa, pv, hW, hres _ _ _, hargs _ hold, hvars _ hold, World.keptBut_mono (fun p hp => ⟨hp, ?_⟩) (hb.frame (· ∈ before)), fun h => by cases h⟩
  rw [hps, List.mem_append] at hp
  exact Or.inr hp
end Go.EvM
