/- Code: what the interpreter answers the model does, whatever is drawn. -/
import Derived.Test.YtmnpdgldmpjekaaEvOps10
import Derived.Test.YtmnpdgldmpjekaaEvDef2
import Derived.Orders
import Derived.Defers
namespace Go.EvM
open Go.RowKit
set_option linter.unusedVariables false
variable {P : Program} {cx : Cx}

def DfrR (μ : Mu) : List Dfr → List Deferred → Prop
  | [], [] => True
  | d :: l, e :: m => (∃ c a, e = { target := .fn (.func d.f) c, args := a } ∧ VRs μ d.args (a ++ c).toList) ∧ DfrR μ l m
  | _, _ => False
theorem DfrR.mono {μ μ' : Mu} (hl : Le μ μ') : ∀ {l : List Dfr} {m : List Deferred}, DfrR μ l m → DfrR μ' l m
  | [], [], _ => trivial
  | _ :: _, _ :: _, ⟨⟨c, a, h1, h2⟩, h3⟩ => ⟨⟨c, a, h1, h2.mono hl⟩, DfrR.mono hl h3⟩
  | [], _ :: _, h => h.elim
  | _ :: _, [], h => h.elim

noncomputable def slot (T : Tr Value) (t : Nat) : Value := match T.get t with | some v => v | none => undef

/-- The slots, the deferred calls. -/
structure ActR (μ : Mu) (s : St) (a : Act) : Prop where
  size : a.tmps.size = s.n
  tmp : ∀ t, VR μ (slot s.T t) (a.tmps.getD t undef)
  dfr : DfrR μ s.D a.defers

theorem ActR.mono {μ μ' : Mu} (hl : Le μ μ') {s : St} {a : Act} (h : ActR μ s a) : ActR μ' s a := ⟨h.size, fun t => (h.tmp t).mono hl, h.dfr.mono hl⟩

theorem ActR.eval {μ : Mu} {s : St} {a : Act} (h : ActR μ s a) {x : Operand} (hx : okOpnd x = true) : VR μ (evO s.T x) (a.eval x) := by
  cases x with
  | tmp t => exact h.tmp t
  | const v => exact plain_VR μ 4 v hx
  | global g => cases hx
  | func f => exact .func f .nil .nil

theorem ActR.ops {μ : Mu} {s : St} {a : Act} (h : ActR μ s a) {o : Oper} (ho : ∀ x ∈ o.op.operands.toList, okOpnd x = true) : Ops o μ (evO s.T) a.eval := fun x hx => h.eval (ho x hx)

theorem setD_eq {s s' : St} {d : Option Tmp} {v : Value} {h : Hp} (e : s.setD d v h = .ok s') : s'.H = h ∧ s'.n = s.n ∧ s'.D = s.D ∧ ∀ {μ : Mu} {a : Act} {u : Value}, ActR μ s a → VR μ v u → ActR μ s' (a.put d u) := by
  obtain ⟨n, T, D, H⟩ := s
  unfold St.setD at e
  cases d with
  | none => cases e; exact ⟨rfl, rfl, rfl, fun h _ => ⟨h.size, h.tmp, h.dfr⟩⟩
  | some d =>
    dsimp only at e
    cases hb : Nat.blt d n with
    | false => rw [hb] at e; cases e
    | true =>
      rw [hb] at e; cases e
      have hd := blt_lt hb
      refine ⟨rfl, rfl, rfl, fun {μ a u} h hv => ⟨by simp [Act.put, h.size], fun t => ?_, h.dfr⟩⟩
      have hlt : d < a.tmps.size := by rw [h.size]; exact hd
      by_cases ht : t = d
      · subst ht
        simp [slot, Tr.get_put_eq, Act.put, hlt]; exact hv
      · have := h.tmp t
        simp only [slot, Tr.get_put_ne _ _ ht] at this ⊢
        simp only [Act.put, Array.getD_eq_getD_getElem?] at this ⊢
        rw [Array.getElem?_setIfInBounds_ne (fun e => ht e.symm)]; exact this

/-! ### A call -/
/-- What comes of an operation: at once, or of the call that it makes. -/
def NextOk (P : Program) (Q : Value → World → Prop) : Result Next → Prop
  | .ok (.value v) w => Q v w
  | .ok (.enter f args) w => Calls P f args w fun e w' => ∃ v, e = .returned v ∧ Q v w'
  | _ => False

def After (W : World) (μ : Mu) (h : Hp) (v : Value) (h' : Hp) (v' : Value) (w' : World) : Prop :=
  ∃ μ', VR μ' v v' ∧ Rel W μ' h' w' ∧ Ext h.n μ μ' ∧ h.n ≤ h'.n

def SumOk (P : Program) (f : FuncId) (e : List Value → Hp → OR) : Prop :=
  ∀ args h v h', e args h = .ok v h' → ∀ W μ w args', VRs μ args args' → Rel W μ h w → NextOk P (After W μ h v h') ((callFunc f args'.toArray).run P w)

def CallSound (P : Program) (call : Caller) : Prop := ∀ f, SumOk P f (call f)

theorem upon_next {o : Oper} {a : Act} {Q : Exit → Act → World → Prop} {K : Act → World → Prop} {R : Value → World → Prop} {r : Result Next} (h : NextOk P R r) (hk : ∀ v w, R v w → K (a.put o.dst v) w) : o.upon P a K Q r := by
  cases r with
  | ok n w =>
    cases n <;> simp only [NextOk] at h <;> simp only [Oper.upon]
    · exact hk _ _ h
    · exact h.mono fun e w' ⟨v, he, hr⟩ => by subst he; exact hk _ _ hr
  | halt x w => exact h.elim

/-- After a step. -/
def Went (W : World) (μ : Mu) (s s' : St) (a : Act) (w : World) : Prop :=
  ∃ μ', ActR μ' s' a ∧ Rel W μ' s'.H w ∧ Ext s.H.n μ μ' ∧ s.H.n ≤ s'.H.n

theorem want_ok {μ : Mu} {s : St} {a : Act} (h : ActR μ s a) (ops : Array Oper) (o : Oper) : Region.wanted o (yielded ops a.tmps) = wantT s.T ops.toList o.guard := by
  unfold Region.wanted wantT
  cases o.guard with
  | none => rfl
  | some g =>
    obtain ⟨j, w⟩ := g
    simp only [yielded, nth_eq, Array.getElem?_toList]
    cases ho : ops[j]? with
    | none => simp
    | some p =>
      simp only [Option.bind_some]
      cases hd : p.dst with
      | none => simp
      | some d =>
        simp only [Option.bind_some]
        have ht := h.tmp d
        simp only [slot, Array.getD_eq_getD_getElem?] at ht
        cases hg : s.T.get d with
        | none =>
          rw [hg] at ht
          cases hq : a.tmps[d]? with
          | none => simp
          | some v =>
            rw [hq] at ht; simp at ht
            cases ht with
            | tuple _ => rfl
        | some u =>
          rw [hg] at ht
          cases hq : a.tmps[d]? with
          | none =>
            rw [hq] at ht; simp at ht
            cases ht with
            | tuple _ => rfl
          | some v =>
            rw [hq] at ht; simp at ht
            cases ht <;> first
              | rfl
              | (rename_i b; cases b <;> cases w <;> rfl)

theorem res_ok (C : CxOk P cx) {call : Caller} (hc : CallSound P call) {o : Oper} {ρ : Env} {D D' : List Dfr} {H H' : Hp} {v : Value} (e : resCls call (cls cx o) ρ D H = .ok v D' H') {W : World} {μ : Mu} {a : Act} {w : World}
    (hops : (∀ x ∈ o.op.operands.toList, okOpnd x = true) → Ops o μ ρ a.eval) (hD : DfrR μ D a.defers) (R : Rel W μ H w)
    {Q : Exit → Act → World → Prop} {K : Act → World → Prop}
    (hk : ∀ (a' : Act) (v' : Value) (w' : World) (μ' : Mu), a'.tmps = a.tmps → VR μ' v v' → DfrR μ' D' a'.defers → Rel W μ' H' w' → Ext H.n μ μ' → H.n ≤ H'.n → (isM cx o = false → D' = D ∧ a'.defers = a.defers) → K (a'.put o.dst v') w') : o.wp P a w K Q := by
  have hcls := cls_ok C o
  have hopn := cls_opnd (cx := cx) (o := o)
  have hism : ∀ c, cls cx o = c → isM cx o = (match c with | .pure _ => false | .look _ => false | .make _ => false | _ => true) := fun c hc => by unfold isM; rw [hc]; cases c <;> rfl
  unfold Oper.wp
  generalize hcl : cls cx o = c at e hcls hopn
  replace hism := hism c hcl
  cases c with
  | pure f =>
    have hops := hops (hopn (by simp))
    simp only [resCls] at e
    split at e
    · rename_i v1 hv
      cases e
      obtain ⟨v', hr, hvr⟩ := hcls μ _ _ w v hops hv
      rw [hr]
      exact hk a _ _ μ rfl hvr hD R (Ext.refl _ _) (Nat.le_refl _) (fun _ => ⟨rfl, rfl⟩)
    · cases e
  | look f =>
    have hops := hops (hopn (by simp))
    simp only [resCls] at e
    split at e
    · rename_i v1 hv
      cases e
      obtain ⟨v', hr, hvr⟩ := hcls W μ _ _ H w v hops R hv
      rw [hr]
      exact hk a _ _ μ rfl hvr hD R (Ext.refl _ _) (Nat.le_refl _) (fun _ => ⟨rfl, rfl⟩)
    · cases e
  | make f =>
    have hops := hops (hopn (by simp))
    simp only [resCls] at e
    split at e
    · rename_i m hm
      cases e
      obtain ⟨v', w', bi, hr, h1, h2, h3, h4, h5, h6⟩ := hcls W μ _ _ H w m hops R hm
      have hfr : μ H.n = none := R.fresh (Nat.le_refl _)
      obtain ⟨g1, g2⟩ := h6 H.n hfr
      rw [hr]
      exact hk a _ _ (μ.set H.n bi) rfl g1 (hD.mono (Mu.le_set hfr))
        (R.alloc (h' := ⟨Nat.succ H.n, _⟩) hfr h1 (Nat.le_succ _) (Nat.lt_succ_self _) (Tr.get_put_eq _ _ _) (fun c j hc => Tr.get_put_ne _ _ (fun (e : c = H.n) => by subst e; rw [hfr] at hc; cases hc)) h2 h3 h4 h5 g2)
        (Mu.ext_set hfr (Nat.le_refl _)) (Nat.le_succ _) (fun _ => ⟨rfl, rfl⟩)
    · cases e
  | eff f =>
    have hops := hops (hopn (by simp))
    simp only [resCls] at e
    split at e
    · rename_i v1 h' hv
      cases e
      obtain ⟨nx, v', w', μ', hr, hn, hvr, hrel, hext, hle⟩ := hcls W μ _ _ H w v _ hops R hv
      rw [hr]
      cases nx <;> simp only [nextV] at hn <;> cases hn
      · exact hk a _ _ μ' rfl hvr (hD.mono hext.le) hrel hext hle (fun h => by rw [hism] at h; cases h)
      · exact hk a _ _ μ' rfl hvr (hD.mono hext.le) hrel hext hle (fun h => by rw [hism] at h; cases h)
    · cases e
  | call f args =>
    obtain ⟨⟨m1, m2⟩, m3⟩ := hcls
    have hops := hops (hopn (by simp))
    simp only [resCls] at e
    split at e
    · rename_i g fi ca hf
      split at e
      · rename_i v1 h' hcall
        cases e
        have hfv := hops f m1
        rw [hf] at hfv
        generalize hr : a.eval f = r at hfv
        obtain ⟨fi⟩ := fi; obtain ⟨ca⟩ := ca
        cases hfv with
        | func _ ha hcc =>
          rename_i fi' ca'
          have hargs : VRs μ (args.map ρ) (args.map a.eval) := VRs.map fun x hx => hops x (m2 x hx)
          have hex := m3 a.eval g ⟨fi'⟩ ⟨ca'⟩ hr
          have hnx := hc g _ _ _ _ hcall W μ w (fi' ++ (args.map a.eval ++ ca')) (ha.append (hargs.append hcc)) R
          rw [hex]
          have harr : ((⟨fi'⟩ : Array Value) ++ (args.map a.eval).toArray) ++ ⟨ca'⟩ = (fi' ++ (args.map a.eval ++ ca')).toArray := by
            apply Array.ext'; simp
          rw [harr]
          exact upon_next hnx fun v' w' ⟨μ', q1, q2, q3, q4⟩ => hk a _ _ μ' rfl q1 (hD.mono q3.le) q2 q3 q4 (fun h => by rw [hism] at h; cases h)
      · cases e
    · cases e
  | defer f args =>
    obtain ⟨⟨m1, m2⟩, m3⟩ := hcls
    have hops := hops (hopn (by simp))
    simp only [resCls] at e
    split at e
    · rename_i g fi ca hf
      cases e
      have hfv := hops f m1
      rw [hf] at hfv
      generalize hr : a.eval f = r at hfv
      obtain ⟨fi⟩ := fi; obtain ⟨ca⟩ := ca
      cases hfv with
      | func _ ha hcc =>
        rename_i fi' ca'
        have hargs : VRs μ (args.map ρ) (args.map a.eval) := VRs.map fun x hx => hops x (m2 x hx)
        have hex := m3 a.eval g ⟨fi'⟩ ⟨ca'⟩ hr
        rw [hex]
        show K ({ a with defers := _ :: a.defers }.put o.dst undef) w
        refine hk { a with defers := _ :: a.defers } undef w μ rfl (undefR μ) ⟨⟨⟨ca'⟩, (⟨fi'⟩ : Array Value) ++ (args.map a.eval).toArray, rfl, ?_⟩, hD⟩ R (Ext.refl _ _) (Nat.le_refl _) (fun h => by rw [hism] at h; cases h)
        have := ha.append (hargs.append hcc)
        simpa using this
    · cases e
  | bad => simp only [resCls] at e; cases e

theorem step_ok (C : CxOk P cx) {call : Caller} (hc : CallSound P call) {o : Oper} {s s' : St} (e : stepCls call (cls cx o) o.dst s = .ok s') {W : World} {μ : Mu} {a : Act} {w : World} (hA : ActR μ s a) (R : Rel W μ s.H w)
    {Q : Exit → Act → World → Prop} {K : Act → World → Prop} (hk : ∀ a' w', Went W μ s s' a' w' → K a' w') : o.wp P a w K Q := by
  obtain ⟨n, T, D, H⟩ := s
  unfold stepCls at e
  dsimp only at e
  split at e
  · rename_i v d h' hres
    obtain ⟨e1, e2, e3, e4⟩ := setD_eq e
    refine res_ok C hc hres (fun ho => hA.ops ho) hA.dfr R fun a' v' w' μ' g1 g2 g3 g4 g5 g6 _ => ?_
    refine hk _ _ ⟨μ', e4 (a := a') ⟨by rw [g1]; exact hA.size, fun t => by rw [g1]; exact (hA.tmp t).mono g5.le, g3⟩ g2, by rw [e1]; exact g4, g5, by rw [e1]; exact g6⟩
  · cases e

theorem Went.trans {W : World} {μ μ1 : Mu} {s s1 s2 : St} {a : Act} {w : World} (h1 : Ext s.H.n μ μ1) (hn : s.H.n ≤ s1.H.n) (h : Went W μ1 s1 s2 a w) : Went W μ s s2 a w := by
  obtain ⟨μ2, q1, q2, q3, q4⟩ := h
  exact ⟨μ2, q1, q2, h1.trans q3 hn, Nat.le_trans hn q4⟩

theorem stepOp_ok (C : CxOk P cx) {call : Caller} (hc : CallSound P call) {ops : Array Oper} {i : Nat} {o : Oper} (hi : ops[i]? = some o) {s s' : St} (e : stepOp cx call ops.toList o s = .ok s') {W : World} {μ : Mu} {a : Act} {w : World} (hA : ActR μ s a) (R : Rel W μ s.H w)
    {Q : Exit → Act → World → Prop} {K : Act → World → Prop} (hk : ∀ a' w', Went W μ s s' a' w' → K a' w') : wpOp P ops Q i K a w := by
  unfold wpOp
  simp only [hi, want_ok hA ops o]
  obtain ⟨n, T, D, H⟩ := s
  unfold stepOp at e
  dsimp only at e ⊢
  cases hw : wantT T ops.toList o.guard with
  | true =>
    rw [hw] at e
    simp only [cond_true] at e
    exact .inl (step_ok C hc e hA R hk)
  | false =>
    rw [hw] at e
    simp only [cond_false] at e
    obtain ⟨e1, e2, e3, e4⟩ := setD_eq e
    exact hk _ _ ⟨μ, e4 hA (undefR μ), by rw [e1]; exact R, Ext.refl _ _, by rw [e1]; exact Nat.le_refl _⟩

theorem runOps_cons (call : Caller) (ops : List Oper) (o : Oper) (l : List Oper) (s : St) : runOps cx call ops (o :: l) s = match stepOp cx call ops o s with | .ok s => runOps cx call ops l s | .no => .no := rfl

theorem runOps_ok (C : CxOk P cx) {call : Caller} (hc : CallSound P call) {ops : Array Oper} {W : World} {Q : Exit → Act → World → Prop} :
    ∀ (k n : Nat) (s s' : St) (μ : Mu) (a : Act) (w : World), n + k = ops.size → runOps cx call ops.toList (ops.toList.drop n) s = .ok s' → ActR μ s a → Rel W μ s.H w →
      (∀ a' w', Went W μ s s' a' w' → Q .normal a' w') → wpOps P ops Q (List.range' n k) a w := by
  intro k
  induction k with
  | zero =>
    intro n s s' μ a w hn e hA R hq
    have hdrop : ops.toList.drop n = [] := List.drop_of_length_le (by rw [Array.length_toList]; omega)
    rw [hdrop] at e
    cases e
    exact hq _ _ ⟨μ, hA, R, Ext.refl _ _, Nat.le_refl _⟩
  | succ k ih =>
    intro n s s' μ a w hn e hA R hq
    have hlt : n < ops.toList.length := by simp; omega
    rw [List.drop_eq_getElem_cons hlt, runOps_cons] at e
    have hi : ops[n]? = some ops.toList[n] := by simp at hlt ⊢
    split at e
    · rename_i s1 h1
      rw [List.range'_succ, wpOps_cons]
      refine stepOp_ok C hc hi h1 hA R fun a' w' ⟨μ1, q1, q2, q3, q4⟩ => ?_
      exact ih (n + 1) s1 s' μ1 a' w' (by omega) e q1 q2 fun a2 w2 h2 => hq _ _ (h2.trans q3 q4)
    · cases e

end Go.EvM
