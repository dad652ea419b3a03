/- Code2: code and calls. -/
import Derived.Test.YtmnpdgldmpjekaaEvDraw4
import Derived.Conc.MuLone
import Derived.Scope
namespace Go.EvM
open Go.RowKit
set_option linter.unusedVariables false
variable {P : Program} {cx : Cx}

def Ex.exit! : Ex → Exit
  | .norm => .normal
  | .exit i => .exit i
  | .ret => .ret

def CodeOk (P : Program) (cx : Cx) (call : Caller) (n : Nat) (c : Code) : Prop :=
  ∀ (s : St) (e : Ex) (s' : St), evCode cx call n c s = .ok e s' → ∀ (W : World) (μ : Mu) (a : Act) (w : World), ActR μ s a → Rel W μ s.H w →
    ∀ Q : Exit → Act → World → Prop, (∀ a' w', Went W μ s s' a' w' → Q e.exit! a' w') → c.wp P Q a w

theorem Went.refl {W : World} {μ : Mu} {s : St} {a : Act} {w : World} (hA : ActR μ s a) (R : Rel W μ s.H w) : Went W μ s s a w := ⟨μ, hA, R, Ext.refl _ _, Nat.le_refl _⟩

theorem loop_ok {call : Caller} {n0 : Nat} {c : Code} (ih : CodeOk P cx call n0 c) : ∀ (n : Nat) (s : St) (e : Ex) (s' : St), loopN (evCode cx call n0 c) n s = .ok e s' →
    ∀ (W : World) (μ : Mu) (a : Act) (w : World), ActR μ s a → Rel W μ s.H w → ∀ Q : Exit → Act → World → Prop, (∀ a' w', Went W μ s s' a' w' → Q e.exit! a' w') →
      ∀ (b : Frame) (k : List Item) (cs : List Frame), ∃ e a' w', Q e a' w' ∧ Arrives P (lone (b.at a (.code c :: .inLoop c :: k)) cs w) b k cs e a' w' := by
  intro n
  induction n with
  | zero => intro s e s' h; cases h
  | succ n ihn =>
    intro s e s' h W μ a w hA R Q hq b k cs
    have h : (match evCode cx call n0 c s with | .ok .norm s => loopN (evCode cx call n0 c) n s | r => r) = .ok e s' := h
    split at h
    · rename_i s1 h1
      obtain ⟨e1, a1, w1, hq1, harr⟩ := ih s .norm s1 h1 W μ a w hA R (fun e a w => e = .normal ∧ Went W μ s s1 a w) (fun a' w' hw => ⟨rfl, hw⟩) b (.inLoop c :: k) cs
      obtain ⟨rfl, μ1, q1, q2, q3, q4⟩ := hq1
      obtain ⟨e2, a2, w2, hq2, harr2⟩ := ihn s1 e s' h W μ1 a1 w1 q1 q2 Q (fun a' w' hw => hq a' w' (hw.trans q3 q4)) b k cs
      exact ⟨e2, a2, w2, hq2, .of_steps (Steps.trans harr (.one step_inLoop)) harr2⟩
    · rename_i r hr
      have hne : e ≠ .norm := fun he => by subst he; exact hr _ h
      obtain ⟨e1, a1, w1, hq1, harr⟩ := ih s e s' h W μ a w hA R (fun x a w => x = e.exit! ∧ Went W μ s s' a w) (fun a' w' hw => ⟨rfl, hw⟩) b (.inLoop c :: k) cs
      obtain ⟨rfl, hw⟩ := hq1
      refine ⟨e.exit!, a1, w1, hq a1 w1 hw, .pass (x := .inLoop c) rfl (fun _ _ => .inl ?_) harr⟩
      cases e <;> simp_all [Ex.exit!]

theorem code_ok (C : CxOk P cx) (hm : P.follows .mixedOrders = true) {call : Caller} (hc : CallSound P call) (n : Nat) : ∀ c, CodeOk P cx call n c := by
  intro c
  induction c with
  | skip =>
    intro s e s' h W μ a w hA R Q hq
    cases h
    exact wp_skip (hq _ _ (.refl hA R))
  | region id ops draw =>
    intro s e s' h W μ a w hA R Q hq
    cases draw with
    | false =>
      have h : (match runOps cx call ops.toList ops.toList s with | .ok s => CR.ok .norm s | .no => .no) = .ok e s' := h
      split at h
      · rename_i s1 h1
        cases h
        refine wp_region ?_
        rw [List.range_eq_range']
        exact runOps_ok C hc ops.size 0 s _ μ a w (by simp) (by simpa using h1) hA R hq
      · cases h
    | true =>
      have h : (match runDraw cx call ops.toList s with | .ok s => CR.ok .norm s | .no => .no) = .ok e s' := h
      split at h
      · rename_i s1 h1
        cases h
        exact wp_region_any hm (draw_ok C hc h1 hA R.drew hq)
      · cases h
  | seq x y ix iy =>
    intro s e s' h W μ a w hA R Q hq
    have h : (match evCode cx call n x s with | .ok .norm s => evCode cx call n y s | r => r) = .ok e s' := h
    refine wp_seq ?_
    split at h
    · rename_i s1 h1
      refine ix s .norm s1 h1 W μ a w hA R _ fun a1 w1 ⟨μ1, q1, q2, q3, q4⟩ => ?_
      exact iy s1 e s' h W μ1 a1 w1 q1 q2 Q fun a' w' hw => hq a' w' (hw.trans q3 q4)
    · rename_i r hr
      have hne : e ≠ .norm := fun he => by subst he; exact hr _ h
      refine ix s e s' h W μ a w hA R _ fun a1 w1 hw => ?_
      have := hq a1 w1 hw
      cases e with
      | norm => exact absurd rfl hne
      | exit i => exact this
      | ret => exact this
  | cond c x y ix iy =>
    intro s e s' h W μ a w hA R Q hq
    have h : (match evO s.T c with | .bool true => evCode cx call n x s | .bool false => evCode cx call n y s | _ => .no) = .ok e s' := h
    have hv : ∀ t, evO s.T c = .bool t → a.eval c = .bool t := fun t ht => by
      have hk : okOpnd c = true := by
        cases c with
        | tmp t => rfl
        | const v => cases ht; rfl
        | global g => cases ht
        | func f => cases ht
      have := hA.eval hk
      rw [ht] at this
      generalize a.eval c = v at this
      cases this; rfl
    split at h
    · rename_i hb
      exact wp_cond_true (hv _ hb) (ix s e s' h W μ a w hA R Q hq)
    · rename_i hb
      exact wp_cond_false (hv _ hb) (iy s e s' h W μ a w hA R Q hq)
    · cases h
  | block id x ix =>
    intro s e s' h W μ a w hA R Q hq
    have h : (match evCode cx call n x s with | .ok (.exit i) s => bif Nat.beq i id then CR.ok .norm s else CR.ok (.exit i) s | r => r) = .ok e s' := h
    refine wp_block ?_
    split at h
    · rename_i i s1 h1
      refine ix s (.exit i) s1 h1 W μ a w hA R _ fun a1 w1 hw => ?_
      show if i = id then Q .normal a1 w1 else Q (.exit i) a1 w1
      cases hb : Nat.beq i id with
      | true =>
        rw [hb] at h; cases h
        rw [if_pos (Nat.eq_of_beq_eq_true hb)]
        exact hq a1 w1 hw
      | false =>
        rw [hb] at h; cases h
        rw [if_neg (Nat.ne_of_beq_eq_false hb)]
        exact hq a1 w1 hw
    · rename_i r hr
      refine ix s e s' h W μ a w hA R _ fun a1 w1 hw => ?_
      have := hq a1 w1 hw
      cases e with
      | norm => exact this
      | exit i => exact absurd h (hr i s')
      | ret => exact this
  | loop x ix =>
    intro s e s' h W μ a w hA R Q hq b k cs
    obtain ⟨e1, a1, w1, h1, h2⟩ := loop_ok ix n s e s' h W μ a w hA R Q hq b k cs
    exact ⟨e1, a1, w1, h1, .of_steps (.one step_loop) h2⟩
  | rangeFunc f ps x y ix iy =>
    intro s e s' h
    cases h
  | exit id =>
    intro s e s' h W μ a w hA R Q hq
    cases h
    exact wp_exit (hq _ _ (.refl hA R))
  | scope x ix =>
    intro s e s' h W μ a w hA R Q hq
    have h : evCode cx call n x s = .ok e s' := h
    refine wp_scope_straight (ix s e s' h W μ a w hA R _ fun a1 w1 hw => ?_)
    have := hq a1 w1 hw
    cases e <;> exact this
  | label l =>
    intro s e s' h W μ a w hA R Q hq
    cases h
    exact wp_label (hq _ _ (.refl hA R))
  | goto l =>
    intro s e s' h
    cases h
  | ret =>
    intro s e s' h W μ a w hA R Q hq
    cases h
    exact wp_ret (hq _ _ (.refl hA R))
  | refuse why =>
    intro s e s' h
    cases h

/-! ### What a function returns -/
theorem run_load (C : CxOk P cx) {W : World} {μ : Mu} {h : Hp} {w : World} (R : Rel W μ h w) {t : TypeId} {i : TI} (ht : cx.ti t = some i) {x x' v : Value} {b off : Nat} (hx : VR μ x x') (hp : ptrV x = some (b, off))
    (e : (match isAggB i.desc with | true => loadA h i.size b off | false => load1 h b off) = some v) : ∃ v', (do loadVar t (← asAddr x') : Sem Value).run P w = .ok v' w ∧ VR μ v v' := by
  have key : ∀ f, LookOk P { dst := none, op := .load t (.tmp 0), type := t, pos := "", after := #[], guard := none } f → f (fun _ => x) h = some v → ∃ v', (do loadVar t (← asAddr x') : Sem Value).run P w = .ok v' w ∧ VR μ v v' := by
    intro f hf he
    obtain ⟨v', h1, h2⟩ := hf W μ (fun _ => x) (fun _ => x') h w v (fun _ _ => hx) R he
    refine ⟨v', ?_, h2⟩
    have hx := hx
    rw [ptrV_eq hp] at hx
    cases hx with
    | ptr _ hb =>
      simp only [execOp, Instr.loadAt, Instr.sureAddr, asAddr, pure_bind] at h1 ⊢
      simp only [Sem.run_bind] at h1
      generalize hr2 : (loadVar t _).run P w = r at h1 ⊢
      cases r with
      | halt z w2 => cases h1
      | ok v2 w2 => simp only [Result.andThen_ok, Sem.run_pure] at h1; cases h1; rfl
  cases hd : isAggB i.desc with
  | true =>
    rw [hd] at e
    exact key _ (ok_loadA C ht hd rfl) (by dsimp only; rw [hp]; exact e)
  | false =>
    rw [hd] at e
    exact key _ (ok_load1 C ht hd rfl) (by dsimp only; rw [hp]; exact e)

def resF (a : Act) : ResultVar → Sem Value
  | .tmp t => pure (a.tmps.getD t undef)
  | .cell ad t => do loadVar t (← asAddr (a.tmps.getD ad undef))

theorem res_list (C : CxOk P cx) {W : World} {μ : Mu} {T : Tr Value} {h : Hp} {w : World} {a : Act} (hT : ∀ t, VR μ (slot T t) (a.tmps.getD t undef)) (R : Rel W μ h w) :
    ∀ (rs : List ResultVar) (l : List Value), evRes cx T h rs = some l → ∃ l', (rs.mapM (resF a)).run P w = .ok l' w ∧ VRs μ l l'
  | [], l, e => by cases e; exact ⟨[], by simp, .nil⟩
  | .tmp t :: rs, l, e => by
    simp only [evRes] at e
    split at e
    · rename_i l1 h1
      cases e
      obtain ⟨l', g1, g2⟩ := res_list C hT R rs l1 h1
      exact ⟨a.tmps.getD t undef :: l', by simp only [List.mapM_cons, resF, Sem.run_bind, Sem.run_pure, Result.andThen_ok, g1], .cons (hT t) g2⟩
    · cases e
  | .cell ad t :: rs, l, e => by
    simp only [evRes] at e
    split at e
    · rename_i i hi
      split at e
      · rename_i b off hp
        split at e
        · rename_i v l1 hv h1
          cases e
          obtain ⟨l', g1, g2⟩ := res_list C hT R rs l1 h1
          have hpt : ptrV (slot T ad) = some (b, off) := by
            unfold slot
            split at hp
            · rename_i u hu; rw [hu]; exact hp
            · cases hp
          obtain ⟨v', y1, y2⟩ := run_load C R hi (hT ad) hpt hv
          exact ⟨v' :: l', by rw [List.mapM_cons, Sem.run_bind]; rw [show resF a (.cell ad t) = (do loadVar t (← asAddr (a.tmps.getD ad undef)) : Sem Value) from rfl, y1]; simp only [Sem.run_bind, Sem.run_pure, Result.andThen_ok, g1], .cons y2 g2⟩
        · cases e
      · cases e
    · cases e

theorem out_ok (C : CxOk P cx) {W : World} {μ : Mu} {T : Tr Value} {h h' : Hp} {w : World} {a : Act} {v : Value} (fn : Func) (hT : ∀ t, VR μ (slot T t) (a.tmps.getD t undef)) (R : Rel W μ h w)
    (e : evOut cx fn.results.toList T h = .ok v h') : h' = h ∧ ∃ v', (results fn a.tmps).run P w = .ok v' w ∧ VR μ v v' := by
  unfold evOut at e
  split at e
  · rename_i l hl
    obtain ⟨l', g1, g2⟩ := res_list C hT R _ l hl
    have hrun : (results fn a.tmps).run P w = .ok (if h : l'.toArray.size = 1 then l'.toArray[0] else .tuple l'.toArray) w := by
      have hres : results fn a.tmps = (do let vs ← fn.results.mapM (resF a); pure (if h : vs.size = 1 then vs[0] else .tuple vs)) := rfl
      rw [hres, Array.mapM_eq_mapM_toList]
      simp only [Sem.run_bind, bind_map_left]
      rw [g1]
      simp only [Result.andThen_ok, Sem.run_pure]
    rw [hrun]
    split at e
    · cases e
      cases g2 with
      | cons y1 y2 =>
        cases y2
        exact ⟨rfl, _, rfl, by simpa using y1⟩
    · rename_i hne
      cases e
      refine ⟨rfl, _, rfl, ?_⟩
      have hlen := g2.length
      have : ¬ l'.toArray.size = 1 := by
        simp only [List.size_toArray]
        rw [hlen]
        intro h1
        match l, h1 with
        | [v], _ => exact hne v rfl
      rw [dif_neg this]
      exact .tuple g2
  · cases e

end Go.EvM
