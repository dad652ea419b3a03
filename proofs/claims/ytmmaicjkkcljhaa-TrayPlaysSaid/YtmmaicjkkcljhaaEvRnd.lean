/- Rnd: a range over a function, round by round. -/
import Derived.Test.YtmmaicjkkcljhaaEvDraw4
import Derived.Conc.MuLone
import Derived.RangeFuncRecord
import Derived.RangeFuncIn
import Derived.RangeFuncSeq
import Derived.OrdersIn
namespace Go.EvM
set_option linter.unusedSectionVars false
variable [GLs]
open Go.RowKit
set_option linter.unusedVariables false
variable {P : Program} {cx : Cx}

def Ex.exit! : Ex → Exit
  | .norm => .normal
  | .exit i => .exit i
  | .ret => .ret

theorem Went.refl {W : World} {μ : Mu} {s : St} {a : Act} {w : World} (hA : ActR μ s a) (R : Rel W μ s.H w) : Went W μ s s a w := ⟨μ, hA, R, Ext.refl _ _, Nat.le_refl _⟩

/-! ### The fence within a round -/
/-- A fence that lets all in. -/
structure FAll (F : Fence) (P : Program) : Prop where
  fn : ∀ f, F.fn f
  dep : F.depth.isSome = false
  calls : ∀ {f args w R}, Calls P f args w R → CallsIn F 0 P f args w R
  rows : ∀ {r args w R}, Rows P r args w R → RowsIn F 0 P r args w R

theorem wide_all (P : Program) : FAll Fence.wide P :=
  ⟨fun _ => trivial, rfl, fun h => callsIn_wide.2 h, fun h c cs _ => let ⟨v, w', r, s⟩ := h c cs; ⟨v, w', r, stepsIn_wide.2 s⟩⟩
theorem round_all (P : Program) (l : Nat) : FAll (Fence.wide.inRound l) P :=
  ⟨fun _ => trivial, rfl, fun h => (callsIn_wide (n := 0)).2 h, fun h => (wide_all P).rows h⟩

section
variable {F : Fence} (A : FAll F P) {ops : Array Oper} {Q : Exit → Act → World → Prop} (hQ : ¬ LetsOut Q)
include A

theorem oper_in {o : Oper} (ho : F.round = none ∨ noDef o = true) {a : Act} {w : World} {K : Act → World → Prop} (h : o.wp P a w K Q) : o.wpIn F 0 P a w K Q := by
  unfold Oper.wp at h
  refine ⟨fun _ _ => A.fn _, ?_⟩
  have hs : o.semAt F.round a.eval = execOp a.eval o := by
    rcases ho with ho | ho
    · rw [ho]; rfl
    · refine Oper.semAt_eq _ _ _ fun c hc => ?_
      unfold noDef at ho; rw [hc] at ho; cases ho
  rw [hs]
  generalize (execOp a.eval o).run P w = r at h ⊢
  cases r with
  | ok x w' =>
    cases x with
    | enter f args => exact ⟨fun hd => (by rw [A.dep] at hd; cases hd), A.calls h⟩
    | row r args => exact ⟨fun hd => (by rw [A.dep] at hd; cases hd), A.rows h⟩
    | _ => first | exact h | exact (h : False).elim
  | halt x w' => cases x <;> simp only [Oper.upon, Oper.uponIn] at h ⊢ <;> exact h

include hQ
theorem op_in (ho : ∀ o ∈ ops.toList, F.round = none ∨ noDef o = true) {i : Nat} {a : Act} {w : World} {K : Act → World → Prop} (h : wpOp P ops Q i K a w) : wpOpIn F 0 P ops Q i K a w := by
  unfold wpOp at h; unfold wpOpIn
  split
  · rename_i hi; simp only [hi] at h; exact h
  · rename_i o hi
    simp only [hi] at h
    split
    · rename_i hw
      simp only [hw, if_true] at h
      exact oper_in A (ho o (Array.mem_toList_iff.2 (Array.mem_of_getElem? hi))) (h.resolve_right fun x => hQ x.2)
    · rename_i hw
      simp only [hw] at h
      exact ⟨fun _ _ => A.fn _, h⟩

theorem ops_in (ho : ∀ o ∈ ops.toList, F.round = none ∨ noDef o = true) : ∀ (l : List Nat) (a : Act) (w : World), wpOps P ops Q l a w → wpOpsIn F 0 P ops Q l a w
  | [], _, _, h => h
  | i :: l, a, w, h => by
    rw [wpOps_cons] at h; rw [wpOpsIn_cons]
    exact wpOpIn_mono (fun a w => ops_in ho l a w) (op_in A hQ ho h)

theorem any_in (ho : ∀ o ∈ ops.toList, F.round = none ∨ noDef o = true) {md : Region.Mode} : ∀ (k : Nat) (b : Array Bool) (a : Act) (w : World), wpAny P md ops Q k b a w → wpAnyIn F 0 P md ops Q k b a w
  | 0, _, _, _, h => h
  | k + 1, b, a, w, h => ⟨h.1, fun i hi => wpOpIn_mono (fun a w => any_in ho k _ a w) (op_in A hQ ho (h.2 i hi))⟩
end

/-! ### Regions, loops, behind such a fence -/
/-- What a piece of code does, told by an evaluator of it. -/
def InOk (F : Fence) (P : Program) (ev : St → CR) (c : Code) (G : Mu → Prop) : Prop :=
  ∀ (s : St) (e : Ex) (s' : St), ev s = .ok e s' → ∀ (W : World) (μ : Mu) (a : Act) (w : World), G μ → ActR μ s a → Rel W μ s.H w →
    ∀ Q : Exit → Act → World → Prop, (∀ a' w', Went W μ s s' a' w' → Q e.exit! a' w') → c.wpIn F 0 P Q a w

/-- Kept when more is told. -/
def Up (G : Mu → Prop) : Prop := ∀ {μ μ' : Mu}, Le μ μ' → G μ → G μ'

section
variable {F : Fence} (A : FAll F P) {G : Mu → Prop} (hG : Up G)
include A

theorem region_in {ops : Array Oper} {id : Nat} (hm : P.follows .mixedOrders = true) (C : CxOk P cx) {call : Caller} (hc : CallSound P call) (ho : ∀ o ∈ ops.toList, F.round = none ∨ noDef o = true) {draw : Bool} {s s' : St} {e : Ex}
    (h : (match draw with
        | false => (match runOps cx call ops.toList ops.toList s with | .ok s => CR.ok .norm s | .no => .no)
        | true => (match runDraw cx call ops.toList s with | .ok s => CR.ok .norm s | .no => .no)) = .ok e s') {W : World} {μ : Mu} {a : Act} {w : World} (hA : ActR μ s a) (R : Rel W μ s.H w)
    {Q : Exit → Act → World → Prop} (hq : ∀ a' w', Went W μ s s' a' w' → Q e.exit! a' w') : (Code.region id ops draw).wpIn F 0 P Q a w := by
  have hN : ¬ LetsOut (fun e a w => e = Exit.normal ∧ Went W μ s s' a w) := fun ⟨_, _, h, _⟩ => by cases h
  cases draw with
  | false =>
    dsimp only at h
    split at h
    · rename_i s1 h1
      cases h
      refine wpIn_mono (wpIn_region (ops_in A hN ho _ _ _ ?_)) fun e a' w' ⟨h1, h2⟩ => by subst h1; exact hq a' w' h2
      rw [List.range_eq_range']
      exact runOps_ok C hc ops.size 0 s _ μ a w (by simp) (by simpa using h1) hA R fun a' w' hw => ⟨rfl, hw⟩
    · cases h
  | true =>
    dsimp only at h
    split at h
    · rename_i s1 h1
      cases h
      refine wpIn_mono (wpIn_region_any hm (any_in A hN ho _ _ _ _ ?_)) fun e a' w' ⟨h1, h2⟩ => by subst h1; exact hq a' w' h2
      exact draw_ok C hc h1 hA R.drew fun a' w' hw => ⟨rfl, hw⟩
    · cases h

include hG
theorem loop_in {ev : St → CR} {c : Code} (ih : InOk F P ev c G) : ∀ (n : Nat) (s : St) (e : Ex) (s' : St), loopN ev n s = .ok e s' →
    ∀ (W : World) (μ : Mu) (a : Act) (w : World), G μ → ActR μ s a → Rel W μ s.H w → ∀ Q : Exit → Act → World → Prop, (∀ a' w', Went W μ s s' a' w' → Q e.exit! a' w') →
      ∀ (b : Frame) (k : List Item) (cs : List Frame), b.roundOf = F.round → F.fn b.fn → F.room (cs.length + 1 + 0) → ∃ e a' w', Q e a' w' ∧ ArrivesIn (Machine.fenced P F) P (lone (b.atR a (.code c :: .inLoop c :: k)) cs w) b k cs e a' w' := by
  intro n
  induction n with
  | zero => intro s e s' h; cases h
  | succ n ihn =>
    intro s e s' h W μ a w hg hA R Q hq b k cs hro hb hr
    have h : (match ev s with | .ok .norm s => loopN ev n s | r => r) = .ok e s' := h
    split at h
    · rename_i s1 h1
      obtain ⟨e1, a1, w1, hq1, harr⟩ := ih s .norm s1 h1 W μ a w hg hA R (fun e a w => e = .normal ∧ Went W μ s s1 a w) (fun a' w' hw => ⟨rfl, hw⟩) b (.inLoop c :: k) cs hro hb hr
      obtain ⟨rfl, μ1, q1, q2, q3, q4⟩ := hq1
      obtain ⟨e2, a2, w2, hq2, harr2⟩ := ihn s1 e s' h W μ1 a1 w1 (hG q3.le hg) q1 q2 Q (fun a' w' hw => hq a' w' (hw.trans q3 q4)) b k cs hro hb hr
      exact ⟨e2, a2, w2, hq2, .of_steps (StepsIn.trans harr (.one (fenced_calm hb hr rfl) stepR_inLoop)) harr2⟩
    · rename_i r hr'
      have hne : e ≠ .norm := fun he => by subst he; exact hr' _ h
      obtain ⟨e1, a1, w1, hq1, harr⟩ := ih s e s' h W μ a w hg hA R (fun x a w => x = e.exit! ∧ Went W μ s s' a w) (fun a' w' hw => ⟨rfl, hw⟩) b (.inLoop c :: k) cs hro hb hr
      obtain ⟨rfl, hw⟩ := hq1
      refine ⟨e.exit!, a1, w1, hq a1 w1 hw, .pass (x := .inLoop c) rfl (fun _ _ => .inl ?_) harr⟩
      cases e <;> simp_all [Ex.exit!]

theorem seq_in {ex ey : St → CR} {x y : Code} (ix : InOk F P ex x G) (iy : InOk F P ey y G) : InOk F P (fun s => match ex s with | .ok .norm s => ey s | r => r) (.seq x y) G := by
  intro s e s' h W μ a w hg hA R Q hq
  dsimp only at h
  refine wpIn_seq ?_
  split at h
  · rename_i s1 h1
    refine ix s .norm s1 h1 W μ a w hg hA R _ fun a1 w1 ⟨μ1, q1, q2, q3, q4⟩ => ?_
    exact iy s1 e s' h W μ1 a1 w1 (hG q3.le hg) q1 q2 Q fun a' w' hw => hq a' w' (hw.trans q3 q4)
  · rename_i r hr
    have hne : e ≠ .norm := fun he => by subst he; exact hr _ h
    refine ix s e s' h W μ a w hg hA R _ fun a1 w1 hw => ?_
    have := hq a1 w1 hw
    cases e with
    | norm => exact absurd rfl hne
    | exit i => exact this
    | ret => exact this

omit hG in
theorem cond_in {ex ey : St → CR} {x y : Code} {c : Operand} (ix : InOk F P ex x G) (iy : InOk F P ey y G) : InOk F P (fun s => match evO s.T c with | .bool true => ex s | .bool false => ey s | _ => .no) (.cond c x y) G := by
  intro s e s' h W μ a w hg hA R Q hq
  dsimp only at h
  have hv : ∀ t, evO s.T c = .bool t → a.eval c = .bool t := fun t ht => by
    have hk : okOpnd c = true := by
      cases c with
      | tmp t => rfl
      | const v => cases ht; rfl
      | global g => cases ht
      | func f => cases ht
    have := hA.eval hk
    rw [ht] at this
    generalize a.eval c = v at this
    cases this; rfl
  split at h
  · rename_i hb
    exact wpIn_cond_true (hv _ hb) (ix s e s' h W μ a w hg hA R Q hq)
  · rename_i hb
    exact wpIn_cond_false (hv _ hb) (iy s e s' h W μ a w hg hA R Q hq)
  · cases h

omit hG in
theorem block_in {ex : St → CR} {x : Code} {id : Nat} (ix : InOk F P ex x G) : InOk F P (fun s => match ex s with | .ok (.exit i) s => bif Nat.beq i id then CR.ok .norm s else CR.ok (.exit i) s | r => r) (.block id x) G := by
  intro s e s' h W μ a w hg hA R Q hq
  dsimp only at h
  refine wpIn_block ?_
  split at h
  · rename_i i s1 h1
    refine ix s (.exit i) s1 h1 W μ a w hg hA R _ fun a1 w1 hw => ?_
    show if i = id then Q .normal a1 w1 else Q (.exit i) a1 w1
    cases hb : Nat.beq i id with
    | true =>
      rw [hb] at h; cases h
      rw [if_pos (Nat.eq_of_beq_eq_true hb)]
      exact hq a1 w1 hw
    | false =>
      rw [hb] at h; cases h
      rw [if_neg (Nat.ne_of_beq_eq_false hb)]
      exact hq a1 w1 hw
  · rename_i r hr
    refine ix s e s' h W μ a w hg hA R _ fun a1 w1 hw => ?_
    have := hq a1 w1 hw
    cases e with
    | norm => exact this
    | exit i => exact absurd h (hr i s')
    | ret => exact this

theorem loopc_in {ex : St → CR} {x : Code} {n : Nat} (ix : InOk F P ex x G) : InOk F P (fun s => loopN ex n s) (.loop x) G := by
  intro s e s' h W μ a w hg hA R Q hq b k cs hro hb hr
  obtain ⟨e1, a1, w1, h1, h2⟩ := loop_in A hG ix n s e s' h W μ a w hg hA R Q hq b k cs hro hb hr
  exact ⟨e1, a1, w1, h1, .of_steps (.one (fenced_calm hb hr rfl) stepR_loop) h2⟩
end

/-- Code, in a round. -/
theorem evR_ok (C : CxOk P cx) (hm : P.follows .mixedOrders = true) {call : Caller} (hc : CallSound P call) (n l : Nat) : ∀ c, InOk (Fence.wide.inRound l) P (evR cx call n c) c (fun _ => True) := by
  have A := round_all P l
  have hG : Up (fun _ : Mu => True) := fun _ _ => trivial
  intro c
  induction c with
  | skip => intro s e s' h W μ a w hg hA R Q hq; cases h; exact wpIn_skip (hq _ _ (.refl hA R))
  | region id ops draw =>
    intro s e s' h W μ a w hg hA R Q hq
    have h : (match ops.toList.all noDef with
      | true => (match draw with
        | false => (match runOps cx call ops.toList ops.toList s with | .ok s => CR.ok .norm s | .no => .no)
        | true => (match runDraw cx call ops.toList s with | .ok s => CR.ok .norm s | .no => .no))
      | false => .no) = .ok e s' := h
    split at h
    · rename_i hd
      exact region_in A hm C hc (fun o ho => .inr (List.all_eq_true.1 hd o ho)) h hA R hq
    · cases h
  | seq x y ix iy => exact seq_in A hG ix iy
  | cond c x y ix iy => exact cond_in A ix iy
  | block id x ix => exact block_in A ix
  | loop x ix => exact loopc_in A hG ix
  | rangeFunc f ps x y ix iy => intro s e s' h; cases h
  | exit id => intro s e s' h W μ a w hg hA R Q hq; cases h; exact wpIn_exit (hq _ _ (.refl hA R))
  | scope x ix => intro s e s' h; cases h
  | label l => intro s e s' h W μ a w hg hA R Q hq; cases h; exact wpIn_label (hq _ _ (.refl hA R))
  | goto l => intro s e s' h; cases h
  | ret => intro s e s' h W μ a w hg hA R Q hq; cases h; exact wpIn_ret (hq _ _ (.refl hA R))
  | refuse why => intro s e s' h; cases h

/-! ### The record -/
theorem lockIs_eq {l : Nat} {h : Hp} {st : LoopState} {p : Option Code} (e : lockIs l h = some (st, p)) : h.b.get l = some (.lock st p) := by
  unfold lockIs at e
  split at e
  · rename_i h1; cases e; exact h1
  · cases e

theorem Rel.setLock {W : World} {μ : Mu} {h : Hp} {w : World} (R : Rel W μ h w) {b : Nat} {i : BI} {st : LoopState} {p : Option Code} (hb : μ b = some i) (ho : h.b.get b = some (.lock st p)) (st' : LoopState) (p' : Option Code) :
    Rel W μ ⟨h.n, h.b.put b (.lock st' p')⟩ (w.putObj i.rb (.loop { i.lp with state := st', pending := p' })) := by
  obtain ⟨r1, r2⟩ := R.ob b i _ hb ho
  have hlt : i.rb < w.heap.size := (Array.getElem?_eq_some_iff.1 r1).1
  have hother : ∀ {x : Obj} k, k ≠ i.rb → (w.putObj i.rb x).heap[k]? = w.heap[k]? := fun k hk => World.putObj_heap_other hk
  have old : ∀ {c o}, (h.b.put b (.lock st' p')).get c = some o → (c = b ∧ o = .lock st' p') ∨ (c ≠ b ∧ h.b.get c = some o) := fun {c o} hc => by
    rw [Tr.get_put] at hc
    split at hc
    · cases hc; exact .inl ⟨‹_›, rfl⟩
    · exact .inr ⟨‹_›, hc⟩
  refine ⟨R.gl, R.dom, fun c j o hc hoc => ?_, fun c d j k o q hc hd hoc hpd wo wp hjk => ?_,
    ⟨R.below.os, R.below.tape, R.below.output, by simpa [World.putObj] using R.below.size, fun k hk => (hother k (by omega)).trans (R.below.block k hk)⟩⟩
  · rcases old hoc with ⟨rfl, rfl⟩ | ⟨hne, hoc⟩
    · rw [hb] at hc; cases hc
      exact ⟨World.putObj_heap_same hlt, r2⟩
    · have ro := R.ob c j o hc hoc
      refine ro.move (Le.refl _) (hother _ fun hrb => ?_)
      cases o with
      | cells c2 n2 z2 ti2 ro2 =>
        obtain ⟨cs, e, fz, h1, _⟩ := ro
        rw [hrb, r1] at h1; cases h1
      | map es =>
        obtain ⟨arr, cl, h1, _⟩ := ro
        rw [hrb, r1] at h1; cases h1
      | mark => exact hne (R.inj c b j i _ _ hc hb hoc ho trivial trivial hrb)
      | lock _ _ => exact hne (R.inj c b j i _ _ hc hb hoc ho trivial trivial hrb)
      | chan _ _ => exact hne (R.inj c b j i _ _ hc hb hoc ho trivial trivial hrb)
  · have fix : ∀ {c o}, (h.b.put b (.lock st' p')).get c = some o → o.wr → ∃ q, h.b.get c = some q ∧ q.wr := fun {c o} hc hw => by
      rcases old hc with ⟨rfl, rfl⟩ | ⟨_, hc⟩
      · exact ⟨_, ho, trivial⟩
      · exact ⟨_, hc, hw⟩
    obtain ⟨q1, k1, l1⟩ := fix hoc wo
    obtain ⟨q2, k2, l2⟩ := fix hpd wp
    exact R.inj c d j k q1 q2 hc hd k1 k2 l1 l2 hjk

/-! ### A round -/
theorem zip_ok {μ : Mu} {n : Nat} : ∀ (ps : List Tmp) (vs vs' : List Value) (T T' : Tr Value) (tm : Array Value), zipT n ps vs T = some T' → VRs μ vs vs' → tm.size = n → (∀ t, VR μ (slot T t) (tm.getD t undef)) →
    ps.length = vs'.length ∧ ((ps.zip vs').foldl (fun tm (x : Tmp × Value) => tm.setIfInBounds x.1 x.2) tm).size = n ∧
      ∀ t, VR μ (slot T' t) (((ps.zip vs').foldl (fun tm (x : Tmp × Value) => tm.setIfInBounds x.1 x.2) tm).getD t undef)
  | [], _, _, T, T', tm, h, .nil, hs, ht => by cases h; exact ⟨rfl, hs, ht⟩
  | p :: ps, _, _, T, T', tm, h, .nil, hs, ht => by cases h
  | [], _, _, T, T', tm, h, .cons _ _, hs, ht => by cases h
  | p :: ps, v :: vs, v' :: vs', T, T', tm, h, .cons hv hvs, hs, ht => by
    have h : (bif Nat.blt p n then zipT n ps vs (T.put p v) else none) = some T' := h
    cases hb : Nat.blt p n with
    | false => rw [hb] at h; cases h
    | true =>
      rw [hb] at h
      have hlt : p < tm.size := by rw [hs]; exact blt_lt hb
      have := zip_ok ps vs vs' (T.put p v) T' (tm.setIfInBounds p v') h hvs (by simpa using hs) fun t => by
        by_cases e : t = p
        · subst e
          simp [slot, Tr.get_put_eq, hlt]; exact hv
        · have := ht t
          simp only [slot, Tr.get_put_ne _ _ e] at this ⊢
          simp only [Array.getD_eq_getD_getElem?] at this ⊢
          rw [Array.getElem?_setIfInBounds_ne (fun x => e x.symm)]; exact this
      exact ⟨by simp [this.1], by simpa using this.2.1, by simpa using this.2.2⟩

/-- A yield does what Y says. -/
def YSound (P : Program) (l : Nat) (i : BI) (G : Mu → Prop) (Y : List Value → Hp → YR) : Prop :=
  ∀ vals h b h', Y vals h = .ok b h' → ∀ W μ w vals', G μ → VRs μ vals vals' → Rel W μ h w →
    YieldAt Fence.wide 0 P i.rb vals'.toArray w fun e w' => e = .returned (.bool b) ∧ ∃ μ', Rel W μ' h' w' ∧ Ext h.n μ μ' ∧ h.n ≤ h'.n

theorem round_ok (C : CxOk P cx) (hm : P.follows .mixedOrders = true) {call : Caller} (hc : CallSound P call) {fuel : Nat} {ps : Array Tmp} {x y : Code} {n : Nat} {T : Tr Value} {l : Nat} {i : BI} {μ0 : Mu} {a : Act}
    (hA : a.tmps.size = n ∧ ∀ t, VR μ0 (slot T t) (a.tmps.getD t undef)) (h1 : i.lp.tmps = a.tmps) (h2 : i.lp.params = ps) (h3 : i.lp.assign = x) (h4 : i.lp.body = y) :
    YSound P l i (fun μ => Le μ0 μ ∧ μ l = some i) (roundY ps.toList (evR cx call fuel x) (evR cx call fuel y) n T l) := by
  intro vals h b h' e W μ w vals' ⟨hg, hl⟩ hv R
  unfold roundY at e
  split at e
  · rename_i T1 hk hz
    split at e
    · rename_i s1 hasg
      obtain ⟨n1, T2, D1, H1⟩ := s1
      dsimp only at e
      split at e
      · rename_i hk1
        split at e
        · rename_i ex s2 hbody
          obtain ⟨n2, T3, D2, H2⟩ := s2
          dsimp only at e
          split at e
          · rename_i hk2
            obtain ⟨z1, z2, z3⟩ := zip_ok ps.toList vals vals' T T1 a.tmps hz hv hA.1 fun t => (hA.2 t).mono hg
            obtain ⟨r1, r2⟩ := R.ob l i _ hl (lockIs_eq hk)
            have hy := run_yield (P := P) (args := vals'.toArray) r1 (by show _ = i.lp.params.size; rw [h2]; simpa using z1.symm)
            refine ⟨_, _, _, _, hy, roundIn_of_wpIn trivial ?_⟩
            show i.lp.assign.wpIn _ 0 P _ _ w
            rw [h3]
            have htm : ((i.lp.params.zip vals'.toArray).foldl (fun tmps (t, a) => tmps.setIfInBounds t a) i.lp.tmps) = ((ps.toList.zip vals').foldl (fun tm (x : Tmp × Value) => tm.setIfInBounds x.1 x.2) a.tmps) := by
              rw [h1, h2, ← Array.foldl_toList, Array.toList_zip]
            refine evR_ok C hm hc fuel i.rb x _ _ _ hasg W μ _ w trivial ⟨?_, fun t => ?_, by trivial⟩ R _ fun a1 w1 ⟨μ1, q1, q2, q3, q4⟩ => ?_
            · show Array.size (Array.foldl _ _ _) = n; rw [htm]; exact z2
            · show VR μ (slot T1 t) (Array.getD (Array.foldl _ _ _) t undef); rw [htm]; exact z3 t
            · have hl1 := q3.le l i hl
              obtain ⟨r3, r4⟩ := q2.ob l i _ hl1 (lockIs_eq hk1)
              refine ⟨_, run_beginRound r3 rfl, ?_⟩
              change i.lp.body.wpIn _ 0 P _ _ (w1.putObj i.rb (.loop { i.lp with state := .busy, pending := none }))
              rw [h4]
              refine evR_ok C hm hc fuel i.rb y _ _ _ hbody W μ1 a1 _ trivial ⟨q1.size, q1.tmp, q1.dfr⟩ (q2.setLock hl1 (lockIs_eq hk1) .busy none) _ fun a2 w2 ⟨μ2, q5, q6, q7, q8⟩ => ?_
              have hl2 := q7.le l i hl1
              obtain ⟨r5, r6⟩ := q6.ob l i _ hl2 (lockIs_eq hk2)
              have hext : Ext h.n μ μ2 := q3.trans q7 q4
              have hle : h.n ≤ H2.n := Nat.le_trans q4 q8
              cases ex with
              | norm => cases e; exact ⟨_, _, run_endRound none r5, rfl, μ2, q6.setLock hl2 (lockIs_eq hk2) .ready none, hext, hle⟩
              | ret => cases e; exact ⟨_, _, run_endRound (some .ret) r5, rfl, μ2, q6.setLock hl2 (lockIs_eq hk2) .done (some .ret), hext, hle⟩
              | exit id => cases e; exact ⟨_, _, run_endRound (some (.exit id)) r5, rfl, μ2, q6.setLock hl2 (lockIs_eq hk2) .done (some (.exit id)), hext, hle⟩
          · cases e
        · cases e
      · cases e
    · cases e
  · cases e

/-! ### The iterator -/
section
variable {l : Nat} {i : BI} {G : Mu → Prop} {Y : List Value → Hp → YR}

theorem yieldOf_eq {T : Tr Value} {o : Oper} {args : List Operand} (h : yieldOf l T o = some args) : ∃ c f, o.op = .call c ∧ c.callee = .value f ∧ o.guard = none ∧ evO T f = .func (.yield l) ⟨[]⟩ ⟨[]⟩ ∧ okOpnd f = true ∧ c.args.toList = args ∧ ∀ x ∈ args, okOpnd x = true := by
  unfold yieldOf at h
  split at h
  · rename_i c hop
    split at h
    · rename_i f hf
      split at h
      · rename_i k hk hg
        cases hb : (Nat.beq k l && okOpnd f && c.args.toList.all okOpnd) with
        | false => rw [hb] at h; cases h
        | true =>
          rw [hb] at h; cases h
          rw [Bool.and_eq_true, Bool.and_eq_true] at hb
          have := Nat.eq_of_beq_eq_true hb.1.1
          subst this
          exact ⟨c, f, hop, hf, hg, hk, hb.1.2, rfl, fun x hx => List.all_eq_true.1 hb.2 x hx⟩
      · cases h
    · cases h
  · cases h

theorem stepY_ok (C : CxOk P cx) {call : Caller} (hc : CallSound P call) (hY : YSound P l i G Y) (hGl : ∀ {μ}, G μ → μ l = some i) {ops : Array Oper} {k : Nat} {o : Oper} (hk : ops[k]? = some o) {s s' : St}
    (e : stepY cx call Y l ops.toList o s = .ok s') {W : World} {μ : Mu} {a : Act} {w : World} (hg : G μ) (hA : ActR μ s a) (R : Rel W μ s.H w)
    {Q : Exit → Act → World → Prop} (hQ : ¬ LetsOut Q) {K : Act → World → Prop} (hK : ∀ a' w', Went W μ s s' a' w' → K a' w') : wpOpIn Fence.wide 0 P ops Q k K a w := by
  obtain ⟨n, T, D, H⟩ := s
  unfold stepY at e
  dsimp only at e
  split at e
  · rename_i args hy
    split at e
    · rename_i b h hYv
      obtain ⟨c, f, y1, y2, y3, y4, y5, y6, y7⟩ := yieldOf_eq hy
      obtain ⟨e1, e2, e3, e4⟩ := setD_eq e
      unfold wpOpIn
      simp only [hk]
      have hw : Region.wanted o (yielded ops a.tmps) = true := by unfold Region.wanted; rw [y3]
      rw [if_pos hw]
      refine ⟨fun _ _ => trivial, ?_⟩
      have hf := hA.eval y5
      rw [show evO (St.T ⟨n, T, D, H⟩) f = _ from y4] at hf
      have hfv : a.eval f = .func (.yield i.rb) #[] #[] := by
        generalize a.eval f = v at hf
        cases hf with
        | yield hb => rw [hGl hg] at hb; cases hb; rfl
      have hargs : VRs μ (args.map (evO T)) (args.map a.eval) := VRs.map fun x hx => hA.eval (y7 x hx)
      obtain ⟨fn, tm, asg, body, hrun, hround⟩ := hY _ _ _ _ hYv W μ w _ hg hargs R
      have hexec : (o.semAt Fence.wide.round a.eval).run P w = (Instr.yield i.rb (args.map a.eval).toArray).run P w := by
        show (execOp a.eval o).run P w = _
        have harr : c.args.map a.eval = (args.map a.eval).toArray := by rw [← y6]; apply Array.ext'; simp
        simp [execOp, y1, resolve, invoke, y2, hfv, harr, Deferred.ofValue]
      rw [hexec, hrun]
      refine ⟨fun hd => by simp [Fence.wide] at hd, hround.mono ?_⟩
      rintro e' w' ⟨rfl, μ', k1, k2, k3⟩
      exact hK _ _ ⟨μ', e4 (hA.mono k2.le) (.bool b), by rw [e1]; exact k1, k2, by rw [e1]; exact k3⟩
    · cases e
  · exact op_in (wide_all P) hQ (fun o _ => .inl rfl) (stepOp_ok C hc hk e hA R hK)

theorem runY_ok (C : CxOk P cx) {call : Caller} (hc : CallSound P call) (hY : YSound P l i G Y) (hG : Up G) (hGl : ∀ {μ}, G μ → μ l = some i) {ops : Array Oper} {W : World} {Q : Exit → Act → World → Prop} (hQ : ¬ LetsOut Q) :
    ∀ (k n : Nat) (s s' : St) (μ : Mu) (a : Act) (w : World), n + k = ops.size → runY cx call Y l ops.toList (ops.toList.drop n) s = .ok s' → G μ → ActR μ s a → Rel W μ s.H w →
      (∀ a' w', Went W μ s s' a' w' → Q .normal a' w') → wpOpsIn Fence.wide 0 P ops Q (List.range' n k) a w := by
  intro k
  induction k with
  | zero =>
    intro n s s' μ a w hn e hg hA R hq
    have hdrop : ops.toList.drop n = [] := List.drop_of_length_le (by rw [Array.length_toList]; omega)
    rw [hdrop] at e
    cases e
    exact hq _ _ ⟨μ, hA, R, Ext.refl _ _, Nat.le_refl _⟩
  | succ k ih =>
    intro n s s' μ a w hn e hg hA R hq
    have hlt : n < ops.toList.length := by simp; omega
    rw [List.drop_eq_getElem_cons hlt] at e
    have e : (match stepY cx call Y l ops.toList ops.toList[n] s with | .ok s => runY cx call Y l ops.toList (ops.toList.drop (n + 1)) s | .no => .no) = .ok s' := e
    have hi : ops[n]? = some ops.toList[n] := by simp at hlt ⊢
    split at e
    · rename_i s1 h1
      rw [List.range'_succ, wpOpsIn_cons]
      refine stepY_ok C hc hY hGl hi h1 hg hA R hQ fun a' w' ⟨μ1, q1, q2, q3, q4⟩ => ?_
      exact ih (n + 1) s1 s' μ1 a' w' (by omega) e (hG q3.le hg) q1 q2 fun a2 w2 h2 => hq _ _ (h2.trans q3 q4)
    · cases e

theorem evY_ok (C : CxOk P cx) (hm : P.follows .mixedOrders = true) {call : Caller} (hc : CallSound P call) (hY : YSound P l i G Y) (hG : Up G) (hGl : ∀ {μ}, G μ → μ l = some i) (n : Nat) : ∀ c, InOk Fence.wide P (evY cx call Y l n c) c G := by
  have A := wide_all P
  intro c
  induction c with
  | skip => intro s e s' h W μ a w hg hA R Q hq; cases h; exact wpIn_skip (hq _ _ (.refl hA R))
  | region id ops draw =>
    intro s e s' h W μ a w hg hA R Q hq
    cases draw with
    | false =>
      have h : (match runY cx call Y l ops.toList ops.toList s with | .ok s => CR.ok .norm s | .no => .no) = .ok e s' := h
      split at h
      · rename_i s1 h1
        cases h
        have hN : ¬ LetsOut (fun e a w => e = Exit.normal ∧ Went W μ s s' a w) := fun ⟨_, _, h, _⟩ => by cases h
        refine wpIn_mono (Q := fun e a w => e = Exit.normal ∧ Went W μ s s' a w) (wpIn_region ?_) fun e a' w' ⟨h1, h2⟩ => by subst h1; exact hq a' w' h2
        rw [List.range_eq_range']
        exact runY_ok C hc hY hG hGl hN ops.size 0 s _ μ a w (by simp) (by simpa using h1) hg hA R fun a' w' hw => ⟨rfl, hw⟩
      · cases h
    | true =>
      exact region_in A hm C hc (draw := true) (fun o _ => .inl rfl) h hA R hq
  | seq x y ix iy => exact seq_in A hG ix iy
  | cond c x y ix iy => exact cond_in A ix iy
  | block id x ix => exact block_in A ix
  | loop x ix => exact loopc_in A hG ix
  | rangeFunc f ps x y ix iy => intro s e s' h; cases h
  | exit id => intro s e s' h W μ a w hg hA R Q hq; cases h; exact wpIn_exit (hq _ _ (.refl hA R))
  | scope x ix => intro s e s' h; cases h
  | label l => intro s e s' h W μ a w hg hA R Q hq; cases h; exact wpIn_label (hq _ _ (.refl hA R))
  | goto l => intro s e s' h; cases h
  | ret => intro s e s' h W μ a w hg hA R Q hq; cases h; exact wpIn_ret (hq _ _ (.refl hA R))
  | refuse why => intro s e s' h; cases h
end

theorem enter_R {μ : Mu} {args args' : List Value} {h : Hp} {fn : Func} (hv : VRs μ args args') :
    ActR μ (enterS fn args h) { tmps := args'.toArray ++ Array.replicate (fn.ntmps - args'.toArray.size) undef, defers := [] } := by
  have hl := hv.length
  unfold enterS
  refine ⟨?_, fun t => ?_, trivial⟩
  · cases hb : Nat.ble fn.ntmps args.length with
    | true => have := Nat.le_of_ble_eq_true hb; simp; omega
    | false => have : ¬ fn.ntmps ≤ args.length := fun h => by rw [Nat.ble_eq_true_of_le h] at hb; cases hb
               simp; omega
  · simp only [slot, Tr.get_ofL, Array.getD_eq_getD_getElem?]
    rw [Array.getElem?_append]
    simp only [List.size_toArray]
    by_cases hlt : t < args'.length
    · rw [if_pos hlt]
      obtain ⟨a, ha⟩ : ∃ a, args[t]? = some a := ⟨_, List.getElem?_eq_getElem (by omega)⟩
      obtain ⟨v, h1, h2⟩ := hv.get ha
      rw [ha]
      simp [h1]; exact h2
    · rw [if_neg hlt, List.getElem?_eq_none (l := args) (by omega), Array.getElem?_replicate]
      have : (if t - args'.length < fn.ntmps - args'.length then some undef else none).getD undef = undef := by split <;> rfl
      rw [this]
      exact undefR μ

/-- The two blocks at the loop's head. -/
theorem Rel.lockHead {W : World} {μ : Mu} {H : Hp} {w : World} (R : Rel W μ H w) (L : Loop) (hL : L.state = .ready) (hp : L.pending = none) :
    ∃ μ', Ext H.n μ μ' ∧ μ' H.n = some ⟨w.heap.size, 0, 0, 0, 0, default⟩ ∧ μ' (Nat.succ H.n) = some ⟨w.heap.size + 1, 0, 0, 0, 0, L⟩ ∧ Rel W μ' (lockH H) ((w.alloc (.deferred (some []))).alloc (.loop L)) := by
  have hf0 : μ H.n = none := R.fresh (Nat.le_refl _)
  have hf1 : μ (Nat.succ H.n) = none := R.fresh (Nat.le_succ _)
  obtain ⟨w1, hw1⟩ : ∃ w1, ((w.alloc (.deferred (some []))).alloc (.loop L)) = w1 := ⟨_, rfl⟩
  rw [hw1]
  have hsz : w1.heap.size = w.heap.size + 2 := by rw [← hw1]; simp [World.size_alloc]
  have hold : ∀ k, k < w.heap.size → w1.heap[k]? = w.heap[k]? := fun k hk => by
    rw [← hw1, Below.heap_alloc _ _ _ (by rw [World.size_alloc]; omega), Below.heap_alloc _ _ _ hk]
  have hLk : w1.heap[w.heap.size + 1]? = some (.loop L) := by
    rw [← hw1]; have := World.alloc_heap_new (w.alloc (.deferred (some []))) (.loop L); rwa [World.size_alloc] at this
  have hK : w1.heap[w.heap.size]? = some (.deferred (some [])) := by
    rw [← hw1]; exact (Below.heap_alloc _ _ _ (by simp)).trans (World.alloc_heap_new w _)
  have hb1 : Below W.heap.size W w1 := by
    rw [← hw1]; exact R.below.trans ((((Below.refl _ w).alloc (Nat.le_refl _) _).alloc (by simp) _).mono R.below.size)
  have hN := R.below.size
  refine ⟨(μ.set H.n ⟨w.heap.size, 0, 0, 0, 0, default⟩).set (Nat.succ H.n) ⟨w.heap.size + 1, 0, 0, 0, 0, L⟩, ?_, ?_, Mu.set_eq _ _ _, ?_⟩
  · refine (Mu.ext_set hf0 (Nat.le_refl _)).trans (Mu.ext_set (n := H.n) ?_ (Nat.le_succ _)) (Nat.le_refl _)
    unfold Mu.set; rw [if_neg (by omega)]; exact hf1
  · have : H.n ≠ Nat.succ H.n := by omega
    show (if H.n = Nat.succ H.n then _ else _) = _
    rw [if_neg this]; exact Mu.set_eq _ _ _
  · have cases3 : ∀ {b i o}, ((μ.set H.n ⟨w.heap.size, 0, 0, 0, 0, default⟩).set (Nat.succ H.n) ⟨w.heap.size + 1, 0, 0, 0, 0, L⟩) b = some i → (lockH H).b.get b = some o →
        (b = Nat.succ H.n ∧ i = ⟨w.heap.size + 1, 0, 0, 0, 0, L⟩ ∧ o = .lock .ready none) ∨ (b = H.n ∧ i = ⟨w.heap.size, 0, 0, 0, 0, default⟩ ∧ o = .mark) ∨ (μ b = some i ∧ H.b.get b = some o ∧ i.rb < w.heap.size) := fun {b i o} hb ho => by
      unfold Mu.set at hb
      split at hb
      · subst_vars; cases hb
        unfold lockH at ho
        rw [Tr.get_put_eq] at ho; cases ho
        exact .inl ⟨rfl, rfl, rfl⟩
      · rename_i h1
        split at hb
        · subst_vars; cases hb
          unfold lockH at ho
          rw [Tr.get_put_ne _ _ h1, Tr.get_put_eq] at ho; cases ho
          exact .inr (.inl ⟨rfl, rfl, rfl⟩)
        · rename_i h2
          unfold lockH at ho
          rw [Tr.get_put_ne _ _ h1, Tr.get_put_ne _ _ h2] at ho
          exact .inr (.inr ⟨hb, ho, (R.ob b i o hb ho).old⟩)
    have hle : Le μ ((μ.set H.n ⟨w.heap.size, 0, 0, 0, 0, default⟩).set (Nat.succ H.n) ⟨w.heap.size + 1, 0, 0, 0, 0, L⟩) := by
      refine (Mu.le_set hf0).trans (Mu.le_set ?_)
      unfold Mu.set; rw [if_neg (by omega)]; exact hf1
    refine ⟨R.gl, fun b i hb => ?_, fun b i o hb ho => ?_, fun b c i j o p hb hc ho hp wo wp hij => ?_, hb1⟩
    · unfold Mu.set at hb
      split at hb
      · subst_vars; exact Nat.lt_succ_self _
      · split at hb
        · subst_vars; exact Nat.lt_succ_of_lt (Nat.lt_succ_self _)
        · exact Nat.lt_succ_of_lt (Nat.lt_succ_of_lt (R.dom b i hb))
    · rcases cases3 hb ho with ⟨rfl, rfl, rfl⟩ | ⟨rfl, rfl, rfl⟩ | ⟨g1, g2, g3⟩
      · refine ⟨hLk.trans ?_, by show _ ≤ w.heap.size + 1; omega⟩
        show some (Obj.loop L) = some (Obj.loop { L with state := .ready, pending := none })
        rw [← hL, ← hp]
      · exact ⟨hK, hN⟩
      · exact (R.ob b i o g1 g2).move hle (hold _ g3)
    · rcases cases3 hb ho with ⟨rfl, rfl, rfl⟩ | ⟨rfl, rfl, rfl⟩ | ⟨g1, g2, g3⟩ <;> rcases cases3 hc hp with ⟨rfl, rfl, rfl⟩ | ⟨rfl, rfl, rfl⟩ | ⟨f1, f2, f3⟩
      · rfl
      · exact absurd hij (by show w.heap.size + 1 ≠ w.heap.size; omega)
      · exact absurd hij (by show w.heap.size + 1 ≠ _; omega)
      · exact absurd hij (by show w.heap.size ≠ w.heap.size + 1; omega)
      · rfl
      · exact absurd hij (by show w.heap.size ≠ _; omega)
      · exact absurd hij (by show _ ≠ w.heap.size + 1; omega)
      · exact absurd hij (by show _ ≠ w.heap.size; omega)
      · exact R.inj b c i j o p g1 f1 g2 f2 wo wp hij

theorem range_ok (C : CxOk P cx) (hm : P.follows .mixedOrders = true) {call : Caller} (hc : CallSound P call) {fuel : Nat} {f : Operand} {ps : Array Tmp} {x y : Code} {s s' : St} {e : Ex} (h : evRange cx call fuel f ps x y s = .ok e s')
    {W : World} {μ : Mu} {a : Act} {w : World} (hA : ActR μ s a) (R : Rel W μ s.H w)
    {Q : Exit → Act → World → Prop} (hq : ∀ a' w', Went W μ s s' a' w' → Q e.exit! a' w') : (Code.rangeFunc f ps x y).wp P Q a w := by
  obtain ⟨n, T, D, H⟩ := s
  unfold evRange at h
  dsimp only at h
  split at h
  · rename_i g fi ca hk hf
    split at h
    · rename_i fnc hx hfn
      split at h
      · rename_i c hres hbody
        split at h
        · rename_i ex s1 hev
          split at h
          · rename_i n1 T1 H'
            obtain ⟨hfun, hname⟩ := C.fn g fnc hfn
            have hfv := hA.eval hk
            rw [hf] at hfv
            generalize hr : a.eval f = r at hfv
            obtain ⟨fi⟩ := fi; obtain ⟨ca⟩ := ca
            cases hfv with
            | func _ ha hcc =>
              rename_i fi' ca'
              refine wpIn_wide.1 (wpIn_rangeFunc (F := Fence.wide) (n := 0) fun fn _ => ?_)
              obtain ⟨L, hLd⟩ : ∃ L : Loop, L = { state := .ready, pending := none, fn, tmps := a.tmps, params := ps, assign := x, body := y, defers := w.heap.size } := ⟨_, rfl⟩
              obtain ⟨μ1, x1, x2, x3, x4⟩ := R.lockHead L (by rw [hLd]) (by rw [hLd])
              obtain ⟨w1, hw1⟩ : ∃ w1, (w.alloc (.deferred (some []))).alloc (.loop L) = w1 := ⟨_, rfl⟩
              rw [hw1] at x4
              have hargs : VRs μ1 (fi ++ (.func (.yield (Nat.succ H.n)) ⟨[]⟩ ⟨[]⟩ :: ca)) (fi' ++ (.func (.yield (w.heap.size + 1)) #[] #[] :: ca')) := (ha.mono x1.le).append (.cons (.yield x3) (hcc.mono x1.le))
              have harr : (#[] ++ (fi' ++ [Value.func (.yield (w.heap.size + 1)) #[] #[]]).toArray) ++ (⟨ca'⟩ : Array Value) = (fi' ++ (.func (.yield (w.heap.size + 1)) #[] #[] :: ca')).toArray := by
                apply Array.ext'; simp
              refine ⟨w.heap.size + 1, [{ target := .collected w.heap.size, args := #[] }], w1, { target := .fn (.func g) ⟨ca'⟩, args := (⟨fi'⟩ : Array Value) ++ #[.func (.yield (w.heap.size + 1)) #[] #[]] }, w1, g,
                (fi' ++ (.func (.yield (w.heap.size + 1)) #[] #[] :: ca')).toArray, w1, ?_, ?_, fun _ _ => trivial, ?_, fun h => by simp [Fence.wide] at h, ?_⟩
              · rw [← hw1, hLd]; exact run_enterLoop_outer _ _ _ _ _
              · simp only [resolve, hr]
                simp [go_sem]
              · simp only [invoke]
                rw [← MuLone.run_callFunc_enter hfun (by simpa using hname) hbody]
                congr 2
                rw [← harr]; apply Array.ext'; simp
              · refine callsIn_of_wp hfun hbody trivial ?_
                have hY := round_ok (l := Nat.succ H.n) C hm hc (fuel := fuel) (i := ⟨w.heap.size + 1, 0, 0, 0, 0, L⟩) (μ0 := μ1) (ps := ps) (x := x) (y := y) (n := n) (T := T) (a := a) ⟨hA.size, fun t => (hA.tmp t).mono x1.le⟩ (by rw [hLd]) (by rw [hLd]) (by rw [hLd]) (by rw [hLd])
                refine evY_ok C hm hc hY (fun hl ⟨h1, h2⟩ => ⟨h1.trans hl, hl _ _ h2⟩) (fun h => h.2) fuel c _ _ _ hev W μ1 _ _ ⟨Le.refl _, x3⟩ (enter_R hargs) x4 _ fun a' w' ⟨μ2, q1, q2, q3, q4⟩ => ?_
                have hd : a'.defers = [] := by
                  have hd := q1.dfr
                  cases hdd : a'.defers with
                  | nil => rfl
                  | cons d l => rw [hdd] at hd; exact hd.elim
                have hl2 := q3.le _ _ x3
                have hm2 := q3.le _ _ x2
                have hHn : H.n ≤ H'.n := by
                  have : (lockH H).n ≤ H'.n := q4
                  have h2 : (lockH H).n = H.n + 2 := rfl
                  omega
                have hext : Ext H.n μ μ2 := x1.trans q3 (by show H.n ≤ H.n + 2; omega)
                have hrun : (results fnc a'.tmps).run P w' = .ok (.tuple #[]) w' := by
                  have hr0 : fnc.results = #[] := Array.toList_eq_nil_iff.1 hres
                  unfold results; rw [hr0]; simp
                have key : ∀ (st : LoopState) (pd : Option Code) (hst : st ≠ .busy), lockIs (Nat.succ H.n) H' = some (st, pd) →
                    (Instr.endLoop (w.heap.size + 1)).run P w' = .ok pd (w'.putObj (w.heap.size + 1) (.loop { L with state := .exhausted, pending := pd })) ∧
                    Went W μ ⟨n, T, D, H⟩ ⟨n, T, .mark H.n :: D, ⟨H'.n, H'.b.put (Nat.succ H.n) (.lock .exhausted pd)⟩⟩ { a with defers := [{ target := .collected w.heap.size, args := #[] }] ++ a.defers } (w'.putObj (w.heap.size + 1) (.loop { L with state := .exhausted, pending := pd })) := fun st pd hst hlk => by
                  obtain ⟨r1, r2⟩ := q2.ob _ _ _ hl2 (lockIs_eq hlk)
                  refine ⟨run_endLoop r1 hst, μ2, ⟨hA.size, fun t => (hA.tmp t).mono hext.le, ⟨⟨_, hm2, rfl⟩, hA.dfr.mono hext.le⟩⟩, ?_, hext, hHn⟩
                  exact q2.setLock hl2 (lockIs_eq hlk) .exhausted pd
                have fin : endY n T D H.n (Nat.succ H.n) H' = .ok e s' → bodyPost P fnc (rangePost Fence.wide (0 - 1) P (w.heap.size + 1) Q { a with defers := [{ target := .collected w.heap.size, args := #[] }] ++ a.defers }) .ret a' w' := fun he => by
                  refine ⟨hd, _, hrun, ?_⟩
                  unfold endY at he
                  split at he
                  · rename_i hlk
                    cases he
                    obtain ⟨g1, g2⟩ := key _ _ (by simp) hlk
                    exact ⟨_, _, g1, hq _ _ g2⟩
                  · rename_i hlk
                    cases he
                    obtain ⟨g1, g2⟩ := key _ _ (by simp) hlk
                    exact ⟨_, _, g1, wpIn_ret (hq _ _ g2)⟩
                  · rename_i i hlk
                    cases he
                    obtain ⟨g1, g2⟩ := key _ _ (by simp) hlk
                    exact ⟨_, _, g1, wpIn_exit (hq _ _ g2)⟩
                  · cases he
                cases ex with
                | exit i => cases h
                | norm => exact fin h
                | ret => exact fin h
          · cases h
        · cases h
      · cases h
    · cases h
  · cases h

end Go.EvM
