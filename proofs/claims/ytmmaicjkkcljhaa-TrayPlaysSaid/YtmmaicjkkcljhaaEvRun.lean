/- Run: a function's answer is its call's. -/
import Derived.Test.YtmmaicjkkcljhaaEvCode2
import Derived.Defers
import Derived.RangeFuncLeaves
namespace Go.EvM
set_option linter.unusedSectionVars false
variable [GLs]
open Go.RowKit
set_option linter.unusedVariables false
variable {P : Program} {cx : Cx}

structure Sound (P : Program) (cx : Cx) : Prop where
  ok : CxOk P cx
  order : P.follows .mixedOrders = true
  ext : ∀ f e, cx.ext f = some e → SumOk P f e

theorem leaves_mono {fn : Func} {tmps : Array Value} {R R' : Ending → World → Prop} (h : ∀ e w, R e w → R' e w) : ∀ (ds : List Deferred) (u : FrameMode) (w : World), LeavesInM Fence.wide 0 P fn tmps R ds u w → LeavesInM Fence.wide 0 P fn tmps R' ds u w
  | [], .returning, w, ⟨v, hr, hR⟩ => ⟨v, hr, h _ _ hR⟩
  | [], .panicking chain, w, hR => h _ _ hR
  | [], .run, _, hf => hf
  | d :: ds, u, w, ⟨hu, .inl ⟨r, w', h1, h2, h3⟩⟩ => ⟨hu, .inl ⟨r, w', h1, h2, leaves_mono h ds u w' h3⟩⟩
  | d :: ds, u, w, ⟨hu, .inr ⟨hn, fv, cap, f, args, h1, h2, h3, h4⟩⟩ => ⟨hu, .inr ⟨hn, fv, cap, f, args, h1, h2, h3, h4.mono fun e u' w' hr => by
      cases e with
      | returned v => exact leaves_mono h ds _ w' hr
      | panicked c => exact leaves_mono h ds _ w' hr
      | outgrown => exact h _ _ hr⟩⟩

theorem runD_call (callD : Caller) (f : FuncId) (args : List Value) (D : List Dfr) (h : Hp) : runD callD (.call f args :: D) h = match callD f args h with | .ok _ h => runD callD D h | .no => none := rfl
theorem runD_mark (callD : Caller) (b : Nat) (D : List Dfr) (h : Hp) : runD callD (.mark b :: D) h = match h.b.get b with | some .mark => runD callD D ⟨h.n, h.b.del b⟩ | _ => none := rfl

theorem Rel.unmark {W : World} {μ : Mu} {h : Hp} {w : World} (R : Rel W μ h w) {b : Nat} {i : BI} (hb : μ b = some i) (ho : h.b.get b = some .mark) (x : Obj) : Rel W μ ⟨h.n, h.b.del b⟩ (w.putObj i.rb x) := by
  obtain ⟨r1, r2⟩ := R.ob b i _ hb ho
  have hother : ∀ k, k ≠ i.rb → (w.putObj i.rb x).heap[k]? = w.heap[k]? := fun k hk => World.putObj_heap_other hk
  have old : ∀ {c o}, (h.b.del b).get c = some o → c ≠ b ∧ h.b.get c = some o := fun {c o} hc => by
    rw [Tr.get_del] at hc
    split at hc
    · cases hc
    · rename_i hne; exact ⟨hne, hc⟩
  refine ⟨R.gl, R.dom, fun c j o hc hoc => ?_, fun c d j k o p hc hd hoc hpd wo wp hjk => R.inj c d j k o p hc hd (old hoc).2 (old hpd).2 wo wp hjk,
    ⟨R.below.os, R.below.tape, R.below.output, by simpa [World.putObj] using R.below.size, fun k hk => (hother k (by omega)).trans (R.below.block k hk)⟩⟩
  obtain ⟨hne, hoc⟩ := old hoc
  have ro := R.ob c j o hc hoc
  refine ro.move (Le.refl _) (hother _ fun hrb => ?_)
  cases o with
  | cells c2 n2 z2 ti2 ro2 =>
    obtain ⟨cs, e, fz, h1, _⟩ := ro
    rw [hrb, r1] at h1; cases h1
  | map es =>
    obtain ⟨arr, cl, h1, _⟩ := ro
    rw [hrb, r1] at h1; cases h1
  | mark => exact hne (R.inj c b j i _ _ hc hb hoc ho trivial trivial hrb)
  | lock _ _ => exact hne (R.inj c b j i _ _ hc hb hoc ho trivial trivial hrb)
  | chan _ _ => exact hne (R.inj c b j i _ _ hc hb hoc ho trivial trivial hrb)

theorem leaves_ok (C : CxOk P cx) {callD : Caller} (hD : DefSound P callD) {fn : Func} {tmps : Array Value} {T : Tr Value} {W : World} {v : Value} {h' H2 : Hp} (eo : evOut cx fn.results.toList T H2 = .ok v h') :
    ∀ (D : List Dfr) (ds : List Deferred) (H : Hp) (μ : Mu) (w : World), runD callD D H = some H2 → DfrR μ D ds → (∀ t, VR μ (slot T t) (tmps.getD t undef)) → Rel W μ H w →
      LeavesInM Fence.wide 0 P fn tmps (fun e w' => ∃ v2, e = .returned v2 ∧ After W μ H v h' v2 w') ds .returning w
  | [], [], H, μ, w, e, hd, hT, R => by
    cases e
    obtain ⟨rfl, v1, g1, g2⟩ := out_ok C (a := { tmps := tmps, defers := [] }) fn hT R eo
    exact ⟨v1, g1, v1, rfl, μ, g2, R, Ext.refl _ _, Nat.le_refl _⟩
  | .call f args :: D, d' :: ds, H, μ, w, e, ⟨⟨c, a, h1, h2⟩, h3⟩, hT, R => by
    rw [runD_call] at e
    split at e
    · rename_i u1 H1 hcall
      subst h1
      obtain ⟨g1, g2, _⟩ := hD _ _ _ _ _ hcall W μ w _ h2 R
      have harr : ((a ++ c).toList).toArray = a ++ c := by simp
      rw [harr] at g1 g2
      refine ⟨by simp, .inr ⟨fun h => by simp [Fence.wide] at h, .func f, c, f, a ++ c, rfl, by simp only [invoke]; exact g1, fun _ _ => trivial, (g2 .returning).mono ?_⟩⟩
      rintro e' u' w' ⟨rfl, v', rfl, μ1, k1, k2, k3, k4⟩
      show LeavesInM Fence.wide 0 P fn tmps _ ds .returning w'
      have := leaves_ok C hD eo D ds H1 μ1 w' e (h3.mono k3.le) (fun t => (hT t).mono k3.le) k2
      exact leaves_mono (fun e w ⟨v2, m1, μ2, m2, m3, m4, m5⟩ => ⟨v2, m1, μ2, m2, m3, k3.trans m4 k4, Nat.le_trans k4 m5⟩) ds .returning w' this
    · cases e
  | .mark b :: D, d' :: ds, H, μ, w, e, ⟨⟨i, h1, h2⟩, h3⟩, hT, R => by
    rw [runD_mark] at e
    split at e
    · rename_i hb
      subst h2
      obtain ⟨r1, r2⟩ := R.ob b i _ h1 hb
      refine ⟨by simp, .inl ⟨i.rb, _, rfl, run_takeDeferred r1, ?_⟩⟩
      exact leaves_ok C hD eo D ds ⟨H.n, H.b.del b⟩ μ _ e h3 hT (R.unmark h1 hb _)
    · cases e
  | [], _ :: _, _, _, _, _, h, _, _ => h.elim
  | _ :: _, [], _, _, _, _, h, _, _ => h.elim

theorem body_go (H : Sound P cx) {call : Caller} (hc : CallSound P call) {callD : Caller} (hD : DefSound P callD) {n : Nat} {fn : Func} {c : Code} {args : List Value} {h : Hp} {ex : Ex} {s' : St} (hev : evCode cx call callD n c (enterS fn args h) = .ok ex s')
    {W : World} {μ : Mu} {w : World} {args' : List Value} (hv : VRs μ args args') (R : Rel W μ h w) {Q : Exit → Act → World → Prop}
    (hq : ∀ a' w', Went W μ (enterS fn args h) s' a' w' → Q ex.exit! a' w') :
    c.wp P Q { tmps := args'.toArray ++ Array.replicate (fn.ntmps - args'.toArray.size) undef, defers := [] } w :=
  code_ok H.ok H.order hc hD n c _ _ _ hev W μ _ w (enter_R hv) R _ hq

theorem body_def (H : Sound P cx) {call : Caller} (hc : CallSound P call) {n : Nat} {f : FuncId} {fn : Func} (hf : P.funcs[f]? = some fn) {args : List Value} {h : Hp} {v : Value} {h' : Hp} (e : evBody0 cx call n fn args h = .ok v h')
    {W : World} {μ : Mu} {w : World} {args' : List Value} (hv : VRs μ args args') (R : Rel W μ h w) :
    ∃ c, fn.body = some c ∧ c.wp P (bodyPost P fn fun e w' => ∃ v', e = .returned v' ∧ After W μ h v h' v' w') { tmps := args'.toArray ++ Array.replicate (fn.ntmps - args'.toArray.size) undef, defers := [] } w := by
  unfold evBody0 at e
  split at e
  · rename_i c hb
    refine ⟨c, hb, ?_⟩
    unfold evEnd0 at e
    split at e
    · rename_i ex s' hev
      obtain ⟨n', T, D, H1⟩ := s'
      dsimp only at e
      refine body_go H hc noCall_sound hev hv R fun a' w' ⟨μ', q1, q2, q3, q4⟩ => ?_
      cases D with
      | cons d l => cases e
      | nil =>
        dsimp only at e
        have hd : a'.defers = [] := by
          have hd := q1.dfr
          cases hdd : a'.defers with
          | nil => rfl
          | cons d l => rw [hdd] at hd; exact hd.elim
        have key : evOut cx fn.results.toList T H1 = .ok v h' → a'.defers = [] ∧ ∃ v1, (results fn a'.tmps).run P w' = .ok v1 w' ∧ ∃ v2, Ending.returned v1 = .returned v2 ∧ After W μ h v h' v2 w' := fun eo => by
          obtain ⟨rfl, v1, g1, g2⟩ := out_ok H.ok fn q1.tmp q2 eo
          exact ⟨hd, v1, g1, v1, rfl, μ', g2, q2, q3, q4⟩
        cases ex with
        | exit i => cases e
        | norm => exact key e
        | ret => exact key e
    · cases e
  · cases e

theorem body_calls (H : Sound P cx) {call : Caller} (hc : CallSound P call) {callD : Caller} (hD : DefSound P callD) {n : Nat} {f : FuncId} {fn : Func} (hf : P.funcs[f]? = some fn) {args : List Value} {h : Hp} {v : Value} {h' : Hp} (e : evBody cx call callD n fn args h = .ok v h')
    {W : World} {μ : Mu} {w : World} {args' : List Value} (hv : VRs μ args args') (R : Rel W μ h w) :
    ∃ c, fn.body = some c ∧ Calls P f args'.toArray w fun e w' => ∃ v', e = .returned v' ∧ After W μ h v h' v' w' := by
  unfold evBody at e
  split at e
  · rename_i c hb
    refine ⟨c, hb, ?_⟩
    unfold evEnd at e
    split at e
    · rename_i ex s' hev
      obtain ⟨n', T, D, H1⟩ := s'
      dsimp only at e
      refine callsIn_wide.1 (callsIn_of_wp_marks (n := 0) (R := fun e w' => ∃ v', e = .returned v' ∧ After W μ h v h' v' w') hf hb trivial (wpIn_wide.2 (body_go H hc hD hev hv R fun a' w' ⟨μ', q1, q2, q3, q4⟩ => ?_)))
      have key : ∀ H2, runD callD D H1 = some H2 → evOut cx fn.results.toList T H2 = .ok v h' → LeavesInM Fence.wide 0 P fn a'.tmps (fun e w' => ∃ v', e = .returned v' ∧ After W μ h v h' v' w') a'.defers .returning w' := fun H2 hr eo =>
        leaves_mono (fun e w ⟨v2, m1, μ2, m2, m3, m4, m5⟩ => ⟨v2, m1, μ2, m2, m3, q3.trans m4 q4, Nat.le_trans q4 m5⟩) _ _ _ (leaves_ok H.ok hD eo D a'.defers H1 μ' w' hr q1.dfr q1.tmp q2)
      cases ex with
      | exit i => cases e
      | norm =>
        dsimp only at e
        split at e
        · rename_i H2 hr; exact key H2 hr e
        · cases e
      | ret =>
        dsimp only at e
        split at e
        · rename_i H2 hr; exact key H2 hr e
        · cases e
    · cases e
  · cases e

theorem body_ok (H : Sound P cx) {call : Caller} (hc : CallSound P call) {callD : Caller} (hD : DefSound P callD) {n : Nat} {f : FuncId} {fn : Func} (hf : P.funcs[f]? = some fn) (hn : fn.name ≠ "runtime.NumGoroutine") : SumOk P f (evBody cx call callD n fn) := by
  intro args h v h' e W μ w args' hv R
  obtain ⟨c, hb, hcalls⟩ := body_calls H hc hD hf e hv R
  rw [MuLone.run_callFunc_enter hf (by simpa using hn) hb]
  exact hcalls

theorem def_ok (H : Sound P cx) {call : Caller} (hc : CallSound P call) (n : Nat) : DefSound P (evDef cx call n) := by
  intro f args h v h' e W μ w args' hv R
  have e : (match cx.ext f with | some _ => OR.no | none => match cx.fn f with | some fn => evBody0 cx call n fn args h | none => .no) = .ok v h' := e
  split at e
  · cases e
  · split at e
    · rename_i fn hfn
      obtain ⟨hf, hn⟩ := H.ok.fn f fn hfn
      obtain ⟨c, hb, hwp⟩ := body_def H hc hf e hv R
      exact ⟨MuLone.run_callFunc_enter hf (by simpa using hn) hb _ _, fun u => callsDIn_of_wp hf hb trivial (wpIn_wide.2 hwp), calls_of_wp hf hb hwp⟩
    · cases e

theorem fun_ok (H : Sound P cx) : ∀ n, CallSound P (evFun cx n) := by
  intro n
  induction n with
  | zero => intro f args h v h' e; cases e
  | succ n ih =>
    intro f args h v h' e
    have e : (match cx.ext f with | some e => e args h | none => match cx.fn f with | some fn => evBody cx (evFun cx n) (evDef cx (evFun cx n) n) n fn args h | none => .no) = .ok v h' := e
    split at e
    · rename_i g hg
      exact H.ext f g hg args h v h' e
    · split at e
      · rename_i fn hfn
        exact body_ok H ih (def_ok H ih n) (H.ok.fn f fn hfn).1 (H.ok.fn f fn hfn).2 args h v h' e
      · cases e

/-- A call, from anywhere. -/
theorem run_ok (H : Sound P cx) {n : Nat} {f : FuncId} {fn : Func} {c : Code} (hf : P.funcs[f]? = some fn) (hn : fn.name ≠ "runtime.NumGoroutine") (hb : fn.body = some c) {args : List Value} {h : Hp} {v : Value} {h' : Hp} (e : evBody cx (evFun cx n) (evDef cx (evFun cx n) n) n fn args h = .ok v h')
    {μ : Mu} {w : World} {args' : List Value} (hv : VRs μ args args') (R : Rel w μ h w) : Calls P f args'.toArray w fun e w' => ∃ v', e = .returned v' ∧ After w μ h v h' v' w' := by
  obtain ⟨_, _, h2⟩ := body_calls H (fun_ok H n) (def_ok H (fun_ok H n) n) hf e hv R
  exact h2

theorem rel_empty (w : World) (hgl : GlOk w) : Rel w (fun _ => none) ⟨0, .nil⟩ w :=
  ⟨hgl, fun _ _ h => (Option.some_ne_none _ h.symm).elim, fun _ _ _ h => (Option.some_ne_none _ h.symm).elim, fun _ _ _ _ _ _ h => (Option.some_ne_none _ h.symm).elim, Below.refl _ _⟩

/-- A call that answers yes. -/
theorem run_yes (H : Sound P cx) {n : Nat} {f : FuncId} {fn : Func} {c : Code} (hf : P.funcs[f]? = some fn) (hn : fn.name ≠ "runtime.NumGoroutine") (hb : fn.body = some c) {args args' : List Value}
    (e : (match evBody cx (evFun cx n) (evDef cx (evFun cx n) n) n fn args ⟨0, .nil⟩ with | .ok (.bool b) _ => b | _ => false) = true) (hv : VRs (fun _ => none) args args') (w : World) (hgl : GlOk w) :
    Calls P f args'.toArray w fun e w' => e = .returned (.bool true) ∧ Below w.heap.size w w' := by
  split at e
  · rename_i b h' he
    subst e
    refine (run_ok H hf hn hb he hv (rel_empty w hgl)).mono fun e w' ⟨v', h1, μ', h2, h3, _⟩ => ?_
    cases h2
    exact ⟨h1, h3.below⟩
  · cases e

/-- A call without arguments that answers yes. -/
theorem run_true (H : Sound P cx) {n : Nat} {f : FuncId} {fn : Func} {c : Code} (hf : P.funcs[f]? = some fn) (hn : fn.name ≠ "runtime.NumGoroutine") (hb : fn.body = some c)
    (e : (match evBody cx (evFun cx n) (evDef cx (evFun cx n) n) n fn [] ⟨0, .nil⟩ with | .ok (.bool b) _ => b | _ => false) = true) (w : World) (hgl : GlOk w) :
    Calls P f #[] w fun e w' => e = .returned (.bool true) ∧ Below w.heap.size w w' :=
  run_yes H hf hn hb e .nil w hgl

theorem mkTI_eq {t : TypeId} {i : TI} (h : mkTI P t = some i) : ∃ inf z, P.info? t = some inf ∧ P.underlying t = some i.desc ∧ inf.size = i.size ∧ inf.bytes = i.bytes ∧ inf.zero = some z ∧ z.cells.toList = i.zero ∧ i.zero.length = i.size ∧
    (∀ x ∈ i.zero, plainV 4 x = true ∧ oneB x = true) ∧ i.zv = z ∧ plainV 5 z = true := by
  unfold mkTI at h
  split at h
  · rename_i inf hinf
    split at h
    · rename_i d z hd hz
      cases hb : Nat.beq z.cells.toList.length inf.size && z.cells.toList.all (fun x => plainV 4 x && oneB x) && plainV 5 z with
      | false => rw [hb] at h; cases h
      | true =>
        rw [hb] at h; cases h
        rw [Bool.and_eq_true, Bool.and_eq_true] at hb
        refine ⟨inf, z, hinf, hd, rfl, rfl, hz, rfl, Nat.eq_of_beq_eq_true hb.1.1, fun x hx => ?_, rfl, hb.2⟩
        have := List.all_eq_true.1 hb.1.2 x hx
        simpa using this
    · cases h
  · cases h

theorem leaves_of : ∀ {fs : List Field} {ls : List (Nat × TypeDesc)}, leavesL P fs = some ls → LeavesOf P fs ls
  | [], ls, h => by cases h; trivial
  | f :: fs, ls, h => by
    unfold leavesL at h
    split at h
    · rename_i i hi
      obtain ⟨inf, z, h1, h2, _⟩ := mkTI_eq hi
      cases hb : (keyD i.desc && !(f.name == "_")) with
      | false => rw [hb] at h; cases h
      | true =>
        rw [hb] at h
        simp only [cond_true] at h
        rw [Bool.and_eq_true] at hb
        split at h
        · rename_i l hl
          cases h
          exact ⟨by simpa using hb.2, rfl, h2, hb.1, leaves_of hl⟩
        · cases h
    · cases h

theorem cx_ok {sts : List TypeId} {ext : FuncId → Option (List Value → Hp → OR)} (hn : P.funcs.toList.all (fun g => !(g.name == "runtime.NumGoroutine")) = true) (hs : sts.all (fun t => !P.stoodInHeld t && !P.eqGuardType P.depth t) = true) : CxOk P (mkCx P sts ext) := by
  refine ⟨fun t i h => ?_, fun f fn h => ?_, fun t ls h => ?_, fun e n off u h => h, fun e h => Nat.eq_of_beq_eq_true h, fun g c h => (by cases h), fun t i h => ?_⟩
  · obtain ⟨inf, z, h1, h2, h3, h4, h5, h6, h7, h8, _⟩ := mkTI_eq (show mkTI P t = some i from h)
    exact ⟨inf, z, h1, h2, h3, h4, h5, h6, h7, h8⟩
  · have h : P.funcs.toList[f]? = some fn := h
    rw [Array.getElem?_toList] at h
    refine ⟨h, ?_⟩
    have := List.all_eq_true.1 hn fn (Array.mem_toList_iff.2 (Array.mem_of_getElem? h))
    simpa using this
  · have h : mkEq P sts t = some ls := h
    unfold mkEq at h
    cases hm : memN t sts with
    | false => rw [hm] at h; cases h
    | true =>
      rw [hm] at h
      simp only [cond_true] at h
      obtain ⟨u, hu1, hu2⟩ := List.any_eq_true.1 hm
      have hu2 := Nat.eq_of_beq_eq_true hu2
      subst hu2
      have := List.all_eq_true.1 hs _ hu1
      rw [Bool.and_eq_true] at this
      split at h
      · rename_i fs hfs
        exact ⟨fs, hfs, by simpa using this.1, by simpa using this.2, leaves_of h⟩
      · cases h
  · obtain ⟨inf, z, h1, h2, h3, h4, h5, h6, h7, h8, h9, h10⟩ := mkTI_eq (show mkTI P t = some i from h)
    exact ⟨inf, h1, by rw [h9]; exact h5, by rw [h9]; exact h10⟩

noncomputable def mkCxG (P : Program) (sts : List TypeId) (gl : Nat → Option (Tr Value)) (ext : FuncId → Option (List Value → Hp → OR)) : Cx :=
  { ti := mkTI P, fn := fun f => P.funcs.toList[f]?, eqs := mkEq P sts, lies := fun e n off u => liesAt P P.depth e (n / P.cellsOf e) off u 1, one := fun e => Nat.beq (P.cellsOf e) 1, ext, gl }

theorem cx_okG {sts : List TypeId} {ext : FuncId → Option (List Value → Hp → OR)} {gl : Nat → Option (Tr Value)} (hn : P.funcs.toList.all (fun g => !(g.name == "runtime.NumGoroutine")) = true)
    (hs : sts.all (fun t => !P.stoodInHeld t && !P.eqGuardType P.depth t) = true) (hg : ∀ g c, gl g = some c → ∃ cs, GLs.tab g = some cs ∧ ∀ j, c.get j = cs[j]?) : CxOk P (mkCxG P sts gl ext) :=
  have C := cx_ok (P := P) (sts := sts) (ext := ext) hn hs
  ⟨C.ti, C.fn, C.eqs, C.lies, C.one, hg, C.zv⟩

end Go.EvM
