/- Fast: the interpreter once more, told so that what hangs on the text alone is reckoned once: it answers the same. -/
import Derived.Test.YtmmaicjkkcljhaaEvRun
namespace Go.EvM
set_option linter.unusedSectionVars false
variable [GLs]
open Go.RowKit
set_option linter.unusedVariables false

structure Cmp where
  run : Tr Value → List Dfr → Hp → CR
structure CmpV where
  go : Value → Tr Value → List Dfr → Hp → CR

noncomputable def optK (x : Option Value) (k : Value → CR) : CR := Option.rec (motive := fun _ => CR) .no k x
noncomputable def orK (x : OR) (k : Value → Hp → CR) : CR := OR.rec (motive := fun _ => CR) .no k x
noncomputable def mkK (x : Option Mk) (H : Hp) (k : Value → Hp → CR) : CR :=
  Option.rec (motive := fun _ => CR) .no (fun m => Hp.rec (motive := fun _ => CR) (fun n b => k (m.val n) ⟨Nat.succ n, b.put n m.ob⟩) H) x
noncomputable def srK (x : SR) (k : Cmp) : CR := SR.rec (motive := fun _ => CR) .no (fun s => St.rec (motive := fun _ => CR) (fun _ T D H => k.run T D H) s) x
noncomputable def exK (e : Ex) (kn : Cmp) (kx : Nat → Cmp) (kr : Cmp) : Cmp := Ex.rec (motive := fun _ => Cmp) kn kx kr e
noncomputable def crK (r : CR) (kn : Cmp) (kx : Nat → Cmp) (kr : Cmp) : CR :=
  CR.rec (motive := fun _ => CR) .no (fun e s => St.rec (motive := fun _ => CR) (fun _ T D H => (exK e kn kx kr).run T D H) s) r

noncomputable def stopC : Cmp := ⟨fun _ _ _ => .no⟩
noncomputable def setC (n : Nat) (dst : Option Tmp) (k : Cmp) : CmpV :=
  match dst with
  | some d => (match Nat.blt d n with
    | true => ⟨fun v T D H => k.run (T.put d v) D H⟩
    | false => ⟨fun _ _ _ _ => .no⟩)
  | none => ⟨fun _ T D H => k.run T D H⟩

noncomputable def mapO (T : Tr Value) (l : List Operand) : List Value := List.rec (motive := fun _ => List Value) [] (fun x _ ih => evO T x :: ih) l
theorem mapO_eq (T : Tr Value) : ∀ l, mapO T l = l.map (evO T)
  | [] => rfl
  | x :: l => by rw [List.map_cons, ← mapO_eq T l]; rfl

noncomputable def compCall (call : Caller) (f : Operand) (args : List Operand) (s : CmpV) : Cmp :=
  match f with
  | .func g => ⟨fun T D H => orK (call g (mapO T args) H) (fun v h => s.go v T D h)⟩
  | f => ⟨fun T D H => match evO T f with
    | .func (.func g) first cap => orK (call g (first.toList ++ (mapO T args ++ cap.toList)) H) (fun v h => s.go v T D h)
    | _ => .no⟩
noncomputable def compDefer (f : Operand) (args : List Operand) (s : CmpV) : Cmp :=
  ⟨fun T D H => match evO T f with
    | .func (.func g) first cap => s.go undef T (.call g (first.toList ++ (mapO T args ++ cap.toList)) :: D) H
    | _ => .no⟩
noncomputable def compCls (call : Caller) (c : Cls) (s : CmpV) : Cmp :=
  match c with
  | .pure f => ⟨fun T D H => optK (f (evO T)) (fun v => s.go v T D H)⟩
  | .look f => ⟨fun T D H => optK (f (evO T) H) (fun v => s.go v T D H)⟩
  | .make f => ⟨fun T D H => mkK (f (evO T)) H (fun v h => s.go v T D h)⟩
  | .eff f => ⟨fun T D H => orK (f (evO T) H) (fun v h => s.go v T D h)⟩
  | .call f args => compCall call f args s
  | .defer f args => compDefer f args s
  | .bad => stopC
noncomputable def compOp (cx : Cx) (call : Caller) (n : Nat) (ops : List Oper) (o : Oper) (k : Cmp) : Cmp :=
  match o.guard with
  | none => compCls call (cls cx o) (setC n o.dst k)
  | some g => ⟨fun T D H => match wantT T ops (some g) with
    | true => (compCls call (cls cx o) (setC n o.dst k)).run T D H
    | false => (setC n o.dst k).go undef T D H⟩
noncomputable def compOps (cx : Cx) (call : Caller) (n : Nat) (ops : List Oper) (k : Cmp) (l : List Oper) : Cmp :=
  List.rec (motive := fun _ => Cmp) k (fun o _ ih => compOp cx call n ops o ih) l

noncomputable def endN (n : Nat) : Cmp := ⟨fun T D H => .ok .norm ⟨n, T, D, H⟩⟩
noncomputable def endX (n : Nat) (i : Nat) : Cmp := ⟨fun T D H => .ok (.exit i) ⟨n, T, D, H⟩⟩
noncomputable def endR (n : Nat) : Cmp := ⟨fun T D H => .ok .ret ⟨n, T, D, H⟩⟩

noncomputable def boolK (v : Value) (a b : Cmp) : Cmp := match v with | .bool b' => (match b' with | true => a | false => b) | _ => stopC
/-- Rounds. -/
noncomputable def loopC (f : Cmp) (m : Nat) : Tr Value → List Dfr → Hp → CR :=
  Nat.rec (motive := fun _ => Tr Value → List Dfr → Hp → CR) (fun _ _ _ => .no)
    (fun _ ih T D H => CR.rec (motive := fun _ => CR) .no (fun e s => Ex.rec (motive := fun _ => CR) (St.rec (motive := fun _ => CR) (fun _ T D H => ih T D H) s) (fun i => .ok (.exit i) s) (.ok .ret s) e) (f.run T D H)) m

noncomputable def compCode (cx : Cx) (call callD : Caller) (n fuel : Nat) (c : Code) : Cmp → (Nat → Cmp) → Cmp → Cmp :=
  Code.rec (motive := fun _ => Cmp → (Nat → Cmp) → Cmp → Cmp)
    (fun kn _ _ => kn)
    (fun _ ops draw kn _ _ => match draw with
      | false => compOps cx call n ops.toList kn ops.toList
      | true => ⟨fun T D H => srK (runDraw cx call ops.toList ⟨n, T, D, H⟩) kn⟩)
    (fun _ _ ia ib kn kx kr => ia (ib kn kx kr) kx kr)
    (fun c _ _ ia ib kn kx kr => ⟨fun T D H => (boolK (evO T c) (ia kn kx kr) (ib kn kx kr)).run T D H⟩)
    (fun id _ ia kn kx kr => ia kn (fun i => match Nat.beq i id with | true => kn | false => kx i) kr)
    (fun _ ia kn kx kr => ⟨fun T D H => crK (loopC (ia (endN n) (endX n) (endR n)) fuel T D H) kn kx kr⟩)
    (fun f ps x y _ _ kn kx kr => ⟨fun T D H => crK (evRange cx call fuel f ps x y ⟨n, T, D, H⟩) kn kx kr⟩)
    (fun id _ kx _ => kx id)
    (fun _ ia kn kx kr => ia kn kx kr)
    (fun _ kn _ _ => kn)
    (fun _ _ _ _ => stopC)
    (fun _ _ kr => kr)
    (fun _ _ _ _ => stopC)
    c

noncomputable def runC (cx : Cx) (ih ihD : Caller) (fuel : Nat) (fn : Func) (c : Code) (args : List Value) (h : Hp) : CR :=
  (compCode cx ih ihD fn.ntmps fuel c (endN fn.ntmps) (endX fn.ntmps) (endR fn.ntmps)).run (Tr.ofL args) [] h
noncomputable def fastBody (cx : Cx) (ih ihD : Caller) (fuel : Nat) (fn : Func) (args : List Value) (h : Hp) : OR :=
  match fn.body with
  | some c => (match Nat.ble args.length fn.ntmps with
    | true => evEnd cx ihD fn.results.toList (runC cx ih ihD fuel fn c args h)
    | false => evBody cx ih ihD fuel fn args h)
  | none => .no
noncomputable def fastBody0 (cx : Cx) (ih : Caller) (fuel : Nat) (fn : Func) (args : List Value) (h : Hp) : OR :=
  match fn.body with
  | some c => (match Nat.ble args.length fn.ntmps with
    | true => evEnd0 cx fn.results.toList (runC cx ih noCall fuel fn c args h)
    | false => evBody0 cx ih fuel fn args h)
  | none => .no
noncomputable def fastDef (cx : Cx) (ih : Caller) (n : Nat) : Caller := fun f args h =>
  match cx.ext f with
  | some _ => .no
  | none => match cx.fn f with
    | some fn => fastBody0 cx ih n fn args h
    | none => .no
noncomputable def fastFun (cx : Cx) (n : Nat) : Caller :=
  Nat.rec (motive := fun _ => Caller) (fun _ _ _ => .no) (fun n ih f args h =>
    match cx.ext f with
    | some e => e args h
    | none => match cx.fn f with
      | some fn => fastBody cx ih (fastDef cx ih n) n fn args h
      | none => .no) n

/-! ### It answers the same -/
variable {cx : Cx}

theorem setC_eq (n : Nat) (dst : Option Tmp) (k : Cmp) (v : Value) (T : Tr Value) (D : List Dfr) (H H' : Hp) : (setC n dst k).go v T D H' = srK ((⟨n, T, D, H⟩ : St).setD dst v H') k := by
  unfold setC St.setD
  cases dst with
  | none => rfl
  | some d =>
    dsimp only
    cases Nat.blt d n <;> rfl

theorem compCls_eq (call : Caller) (c : Cls) (n : Nat) (dst : Option Tmp) (k : Cmp) (T : Tr Value) (D : List Dfr) (H : Hp) :
    (compCls call c (setC n dst k)).run T D H = srK (stepCls call c dst ⟨n, T, D, H⟩) k := by
  unfold stepCls
  cases c with
  | pure f =>
    dsimp only [compCls, resCls]
    cases h : f (evO T) with
    | none => rfl
    | some v => exact setC_eq n dst k v T D H H
  | look f =>
    dsimp only [compCls, resCls]
    cases h : f (evO T) H with
    | none => rfl
    | some v => exact setC_eq n dst k v T D H H
  | make f =>
    dsimp only [compCls, resCls]
    cases h : f (evO T) with
    | none => rfl
    | some m => obtain ⟨hn, hb⟩ := H; exact setC_eq n dst k _ T D _ _
  | eff f =>
    dsimp only [compCls, resCls]
    cases h : f (evO T) H with
    | no => rfl
    | ok v h' => exact setC_eq n dst k v T D H h'
  | call f args =>
    have gen : ∀ f : Operand, (match evO T f with
      | .func (.func g) first cap => orK (call g (first.toList ++ (mapO T args ++ cap.toList)) H) (fun v h => (setC n dst k).go v T D h)
      | _ => .no) = srK (match resCls call (.call f args) (evO T) D H with | .ok v d h => (⟨n, T, d, H⟩ : St).setD dst v h | .no => .no) k := by
      intro f
      dsimp only [resCls]
      rw [mapO_eq]
      generalize evO T f = u
      cases u with
      | func fn first cap =>
        cases fn with
        | func g =>
          dsimp only
          cases call g (first.toList ++ (args.map (evO T) ++ cap.toList)) H with
          | no => rfl
          | ok v h' => exact setC_eq n dst k v T D H h'
        | _ => rfl
      | _ => rfl
    cases f with
    | func g =>
      refine Eq.trans ?_ (gen (.func g))
      dsimp only [compCls, compCall, evO]
      simp only [List.nil_append, List.append_nil]
    | tmp t => exact gen (.tmp t)
    | const v => exact gen (.const v)
    | global g => exact gen (.global g)
  | defer f args =>
    dsimp only [compCls, compDefer, resCls]
    rw [mapO_eq]
    generalize evO T f = u
    cases u with
    | func fn first cap =>
      cases fn with
      | func g => exact setC_eq n dst k _ T _ H H
      | _ => rfl
    | _ => rfl
  | bad => rfl

theorem compOp_eq (call : Caller) (n : Nat) (ops : List Oper) (o : Oper) (k : Cmp) (T : Tr Value) (D : List Dfr) (H : Hp) :
    (compOp cx call n ops o k).run T D H = srK (stepOp cx call ops o ⟨n, T, D, H⟩) k := by
  unfold compOp stepOp
  cases o.guard with
  | none => exact compCls_eq call _ n o.dst k T D H
  | some g =>
    dsimp only
    cases wantT T ops (some g) with
    | true => exact compCls_eq call _ n o.dst k T D H
    | false => exact setC_eq n o.dst k _ T D H H

/-- The number of slots stays. -/
theorem setD_n {s s' : St} {d : Option Tmp} {v : Value} {h : Hp} (e : s.setD d v h = .ok s') : s'.n = s.n := (setD_eq e).2.1
theorem stepCls_n {call : Caller} {c : Cls} {dst : Option Tmp} {s s' : St} (e : stepCls call c dst s = .ok s') : s'.n = s.n := by
  obtain ⟨n, T, D, H⟩ := s
  unfold stepCls at e
  dsimp only at e
  split at e
  · have := setD_n e; exact this
  · cases e
theorem stepOp_n {call : Caller} {ops : List Oper} {o : Oper} {s s' : St} (e : stepOp cx call ops o s = .ok s') : s'.n = s.n := by
  obtain ⟨n, T, D, H⟩ := s
  unfold stepOp at e
  dsimp only at e
  cases h : wantT T ops o.guard <;> rw [h] at e
  · exact setD_n e
  · exact stepCls_n e
theorem runOps_n {call : Caller} {ops : List Oper} : ∀ {l : List Oper} {s s' : St}, runOps cx call ops l s = .ok s' → s'.n = s.n
  | [], s, s', e => by cases e; rfl
  | o :: l, s, s', e => by
    rw [runOps_cons] at e
    split at e
    · rename_i s1 h1
      exact (runOps_n e).trans (stepOp_n h1)
    · cases e
theorem drawIt_n {ops : List Oper} {it : It} {s s' : St} {fl fl' : List Fl} (e : drawIt cx ops it s fl = some (s', fl')) : s'.n = s.n := by
  unfold drawIt at e
  cases h : wantT s.T ops it.o.guard <;> rw [h] at e
  · simp only [cond_false] at e
    split at e
    · rename_i s1 h1; cases e; exact setD_n h1
    · cases e
  · simp only [cond_true] at e
    split at e
    · split at e
      · split at e
        · rename_i s1 h1; cases e; exact setD_n h1
        · cases e
      · cases e
    · split at e
      · split at e
        · rename_i s1 h1; cases e; exact setD_n h1
        · cases e
      · cases e
    · split at e
      · split at e
        · rename_i s1 h1; cases e; exact setD_n h1
        · cases e
      · cases e
    · cases e
theorem drawIts_n {ops : List Oper} {k : Nat} : ∀ {l : List It} {s s' : St} {fl fl' : List Fl}, drawIts cx ops k l s fl = some (s', fl') → s'.n = s.n
  | [], s, s', fl, fl', e => by cases e; rfl
  | it :: l, s, s', fl, fl', e => by
    unfold drawIts at e
    cases h : Nat.beq it.lo k <;> rw [h] at e
    · exact drawIts_n (l := l) e
    · simp only [cond_true] at e
      split at e
      · rename_i s1 fl1 h1; exact (drawIts_n (l := l) e).trans (drawIt_n h1)
      · cases e
theorem drawSegs_n {call : Caller} {ops : List Oper} {its : List It} : ∀ {ms : List (Nat × Oper)} {k : Nat} {s s' : St} {fl : List Fl}, drawSegs cx call ops its k ms s fl = .ok s' → s'.n = s.n
  | ms, k, s, s', fl, e => by
    unfold drawSegs at e
    split at e
    · rename_i s1 fl1 h1
      cases h : fl1.all (flOk k s1.H) <;> rw [h] at e
      · cases e
      · simp only [cond_true] at e
        split at e
        · cases e; exact drawIts_n h1
        · rename_i m ms'
          split at e
          · rename_i s2 h2
            cases h3 : Nat.ble s1.H.n s2.H.n <;> rw [h3] at e
            · cases e
            · exact ((drawSegs_n (ms := ms') e).trans (stepOp_n h2)).trans (drawIts_n h1)
          · cases e
    · cases e
theorem runDraw_n {call : Caller} {ops : List Oper} {s s' : St} (e : runDraw cx call ops s = .ok s') : s'.n = s.n := by
  unfold runDraw at e
  split at e
  · exact drawSegs_n e
  · cases e

theorem compOps_eq (call : Caller) (n : Nat) (ops : List Oper) (k : Cmp) : ∀ (l : List Oper) (T : Tr Value) (D : List Dfr) (H : Hp),
    (compOps cx call n ops k l).run T D H = srK (runOps cx call ops l ⟨n, T, D, H⟩) k
  | [], T, D, H => rfl
  | o :: l, T, D, H => by
    show (compOp cx call n ops o (compOps cx call n ops k l)).run T D H = _
    rw [compOp_eq, runOps_cons]
    cases h : stepOp cx call ops o ⟨n, T, D, H⟩ with
    | no => rfl
    | ok s =>
      have hn := stepOp_n h
      obtain ⟨n', T', D', H'⟩ := s
      cases hn
      exact compOps_eq call n ops k l T' D' H'

def NOk (n : Nat) : CR → Prop
  | .ok _ s => s.n = n
  | .no => True
theorem endY_n {n : Nat} {T : Tr Value} {D : List Dfr} {m l : Nat} {H : Hp} : NOk n (endY n T D m l H) := by
  unfold endY
  split <;> first | rfl | trivial
theorem range_n {cx : Cx} {call : Caller} {fuel : Nat} {f : Operand} {ps : Array Tmp} {x y : Code} {n : Nat} {T : Tr Value} {D : List Dfr} {H : Hp} : NOk n (evRange cx call fuel f ps x y ⟨n, T, D, H⟩) := by
  unfold evRange
  dsimp only
  split
  · split
    · split
      · split
        · split
          · split
            · trivial
            · exact endY_n
          · trivial
        · trivial
      · trivial
    · trivial
  · trivial

theorem loopC_eq {f : Cmp} {g : St → CR} {n : Nat} (hf : ∀ T D H, f.run T D H = g ⟨n, T, D, H⟩) (hg : ∀ T D H, NOk n (g ⟨n, T, D, H⟩)) :
    ∀ (m : Nat) (T : Tr Value) (D : List Dfr) (H : Hp), loopC f m T D H = loopN g m ⟨n, T, D, H⟩ ∧ NOk n (loopN g m ⟨n, T, D, H⟩)
  | 0, T, D, H => ⟨rfl, trivial⟩
  | m + 1, T, D, H => by
    have e1 : loopC f (m + 1) T D H = (CR.rec (motive := fun _ => CR) .no (fun e s => Ex.rec (motive := fun _ => CR) (St.rec (motive := fun _ => CR) (fun _ T D H => loopC f m T D H) s) (fun i => .ok (.exit i) s) (.ok .ret s) e) (f.run T D H) : CR) := rfl
    have e2 : loopN g (m + 1) ⟨n, T, D, H⟩ = (match g ⟨n, T, D, H⟩ with | .ok .norm s => loopN g m s | r => r) := rfl
    rw [e1, e2, hf]
    have h := hg T D H
    cases hr : g ⟨n, T, D, H⟩ with
    | no => exact ⟨rfl, trivial⟩
    | ok e s =>
      rw [hr] at h
      cases e with
      | norm =>
        obtain ⟨n', T', D', H'⟩ := s
        cases h
        exact loopC_eq hf hg m T' D' H'
      | exit i => exact ⟨rfl, h⟩
      | ret => exact ⟨rfl, h⟩

theorem crK_end (n : Nat) (r : CR) (h : NOk n r) : crK r (endN n) (endX n) (endR n) = r := by
  cases r with
  | no => rfl
  | ok e s =>
    obtain ⟨n', T, D, H⟩ := s
    cases h
    cases e <;> rfl

theorem compCode_eq (call callD : Caller) (n fuel : Nat) : ∀ (c : Code), (∀ T D H, NOk n (evCode cx call callD fuel c ⟨n, T, D, H⟩)) ∧
    ∀ (kn : Cmp) (kx : Nat → Cmp) (kr : Cmp) (T : Tr Value) (D : List Dfr) (H : Hp), (compCode cx call callD n fuel c kn kx kr).run T D H = crK (evCode cx call callD fuel c ⟨n, T, D, H⟩) kn kx kr := by
  intro c
  induction c with
  | skip => exact ⟨fun T D H => rfl, fun kn kx kr T D H => rfl⟩
  | region id ops draw =>
    cases draw with
    | false =>
      have e0 : ∀ s, evCode cx call callD fuel (.region id ops false) s = (match runOps cx call ops.toList ops.toList s with | .ok s => CR.ok .norm s | .no => .no) := fun s => rfl
      refine ⟨fun T D H => ?_, fun kn kx kr T D H => ?_⟩
      · rw [e0]
        cases h : runOps cx call ops.toList ops.toList ⟨n, T, D, H⟩ with
        | no => trivial
        | ok s => exact runOps_n h
      · show (compOps cx call n ops.toList kn ops.toList).run T D H = _
        rw [compOps_eq, e0]
        cases h : runOps cx call ops.toList ops.toList ⟨n, T, D, H⟩ <;> rfl
    | true =>
      have e0 : ∀ s, evCode cx call callD fuel (.region id ops true) s = (match runDraw cx call ops.toList s with | .ok s => CR.ok .norm s | .no => .no) := fun s => rfl
      refine ⟨fun T D H => ?_, fun kn kx kr T D H => ?_⟩
      · rw [e0]
        cases h : runDraw cx call ops.toList ⟨n, T, D, H⟩ with
        | no => trivial
        | ok s => exact runDraw_n h
      · show srK (runDraw cx call ops.toList ⟨n, T, D, H⟩) kn = _
        rw [e0]
        cases h : runDraw cx call ops.toList ⟨n, T, D, H⟩ <;> rfl
  | seq x y ix iy =>
    have e0 : ∀ s, evCode cx call callD fuel (.seq x y) s = (match evCode cx call callD fuel x s with | .ok .norm s => evCode cx call callD fuel y s | r => r) := fun s => rfl
    refine ⟨fun T D H => ?_, fun kn kx kr T D H => ?_⟩
    · rw [e0]
      have h := ix.1 T D H
      cases hr : evCode cx call callD fuel x ⟨n, T, D, H⟩ with
      | no => trivial
      | ok e s =>
        rw [hr] at h
        cases e with
        | norm => obtain ⟨n', T', D', H'⟩ := s; cases h; exact iy.1 T' D' H'
        | exit i => exact h
        | ret => exact h
    · show (compCode cx call callD n fuel x (compCode cx call callD n fuel y kn kx kr) kx kr).run T D H = _
      rw [ix.2, e0]
      have h := ix.1 T D H
      cases hr : evCode cx call callD fuel x ⟨n, T, D, H⟩ with
      | no => rfl
      | ok e s =>
        rw [hr] at h
        obtain ⟨n', T', D', H'⟩ := s
        cases h
        cases e with
        | norm => exact iy.2 kn kx kr T' D' H'
        | exit i => rfl
        | ret => rfl
  | cond c x y ix iy =>
    have e0 : ∀ s, evCode cx call callD fuel (.cond c x y) s = (match evO s.T c with | .bool true => evCode cx call callD fuel x s | .bool false => evCode cx call callD fuel y s | _ => .no) := fun s => rfl
    refine ⟨fun T D H => ?_, fun kn kx kr T D H => ?_⟩
    · rw [e0]
      dsimp only
      split
      · exact ix.1 T D H
      · exact iy.1 T D H
      · trivial
    · show (boolK (evO T c) (compCode cx call callD n fuel x kn kx kr) (compCode cx call callD n fuel y kn kx kr)).run T D H = _
      rw [e0]
      dsimp only
      split
      · rename_i h; rw [h]; exact ix.2 kn kx kr T D H
      · rename_i h; rw [h]; exact iy.2 kn kx kr T D H
      · rename_i h1 h2
        unfold boolK
        split
        · rename_i b hb
          cases b with
          | true => exact absurd hb h1
          | false => exact absurd hb h2
        · rfl
  | block id x ix =>
    have e0 : ∀ s, evCode cx call callD fuel (.block id x) s = (match evCode cx call callD fuel x s with | .ok (.exit i) s => bif Nat.beq i id then CR.ok .norm s else CR.ok (.exit i) s | r => r) := fun s => rfl
    refine ⟨fun T D H => ?_, fun kn kx kr T D H => ?_⟩
    · rw [e0]
      have h := ix.1 T D H
      cases hr : evCode cx call callD fuel x ⟨n, T, D, H⟩ with
      | no => trivial
      | ok e s =>
        rw [hr] at h
        cases e with
        | norm => exact h
        | exit i => dsimp only; cases Nat.beq i id <;> exact h
        | ret => exact h
    · show (compCode cx call callD n fuel x kn (fun i => match Nat.beq i id with | true => kn | false => kx i) kr).run T D H = _
      rw [ix.2, e0]
      cases hr : evCode cx call callD fuel x ⟨n, T, D, H⟩ with
      | no => rfl
      | ok e s =>
        obtain ⟨n', T', D', H'⟩ := s
        cases e with
        | norm => rfl
        | exit i =>
          dsimp only [crK, exK]
          cases Nat.beq i id <;> rfl
        | ret => rfl
  | loop x ix =>
    have hl := loopC_eq (f := compCode cx call callD n fuel x (endN n) (endX n) (endR n)) (g := evCode cx call callD fuel x) (n := n) (fun T D H => by rw [ix.2, crK_end n _ (ix.1 T D H)]) ix.1 fuel
    refine ⟨fun T D H => (hl T D H).2, fun kn kx kr T D H => ?_⟩
    show crK (loopC (compCode cx call callD n fuel x (endN n) (endX n) (endR n)) fuel T D H) kn kx kr = crK (loopN (evCode cx call callD fuel x) fuel ⟨n, T, D, H⟩) kn kx kr
    rw [(hl T D H).1]
  | rangeFunc f ps x y ix iy =>
    refine ⟨fun T D H => ?_, fun kn kx kr T D H => rfl⟩
    exact range_n
  | exit id => exact ⟨fun T D H => rfl, fun kn kx kr T D H => rfl⟩
  | scope x ix => exact ⟨ix.1, ix.2⟩
  | label l => exact ⟨fun T D H => rfl, fun kn kx kr T D H => rfl⟩
  | goto l => exact ⟨fun T D H => trivial, fun kn kx kr T D H => rfl⟩
  | ret => exact ⟨fun T D H => rfl, fun kn kx kr T D H => rfl⟩
  | refuse w => exact ⟨fun T D H => trivial, fun kn kx kr T D H => rfl⟩

theorem runC_eq (ih ihD : Caller) (fuel : Nat) (fn : Func) (c : Code) (args : List Value) (h : Hp) (hl : Nat.ble args.length fn.ntmps = true) : runC cx ih ihD fuel fn c args h = evCode cx ih ihD fuel c (enterS fn args h) := by
  have hl := Nat.le_of_ble_eq_true hl
  have hc := compCode_eq (cx := cx) ih ihD fn.ntmps fuel c
  unfold runC
  rw [hc.2, crK_end _ _ (hc.1 _ _ _)]
  have hn : (bif Nat.ble fn.ntmps args.length then args.length else fn.ntmps) = fn.ntmps := by
    cases hb : Nat.ble fn.ntmps args.length with
    | true => have := Nat.le_of_ble_eq_true hb; simp; omega
    | false => rfl
  unfold enterS
  rw [hn]

theorem fastBody_eq (ih ihD : Caller) (fuel : Nat) (fn : Func) (args : List Value) (h : Hp) : fastBody cx ih ihD fuel fn args h = evBody cx ih ihD fuel fn args h := by
  unfold fastBody
  split
  · rename_i c hb
    split
    · rename_i hl
      unfold evBody
      rw [hb, runC_eq ih ihD fuel fn c args h hl]
    · rfl
  · rename_i hb
    unfold evBody
    rw [hb]
theorem fastBody0_eq (ih : Caller) (fuel : Nat) (fn : Func) (args : List Value) (h : Hp) : fastBody0 cx ih fuel fn args h = evBody0 cx ih fuel fn args h := by
  unfold fastBody0
  split
  · rename_i c hb
    split
    · rename_i hl
      unfold evBody0
      rw [hb, runC_eq ih noCall fuel fn c args h hl]
    · rfl
  · rename_i hb
    unfold evBody0
    rw [hb]

theorem fastFun_eq : ∀ n, fastFun cx n = evFun cx n
  | 0 => rfl
  | n + 1 => by
    have ih := fastFun_eq n
    funext f args h
    show (match cx.ext f with
      | some e => e args h
      | none => match cx.fn f with
        | some fn => fastBody cx (fastFun cx n) (fastDef cx (fastFun cx n) n) n fn args h
        | none => .no) = (match cx.ext f with
      | some e => e args h
      | none => match cx.fn f with
        | some fn => evBody cx (evFun cx n) (evDef cx (evFun cx n) n) n fn args h
        | none => .no)
    have hd : fastDef cx (fastFun cx n) n = evDef cx (evFun cx n) n := by
      funext f args h
      unfold fastDef evDef
      rw [ih]
      cases cx.ext f with
      | some e => rfl
      | none =>
        cases cx.fn f with
        | none => rfl
        | some fn => exact fastBody0_eq _ _ fn args h
    rw [ih] at hd ⊢
    rw [hd]
    cases cx.ext f with
    | some e => rfl
    | none =>
      cases cx.fn f with
      | none => rfl
      | some fn => exact fastBody_eq _ _ _ fn args h

theorem fastDef_eq (n : Nat) : fastDef cx (fastFun cx n) n = evDef cx (evFun cx n) n := by
  funext f args h
  unfold fastDef evDef
  rw [fastFun_eq]
  cases cx.ext f with
  | some e => rfl
  | none =>
    cases cx.fn f with
    | none => rfl
    | some fn => exact fastBody0_eq _ _ fn args h

noncomputable def isYes (r : OR) : Bool := OR.rec (motive := fun _ => Bool) false (fun v _ => match v with | .bool b => b | _ => false) r
/-- A call that answers yes, from anywhere. -/
theorem fast_yes {P : Program} (H : Sound P cx) (n : Nat) {f : FuncId} {fn : Func} {c : Code} (hf : P.funcs[f]? = some fn) (hn : fn.name ≠ "runtime.NumGoroutine") (hb : fn.body = some c) {args args' : List Value}
    (e : isYes (fastBody cx (fastFun cx n) (fastDef cx (fastFun cx n) n) n fn args ⟨0, .nil⟩) = true) (hv : VRs (fun _ => none) args args') (w : World) (hgl : GlOk w) :
    Calls P f args'.toArray w fun e w' => e = .returned (.bool true) ∧ Below w.heap.size w w' := by
  refine run_yes H (n := n) hf hn hb ?_ hv w hgl
  rw [fastDef_eq, fastFun_eq, fastBody_eq] at e
  revert e
  cases evBody cx (evFun cx n) (evDef cx (evFun cx n) n) n fn args ⟨0, .nil⟩ with
  | no => exact fun h => h
  | ok v h => exact fun h => by cases v <;> exact h

/-- What answers yes on an empty heap answers yes on any. -/
def yesE (args : List Value) (h : Hp) : OR :=
  match args with
  | [] => .ok (.bool true) h
  | _ => .no
theorem yes_ok {P : Program} {f : FuncId} {fn : Func} {c : Code} (hf : P.funcs[f]? = some fn) (hn : fn.name ≠ "runtime.NumGoroutine") (hb : fn.body = some c)
    (e : ∀ w : World, GlOk w → Calls P f #[] w fun e w' => e = .returned (.bool true) ∧ Below w.heap.size w w') : SumOk P f yesE := by
  intro args h v h' ev W μ w args' hv R
  unfold yesE at ev
  split at ev
  · cases ev
    cases hv
    rw [MuLone.run_callFunc_enter hf (by simpa using hn) hb]
    refine (e w (R.gl.mono R.below)).mono ?_
    rintro e' w' ⟨rfl, hbel⟩
    exact ⟨_, rfl, μ, .bool true, ⟨R.gl, R.dom, fun b i o h1 h2 => have ro := R.ob b i o h1 h2; ro.move (Le.refl _) (hbel.block _ ro.old), R.inj, R.below.trans (hbel.mono R.below.size)⟩, Ext.refl _ _, Nat.le_refl _⟩
  · cases ev

end Go.EvM
