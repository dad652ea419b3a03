/- The interpreter's control: regions whose order is drawn, code, calls. -/
import Derived.Test.YtmmaicjkkcljhaaEvDef
namespace Go.EvM
set_option linter.unusedVariables false

/-! ### Equality of values, as far as it is asked -/
def eqAddr : Option Addr → Option Addr → Bool
  | none, none => true
  | some ⟨b, o, none⟩, some ⟨c, p, none⟩ => Nat.beq b c && Nat.beq o p
  | _, _ => false
def eqNO : Option Nat → Option Nat → Bool
  | none, none => true
  | some a, some b => Nat.beq a b
  | _, _ => false
mutual
noncomputable def eqVal : Nat → Value → Value → Bool
  | 0, _, _ => false
  | k + 1, a, b => match a, b with
    | .bool a, .bool b => (match a, b with | true, true => true | false, false => true | _, _ => false)
    | .int k a, .int l b => decide (k = l) && eqI a b
    | .string a, .string b => eqL a.data.toList b.data.toList
    | .pointer a, .pointer b => eqAddr a b
    | .slice a l c, .slice b m d => eqAddr a b && Nat.beq l m && Nat.beq c d
    | .map a, .map b => eqNO a b
    | .chan a, .chan b => eqNO a b
    | .func (.func f) a c, .func (.func g) b d => Nat.beq f g && eqVals k a.toList b.toList && eqVals k c.toList d.toList
    | .nilFunc, .nilFunc => true
    | .iface t a, .iface u b => Nat.beq t u && eqVal k a b
    | .nilIface, .nilIface => true
    | .agg a, .agg b => eqVals k a.toList b.toList
    | .tuple a, .tuple b => eqVals k a.toList b.toList
    | _, _ => false
noncomputable def eqVals : Nat → List Value → List Value → Bool
  | 0, _, _ => false
  | k + 1, l, m => match l, m with
    | [], [] => true
    | a :: l, b :: m => eqVal k a b && eqVals k l m
    | _, _ => false
end

noncomputable def eqTr : Nat → Tr Value → Tr Value → Bool
  | 0, _, _ => false
  | _ + 1, .nil, .nil => true
  | k + 1, .nd v a b c d, .nd v' a' b' c' d' =>
    (match v, v' with | none, none => true | some x, some y => eqVal 100 x y | _, _ => false) && eqTr k a a' && eqTr k b b' && eqTr k c c' && eqTr k d d'
  | _ + 1, _, _ => false
noncomputable def eqOb : Ob → Ob → Bool
  | .cells c n z t r, .cells c' n' z' t' r' => eqTr 40 c c' && Nat.beq n n' && (Nat.beq z.z z'.z && eqNO z.e z'.e) && (match t, t' with | true, true => true | false, false => true | _, _ => false) && (match r, r' with | true, true => true | false, false => true | _, _ => false)
  | .chan c [], .chan c' [] => Nat.beq c c'
  | _, _ => false

/-! ### A region whose order is drawn -/
noncomputable def maskOf (acc : List Nat) (es : List Edge) : Nat :=
  es.foldl (fun s e => bif Region.binds .any e then Nat.lor (Nat.lor s (Nat.shiftLeft 1 e.on)) ((acc[e.on]?).getD 0) else s) 0
/-- For each operation those that stand ahead of it in every order, as a mask. -/
noncomputable def ancs (ops : List Oper) : List Nat := ops.foldl (fun acc o => acc ++ [maskOf acc o.after.toList]) []
def bit (m i : Nat) : Bool := Nat.beq (Nat.land (Nat.shiftRight m i) 1) 1

noncomputable def isM (cx : Cx) (o : Oper) : Bool :=
  match cls cx o with
  | .pure _ => false
  | .look _ => false
  | .make _ => false
  | _ => true

structure It where
  i : Nat
  o : Oper
  lo : Nat
  hi : Nat

noncomputable def numbered (i : Nat) : List Oper → List (Nat × Oper)
  | [] => []
  | o :: l => (i, o) :: numbered (i + 1) l

def tmpsOf (l : List Operand) : List Nat := l.filterMap fun | .tmp t => some t | _ => none
/-- The slots that an operation reads. -/
noncomputable def looks (ops : List Oper) (o : Oper) : List Nat :=
  (match o.guard with
   | some (g, _) => (match ops[g]? with | some p => p.dst.toList | none => [])
   | none => []) ++ tmpsOf o.op.operands.toList
def memN (n : Nat) (l : List Nat) : Bool := l.any (Nat.beq n)
noncomputable def apartB (ops : List Oper) (x y : Oper) : Bool :=
  (match x.dst with
   | some d => !(memN d (looks ops y)) && (match y.dst with | some e => !(Nat.beq d e) | none => true)
   | none => true) &&
  (match y.dst with
   | some e => !(memN e (looks ops x))
   | none => true)

noncomputable def edgesOk (n : Nat) (o : Oper) : Bool := o.after.toList.all fun e => bif Region.binds .any e then Nat.blt e.on n else true
/-- Every two operations: one is ahead of the other in every order, or they have nothing to do with each other. -/
noncomputable def allApart (ops : List Oper) (an : List Nat) (l : List (Nat × Oper)) : Bool :=
  l.all fun p => l.all fun q => bif Nat.blt p.1 q.1 then bit ((an[q.1]?).getD 0) p.1 || apartB ops p.2 q.2 else true
noncomputable def chainFrom (an : List Nat) : Nat → List Nat → Bool
  | _, [] => true
  | m, n :: l => bit ((an[n]?).getD 0) m && chainFrom an n l
noncomputable def chainOk (an : List Nat) : List Nat → Bool
  | [] => true
  | m :: l => chainFrom an m l

structure Plan where
  its : List It
  ms : List (Nat × Oper)

def maskAt (an : List Nat) (i : Nat) : Nat := (an[i]?).getD 0
noncomputable def segL (its : List It) (k : Nat) : List (Nat × Oper) := (its.filter fun it => Nat.beq it.lo k).map fun it => (it.i, it.o)
/-- The order in which the interpreter goes through a region: what does not act as soon as it may be. -/
noncomputable def ordL (its : List It) : Nat → List (Nat × Oper) → List (Nat × Oper)
  | k, [] => segL its k
  | k, m :: ms => segL its k ++ m :: ordL its (k + 1) ms
noncomputable def ordOk (an : List Nat) : List (Nat × Oper) → Nat → Nat → Bool
  | [], acc, all => Nat.beq acc all
  | p :: l, acc, all => Nat.beq (Nat.land (maskAt an p.1) acc) (maskAt an p.1) && !(bit acc p.1) && ordOk an l (Nat.lor acc (Nat.shiftLeft 1 p.1)) all
noncomputable def itOk (an : List Nat) (ms : List Nat) (it : It) : Bool :=
  (match it.lo with
   | 0 => true
   | n + 1 => (match ms[n]? with | some m => bit (maskAt an it.i) m | none => false)) &&
  (match ms[it.hi]? with
   | some m => bit (maskAt an m) it.i
   | none => true)
noncomputable def mkPlan (cx : Cx) (an : List Nat) (nb : List (Nat × Oper)) : Plan :=
  let ms := nb.filter fun p => isM cx p.2
  ⟨(nb.filter fun p => !(isM cx p.2)).map fun p => ⟨p.1, p.2, (ms.filter fun m => bit (maskAt an p.1) m.1).length, (ms.filter fun m => !(bit (maskAt an m.1) p.1)).length⟩, ms⟩
noncomputable def planOk (ops : List Oper) (an : List Nat) (nb : List (Nat × Oper)) (p : Plan) : Bool :=
  (nb.all fun q => edgesOk q.1 q.2 && Nat.beq (maskOf an q.2.after.toList) (maskAt an q.1)) && chainOk an (p.ms.map (·.1)) && allApart ops an nb &&
    p.its.all (itOk an (p.ms.map (·.1))) && ordOk an (ordL p.its 0 p.ms) 0 (Nat.pred (Nat.shiftLeft 1 ops.length))
noncomputable def planOf (cx : Cx) (ops : List Oper) : Option Plan :=
  bif planOk ops (ancs ops) (numbered 0 ops) (mkPlan cx (ancs ops) (numbered 0 ops)) then some (mkPlan cx (ancs ops) (numbered 0 ops)) else none

inductive Fl where
  | look (f : Env → Hp → Option Value) (T : Tr Value) (v : Value) (hi : Nat)
  | make (b : Nat) (ob : Ob) (hi : Nat)

noncomputable def flOk (k : Nat) (h : Hp) : Fl → Bool
  | .look f T v hi => bif Nat.ble k hi then (match f (evO T) h with | some u => eqVal 100 v u | none => false) else true
  | .make b ob hi => bif Nat.ble k hi then (match h.b.get b with | some o => eqOb ob o | none => false) else true

/-- One operation that does not act: it is carried out, and what must hold of it later is noted. -/
noncomputable def drawIt (cx : Cx) (ops : List Oper) (it : It) (s : St) (fl : List Fl) : Option (St × List Fl) :=
  bif wantT s.T ops it.o.guard then
    match cls cx it.o with
    | .pure f => (match f (evO s.T) with
      | some v => (match s.setD it.o.dst v s.H with | .ok s' => some (s', fl) | .no => none)
      | none => none)
    | .look f => (match f (evO s.T) s.H with
      | some v => (match s.setD it.o.dst v s.H with | .ok s' => some (s', .look f s.T v it.hi :: fl) | .no => none)
      | none => none)
    | .make f => (match f (evO s.T) with
      | some m => (match s.setD it.o.dst (m.val s.H.n) ⟨Nat.succ s.H.n, s.H.b.put s.H.n m.ob⟩ with | .ok s' => some (s', .make s.H.n m.ob it.hi :: fl) | .no => none)
      | none => none)
    | _ => none
  else match s.setD it.o.dst undef s.H with | .ok s' => some (s', fl) | .no => none

noncomputable def drawIts (cx : Cx) (ops : List Oper) (k : Nat) : List It → St → List Fl → Option (St × List Fl)
  | [], s, fl => some (s, fl)
  | it :: l, s, fl => bif Nat.beq it.lo k then (match drawIt cx ops it s fl with | some (s, fl) => drawIts cx ops k l s fl | none => none) else drawIts cx ops k l s fl

noncomputable def drawSegs (cx : Cx) (call : Caller) (ops : List Oper) (its : List It) : Nat → List (Nat × Oper) → St → List Fl → SR
  | k, ms, s, fl => match drawIts cx ops k its s fl with
    | some (s, fl) => bif fl.all (flOk k s.H) then (match ms with
      | [] => .ok s
      | m :: ms => match stepOp cx call ops m.2 s with
        | .ok s' => bif Nat.ble s.H.n s'.H.n then drawSegs cx call ops its (k + 1) ms s' fl else .no
        | .no => .no) else .no
    | none => .no
  termination_by structural _ ms => ms

noncomputable def runDraw (cx : Cx) (call : Caller) (ops : List Oper) (s : St) : SR :=
  match planOf cx ops with
  | some p => drawSegs cx call ops p.its 0 p.ms s []
  | none => .no

/-! ### A range over a function that hands nothing over -/
noncomputable def roOb (o : Ob) : Option Ob := match o with | .cells c n z t _ => some (.cells c n z t true) | _ => none
/-- Nothing that lay may be written. -/
noncomputable def roTr (t : Tr Ob) : Tr Ob := Tr.rec (motive := fun _ => Tr Ob) .nil (fun v _ _ _ _ a b c d => .nd (match v with | some o => roOb o | none => none) a b c d) t
/-- An operation that is no defer statement. -/
def noDef (o : Oper) : Bool :=
  match o.op with
  | .defer _ => false
  | _ => true

/-- Code, in a round: no defer statement, no range over a function. -/
noncomputable def evR (cx : Cx) (call : Caller) (fuel : Nat) (c : Code) : St → CR :=
  Code.rec (motive := fun _ => St → CR)
    (fun s => .ok .norm s)
    (fun _ ops draw s => match ops.toList.all noDef with
      | true => (match draw with
        | false => (match runOps cx call ops.toList ops.toList s with | .ok s => .ok .norm s | .no => .no)
        | true => (match runDraw cx call ops.toList s with | .ok s => .ok .norm s | .no => .no))
      | false => .no)
    (fun _ _ ia ib s => match ia s with
      | .ok .norm s => ib s
      | r => r)
    (fun c _ _ ia ib s => match evO s.T c with
      | .bool true => ia s
      | .bool false => ib s
      | _ => .no)
    (fun id _ ia s => match ia s with
      | .ok (.exit i) s => bif Nat.beq i id then .ok .norm s else .ok (.exit i) s
      | r => r)
    (fun _ ia s => loopN ia fuel s)
    (fun _ _ _ _ _ _ _ => .no)
    (fun id s => .ok (.exit id) s)
    (fun _ _ _ => .no)
    (fun _ s => .ok .norm s)
    (fun _ _ => .no)
    (fun s => .ok .ret s)
    (fun _ _ => .no)
    c

inductive YR where
  | no
  | ok (b : Bool) (h : Hp)

/-- Yield's arguments, in the round's slots. -/
noncomputable def zipT (n : Nat) (ps : List Tmp) : List Value → Tr Value → Option (Tr Value) :=
  List.rec (motive := fun _ => List Value → Tr Value → Option (Tr Value)) (fun vs T => match vs with | [] => some T | _ => none)
    (fun p _ ih vs T => match vs with
      | v :: vs => bif Nat.blt p n then ih vs (T.put p v) else none
      | [] => none) ps

noncomputable def lockIs (l : Nat) (h : Hp) : Option (LoopState × Option Code) :=
  match h.b.get l with
  | some (.lock st p) => some (st, p)
  | _ => none

/-- What a call of yield does: a round. -/
noncomputable def roundY (ps : List Tmp) (asg body : St → CR) (n : Nat) (T : Tr Value) (l : Nat) (vals : List Value) (h : Hp) : YR :=
  match lockIs l h, zipT n ps vals T with
  | some (.ready, none), some T => (match asg ⟨n, T, [], h⟩ with
    | .ok .norm s1 => (match s1 with
      | ⟨n, T, D, h1⟩ => (match lockIs l h1 with
        | some (.ready, none) => (match body ⟨n, T, D, ⟨h1.n, h1.b.put l (.lock .busy none)⟩⟩ with
          | .ok e s2 => (match s2 with
            | ⟨_, _, _, h2⟩ => (match lockIs l h2 with
              | some (.busy, none) => (match e with
                | .norm => .ok true ⟨h2.n, h2.b.put l (.lock .ready none)⟩
                | .ret => .ok false ⟨h2.n, h2.b.put l (.lock .done (some .ret))⟩
                | .exit i => .ok false ⟨h2.n, h2.b.put l (.lock .done (some (.exit i)))⟩)
              | _ => .no))
          | .no => .no)
        | _ => .no))
    | _ => .no)
  | _, _ => .no

/-- Is it a call of yield, of the loop l? -/
noncomputable def yieldOf (l : Nat) (T : Tr Value) (o : Oper) : Option (List Operand) :=
  match o.op with
  | .call c => (match c.callee with
    | .value f => (match evO T f, o.guard with
      | .func (.yield k) ⟨[]⟩ ⟨[]⟩, none => bif Nat.beq k l && okOpnd f && c.args.toList.all okOpnd then some c.args.toList else none
      | _, _ => none)
    | _ => none)
  | _ => none

noncomputable def stepY (cx : Cx) (call : Caller) (Y : List Value → Hp → YR) (l : Nat) (ops : List Oper) (o : Oper) (s : St) : SR :=
  match s with
  | ⟨n, T, D, H⟩ => match yieldOf l T o with
    | some args => (match Y (args.map (evO T)) H with
      | .ok b h => (⟨n, T, D, H⟩ : St).setD o.dst (.bool b) h
      | .no => .no)
    | none => stepOp cx call ops o ⟨n, T, D, H⟩

noncomputable def runY (cx : Cx) (call : Caller) (Y : List Value → Hp → YR) (l : Nat) (ops : List Oper) (os : List Oper) : St → SR :=
  List.rec (motive := fun _ => St → SR) (fun s => .ok s) (fun o _ ih s => match stepY cx call Y l ops o s with | .ok s => ih s | .no => .no) os

/-- The code of an iterator. -/
noncomputable def evY (cx : Cx) (call : Caller) (Y : List Value → Hp → YR) (l : Nat) (fuel : Nat) (c : Code) : St → CR :=
  Code.rec (motive := fun _ => St → CR)
    (fun s => .ok .norm s)
    (fun _ ops draw s => match draw with
      | false => (match runY cx call Y l ops.toList ops.toList s with | .ok s => .ok .norm s | .no => .no)
      | true => (match runDraw cx call ops.toList s with | .ok s => .ok .norm s | .no => .no))
    (fun _ _ ia ib s => match ia s with
      | .ok .norm s => ib s
      | r => r)
    (fun c _ _ ia ib s => match evO s.T c with
      | .bool true => ia s
      | .bool false => ib s
      | _ => .no)
    (fun id _ ia s => match ia s with
      | .ok (.exit i) s => bif Nat.beq i id then .ok .norm s else .ok (.exit i) s
      | r => r)
    (fun _ ia s => loopN ia fuel s)
    (fun _ _ _ _ _ _ _ => .no)
    (fun id s => .ok (.exit id) s)
    (fun _ _ _ => .no)
    (fun _ s => .ok .norm s)
    (fun _ _ => .no)
    (fun s => .ok .ret s)
    (fun _ _ => .no)
    c

noncomputable def enterS (fn : Func) (args : List Value) (h : Hp) : St := ⟨bif Nat.ble fn.ntmps args.length then args.length else fn.ntmps, Tr.ofL args, [], h⟩

/-- The heap at the loop's head: the mark, the record. -/
noncomputable def lockH (H : Hp) : Hp := ⟨Nat.succ (Nat.succ H.n), (H.b.put H.n .mark).put (Nat.succ H.n) (.lock .ready none)⟩

/-- Behind the iterator: the pending jump. -/
noncomputable def endY (n : Nat) (T : Tr Value) (D : List Dfr) (m l : Nat) (H : Hp) : CR :=
  match lockIs l H with
  | some (.ready, none) => .ok .norm ⟨n, T, .mark m :: D, ⟨H.n, H.b.put l (.lock .exhausted none)⟩⟩
  | some (.done, some .ret) => .ok .ret ⟨n, T, .mark m :: D, ⟨H.n, H.b.put l (.lock .exhausted (some .ret))⟩⟩
  | some (.done, some (.exit i)) => .ok (.exit i) ⟨n, T, .mark m :: D, ⟨H.n, H.b.put l (.lock .exhausted (some (.exit i)))⟩⟩
  | _ => .no

noncomputable def evRange (cx : Cx) (call : Caller) (fuel : Nat) (f : Operand) (ps : Array Tmp) (x y : Code) (s : St) : CR :=
  match s with
  | ⟨n, T, D, H⟩ => match okOpnd f, evO T f with
    | true, .func (.func g) first cap => (match cx.ext g, cx.fn g with
      | none, some fn => (match fn.results.toList, fn.body with
        | [], some c => (match evY cx call (roundY ps.toList (evR cx call fuel x) (evR cx call fuel y) n T (Nat.succ H.n)) (Nat.succ H.n) fuel c
            (enterS fn (first.toList ++ (.func (.yield (Nat.succ H.n)) ⟨[]⟩ ⟨[]⟩ :: cap.toList)) (lockH H)) with
          | .ok e s' => (match s' with
            | ⟨_, _, [], H'⟩ => (match e with
              | .exit _ => .no
              | _ => endY n T D H.n (Nat.succ H.n) H')
            | _ => .no)
          | .no => .no)
        | _, _ => .no)
      | _, _ => .no)
    | _, _ => .no

/-! ### Code -/
noncomputable def evCode (cx : Cx) (call callD : Caller) (fuel : Nat) (c : Code) : St → CR :=
  Code.rec (motive := fun _ => St → CR)
    (fun s => .ok .norm s)
    (fun _ ops draw s => match draw with
      | false => (match runOps cx call ops.toList ops.toList s with | .ok s => .ok .norm s | .no => .no)
      | true => (match runDraw cx call ops.toList s with | .ok s => .ok .norm s | .no => .no))
    (fun _ _ ia ib s => match ia s with
      | .ok .norm s => ib s
      | r => r)
    (fun c _ _ ia ib s => match evO s.T c with
      | .bool true => ia s
      | .bool false => ib s
      | _ => .no)
    (fun id _ ia s => match ia s with
      | .ok (.exit i) s => bif Nat.beq i id then .ok .norm s else .ok (.exit i) s
      | r => r)
    (fun _ ia s => loopN ia fuel s)
    (fun f ps x y _ _ s => evRange cx call fuel f ps x y s)
    (fun id s => .ok (.exit id) s)
    (fun _ ia s => ia s)
    (fun _ s => .ok .norm s)
    (fun _ _ => .no)
    (fun s => .ok .ret s)
    (fun _ _ => .no)
    c

noncomputable def evRes (cx : Cx) (T : Tr Value) (h : Hp) : List ResultVar → Option (List Value)
  | [] => some []
  | .tmp t :: r => (match evRes cx T h r with | some l => some ((match T.get t with | some v => v | none => undef) :: l) | none => none)
  | .cell a t :: r => match cx.ti t with
    | some i => (match (match T.get a with | some v => ptrV v | none => none) with
      | some (b, off) => (match (match isAggB i.desc with | true => loadA h i.size b off | false => load1 h b off), evRes cx T h r with
        | some v, some l => some (v :: l)
        | _, _ => none)
      | none => none)
    | none => none

noncomputable def evOut (cx : Cx) (rs : List ResultVar) (T : Tr Value) (h : Hp) : OR :=
  match evRes cx T h rs with
  | some l => (match l with
    | [v] => .ok v h
    | l => .ok (.tuple ⟨l⟩) h)
  | none => .no

/-- Deferred calls, the last one first: what they answer is dropped. -/
noncomputable def runD (callD : Caller) (D : List Dfr) : Hp → Option Hp :=
  List.rec (motive := fun _ => Hp → Option Hp) (fun h => some h) (fun d _ ih h => match d with
    | .call f args => (match callD f args h with | .ok _ h => ih h | .no => none)
    | .mark b => (match h.b.get b with | some .mark => ih ⟨h.n, h.b.del b⟩ | _ => none)) D

noncomputable def evEnd (cx : Cx) (callD : Caller) (rs : List ResultVar) (r : CR) : OR :=
  match r with
  | .ok e s => (match s with
    | ⟨_, T, D, H⟩ => (match e with
      | .exit _ => .no
      | _ => (match runD callD D H with
        | some H => evOut cx rs T H
        | none => .no)))
  | .no => .no
/-- Of a function that defers nothing. -/
noncomputable def evEnd0 (cx : Cx) (rs : List ResultVar) (r : CR) : OR :=
  match r with
  | .ok e s => (match s with
    | ⟨_, T, D, H⟩ => (match D with
      | [] => (match e with
        | .exit _ => .no
        | _ => evOut cx rs T H)
      | _ :: _ => .no))
  | .no => .no


noncomputable def evBody (cx : Cx) (ih ihD : Caller) (n : Nat) (fn : Func) (args : List Value) (h : Hp) : OR :=
  match fn.body with
  | some c => evEnd cx ihD fn.results.toList (evCode cx ih ihD n c (enterS fn args h))
  | none => .no

noncomputable def noCall : Caller := fun _ _ _ => .no

noncomputable def evBody0 (cx : Cx) (ih : Caller) (n : Nat) (fn : Func) (args : List Value) (h : Hp) : OR :=
  match fn.body with
  | some c => evEnd0 cx fn.results.toList (evCode cx ih noCall n c (enterS fn args h))
  | none => .no

/-- A call of a function with a text that is told by nothing else, and that defers nothing itself. -/
noncomputable def evDef (cx : Cx) (ih : Caller) (n : Nat) : Caller := fun f args h =>
  match cx.ext f with
  | some _ => .no
  | none => match cx.fn f with
    | some fn => evBody0 cx ih n fn args h
    | none => .no

noncomputable def evFun (cx : Cx) (n : Nat) : Caller :=
  Nat.rec (motive := fun _ => Caller) (fun _ _ _ => .no) (fun n ih f args h =>
    match cx.ext f with
    | some e => e args h
    | none => match cx.fn f with
      | some fn => evBody cx ih (evDef cx ih n) n fn args h
      | none => .no) n

/-! ### The tables -/
noncomputable def mkTI (P : Program) (t : TypeId) : Option TI :=
  match P.info? t with
  | some i => match P.underlying t, i.zero with
    | some d, some z => bif Nat.beq z.cells.toList.length i.size && z.cells.toList.all (fun x => plainV 4 x && oneB x) && plainV 5 z then some { desc := d, size := i.size, bytes := i.bytes, zero := z.cells.toList, zv := z } else none
    | _, _ => none
  | none => none
noncomputable def leavesL (P : Program) : List Field → Option (List (Nat × TypeDesc))
  | [] => some []
  | f :: fs => match mkTI P f.type with
    | some i => bif keyD i.desc && !(f.name == "_") then (match leavesL P fs with | some l => some ((f.offset, i.desc) :: l) | none => none) else none
    | none => none
/-- The types whose '==' is told: structs of plain fields. -/
noncomputable def mkEq (P : Program) (sts : List TypeId) (t : TypeId) : Option (List (Nat × TypeDesc)) :=
  bif memN t sts then (match P.underlying t with
    | some (.struct fs) => leavesL P fs.toList
    | _ => none) else none
noncomputable def mkCx (P : Program) (sts : List TypeId) (ext : FuncId → Option (List Value → Hp → OR)) : Cx :=
  { ti := mkTI P, fn := fun f => P.funcs.toList[f]?, eqs := mkEq P sts, lies := fun e n off u => liesAt P P.depth e (n / P.cellsOf e) off u 1, one := fun e => Nat.beq (P.cellsOf e) 1, ext }

end Go.EvM
