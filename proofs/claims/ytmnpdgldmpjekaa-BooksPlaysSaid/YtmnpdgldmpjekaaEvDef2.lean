/- The interpreter's control: regions whose order is drawn, code, calls. -/
import Derived.Test.YtmnpdgldmpjekaaEvDef
namespace Go.EvM

/-! ### Equality of values, as far as it is asked -/
def eqAddr : Option Addr → Option Addr → Bool
  | none, none => true
  | some ⟨b, o, none⟩, some ⟨c, p, none⟩ => Nat.beq b c && Nat.beq o p
  | _, _ => false
def eqNO : Option Nat → Option Nat → Bool
  | none, none => true
  | some a, some b => Nat.beq a b
  | _, _ => false
mutual
noncomputable def eqVal : Nat → Value → Value → Bool
  | 0, _, _ => false
  | k + 1, a, b => match a, b with
    | .bool a, .bool b => (match a, b with | true, true => true | false, false => true | _, _ => false)
    | .int k a, .int l b => decide (k = l) && eqI a b
    | .string a, .string b => eqL a.data.toList b.data.toList
    | .pointer a, .pointer b => eqAddr a b
    | .slice a l c, .slice b m d => eqAddr a b && Nat.beq l m && Nat.beq c d
    | .map a, .map b => eqNO a b
    | .func (.func f) a c, .func (.func g) b d => Nat.beq f g && eqVals k a.toList b.toList && eqVals k c.toList d.toList
    | .nilFunc, .nilFunc => true
    | .iface t a, .iface u b => Nat.beq t u && eqVal k a b
    | .nilIface, .nilIface => true
    | .agg a, .agg b => eqVals k a.toList b.toList
    | .tuple a, .tuple b => eqVals k a.toList b.toList
    | _, _ => false
noncomputable def eqVals : Nat → List Value → List Value → Bool
  | 0, _, _ => false
  | k + 1, l, m => match l, m with
    | [], [] => true
    | a :: l, b :: m => eqVal k a b && eqVals k l m
    | _, _ => false
end

noncomputable def eqTr : Nat → Tr Value → Tr Value → Bool
  | 0, _, _ => false
  | _ + 1, .nil, .nil => true
  | k + 1, .nd v a b c d, .nd v' a' b' c' d' =>
    (match v, v' with | none, none => true | some x, some y => eqVal 100 x y | _, _ => false) && eqTr k a a' && eqTr k b b' && eqTr k c c' && eqTr k d d'
  | _ + 1, _, _ => false
noncomputable def eqOb : Ob → Ob → Bool
  | .cells c n z t r, .cells c' n' z' t' r' => eqTr 40 c c' && Nat.beq n n' && Nat.beq z z' && (match t, t' with | true, true => true | false, false => true | _, _ => false) && (match r, r' with | true, true => true | false, false => true | _, _ => false)
  | _, _ => false

/-! ### A region whose order is drawn -/
noncomputable def maskOf (acc : List Nat) (es : List Edge) : Nat :=
  es.foldl (fun s e => bif Region.binds .any e then Nat.lor (Nat.lor s (Nat.shiftLeft 1 e.on)) ((acc[e.on]?).getD 0) else s) 0
/-- For each operation those that stand ahead of it in every order, as a mask. -/
noncomputable def ancs (ops : List Oper) : List Nat := ops.foldl (fun acc o => acc ++ [maskOf acc o.after.toList]) []
def bit (m i : Nat) : Bool := Nat.beq (Nat.land (Nat.shiftRight m i) 1) 1

noncomputable def isM (cx : Cx) (o : Oper) : Bool :=
  match cls cx o with
  | .pure _ => false
  | .look _ => false
  | .make _ => false
  | _ => true

structure It where
  i : Nat
  o : Oper
  lo : Nat
  hi : Nat

noncomputable def numbered (i : Nat) : List Oper → List (Nat × Oper)
  | [] => []
  | o :: l => (i, o) :: numbered (i + 1) l

def tmpsOf (l : List Operand) : List Nat := l.filterMap fun | .tmp t => some t | _ => none
/-- The slots that an operation reads. -/
noncomputable def looks (ops : List Oper) (o : Oper) : List Nat :=
  (match o.guard with
   | some (g, _) => (match ops[g]? with | some p => p.dst.toList | none => [])
   | none => []) ++ tmpsOf o.op.operands.toList
def memN (n : Nat) (l : List Nat) : Bool := l.any (Nat.beq n)
noncomputable def apartB (ops : List Oper) (x y : Oper) : Bool :=
  (match x.dst with
   | some d => !(memN d (looks ops y)) && (match y.dst with | some e => !(Nat.beq d e) | none => true)
   | none => true) &&
  (match y.dst with
   | some e => !(memN e (looks ops x))
   | none => true)

noncomputable def edgesOk (n : Nat) (o : Oper) : Bool := o.after.toList.all fun e => bif Region.binds .any e then Nat.blt e.on n else true
/-- Every two operations: one is ahead of the other in every order, or they have nothing to do with each other. -/
noncomputable def allApart (ops : List Oper) (an : List Nat) (l : List (Nat × Oper)) : Bool :=
  l.all fun p => l.all fun q => bif Nat.blt p.1 q.1 then bit ((an[q.1]?).getD 0) p.1 || apartB ops p.2 q.2 else true
noncomputable def chainFrom (an : List Nat) : Nat → List Nat → Bool
  | _, [] => true
  | m, n :: l => bit ((an[n]?).getD 0) m && chainFrom an n l
noncomputable def chainOk (an : List Nat) : List Nat → Bool
  | [] => true
  | m :: l => chainFrom an m l

structure Plan where
  its : List It
  ms : List (Nat × Oper)

def maskAt (an : List Nat) (i : Nat) : Nat := (an[i]?).getD 0
noncomputable def segL (its : List It) (k : Nat) : List (Nat × Oper) := (its.filter fun it => Nat.beq it.lo k).map fun it => (it.i, it.o)
/-- The order in which the interpreter goes through a region: what does not act as soon as it may be. -/
noncomputable def ordL (its : List It) : Nat → List (Nat × Oper) → List (Nat × Oper)
  | k, [] => segL its k
  | k, m :: ms => segL its k ++ m :: ordL its (k + 1) ms
noncomputable def ordOk (an : List Nat) : List (Nat × Oper) → Nat → Nat → Bool
  | [], acc, all => Nat.beq acc all
  | p :: l, acc, all => Nat.beq (Nat.land (maskAt an p.1) acc) (maskAt an p.1) && !(bit acc p.1) && ordOk an l (Nat.lor acc (Nat.shiftLeft 1 p.1)) all
noncomputable def itOk (an : List Nat) (ms : List Nat) (it : It) : Bool :=
  (match it.lo with
   | 0 => true
   | n + 1 => (match ms[n]? with | some m => bit (maskAt an it.i) m | none => false)) &&
  (match ms[it.hi]? with
   | some m => bit (maskAt an m) it.i
   | none => true)
noncomputable def mkPlan (cx : Cx) (an : List Nat) (nb : List (Nat × Oper)) : Plan :=
  let ms := nb.filter fun p => isM cx p.2
  ⟨(nb.filter fun p => !(isM cx p.2)).map fun p => ⟨p.1, p.2, (ms.filter fun m => bit (maskAt an p.1) m.1).length, (ms.filter fun m => !(bit (maskAt an m.1) p.1)).length⟩, ms⟩
noncomputable def planOk (ops : List Oper) (an : List Nat) (nb : List (Nat × Oper)) (p : Plan) : Bool :=
  (nb.all fun q => edgesOk q.1 q.2 && Nat.beq (maskOf an q.2.after.toList) (maskAt an q.1)) && chainOk an (p.ms.map (·.1)) && allApart ops an nb &&
    p.its.all (itOk an (p.ms.map (·.1))) && ordOk an (ordL p.its 0 p.ms) 0 (Nat.pred (Nat.shiftLeft 1 ops.length))
noncomputable def planOf (cx : Cx) (ops : List Oper) : Option Plan :=
  bif planOk ops (ancs ops) (numbered 0 ops) (mkPlan cx (ancs ops) (numbered 0 ops)) then some (mkPlan cx (ancs ops) (numbered 0 ops)) else none

inductive Fl where
  | look (f : Env → Hp → Option Value) (T : Tr Value) (v : Value) (hi : Nat)
  | make (b : Nat) (ob : Ob) (hi : Nat)

noncomputable def flOk (k : Nat) (h : Hp) : Fl → Bool
  | .look f T v hi => bif Nat.ble k hi then (match f (evO T) h with | some u => eqVal 100 v u | none => false) else true
  | .make b ob hi => bif Nat.ble k hi then (match h.b.get b with | some o => eqOb ob o | none => false) else true

/-- One operation that does not act: it is carried out, and what must hold of it later is noted. -/
noncomputable def drawIt (cx : Cx) (ops : List Oper) (it : It) (s : St) (fl : List Fl) : Option (St × List Fl) :=
  bif wantT s.T ops it.o.guard then
    match cls cx it.o with
    | .pure f => (match f (evO s.T) with
      | some v => (match s.setD it.o.dst v s.H with | .ok s' => some (s', fl) | .no => none)
      | none => none)
    | .look f => (match f (evO s.T) s.H with
      | some v => (match s.setD it.o.dst v s.H with | .ok s' => some (s', .look f s.T v it.hi :: fl) | .no => none)
      | none => none)
    | .make f => (match f (evO s.T) with
      | some m => (match s.setD it.o.dst (m.val s.H.n) ⟨Nat.succ s.H.n, s.H.b.put s.H.n m.ob⟩ with | .ok s' => some (s', .make s.H.n m.ob it.hi :: fl) | .no => none)
      | none => none)
    | _ => none
  else match s.setD it.o.dst undef s.H with | .ok s' => some (s', fl) | .no => none

noncomputable def drawIts (cx : Cx) (ops : List Oper) (k : Nat) : List It → St → List Fl → Option (St × List Fl)
  | [], s, fl => some (s, fl)
  | it :: l, s, fl => bif Nat.beq it.lo k then (match drawIt cx ops it s fl with | some (s, fl) => drawIts cx ops k l s fl | none => none) else drawIts cx ops k l s fl

noncomputable def drawSegs (cx : Cx) (call : Caller) (ops : List Oper) (its : List It) : Nat → List (Nat × Oper) → St → List Fl → SR
  | k, ms, s, fl => match drawIts cx ops k its s fl with
    | some (s, fl) => bif fl.all (flOk k s.H) then (match ms with
      | [] => .ok s
      | m :: ms => match stepOp cx call ops m.2 s with
        | .ok s' => bif Nat.ble s.H.n s'.H.n then drawSegs cx call ops its (k + 1) ms s' fl else .no
        | .no => .no) else .no
    | none => .no
  termination_by structural _ ms => ms

noncomputable def runDraw (cx : Cx) (call : Caller) (ops : List Oper) (s : St) : SR :=
  match planOf cx ops with
  | some p => drawSegs cx call ops p.its 0 p.ms s []
  | none => .no

/-! ### Code -/
noncomputable def evCode (cx : Cx) (call : Caller) (fuel : Nat) (c : Code) : St → CR :=
  Code.rec (motive := fun _ => St → CR)
    (fun s => .ok .norm s)
    (fun _ ops draw s => match draw with
      | false => (match runOps cx call ops.toList ops.toList s with | .ok s => .ok .norm s | .no => .no)
      | true => (match runDraw cx call ops.toList s with | .ok s => .ok .norm s | .no => .no))
    (fun _ _ ia ib s => match ia s with
      | .ok .norm s => ib s
      | r => r)
    (fun c _ _ ia ib s => match evO s.T c with
      | .bool true => ia s
      | .bool false => ib s
      | _ => .no)
    (fun id _ ia s => match ia s with
      | .ok (.exit i) s => bif Nat.beq i id then .ok .norm s else .ok (.exit i) s
      | r => r)
    (fun _ ia s => loopN ia fuel s)
    (fun _ _ _ _ _ _ _ => .no)
    (fun id s => .ok (.exit id) s)
    (fun _ ia s => ia s)
    (fun _ s => .ok .norm s)
    (fun _ _ => .no)
    (fun s => .ok .ret s)
    (fun _ _ => .no)
    c

noncomputable def evRes (cx : Cx) (T : Tr Value) (h : Hp) : List ResultVar → Option (List Value)
  | [] => some []
  | .tmp t :: r => (match evRes cx T h r with | some l => some ((match T.get t with | some v => v | none => undef) :: l) | none => none)
  | .cell a t :: r => match cx.ti t with
    | some i => (match (match T.get a with | some v => ptrV v | none => none) with
      | some (b, off) => (match (match isAggB i.desc with | true => loadA h i.size b off | false => load1 h b off), evRes cx T h r with
        | some v, some l => some (v :: l)
        | _, _ => none)
      | none => none)
    | none => none

noncomputable def evOut (cx : Cx) (rs : List ResultVar) (T : Tr Value) (h : Hp) : OR :=
  match evRes cx T h rs with
  | some l => (match l with
    | [v] => .ok v h
    | l => .ok (.tuple ⟨l⟩) h)
  | none => .no

noncomputable def evEnd (cx : Cx) (rs : List ResultVar) (r : CR) : OR :=
  match r with
  | .ok e s => (match s with
    | ⟨_, T, D, H⟩ => match D with
      | [] => (match e with
        | .exit _ => .no
        | _ => evOut cx rs T H)
      | _ :: _ => .no)
  | .no => .no

noncomputable def evBody (cx : Cx) (ih : Caller) (n : Nat) (fn : Func) (args : List Value) (h : Hp) : OR :=
  match fn.body with
  | some c => evEnd cx fn.results.toList (evCode cx ih n c ⟨bif Nat.ble fn.ntmps args.length then args.length else fn.ntmps, Tr.ofL args, [], h⟩)
  | none => .no

noncomputable def evFun (cx : Cx) (n : Nat) : Caller :=
  Nat.rec (motive := fun _ => Caller) (fun _ _ _ => .no) (fun n ih f args h =>
    match cx.ext f with
    | some e => e args h
    | none => match cx.fn f with
      | some fn => evBody cx ih n fn args h
      | none => .no) n

/-! ### The tables -/
noncomputable def mkTI (P : Program) (t : TypeId) : Option TI :=
  match P.info? t with
  | some i => match P.underlying t, i.zero with
    | some d, some z => bif Nat.beq z.cells.toList.length i.size && z.cells.toList.all (fun x => plainV 4 x && oneB x) && plainV 5 z then some { desc := d, size := i.size, bytes := i.bytes, zero := z.cells.toList, zv := z } else none
    | _, _ => none
  | none => none
noncomputable def mkCx (P : Program) (ext : FuncId → Option (List Value → Hp → OR)) : Cx :=
  { ti := mkTI P, fn := fun f => P.funcs.toList[f]?, ext }

end Go.EvM
