/- Pv.Def: the interpreter once more, over values that hold their data: a slice that is written no more is a list. -/
import Derived.Test.YtodccifahbgogaaFeA
set_option linter.unusedVariables false
set_option linter.unusedSectionVars false
set_option linter.unusedSimpArgs false
namespace Go.Pv
open Go Go.EvM
set_option linter.unusedVariables false
def okA : Option Addr → Bool
  | none => true
  | some ⟨_, _, none⟩ => true
  | _ => false
def f0 : Value → Bool
  | .bool _ | .int _ _ | .string _ | .nilFunc | .map _ | .chan _ | .nilIface => true
  | .pointer a => okA a
  | .slice a _ _ => okA a
  | _ => false
def f1 (v : Value) : Bool := f0 v || match v with | .func (.func _) a c => Nat.ble a.toList.length 8 && a.toList.all f0 && Nat.ble c.toList.length 8 && c.toList.all f0 | _ => false
def f2 (v : Value) : Bool := f1 v || match v with | .agg l => Nat.ble l.toList.length 40 && l.toList.all f1 | _ => false
def f3 (v : Value) : Bool := f2 v || match v with | .tuple l => Nat.ble l.toList.length 8 && l.toList.all f2 | _ => false
def okP (x : Operand) : Bool := okOpnd x && match x with | .const v => f2 v | .global _ => false | _ => true
inductive PV (S : Nat → Type) where
  | und
  | bool (b : Bool)
  | int (k : IntKind) (n : Int)
  | str (l : List UInt8)
  | nilp
  | ptr (o off : Nat)
  | fad (c : Nat) (x : S c) (off : Nat)
  | nils
  | sl (c : Nat) (l : List (S c))
  | loc (a : Nat)
  | elt (a i off : Nat)
  | st (c : Nat) (x : S c)
  | agg (l : List (PV S))
  | tup (l : List (PV S))
  | fn (f : FuncId) (a c : List (PV S))
  | nilf
inductive Like {S : Nat → Type} : PV S → PV S → Prop
  | same (p : PV S) : Like p p
  | nil (c : Nat) : Like .nils (.sl c [])
inductive Likes {S : Nat → Type} : List (PV S) → List (PV S) → Prop
  | nil : Likes [] []
  | cons {p q : PV S} {l m : List (PV S)} : Like p q → Likes l m → Likes (p :: l) (q :: m)
def isData {S : Nat → Type} : PV S → Bool
  | .bool _ | .int _ _ | .str _ | .nilp | .nils | .sl _ _ | .nilf => true
  | _ => false
class Dat where
  S : Nat → Type
  sz : Nat → Nat
  dflt : (c : Nat) → S c
  fld : (c : Nat) → S c → List (PV S)
  mkD : (c : Nat) → List (PV S) → Option (S c)
  code : TypeId → Option Nat
  len : ∀ c x, (fld c x).length = sz c
  data : ∀ c x, (fld c x).all isData = true
  pos : ∀ c, 0 < sz c
  mkOk : ∀ c l x, mkD c l = some x → Likes l (fld c x)
  byte : Nat
  byteI : S byte → Int
  ofByte : Int → S byte
  byteF : ∀ x, fld byte x = [.int .u8 (byteI x)]
  byteO : ∀ n, byteI (ofByte n) = n
variable [Dat]
abbrev V := PV Dat.S
inductive PObj where
  | cells (l : List V)
  | arr (c : Nat) (l : List (Dat.S c))
  | frz (c : Nat) (l : List (Dat.S c))
  | dead
abbrev PEnv := Nat → V
inductive TK where
  | int (k : IntKind)
  | str
  | bool
  | sl (e : TypeId)
  | strc (fs : List (Nat × Nat × Bool))
  | oth
structure TB where
  kind : TK
  size : Nat
  bytes : Nat
  agg : Bool
  zero : List V
inductive PR where
  | no
  | ok (c : Bool) (v : V) (os : List PObj) (t : List Nat)
noncomputable def ofVal : Nat → Value → V
  | 0, _ => .und
  | k + 1, v => match v with
    | .bool b => .bool b
    | .int k n => .int k n
    | .string s => .str s.data.toList
    | .pointer none => .nilp
    | .slice none 0 0 => .nils
    | .nilFunc => .nilf
    | .agg cs => .agg (cs.toList.map (ofVal k))
    | _ => .und
noncomputable def evP (e : PEnv) : Operand → V
  | .tmp t => e t
  | .const v => ofVal 4 v
  | .func f => .fn f [] []
  | .global _ => .und
def upd (e : PEnv) (d : Nat) (v : V) : PEnv := fun t => bif Nat.beq t d then v else e t
noncomputable def cellsP : V → Option (List V)
  | .agg l => some l
  | .st c x => some (Dat.fld c x)
  | .tup _ => none
  | .und => none
  | v => some [v]
noncomputable def frz1 (os : List PObj) (v : V) : V × List PObj :=
  match v with
  | .loc a => (match nth os a with
    | some (.arr c l) => (.sl c l, os.set a (.frz c l))
    | some (.frz c l) => (.sl c l, os)
    | _ => (.und, os))
  | v => (v, os)
noncomputable def frzL : List V → List PObj → List V × List PObj
  | [], os => ([], os)
  | v :: l, os => match frz1 os v with
    | (v', os') => match frzL l os' with
      | (l', os'') => (v' :: l', os'')
noncomputable def frzV (os : List PObj) (v : V) : V × List PObj :=
  match v with
  | .agg l => (match frzL l os with | (l', os') => (.agg l', os'))
  | .tup l => (match frzL l os with | (l', os') => (.tup l', os'))
  | v => frz1 os v
noncomputable def frzVL : List V → List PObj → List V × List PObj
  | [], os => ([], os)
  | v :: l, os => match frzV os v with
    | (v', os') => match frzVL l os' with
      | (l', os'') => (v' :: l', os'')
noncomputable def mkE (c : Nat) (v : V) : Option (Dat.S c) :=
  match v with
  | .st d x => if h : d = c then some (h ▸ x) else Dat.mkD c (Dat.fld d x)
  | v => (match cellsP v with | some l => Dat.mkD c l | none => none)
noncomputable def getD {α : Type} (d : α) (l : List α) (n : Nat) : α := match nth l n with | some x => x | none => d
def inB (n : Int) (len : Nat) : Bool := match n with | .ofNat j => Nat.blt j len | .negSucc _ => false
def iNat (n : Int) : Nat := match n with | .ofNat j => j | .negSucc _ => 0
noncomputable def partP (agg : Bool) (off size : Nat) (l : List V) : Option V :=
  match agg with
  | true => bif Nat.ble (Nat.add off size) l.length then some (.agg ((l.drop off).take size)) else none
  | false => nth l off
noncomputable def loadE (agg : Bool) (size c : Nat) (x : Dat.S c) (off : Nat) : Option V :=
  match agg with
  | true => bif Nat.beq off 0 && Nat.beq size (Dat.sz c) then some (.st c x) else partP true off size (Dat.fld c x)
  | false => nth (Dat.fld c x) off
noncomputable def loadP (os : List PObj) (agg : Bool) (size : Nat) (a : V) : Option V :=
  match a with
  | .ptr o off => (match nth os o with | some (.cells l) => partP agg off size l | _ => none)
  | .fad c x off => loadE agg size c x off
  | .elt a i off => (match nth os a with
    | some (.arr c l) => loadE agg size c (getD (Dat.dflt c) l i) off
    | some (.frz c l) => loadE agg size c (getD (Dat.dflt c) l i) off
    | _ => none)
  | _ => none
def splice {α : Type} (l : List α) (off : Nat) (cs : List α) : List α := l.take off ++ (cs ++ l.drop (Nat.add off cs.length))
noncomputable def storeP (os : List PObj) (size : Nat) (a v : V) : PR :=
  match a with
  | .ptr o off => (match nth os o, cellsP v with
    | some (.cells l), some cs => bif Nat.beq cs.length size && Nat.ble (Nat.add off size) l.length then .ok true .und (os.set o (.cells (splice l off cs))) [o] else .no
    | _, _ => .no)
  | .elt a i off => (match frzV os v with
    | (v', os') => (match nth os' a with
      | some (.arr c l) => (match Nat.beq off 0 && Nat.beq size (Dat.sz c) with
        | true => (match mkE c v' with
          | some y => .ok true .und (os'.set a (.arr c (l.set i y))) [a]
          | none => .no)
        | false => (match cellsP v' with
          | some cs => bif Nat.beq cs.length size && Nat.ble (Nat.add off size) (Dat.sz c) then (match Dat.mkD c (splice (Dat.fld c (getD (Dat.dflt c) l i)) off cs) with
            | some y => .ok true .und (os'.set a (.arr c (l.set i y))) [a]
            | none => .no) else .no
          | none => .no))
      | _ => .no))
  | _ => .no
noncomputable def fillP (fs : List (Nat × Nat × Bool)) : List V → List (Nat × V) → Option (List V)
  | z, [] => some z
  | z, (j, v) :: l => match nth fs j, cellsP v with
    | some (off, size, _), some cs => bif Nat.beq cs.length size && Nat.ble (Nat.add off size) z.length then fillP fs (splice z off cs) l else none
    | _, _ => none
noncomputable def elsP (c : Nat) : Nat → List PObj → List (Nat × V) → Option (List (Dat.S c) × List PObj)
  | _, os, [] => some ([], os)
  | n, os, (j, v) :: l => bif Nat.beq j n then (match frzV os v with
    | (v', os') => (match mkE c v' with
      | some x => (match elsP c (Nat.succ n) os' l with
        | some (xs, os'') => some (x :: xs, os'')
        | none => none)
      | none => none)) else none
noncomputable def partsP (e : PEnv) (ps : List (Nat × Operand)) : List (Nat × V) := ps.map fun p => (p.1, evP e p.2)
noncomputable def listOf (c : Nat) (os : List PObj) (v : V) : Option (List (Dat.S c)) :=
  match v with
  | .sl d l => if h : d = c then some (h ▸ l) else none
  | .loc a => (match nth os a with
    | some (.arr d l) => if h : d = c then some (h ▸ l) else none
    | some (.frz d l) => if h : d = c then some (h ▸ l) else none
    | _ => none)
  | .nils => some []
  | _ => none
def okAp (bytes n : Nat) : Bool := Nat.ble (Nat.mul n bytes) 1099511627776 && Nat.ble n 1099511627776
noncomputable def appP (os : List PObj) (c bytes : Nat) (s x : V) : PR :=
  match listOf c os x with
  | some new => (match s with
    | .nils => .ok (okAp bytes new.length) (.loc os.length) (os ++ [.arr c new]) []
    | .loc a => (match nth os a with
      | some (.arr d l) => if h : d = c then .ok (okAp bytes (Nat.add l.length new.length)) (.loc os.length) (os.set a .dead ++ [.arr c ((h ▸ l : List (Dat.S c)) ++ new)]) [a] else .no
      | _ => .no)
    | _ => .no)
  | none => .no
noncomputable def lenP (os : List PObj) (v : V) : Option Nat :=
  match v with
  | .sl _ l => some l.length
  | .nils => some 0
  | .loc a => (match nth os a with
    | some (.arr _ l) => some l.length
    | some (.frz _ l) => some l.length
    | _ => none)
  | _ => none
noncomputable def binI (op : BinOp) (k : IntKind) (a b : Int) : Option (Bool × V) :=
  match op with
  | .quo => some (!(eqI b (.ofNat 0)), .int k (wr k (Int.tdiv a b)))
  | .rem => some (!(eqI b (.ofNat 0)), .int k (Int.tmod a b))
  | op => (match intBin op k a b with
    | some (.int k n) => some (true, .int k n)
    | some (.bool b) => some (true, .bool b)
    | _ => none)
noncomputable def binP (op : BinOp) (x y : V) : Option (Bool × V) :=
  match x, y with
  | .int k a, .int k' b => (match op with
    | .shl => some (leI (.ofNat 0) b, .int k (wr k (Int.mul a (.ofNat (Nat.pow 2 (Nat.min (iNat b) k.bits))))))
    | .shr => some (leI (.ofNat 0) b, .int k (Int.fdiv a (.ofNat (Nat.pow 2 (Nat.min (iNat b) k.bits)))))
    | op => bif decide (k = k') then binI op k a b else none)
  | .str a, .str b => (match op with
    | .add => some (Nat.blt (Nat.add a.length b.length) lim63, .str (a ++ b))
    | .lss => some (true, .bool (ltL a b))
    | .leq => some (true, .bool (!(ltL b a)))
    | .gtr => some (true, .bool (ltL b a))
    | .geq => some (true, .bool (!(ltL a b)))
    | _ => none)
  | _, _ => none
noncomputable def eqIP (op : BinOp) (x y : V) : Option (Bool × V) :=
  match x, y with
  | .int k a, .int k' b => bif decide (k = k') then binI op k a b else none
  | _, _ => none
noncomputable def eqSP (op : BinOp) (x y : V) : Option (Bool × V) :=
  match x, y with
  | .str a, .str b => (match op with
    | .eql => some (true, .bool (eqL a b))
    | .neq => some (true, .bool (!(eqL a b)))
    | _ => none)
  | _, _ => none
noncomputable def eqBP (ne : Bool) (x y : V) : Option (Bool × V) :=
  match x, y with
  | .bool a, .bool b => some (true, .bool (turn ne (match a with | true => b | false => !b)))
  | _, _ => none
noncomputable def eqNP (ne : Bool) (x y : V) : Option (Bool × V) :=
  match x, y with
  | .nils, .nils => some (true, .bool (turn ne true))
  | .sl _ (_ :: _), .nils => some (true, .bool (turn ne false))
  | _, _ => none
noncomputable def unP (op : UnOp) (x : V) : Option V :=
  match op, x with
  | .not, .bool b => some (.bool (!b))
  | .neg, .int k n => some (.int k (wr k (Int.sub (.ofNat 0) n)))
  | .xor, .int k n => (match intBin .xor k (if k.signed then -1 else k.max) n with | some (.int k n) => some (.int k n) | _ => none)
  | _, _ => none
noncomputable def cutP (len : Nat) (lo hi : Option V) : Option (Bool × Nat × Nat) :=
  match lo, hi with
  | none, none => some (true, 0, len)
  | some (.int _ a), none => some (leI (.ofNat 0) a && Nat.ble (iNat a) len, iNat a, len)
  | none, some (.int _ b) => some (leI (.ofNat 0) b && Nat.ble (iNat b) len, 0, iNat b)
  | some (.int _ a), some (.int _ b) => some (leI (.ofNat 0) a && (leI (.ofNat 0) b && (Nat.ble (iNat a) (iNat b) && Nat.ble (iNat b) len)), iNat a, iNat b)
  | _, _ => none
def cutL {α : Type} (l : List α) (a b : Nat) : List α := (l.drop a).take (Nat.sub b a)
variable (tb : TypeId → Option TB)
noncomputable def pIndexAddr (os : List PObj) (t : TypeId) (x i : V) : PR :=
  match tb t with
  | some b => (match b.kind, i with
    | .sl e, .int _ n => (match tb e with
      | some eb => (match x with
        | .sl c l => bif Nat.beq (Dat.sz c) eb.size then .ok (inB n l.length) (.fad c (getD (Dat.dflt c) l (iNat n)) 0) os [] else .no
        | .loc a => (match nth os a with
          | some (.arr c l) => bif Nat.beq (Dat.sz c) eb.size then .ok (inB n l.length) (.elt a (iNat n) 0) os [] else .no
          | some (.frz c l) => bif Nat.beq (Dat.sz c) eb.size then .ok (inB n l.length) (.elt a (iNat n) 0) os [] else .no
          | _ => .no)
        | _ => .no)
      | none => .no)
    | _, _ => .no)
  | none => .no
noncomputable def pFieldAddr (t : TypeId) (x : V) (f : Nat) : Option V :=
  match tb t with
  | some b => (match b.kind with
    | .strc fs => (match nth fs f with
      | some (off, size, _) => bif Nat.beq size 0 then none else (match x with
        | .ptr o p => some (.ptr o (Nat.add p off))
        | .fad c y p => some (.fad c y (Nat.add p off))
        | .elt a i p => some (.elt a i (Nat.add p off))
        | _ => none)
      | none => none)
    | _ => none)
  | none => none
noncomputable def pField (t : TypeId) (x : V) (f : Nat) : Option V :=
  match tb t with
  | some b => (match b.kind with
    | .strc fs => (match nth fs f with
      | some (off, size, agg) => (match x with
        | .agg l => partP agg off size l
        | .st c y => partP agg off size (Dat.fld c y)
        | _ => none)
      | none => none)
    | _ => none)
  | none => none
noncomputable def pSlice (os : List PObj) (t : TypeId) (x : V) (lo hi : Option V) : PR :=
  match tb t with
  | some b => (match b.kind with
    | .str => (match x with
      | .str l => (match cutP l.length lo hi with | some (c, a, b) => .ok c (.str (cutL l a b)) os [] | none => .no)
      | _ => .no)
    | .sl e => (match tb e with
      | some eb => (match frz1 os x with
        | (.sl c l, os') => bif Nat.beq (Dat.sz c) eb.size then (match cutP l.length lo hi with | some (q, a, b) => .ok q (.sl c (cutL l a b)) os' [] | none => .no) else .no
        | _ => .no)
      | none => .no)
    | _ => .no)
  | none => .no
noncomputable def strOf (l : List (Dat.S Dat.byte)) : List UInt8 := l.map fun n => UInt8.ofNat (Dat.byteI n).toNat
noncomputable def bytesP (l : List UInt8) : List (Dat.S Dat.byte) := l.map fun b => Dat.ofByte (.ofNat b.toNat)
noncomputable def pConv (os : List PObj) (src dst : TypeId) (x : V) : PR :=
  match tb src, tb dst with
  | some s, some d => (match s.kind, d.kind with
    | .int _, .int k => (match x with | .int _ n => .ok true (.int k (wr k n)) os [] | _ => .no)
    | .str, .str => (match x with | .str l => .ok true (.str l) os [] | _ => .no)
    | .sl e, .str => (match tb e with
      | some eb => (match eb.kind with
        | .int .u8 => (match listOf Dat.byte os x with | some l => .ok true (.str (strOf l)) os [] | none => .no)
        | _ => .no)
      | none => .no)
    | .str, .sl e => (match tb e with
      | some eb => (match eb.kind, x with
        | .int .u8, .str l => .ok (Nat.ble l.length 1000000000000) (.loc os.length) (os ++ [.arr Dat.byte (bytesP l)]) []
        | _, _ => .no)
      | none => .no)
    | _, _ => .no)
  | _, _ => .no
noncomputable def pureP (os : List PObj) (o : Option V) : PR := match o with | some v => .ok true v os [] | none => .no
noncomputable def condP (os : List PObj) (o : Option (Bool × V)) : PR := match o with | some (c, v) => .ok c v os [] | none => .no
noncomputable def pBuiltin (os : List PObj) (b : Builtin) (args : List V) (ts : List TypeId) : PR :=
  match b with
  | .len => (match args, ts with
    | [x], [t] => (match tb t with
      | some b => (match b.kind with
        | .str => (match x with | .str l => .ok true (.int .i64 (.ofNat l.length)) os [] | _ => .no)
        | .sl _ => (match lenP os x with | some n => .ok true (.int .i64 (.ofNat n)) os [] | none => .no)
        | _ => .no)
      | none => .no)
    | _, _ => .no)
  | .append => (match args, ts with
    | [s, x], [t, u] => (match tb t, tb u with
      | some b, some ub => (match b.kind, ub.kind with
        | .sl e, .sl _ => (match tb e, Dat.code e with
          | some eb, some c => bif Nat.beq (Dat.sz c) eb.size then appP os c eb.bytes s x else .no
          | _, _ => .no)
        | _, _ => .no)
      | _, _ => .no)
    | _, _ => .no)
  | .min => (match args with
    | [.int k a, .int k' b] => bif decide (k = k') then .ok true (.int k (bif ltI b a then b else a)) os [] else .no
    | _ => .no)
  | .max => (match args with
    | [.int k a, .int k' b] => bif decide (k = k') then .ok true (.int k (bif ltI a b then b else a)) os [] else .no
    | _ => .no)
  | _ => .no
noncomputable def pop (os : List PObj) (e : PEnv) (o : Op) : PR :=
  match o with
  | .move x => .ok true (evP e x) os []
  | .assign x => .ok true (evP e x) os []
  | .alloc t => (match tb t with | some b => .ok true (.ptr os.length 0) (os ++ [.cells b.zero]) [] | none => .no)
  | .box _ x => (match cellsP (evP e x) with | some cs => .ok true (.ptr os.length 0) (os ++ [.cells cs]) [] | none => .no)
  | .build t ps => (match tb t with
    | some b => (match b.kind with
      | .strc fs => (match fillP fs b.zero (partsP e ps.toList) with | some l => .ok true (.agg l) os [] | none => .no)
      | _ => .no)
    | none => .no)
  | .buildSlice t n ps => (match tb t with
    | some b => (match b.kind with
      | .sl el => (match tb el, Dat.code el with
        | some eb, some c => bif Nat.beq (Dat.sz c) eb.size && (Nat.beq n ps.toList.length && Nat.ble (Nat.mul n eb.size) 16777216) then (match elsP c 0 os (partsP e ps.toList) with
          | some (xs, os') => .ok true (.loc os'.length) (os' ++ [.arr c xs]) []
          | none => .no) else .no
        | _, _ => .no)
      | _ => .no)
    | none => .no)
  | .load t a => (match tb t with | some b => pureP os (loadP os b.agg b.size (evP e a)) | none => .no)
  | .store t a x => (match tb t with | some b => storeP os b.size (evP e a) (evP e x) | none => .no)
  | .nilCheck x => pureP os (match evP e x with | .ptr o p => some (.ptr o p) | .fad c y p => some (.fad c y p) | .elt a i p => some (.elt a i p) | _ => none)
  | .binOp op t x y _ => (match op with
    | .eql => (match tb t with
      | some b => (match b.kind with
        | .int _ => condP os (eqIP .eql (evP e x) (evP e y))
        | .str => condP os (eqSP .eql (evP e x) (evP e y))
        | .bool => condP os (eqBP false (evP e x) (evP e y))
        | .sl _ => condP os (eqNP false (evP e x) (evP e y))
        | _ => .no)
      | none => .no)
    | .neq => (match tb t with
      | some b => (match b.kind with
        | .int _ => condP os (eqIP .neq (evP e x) (evP e y))
        | .str => condP os (eqSP .neq (evP e x) (evP e y))
        | .bool => condP os (eqBP true (evP e x) (evP e y))
        | .sl _ => condP os (eqNP true (evP e x) (evP e y))
        | _ => .no)
      | none => .no)
    | op => condP os (binP op (evP e x) (evP e y)))
  | .unOp op _ x => pureP os (unP op (evP e x))
  | .convert s d x => pConv tb os s d (evP e x)
  | .makeSlice t l c => (match tb t with
    | some b => (match b.kind with
      | .sl el => (match tb el, Dat.code el with
        | some eb, some k => bif Nat.beq (Dat.sz k) eb.size then (match evP e l, evP e c, Dat.mkD k eb.zero with
          | .int _ m, .int _ n, some z => .ok (leI (.ofNat 0) m && (leI (.ofNat 0) n && (Nat.ble (iNat m) (iNat n) && (Nat.ble (iNat n) 1073741824 && Nat.ble (Nat.mul (iNat n) eb.bytes) 1099511627776)))) (.loc os.length) (os ++ [.arr k (List.replicate (iNat m) z)]) []
          | _, _, _ => .no) else .no
        | _, _ => .no)
      | _ => .no)
    | none => .no)
  | .slice t x lo hi none => pSlice tb os t (evP e x) (lo.map (evP e)) (hi.map (evP e))
  | .fieldAddr t x f => pureP os (pFieldAddr tb t (evP e x) f)
  | .field t x f => pureP os (pField tb t (evP e x) f)
  | .indexAddr t x i => pIndexAddr tb os t (evP e x) (evP e i)
  | .index t x i => (match tb t with
    | some b => (match b.kind, evP e x, evP e i with
      | .str, .str l, .int _ n => .ok (inB n l.length) (.int .u8 (.ofNat (getD 0 l (iNat n)).toNat)) os []
      | _, _, _ => .no)
    | none => .no)
  | .extract x i => pureP os (match evP e x with | .tup l => nth l i | _ => none)
  | .call c => (match c.callee with
    | .builtin b => pBuiltin tb os b (c.args.toList.map (evP e)) c.argTypes.toList
    | _ => .no)
  | _ => .no
def andI (k : IntKind) (x y : Int) : Int := k.wrap (BitVec.ofInt k.bits x &&& BitVec.ofInt k.bits y).toNat
def orI (k : IntKind) (x y : Int) : Int := k.wrap (BitVec.ofInt k.bits x ||| BitVec.ofInt k.bits y).toNat
def xorI (k : IntKind) (x y : Int) : Int := k.wrap (BitVec.ofInt k.bits x ^^^ BitVec.ofInt k.bits y).toNat
def andNotI (k : IntKind) (x y : Int) : Int := k.wrap (BitVec.ofInt k.bits x &&& ~~~BitVec.ofInt k.bits y).toNat
def shlI (k : IntKind) (a b : Int) : Int := wr k (Int.mul a (.ofNat (Nat.pow 2 (Nat.min (iNat b) k.bits))))
def shrI (k : IntKind) (a b : Int) : Int := Int.fdiv a (.ofNat (Nat.pow 2 (Nat.min (iNat b) k.bits)))
def notI (k : IntKind) (n : Int) : Int := xorI k (if k.signed then -1 else k.max) n
noncomputable def byteAt (l : List UInt8) (i : Int) : Int := .ofNat (getD 0 l (iNat i)).toNat
def catOk (a b : List UInt8) : Bool := Nat.blt (Nat.add a.length b.length) lim63
def eqB (a b : Bool) : Bool := match a with | true => b | false => !b
def okMake (m n : Int) (bytes : Nat) : Bool := leI (.ofNat 0) m && (leI (.ofNat 0) n && (Nat.ble (iNat m) (iNat n) && (Nat.ble (iNat n) 1073741824 && Nat.ble (Nat.mul (iNat n) bytes) 1099511627776)))
def strOf' (l : List Int) : List UInt8 := l.map fun n => UInt8.ofNat n.toNat
def bytesP' (l : List UInt8) : List Int := l.map fun b => .ofNat b.toNat
structure PSt where
  env : PEnv
  os : List PObj
variable (R : Type)
abbrev K := PSt → Option R
abbrev KT := PSt → List Nat → Option R
abbrev PSem := List V → List PObj → (V → List PObj → Option R) → Option R
inductive Shp where
  | any
  | sl (c : Nat)
  | arr (c : Nat)
  | cells (l : List (Nat × Nat))
  | fcells (l : List (Nat × Nat))
abbrev Slot := Nat × Shp
structure LoopH where
  ls : List Slot
  lo : List Slot
  lr : List Slot
  run : List V → List PObj → (Nat → List V → List PObj → Option R) → (List V → List PObj → Option R) → Option R
def mkEnv : List Slot → List V → PEnv
  | t :: l, v :: m => upd (mkEnv l m) t.1 v
  | _, _ => fun _ => .und
variable {R}
noncomputable def choose (e : PEnv) (c : Operand) (k : Bool → PEnv → Option R) : Option R :=
  match evP e c with
  | .bool b => (match c with
    | .tmp t => bif b then k true (upd e t (.bool true)) else k false (upd e t (.bool false))
    | _ => bif b then k true e else k false e)
  | _ => none
def putD (e : PEnv) (d : Option Tmp) (v : V) : PEnv := match d with | some d => upd e d v | none => e
variable (G : FuncId → PSem R)
noncomputable def frzO (os : List PObj) (o : Nat) : List PObj :=
  match nth os o with
  | some (.cells l) => (match frzL l os with | (l', os') => os'.set o (.cells l'))
  | _ => os
noncomputable def frzA : List V → List PObj → List PObj
  | [], os => os
  | .ptr o _ :: l, os => frzA l (frzO os o)
  | _ :: l, os => frzA l os
noncomputable def ptrsOf : List V → List Nat
  | [] => []
  | .ptr o _ :: l => o :: ptrsOf l
  | _ :: l => ptrsOf l
noncomputable def dstOk (n : Nat) (d : Option Tmp) : Bool := match d with | some d => Nat.blt d n | none => true
noncomputable def pStep (n : Nat) (o : Oper) (k : KT R) (s : PSt) : Option R :=
  match s with
  | ⟨e, os⟩ => match dstOk n o.dst && o.op.operands.toList.all okP with
    | false => none
    | true => match o.op with
      | .pick c a b => choose e c fun t e => k ⟨putD e o.dst (evP e (bif t then a else b)), os⟩ []
      | .call ⟨.value f, args, _⟩ => (match evP e f with
        | .fn g a c => (match frzVL (a ++ (args.toList.map (evP e) ++ c)) os with
          | (vs, os') => G g vs (frzA vs os') fun v os'' => k ⟨putD e o.dst v, os''⟩ (ptrsOf vs))
        | _ => none)
      | op => (match pop tb os e op with
        | .ok c v os' t => bif c then k ⟨putD e o.dst v, os'⟩ t else none
        | .no => none)
noncomputable def pGuard (ops : List Oper) (g : Option (Nat × Bool)) (k : Bool → K R) (s : PSt) : Option R :=
  match g with
  | none => k true s
  | some (j, w) => match nth ops j with
    | some p => (match p.dst with
      | some d => (match s.env d with
        | .tup [] => k false s
        | _ => choose s.env (.tmp d) fun t e => k (bif t then w else !w) ⟨e, s.os⟩)
      | none => none)
    | none => none
noncomputable def pOp (n : Nat) (ops : List Oper) (o : Oper) (k : KT R) (s : PSt) : Option R :=
  pGuard ops o.guard (fun t s => bif t then pStep tb G n o k s else match dstOk n o.dst with | true => k ⟨putD s.env o.dst (.tup []), s.os⟩ [] | false => none) s
noncomputable def pOps (n : Nat) (ops : List Oper) (l : List Oper) : K R → K R :=
  List.rec (motive := fun _ => K R → K R) (fun k => k) (fun o _ ih k s => pOp tb G n ops o (fun s _ => ih k s) s) l
def isMP (o : Oper) : Bool :=
  match o.op with
  | .store _ _ _ => true
  | .call c => (match c.callee with
    | .value _ => true
    | .builtin .len => false
    | .builtin .min => false
    | .builtin .max => false
    | _ => true)
  | _ => false
noncomputable def mkPlanP (an : List Nat) (nb : List (Nat × Oper)) : Plan :=
  let ms := nb.filter fun p => isMP p.2
  ⟨(nb.filter fun p => !(isMP p.2)).map fun p => ⟨p.1, p.2, (ms.filter fun m => bit (maskAt an p.1) m.1).length, (ms.filter fun m => !(bit (maskAt an m.1) p.1)).length⟩, ms⟩
noncomputable def leansOn (e : PEnv) (o : Op) (v : V) : List Nat :=
  match o with
  | .load _ a => (match evP e a with | .ptr o _ => [o] | .elt a _ _ => [a] | _ => [])
  | .alloc _ => (match v with | .ptr o _ => [o] | _ => [])
  | .box _ _ => (match v with | .ptr o _ => [o] | _ => [])
  | .buildSlice _ _ _ => (match v with | .loc a => [a] | _ => [])
  | .makeSlice _ _ _ => (match v with | .loc a => [a] | _ => [])
  | .convert _ _ x => (match v with
    | .loc a => [a]
    | _ => (match evP e x with | .loc a => [a] | _ => []))
  | _ => []
abbrev Fls := List (List Nat × Nat)
noncomputable def pIt (n : Nat) (ops : List Oper) (it : It) (k : PSt → Fls → Option R) (fl : Fls) (s : PSt) : Option R :=
  pGuard ops it.o.guard (fun t s => match dstOk n it.o.dst && it.o.op.operands.toList.all okP with
    | false => none
    | true => bif t then (match it.o.op with
      | .pick c a b => choose s.env c fun t e => k ⟨putD e it.o.dst (evP e (bif t then a else b)), s.os⟩ fl
      | op => (match pop tb s.os s.env op with
        | .ok c v os' _ => bif c then k ⟨putD s.env it.o.dst v, os'⟩ ((leansOn s.env op v, it.hi) :: fl) else none
        | .no => none)) else k ⟨putD s.env it.o.dst (.tup []), s.os⟩ fl) s
noncomputable def pIts (n : Nat) (ops : List Oper) (k : Nat) (its : List It) : (PSt → Fls → Option R) → Fls → PSt → Option R :=
  List.rec (motive := fun _ => (PSt → Fls → Option R) → Fls → PSt → Option R) (fun kk fl s => kk s fl)
    (fun it _ ih kk fl s => bif Nat.beq it.lo k then pIt tb n ops it (fun s fl => ih kk fl s) fl s else ih kk fl s) its
noncomputable def apartN (l m : List Nat) : Bool := l.all fun x => !(memN x m)
noncomputable def pSegs (n : Nat) (ops : List Oper) (its : List It) (ms : List (Nat × Oper)) : Nat → K R → Fls → K R :=
  List.rec (motive := fun _ => Nat → K R → Fls → K R)
    (fun k kn fl s => pIts tb n ops k its (fun s _ => kn s) fl s)
    (fun m _ ih k kn fl s => pIts tb n ops k its (fun s fl => pOp tb G n ops m.2 (fun s t => bif fl.all (fun p => Nat.ble p.2 k || apartN p.1 t) then ih (Nat.succ k) kn fl s else none) s) fl s) ms
noncomputable def pDraw (n : Nat) (ops : List Oper) (kn : K R) (s : PSt) : Option R :=
  match mkPlanP (ancs ops) (numbered 0 ops) with
  | p => bif planOk ops (ancs ops) (numbered 0 ops) p then pSegs tb G n ops p.its p.ms 0 kn [] s else none
noncomputable def nLoops : Code → Nat := Code.rec (motive := fun _ => Nat) 0 (fun _ _ _ => 0) (fun _ _ a b => Nat.add a b) (fun _ _ _ a b => Nat.add a b) (fun _ _ a => a) (fun _ _ => 1) (fun _ _ _ _ _ _ => 0) (fun _ => 0) (fun _ a => a) (fun _ => 0) (fun _ => 0) 0 (fun _ => 0)
noncomputable def refs1 : V → List Nat
  | .ptr o _ => [o]
  | .loc a => [a]
  | .elt a _ _ => [a]
  | _ => []
noncomputable def refsV : V → List Nat
  | .agg l => l.flatMap refs1
  | .tup l => l.flatMap refs1
  | .fn _ a c => a.flatMap refs1 ++ c.flatMap refs1
  | v => refs1 v
noncomputable def refsO (os : List PObj) (o : Nat) : List Nat := match nth os o with | some (.cells l) => l.flatMap refsV | _ => []
noncomputable def addN (l : List Nat) : List Nat → List Nat
  | [] => l
  | x :: m => bif memN x l then addN l m else addN (l ++ [x]) m
noncomputable def idxN (x : Nat) : List Nat → Option Nat
  | [] => none
  | y :: l => bif Nat.beq y x then some 0 else (match idxN x l with | some i => some (Nat.succ i) | none => none)
noncomputable def ren1 (or : List Nat) : V → V
  | .ptr o p => (match idxN o or with | some j => .ptr j p | none => .und)
  | .loc a => (match idxN a or with | some j => .loc j | none => .und)
  | .elt a i p => (match idxN a or with | some j => .elt j i p | none => .und)
  | .agg _ => .und
  | .tup _ => .und
  | .fn _ _ _ => .und
  | v => v
noncomputable def renV (or : List Nat) : V → V
  | .agg l => .agg (l.map (ren1 or))
  | .tup l => .tup (l.map (ren1 or))
  | .fn f a c => .fn f (a.map (ren1 or)) (c.map (ren1 or))
  | v => ren1 or v
noncomputable def renO (or : List Nat) : PObj → PObj
  | .cells l => .cells (l.map (renV or))
  | x => x
def upto : Nat → List Nat
  | 0 => []
  | n + 1 => upto n ++ [n]
noncomputable def ordO (k : Nat) (vs : List V) (os : List PObj) : List Nat :=
  match addN (upto k) (vs.flatMap refsV) with
  | l => match addN l (l.flatMap (refsO os)) with
    | l => addN l (l.flatMap (refsO os))
noncomputable def cano (k : Nat) (vs : List V) (os : List PObj) : List V × List PObj :=
  match ordO k vs os with
  | or => (vs.map (renV or), or.map fun o => match nth os o with | some x => renO or x | none => .dead)
noncomputable def shpC (o : Nat) : List (Nat × Nat) → List PObj → List PObj
  | [], os => os
  | (j, c) :: l, os => match nth os o with
    | some (.cells cs) => (match nth cs j with
      | some .nils => shpC o l (os.set o (.cells (cs.set j (.loc os.length))) ++ [.arr c []])
      | _ => shpC o l os)
    | _ => os
noncomputable def frzN (c : Nat) (v : V) (os : List PObj) : V × List PObj :=
  match v with
  | .nils => (.sl c [], os)
  | v => frz1 os v
noncomputable def shpF (o : Nat) : List (Nat × Nat) → List PObj → List PObj
  | [], os => os
  | (j, c) :: l, os => match nth os o with
    | some (.cells cs) => (match nth cs j with
      | some v => (match frzN c v os with | (v, os) => shpF o l (os.set o (.cells (cs.set j v))))
      | none => shpF o l os)
    | _ => os
noncomputable def shp1 (p : Shp) (v : V) (os : List PObj) : V × List PObj :=
  match p with
  | .any => (v, os)
  | .sl c => frzN c v os
  | .arr c => (match v with | .nils => (.loc os.length, os ++ [.arr c []]) | v => (v, os))
  | .cells l => (match v with | .ptr o q => (.ptr o q, shpC o l os) | v => (v, os))
  | .fcells l => (match v with | .ptr o q => (.ptr o q, shpF o l os) | v => (v, os))
noncomputable def shape (e : PEnv) : List Slot → List PObj → List V × List PObj
  | [], os => ([], os)
  | p :: l, os => match shp1 p.2 (e p.1) os with
    | (v, os) => match shape e l os with
      | (vs, os) => (v :: vs, os)
noncomputable def head (k : Nat) (l : List Slot) (s : PSt) : List V × List PObj :=
  match shape s.env l s.os with
  | (vs, os) => cano k vs os
variable (k : Nat)
noncomputable def pCode (n : Nat) (c : Code) : List (LoopH R) → K R → (Nat → K R) → K R → K R :=
  Code.rec (motive := fun _ => List (LoopH R) → K R → (Nat → K R) → K R → K R)
    (fun _ kn _ _ => kn)
    (fun _ ops draw _ kn _ _ => match draw with
      | false => pOps tb G n ops.toList ops.toList kn
      | true => pDraw tb G n ops.toList kn)
    (fun a _ ia ib L kn kx kr => ia L (ib (L.drop (nLoops a)) kn kx kr) kx kr)
    (fun c a _ ia ib L kn kx kr s => choose s.env c fun t e => bif t then ia L kn kx kr ⟨e, s.os⟩ else ib (L.drop (nLoops a)) kn kx kr ⟨e, s.os⟩)
    (fun id _ ia L kn kx kr => ia L kn (fun i => bif Nat.beq i id then kn else kx i) kr)
    (fun _ _ L _ kx kr s => match L with
      | H :: _ => (match head k H.ls s with
        | (vs, os) => H.run vs os (fun i vs os => kx i ⟨mkEnv H.lo vs, os⟩) (fun vs os => kr ⟨mkEnv H.lr vs, os⟩))
      | [] => none)
    (fun _ _ _ _ _ _ _ _ _ _ _ => none)
    (fun id _ _ kx _ => kx id)
    (fun _ ia L kn kx kr => ia L kn kx kr)
    (fun _ _ kn _ _ => kn)
    (fun _ _ _ _ _ _ => none)
    (fun _ _ _ kr => kr)
    (fun _ _ _ _ _ _ => none)
    c
noncomputable def loopP (n : Nat) (ls lo lr : List Slot) (L : List (LoopH R)) (c : Code) (m : Nat) : List V → List PObj → (Nat → List V → List PObj → Option R) → (List V → List PObj → Option R) → Option R :=
  Nat.rec (motive := fun _ => List V → List PObj → (Nat → List V → List PObj → Option R) → (List V → List PObj → Option R) → Option R)
    (fun _ _ _ _ => none)
    (fun _ ih vs os kx kr => pCode tb G k n c L (fun s => match head k ls s with | (vs, os) => ih vs os kx kr)
      (fun i s => match head k lo s with | (vs, os) => kx i vs os) (fun s => match head k lr s with | (vs, os) => kr vs os) ⟨mkEnv ls vs, os⟩) m
noncomputable def argsE : List V → PEnv := fun l t => match nth l t with | some v => v | none => .und
noncomputable def pRes (s : PSt) : List ResultVar → Option (List V)
  | [] => some []
  | .tmp t :: r => (match pRes s r with | some l => some (s.env t :: l) | none => none)
  | .cell a t :: r => (match tb t with
    | some b => (match s.env a with
      | .ptr o p => (match loadP s.os b.agg b.size (.ptr o p), pRes s r with
        | some v, some l => some (v :: l)
        | _, _ => none)
      | _ => none)
    | none => none)
noncomputable def retype1 (c : Option (Bool × Nat)) (v : V) : Option V :=
  match c with
  | none => some v
  | some (true, c) => (match v with
    | .nils => some (.sl c [])
    | .sl d l => some (.sl d l)
    | _ => none)
  | some (false, c) => (match v with
    | .agg l => (match Dat.mkD c l with | some x => some (.st c x) | none => none)
    | .st d x => (match mkE c (.st d x) with | some x => some (.st c x) | none => none)
    | _ => none)
noncomputable def retype : List (Option (Bool × Nat)) → List V → Option (List V)
  | [], l => some l
  | c :: r, v :: l => (match retype1 c v, retype r l with | some v, some l => some (v :: l) | _, _ => none)
  | _ :: _, [] => none
noncomputable def dataV : V → Bool
  | .st _ _ => true
  | .agg l => l.all isData
  | v => isData v
noncomputable def argV : V → Bool
  | .fn _ [] [] => true
  | v => dataV v
noncomputable def dataO : PObj → Bool
  | .cells l => l.all isData
  | _ => false
noncomputable def frzU : List Nat → List PObj → List PObj
  | [], os => os
  | o :: l, os => frzU l (frzO os o)
noncomputable def pRet (rs : List ResultVar) (rc : List (Option (Bool × Nat))) (κ : V → List PObj → Option R) (s : PSt) : Option R :=
  match pRes tb s rs with
  | some l => (match frzVL l s.os with
    | (l, os) => (match retype rc l with
      | some l => (match (frzU (upto k) os).take k with
        | os => bif l.all dataV && (os.all dataO && Nat.beq os.length k) then (match l with
          | [v] => κ v os
          | l => bif Nat.ble l.length 8 then κ (.tup l) os else none) else none)
      | none => none))
  | none => none
noncomputable def isPtr : V → Bool
  | .ptr _ _ => true
  | _ => false
noncomputable def canon (vs : List V) (os : List PObj) : Bool :=
  (upto os.length).all (fun o => memN o (ptrsOf vs)) && ((ptrsOf vs).all (fun o => Nat.blt o os.length) && (os.all dataO && vs.all fun v => isPtr v || argV v))
noncomputable def pFun (L : List (LoopH R)) (rc : List (Option (Bool × Nat))) (F : Func) (args : List V) (os : List PObj) (κ : V → List PObj → Option R) : Option R :=
  match F.body with
  | some c => (match Nat.ble args.length F.ntmps && (Nat.beq os.length k && canon args os) with
    | true => pCode tb G k F.ntmps c L (pRet tb k F.results.toList rc κ) (fun _ _ => none) (pRet tb k F.results.toList rc κ) ⟨argsE args, os⟩
    | false => none)
  | none => none
noncomputable def nodupN : List Nat → Bool
  | [] => true
  | x :: l => !(memN x l) && nodupN l
noncomputable def getOs (os : List PObj) (l : List Nat) : List PObj := l.map fun o => match nth os o with | some x => x | none => .dead
noncomputable def setOs (os : List PObj) : List Nat → List PObj → List PObj
  | o :: l, x :: m => setOs (os.set o x) l m
  | _, _ => os
noncomputable def canA (or : List Nat) : V → V
  | .ptr o p => (match idxN o or with | some j => .ptr j p | none => .und)
  | v => v
noncomputable def lift (F : PSem R) : PSem R := fun vs os κ =>
  match ptrsOf vs with
  | or => bif nodupN or && ((getOs os or).all dataO && vs.all fun v => isPtr v || argV v) then F (vs.map (canA or)) (getOs os or) (fun v os' => κ v (setOs os or os')) else none
end Go.Pv
namespace Go.Pv
open Go Go.EvM
set_option linter.unusedVariables false
theorem eqI_refl (a : Int) : eqI a a = true := by cases a <;> simp [eqI]
theorem eqL_refl : ∀ l : List UInt8, eqL l l = true
  | [] => rfl
  | a :: l => by show (bif Nat.beq a.toNat a.toNat then eqL l l else false) = true; simp [eqL_refl l]
theorem eqAddr_refl {a : Option Addr} (h : okA a = true) : eqAddr a a = true := by
  cases a with
  | none => rfl
  | some a => obtain ⟨b, o, x⟩ := a; cases x with
    | none => simp [eqAddr]
    | some x => simp [okA] at h
theorem eqVal_f0 {v : Value} (h : f0 v = true) (k : Nat) : eqVal (k + 1) v v = true := by
  cases v <;> simp [f0] at h <;> simp [eqVal, eqI_refl, eqL_refl]
  case bool b => cases b <;> rfl
  case pointer a => exact eqAddr_refl h
  case slice a l c => exact eqAddr_refl h
  case map a => cases a <;> simp [eqNO]
  case chan a => cases a <;> simp [eqNO]
theorem eqVals_refl : ∀ (l : List Value) (k : Nat), l.length < k → (∀ v ∈ l, ∀ j, k - l.length ≤ j + 1 → eqVal j v v = true) → eqVals k l l = true
  | [], k + 1, _, _ => rfl
  | a :: l, k + 1, h, H => by
    simp only [List.length_cons] at h H
    show (eqVal k a a && eqVals k l l) = true
    rw [H a (by simp) k (by omega), eqVals_refl l k (by omega) (fun v hv j hj => H v (by simp [hv]) j (by omega))]; rfl
  | _, 0, h, _ => absurd h (by omega)
theorem eqVal_f1 {v : Value} (h : f1 v = true) {k : Nat} (hk : 20 ≤ k) : eqVal k v v = true := by
  obtain ⟨k, rfl⟩ : ∃ j, k = j + 1 := ⟨k - 1, by omega⟩
  unfold f1 at h
  cases h0 : f0 v with
  | true => exact eqVal_f0 h0 k
  | false =>
    rw [h0] at h
    simp only [Bool.false_or] at h
    split at h
    · rename_i f a c
      simp only [Bool.and_eq_true, List.all_eq_true, Nat.ble_eq] at h
      obtain ⟨⟨⟨h1, h2⟩, h3⟩, h4⟩ := h
      simp only [eqVal, Nat.beq_refl, Bool.true_and, Bool.and_eq_true]
      exact ⟨eqVals_refl _ k (by omega) (fun v hv j hj => by obtain ⟨j, rfl⟩ : ∃ i, j = i + 1 := ⟨j - 1, by omega⟩; exact eqVal_f0 (h2 v hv) j),
        eqVals_refl _ k (by omega) (fun v hv j hj => by obtain ⟨j, rfl⟩ : ∃ i, j = i + 1 := ⟨j - 1, by omega⟩; exact eqVal_f0 (h4 v hv) j)⟩
    · cases h
theorem eqVal_f2 {v : Value} (h : f2 v = true) {k : Nat} (hk : 70 ≤ k) : eqVal k v v = true := by
  obtain ⟨k, rfl⟩ : ∃ j, k = j + 1 := ⟨k - 1, by omega⟩
  unfold f2 at h
  cases h0 : f1 v with
  | true => exact eqVal_f1 h0 (by omega)
  | false =>
    rw [h0] at h
    simp only [Bool.false_or] at h
    split at h
    · simp only [Bool.and_eq_true, List.all_eq_true, Nat.ble_eq] at h
      simp only [eqVal]
      exact eqVals_refl _ k (by omega) (fun v hv j hj => eqVal_f1 (h.2 v hv) (by omega))
    · cases h
theorem eqVal_f3 {v : Value} (h : f3 v = true) : eqVal 100 v v = true := by
  unfold f3 at h
  cases h0 : f2 v with
  | true => exact eqVal_f2 h0 (by omega)
  | false =>
    rw [h0] at h
    simp only [Bool.false_or] at h
    split at h
    · simp only [Bool.and_eq_true, List.all_eq_true, Nat.ble_eq] at h
      simp only [eqVal]
      exact eqVals_refl _ 99 (by omega) (fun v hv j hj => eqVal_f2 (h.2 v hv) (by omega))
    · cases h
theorem f1_of_f0 {v : Value} (h : f0 v = true) : f1 v = true := by simp [f1, h]
theorem f2_of_f1 {v : Value} (h : f1 v = true) : f2 v = true := by simp [f2, h]
theorem f3_of_f2 {v : Value} (h : f2 v = true) : f3 v = true := by simp [f3, h]
theorem f1_one {v : Value} (h : f1 v = true) : oneB v = true := by
  cases v <;> simp [oneB] <;> simp [f1, f0] at h
set_option linter.unusedSectionVars false
variable [Dat]
structure Gh where
  n : Nat
  blk : Nat → Nat
  cap : Nat → Nat
  len : Nat → Nat
  es : Nat → Nat
  /-- An array that there is not: a slice that is nil. -/
  vir : Nat → Bool
abbrev Fz := Nat → Option Ob
mutual
inductive Rep (Φ : Fz) (g : Gh) : V → Value → Prop
  | und {v : Value} : f3 v = true → Rep Φ g .und v
  | bool (b : Bool) : Rep Φ g (.bool b) (.bool b)
  | int (k : IntKind) (n : Int) : Rep Φ g (.int k n) (.int k n)
  | str (l : List UInt8) : Rep Φ g (.str l) (.string ⟨⟨l⟩⟩)
  | nilp : Rep Φ g .nilp (.pointer none)
  | ptr {o : Nat} (off : Nat) : o < g.n → Rep Φ g (.ptr o off) (.pointer (some ⟨g.blk o, off, none⟩))
  | fad {c : Nat} {x : Dat.S c} (off : Nat) {b o : Nat} {cs : Tr Value} {n : Nat} {z : ZT} {t r : Bool} {vs : List Value} : Φ b = some (.cells cs n z t r) → Reps Φ g (Dat.fld c x) vs → (∀ j v, vs[j]? = some v → cs.get (o + j) = some v) → (∀ v ∈ vs, f1 v = true) → Rep Φ g (.fad c x off) (.pointer (some ⟨b, o + off, none⟩))
  | nils : Rep Φ g .nils (.slice none 0 0)
  | sln (c : Nat) : Rep Φ g (.sl c []) (.slice none 0 0)
  | slb {c : Nat} {l : List (Dat.S c)} {b off cap : Nat} {cs : Tr Value} {n : Nat} {z : ZT} {t r : Bool} {vs : Nat → List Value} : Φ b = some (.cells cs n z t r) → (t || Nat.beq z.z (Dat.sz c)) = true → l.length ≤ cap →
      (∀ i x, l[i]? = some x → Reps Φ g (Dat.fld c x) (vs i)) → (∀ i x, l[i]? = some x → ∀ j v, (vs i)[j]? = some v → cs.get (off + i * Dat.sz c + j) = some v ∧ f1 v = true) → Rep Φ g (.sl c l) (.slice (some ⟨b, off, none⟩) l.length cap)
  | loc0 {a : Nat} : a < g.n → g.vir a = true → Rep Φ g (.loc a) (.slice none 0 0)
  | loc {a : Nat} : a < g.n → g.vir a = false → Rep Φ g (.loc a) (.slice (some ⟨g.blk a, 0, none⟩) (g.len a) (g.cap a))
  | elt {a i : Nat} (off : Nat) : a < g.n → i < g.len a → Rep Φ g (.elt a i off) (.pointer (some ⟨g.blk a, i * g.es a + off, none⟩))
  | st {c : Nat} {x : Dat.S c} {vs : List Value} : Reps Φ g (Dat.fld c x) vs → (∀ v ∈ vs, f1 v = true) → vs.length ≤ 40 → Rep Φ g (.st c x) (.agg ⟨vs⟩)
  | agg {l : List V} {vs : List Value} : Reps Φ g l vs → (∀ v ∈ vs, f1 v = true) → vs.length ≤ 40 → Rep Φ g (.agg l) (.agg ⟨vs⟩)
  | tup {l : List V} {vs : List Value} : Reps Φ g l vs → (∀ v ∈ vs, f2 v = true) → vs.length ≤ 8 → Rep Φ g (.tup l) (.tuple ⟨vs⟩)
  | fn (f : FuncId) {a c : List V} {a' c' : List Value} : Reps Φ g a a' → Reps Φ g c c' → (∀ v ∈ a', f0 v = true) → (∀ v ∈ c', f0 v = true) → a'.length ≤ 8 → c'.length ≤ 8 → Rep Φ g (.fn f a c) (.func (.func f) ⟨a'⟩ ⟨c'⟩)
  | nilf : Rep Φ g .nilf .nilFunc
inductive Reps (Φ : Fz) (g : Gh) : List V → List Value → Prop
  | nil : Reps Φ g [] []
  | cons {p : V} {v : Value} {l : List V} {vs : List Value} : Rep Φ g p v → Reps Φ g l vs → Reps Φ g (p :: l) (v :: vs)
end
theorem Rep.f3 {Φ : Fz} {g : Gh} {p : V} {v : Value} (h : Rep Φ g p v) : f3 v = true := by
  cases h with
  | und h => exact h
  | st h1 h2 h3 => exact f3_of_f2 (by simp [f2, List.all_eq_true]; exact .inr ⟨h3, h2⟩)
  | agg h1 h2 h3 => exact f3_of_f2 (by simp [f2, List.all_eq_true]; exact .inr ⟨h3, h2⟩)
  | tup h1 h2 h3 => simp [Pv.f3, List.all_eq_true]; exact .inr ⟨h3, h2⟩
  | fn f h1 h2 h3 h4 h5 h6 => exact f3_of_f2 (f2_of_f1 (by simp [f1, List.all_eq_true]; exact .inr ⟨⟨⟨h5, h3⟩, h6⟩, h4⟩))
  | _ => rfl
structure GLe (g g' : Gh) : Prop where
  n : g.n ≤ g'.n
  blk : ∀ o, o < g.n → g'.blk o = g.blk o
  cap : ∀ o, o < g.n → g'.cap o = g.cap o
  len : ∀ o, o < g.n → g'.len o = g.len o
  es : ∀ o, o < g.n → g'.es o = g.es o
  vir : ∀ o, o < g.n → g'.vir o = g.vir o
theorem GLe.refl (g : Gh) : GLe g g := ⟨Nat.le_refl _, fun _ _ => rfl, fun _ _ => rfl, fun _ _ => rfl, fun _ _ => rfl, fun _ _ => rfl⟩
theorem GLe.trans {a b c : Gh} (h : GLe a b) (k : GLe b c) : GLe a c :=
  ⟨Nat.le_trans h.n k.n, fun o ho => (k.blk o (Nat.lt_of_lt_of_le ho h.n)).trans (h.blk o ho), fun o ho => (k.cap o (Nat.lt_of_lt_of_le ho h.n)).trans (h.cap o ho), fun o ho => (k.len o (Nat.lt_of_lt_of_le ho h.n)).trans (h.len o ho), fun o ho => (k.es o (Nat.lt_of_lt_of_le ho h.n)).trans (h.es o ho), fun o ho => (k.vir o (Nat.lt_of_lt_of_le ho h.n)).trans (h.vir o ho)⟩
def FLe (Φ Φ' : Fz) : Prop := ∀ b x, Φ b = some x → Φ' b = some x
theorem FLe.refl (Φ : Fz) : FLe Φ Φ := fun _ _ h => h
theorem FLe.trans {a b c : Fz} (h : FLe a b) (k : FLe b c) : FLe a c := fun x y e => k x y (h x y e)
mutual
theorem Rep.mono {Φ Φ' : Fz} {g g' : Gh} (hf : FLe Φ Φ') (hg : GLe g g') : ∀ {p : V} {v : Value}, Rep Φ g p v → Rep Φ' g' p v
  | _, _, .und h => .und h
  | _, _, .bool b => .bool b
  | _, _, .int k n => .int k n
  | _, _, .str l => .str l
  | _, _, .nilp => .nilp
  | _, _, .ptr off h => by rw [← hg.blk _ h]; exact .ptr off (Nat.lt_of_lt_of_le h hg.n)
  | _, _, .fad off h1 h2 h3 h4 => .fad off (hf _ _ h1) (Reps.mono hf hg h2) h3 h4
  | _, _, .nils => .nils
  | _, _, .sln c => .sln c
  | _, _, .slb h1 h2 h3 h4 h5 => .slb (hf _ _ h1) h2 h3 (fun i x hx => Reps.mono hf hg (h4 i x hx)) h5
  | _, _, .loc0 h k => .loc0 (Nat.lt_of_lt_of_le h hg.n) (by rw [hg.vir _ h]; exact k)
  | _, _, .loc h k => by rw [← hg.blk _ h, ← hg.cap _ h, ← hg.len _ h]; exact .loc (Nat.lt_of_lt_of_le h hg.n) (by rw [hg.vir _ h]; exact k)
  | _, _, .elt off h k => by rw [← hg.blk _ h, ← hg.es _ h]; exact .elt off (Nat.lt_of_lt_of_le h hg.n) (by rw [hg.len _ h]; exact k)
  | _, _, .st h1 h2 h3 => .st (Reps.mono hf hg h1) h2 h3
  | _, _, .agg h1 h2 h3 => .agg (Reps.mono hf hg h1) h2 h3
  | _, _, .tup h1 h2 h3 => .tup (Reps.mono hf hg h1) h2 h3
  | _, _, .fn f h1 h2 h3 h4 h5 h6 => .fn f (Reps.mono hf hg h1) (Reps.mono hf hg h2) h3 h4 h5 h6
  | _, _, .nilf => .nilf
theorem Reps.mono {Φ Φ' : Fz} {g g' : Gh} (hf : FLe Φ Φ') (hg : GLe g g') : ∀ {l : List V} {vs : List Value}, Reps Φ g l vs → Reps Φ' g' l vs
  | _, _, .nil => .nil
  | _, _, .cons h t => .cons (Rep.mono hf hg h) (Reps.mono hf hg t)
end
variable {Φ : Fz} {g : Gh}
theorem Reps.length : ∀ {l : List V} {vs : List Value}, Reps Φ g l vs → vs.length = l.length
  | _, _, .nil => rfl
  | _, _, .cons _ t => by simp [Reps.length t]
theorem Reps.get : ∀ {l : List V} {vs : List Value}, Reps Φ g l vs → ∀ {j : Nat} {p : V}, l[j]? = some p → ∃ v, vs[j]? = some v ∧ Rep Φ g p v
  | _, _, .nil, _, _, h => by simp at h
  | _, _, .cons (v := v) h t, 0, _, e => by simp at e; subst e; exact ⟨v, by simp, h⟩
  | _, _, .cons h t, j + 1, _, e => by simpa using Reps.get t (j := j) (by simpa using e)
theorem Reps.append : ∀ {a b : List V} {a' b' : List Value}, Reps Φ g a a' → Reps Φ g b b' → Reps Φ g (a ++ b) (a' ++ b')
  | _, _, _, _, .nil, h => h
  | _, _, _, _, .cons h t, k => .cons h (Reps.append t k)
theorem Reps.take : ∀ {a : List V} {a' : List Value} (n : Nat), Reps Φ g a a' → Reps Φ g (a.take n) (a'.take n)
  | _, _, 0, _ => by simpa using Reps.nil
  | _, _, _ + 1, .nil => .nil
  | _, _, n + 1, .cons h t => by simpa using Reps.cons h (Reps.take n t)
theorem Reps.drop : ∀ {a : List V} {a' : List Value} (n : Nat), Reps Φ g a a' → Reps Φ g (a.drop n) (a'.drop n)
  | _, _, 0, h => by simpa using h
  | _, _, _ + 1, .nil => .nil
  | _, _, n + 1, .cons _ t => by simpa using Reps.drop n t
theorem Reps.map {α : Type} {f : α → V} {h : α → Value} : ∀ {l : List α}, (∀ x ∈ l, Rep Φ g (f x) (h x)) → Reps Φ g (l.map f) (l.map h)
  | [], _ => .nil
  | x :: l, H => .cons (H x (by simp)) (Reps.map (fun y hy => H y (by simp [hy])))
theorem Reps.splice {a b : List V} {a' b' : List Value} (off : Nat) (h : Reps Φ g a a') (k : Reps Φ g b b') : Reps Φ g (splice a off b) (splice a' off b') := by
  unfold Pv.splice
  rw [← k.length]
  exact (h.take off).append (k.append (h.drop _))
theorem Rep.like {p q : V} {v : Value} (hl : Like p q) (h : Rep Φ g p v) : Rep Φ g q v := by
  cases hl with
  | same => exact h
  | nil c => cases h; exact .sln c
theorem Reps.likes : ∀ {l m : List V} {vs : List Value}, Likes l m → Reps Φ g l vs → Reps Φ g m vs
  | _, _, _, .nil, h => h
  | _, _, _, .cons hl t, .cons h k => .cons (h.like hl) (k.likes t)
theorem nth_some {α : Type} {l : List α} {n : Nat} {x : α} (h : nth l n = some x) : l[n]? = some x := by rw [← nth_eq]; exact h
def ArrC (Φ : Fz) (g : Gh) (c : Tr Value) (off k : Nat) (l : List (Dat.S k)) : Prop :=
  ∀ i x, l[i]? = some x → ∃ vs, Reps Φ g (Dat.fld k x) vs ∧ ∀ j v, vs[j]? = some v → c.get (off + i * Dat.sz k + j) = some v ∧ f1 v = true
def PObj.live : PObj → Prop
  | .cells _ => True
  | .arr _ _ => True
  | _ => False
def Lv (g : Gh) (o : Nat) (x : PObj) : Prop := x.live ∧ g.vir o = false
def ObjR (Φ : Fz) (g : Gh) (H : Hp) (o : Nat) : PObj → Prop
  | .cells l => g.vir o = false ∧ g.blk o < H.n ∧ Φ (g.blk o) = none ∧ ∃ c n z t, H.b.get (g.blk o) = some (.cells c n z t false) ∧ n = l.length ∧ ∀ j p, l[j]? = some p → ∃ v, c.get j = some v ∧ Rep Φ g p v ∧ f1 v = true
  | .arr k l => g.len o = l.length ∧ g.es o = Dat.sz k ∧ ((g.vir o = true ∧ l = []) ∨ (g.vir o = false ∧ g.blk o < H.n ∧ Φ (g.blk o) = none ∧ l.length ≤ g.cap o ∧ ∃ c n z t, H.b.get (g.blk o) = some (.cells c n z t false) ∧ (t || Nat.beq z.z (Dat.sz k)) = true ∧ g.cap o * Dat.sz k ≤ n ∧ ArrC Φ g c 0 k l))
  | .frz k l => g.len o = l.length ∧ g.es o = Dat.sz k ∧ ((g.vir o = true ∧ l = []) ∨ (g.vir o = false ∧ l.length ≤ g.cap o ∧ ∃ c n z t r, Φ (g.blk o) = some (.cells c n z t r) ∧ (t || Nat.beq z.z (Dat.sz k)) = true ∧ ArrC Φ g c 0 k l))
  | .dead => True
structure HS (Φ : Fz) (g : Gh) (os : List PObj) (H : Hp) : Prop where
  n : g.n = os.length
  ob : ∀ o x, os[o]? = some x → ObjR Φ g H o x
  inj : ∀ o p x y, os[o]? = some x → os[p]? = some y → Lv g o x → Lv g p y → g.blk o = g.blk p → o = p
  phi : ∀ b x, Φ b = some x → b < H.n ∧ H.b.get b = some x
structure Nx (Φ : Fz) (g : Gh) (os : List PObj) (H : Hp) (Φ' : Fz) (g' : Gh) (os' : List PObj) (H' : Hp) (t : List Nat) : Prop where
  phi : FLe Φ Φ'
  gle : GLe g g'
  n : H.n ≤ H'.n
  fr : ∀ b, b < H.n → (∀ o ∈ t, g.vir o = false → g.blk o ≠ b) → H'.b.get b = H.b.get b
  lv : ∀ (o : Nat) (x : PObj), os'[o]? = some x → Lv g' o x → (∃ p y, os[p]? = some y ∧ Lv g p y ∧ g.blk p = g'.blk o) ∨ H.n ≤ g'.blk o
  kp : ∀ (o : Nat) (l : List V), os[o]? = some (PObj.cells l) → ∃ l', os'[o]? = some (PObj.cells l')
  tl : ∀ o ∈ t, ∃ x : PObj, os[o]? = some x ∧ (g.vir o = false → x.live)
  nd : ∀ (o : Nat) (x : PObj), os[o]? = some x → x ≠ .dead → o ∉ t → ∃ y : PObj, os'[o]? = some y ∧ y ≠ .dead
  pf : ∀ b x, Φ' b = some x → Φ b = some x ∨ H.n ≤ b ∨ ∃ (p : Nat) (y : PObj), os[p]? = some y ∧ Lv g p y ∧ g.blk p = b
structure Nl (Φ : Fz) (g : Gh) (os : List PObj) (H : Hp) (Φ' : Fz) (g' : Gh) (os' : List PObj) (H' : Hp) : Prop where
  phi : FLe Φ Φ'
  gle : GLe g g'
  n : H.n ≤ H'.n
  fr : ∀ b, b < H.n → (∀ o x, os[o]? = some x → Lv g o x → g.blk o ≠ b) → H'.b.get b = H.b.get b
  lv : ∀ (o : Nat) (x : PObj), os'[o]? = some x → Lv g' o x → (∃ p y, os[p]? = some y ∧ Lv g p y ∧ g.blk p = g'.blk o) ∨ H.n ≤ g'.blk o
  kp : ∀ (o : Nat) (l : List V), os[o]? = some (PObj.cells l) → ∃ l', os'[o]? = some (PObj.cells l')
  pf : ∀ b x, Φ' b = some x → Φ b = some x ∨ H.n ≤ b ∨ ∃ (p : Nat) (y : PObj), os[p]? = some y ∧ Lv g p y ∧ g.blk p = b
theorem Nx.weak {Φ Φ' : Fz} {g g' : Gh} {os os' : List PObj} {H H' : Hp} {t : List Nat} (h : Nx Φ g os H Φ' g' os' H' t) : Nl Φ g os H Φ' g' os' H' :=
  ⟨h.phi, h.gle, h.n, fun b hb hl => h.fr b hb fun o ho hv => by obtain ⟨x, h1, h2⟩ := h.tl o ho; exact hl o x h1 ⟨h2 hv, hv⟩, h.lv, h.kp, h.pf⟩
theorem Nl.refl (Φ : Fz) (g : Gh) (os : List PObj) (H : Hp) : Nl Φ g os H Φ g os H :=
  ⟨FLe.refl _, GLe.refl _, Nat.le_refl _, fun _ _ _ => rfl, fun o x h l => .inl ⟨o, x, h, l, rfl⟩, fun o l h => ⟨l, h⟩, fun _ _ h => .inl h⟩
theorem Nl.trans {Φ Φ1 Φ2 : Fz} {g g1 g2 : Gh} {os os1 os2 : List PObj} {H H1 H2 : Hp} (h : Nl Φ g os H Φ1 g1 os1 H1) (k : Nl Φ1 g1 os1 H1 Φ2 g2 os2 H2) : Nl Φ g os H Φ2 g2 os2 H2 := by
  refine ⟨h.phi.trans k.phi, h.gle.trans k.gle, Nat.le_trans h.n k.n, fun b hb hl => ?_, fun o x ho hx => ?_, fun o l ho => ?_, fun b x hb => ?_⟩
  · rw [k.fr b (Nat.lt_of_lt_of_le hb h.n) (fun o x ho hx e => ?_), h.fr b hb hl]
    rcases h.lv o x ho hx with ⟨p, y, h1, h2, h3⟩ | h4
    · exact hl p y h1 h2 (h3.trans e)
    · omega
  · rcases k.lv o x ho hx with ⟨p, y, h1, h2, h3⟩ | h4
    · rcases h.lv p y h1 h2 with ⟨q, z, k1, k2, k3⟩ | k4
      · exact .inl ⟨q, z, k1, k2, k3.trans h3⟩
      · exact .inr (h3 ▸ k4)
    · exact .inr (Nat.le_trans h.n h4)
  · obtain ⟨l1, h1⟩ := h.kp o l ho
    exact k.kp o l1 h1
  · rcases k.pf b x hb with hb | hb | ⟨p, y, h1, h2, h3⟩
    · exact h.pf b x hb
    · exact .inr (.inl (Nat.le_trans h.n hb))
    · rcases h.lv p y h1 h2 with ⟨q, z, k1, k2, k3⟩ | k4
      · exact .inr (.inr ⟨q, z, k1, k2, k3.trans h3⟩)
      · exact .inr (.inl (h3 ▸ k4))
theorem Nx.refl (Φ : Fz) (g : Gh) (os : List PObj) (H : Hp) : Nx Φ g os H Φ g os H [] :=
  ⟨FLe.refl _, GLe.refl _, Nat.le_refl _, fun _ _ _ => rfl, fun o x h l => .inl ⟨o, x, h, l, rfl⟩, fun o l h => ⟨l, h⟩, (fun o ho => by cases ho), fun o x h hd _ => ⟨x, h, hd⟩, fun _ _ h => .inl h⟩
end Go.Pv
namespace Go.Pv
open Go Go.EvM
set_option linter.unusedVariables false
set_option linter.unusedSectionVars false
variable [Dat]
def depT {α : Type} : Tr α → Nat
  | .nil => 0
  | .nd _ a b c d => Nat.succ (max (max (depT a) (depT b)) (max (depT c) (depT d)))
def allT {α : Type} (P : α → Prop) : Tr α → Prop
  | .nil => True
  | .nd v a b c d => (∀ x, v = some x → P x) ∧ allT P a ∧ allT P b ∧ allT P c ∧ allT P d
theorem eqTr_refl : ∀ (t : Tr Value) (k : Nat), depT t < k → allT (fun v => f3 v = true) t → eqTr k t t = true
  | .nil, k + 1, _, _ => rfl
  | .nil, 0, h, _ => absurd h (by omega)
  | .nd _ _ _ _ _, 0, h, _ => absurd h (by omega)
  | .nd v a b c d, k + 1, h, ⟨h0, h1, h2, h3, h4⟩ => by
    simp only [depT] at h
    have e1 := eqTr_refl a k (by omega) h1
    have e2 := eqTr_refl b k (by omega) h2
    have e3 := eqTr_refl c k (by omega) h3
    have e4 := eqTr_refl d k (by omega) h4
    cases v with
    | none => simp [eqTr, e1, e2, e3, e4]
    | some x => simp [eqTr, e1, e2, e3, e4, eqVal_f3 (h0 x rfl)]
theorem dep_sing {α : Type} (x : α) : ∀ p, depT (Tr.sing x p) ≤ p.length + 1
  | [] => by show depT (Tr.nd (some x) .nil .nil .nil .nil) ≤ _; simp [depT]
  | d :: p => by
    have ih := dep_sing x p
    cases d
    · show depT (Tr.nd none (Tr.sing x p) .nil .nil .nil) ≤ _; simp only [depT, List.length_cons]; omega
    · show depT (Tr.nd none .nil (Tr.sing x p) .nil .nil) ≤ _; simp only [depT, List.length_cons]; omega
    · show depT (Tr.nd none .nil .nil (Tr.sing x p) .nil) ≤ _; simp only [depT, List.length_cons]; omega
    · show depT (Tr.nd none .nil .nil .nil (Tr.sing x p)) ≤ _; simp only [depT, List.length_cons]; omega
theorem dep_putP {α : Type} (x : α) : ∀ (p : List D4) (t : Tr α), depT (Tr.putP x p t) ≤ max (depT t) (p.length + 1)
  | [], .nil => by show depT (Tr.nd (some x) .nil .nil .nil .nil) ≤ _; simp [depT]
  | [], .nd v a b c d => by show depT (Tr.nd (some x) a b c d) ≤ _; simp [depT]
  | d :: p, .nil => by have := dep_sing x (d :: p); show depT (Tr.sing x (d :: p)) ≤ _; omega
  | e :: p, .nd v a b c d => by
    have ia := dep_putP x p a
    have ib := dep_putP x p b
    have ic := dep_putP x p c
    have id := dep_putP x p d
    cases e
    · show depT (Tr.nd v (Tr.putP x p a) b c d) ≤ _; simp only [depT, List.length_cons]; omega
    · show depT (Tr.nd v a (Tr.putP x p b) c d) ≤ _; simp only [depT, List.length_cons]; omega
    · show depT (Tr.nd v a b (Tr.putP x p c) d) ≤ _; simp only [depT, List.length_cons]; omega
    · show depT (Tr.nd v a b c (Tr.putP x p d)) ≤ _; simp only [depT, List.length_cons]; omega
theorem all_sing {α : Type} {P : α → Prop} {x : α} (h : P x) : ∀ p, allT P (Tr.sing x p)
  | [] => ⟨fun y e => (by cases e; exact h), trivial, trivial, trivial, trivial⟩
  | d :: p => by
    have ih := all_sing h p
    cases d
    · exact ⟨fun y e => (by cases e), ih, trivial, trivial, trivial⟩
    · exact ⟨fun y e => (by cases e), trivial, ih, trivial, trivial⟩
    · exact ⟨fun y e => (by cases e), trivial, trivial, ih, trivial⟩
    · exact ⟨fun y e => (by cases e), trivial, trivial, trivial, ih⟩
theorem all_putP {α : Type} {P : α → Prop} {x : α} (h : P x) : ∀ (p : List D4) (t : Tr α), allT P t → allT P (Tr.putP x p t)
  | [], .nil, _ => ⟨fun y e => (by cases e; exact h), trivial, trivial, trivial, trivial⟩
  | [], .nd v a b c d, ⟨_, h1, h2, h3, h4⟩ => ⟨fun y e => (by cases e; exact h), h1, h2, h3, h4⟩
  | d :: p, .nil, _ => all_sing h (d :: p)
  | e :: p, .nd v a b c d, ⟨h0, h1, h2, h3, h4⟩ => by
    cases e
    · exact ⟨h0, all_putP h p a h1, h2, h3, h4⟩
    · exact ⟨h0, h1, all_putP h p b h2, h3, h4⟩
    · exact ⟨h0, h1, h2, all_putP h p c h3, h4⟩
    · exact ⟨h0, h1, h2, h3, all_putP h p d h4⟩
theorem pathF_len : ∀ (k n m : Nat), n < 4 ^ m → (Tr.pathF k n).length ≤ m
  | 0, n, m, _ => Nat.zero_le _
  | k + 1, 0, m, _ => Nat.zero_le _
  | k + 1, n + 1, m, h => by
    have e : Tr.pathF (k + 1) (n + 1) = Tr.dig (Nat.mod n 4) :: Tr.pathF k (Nat.div n 4) := rfl
    rw [e]
    cases m with
    | zero => simp at h
    | succ m =>
      have := pathF_len k (Nat.div n 4) m (by rw [Nat.pow_succ] at h; have : Nat.div n 4 = n / 4 := rfl; omega)
      simp only [List.length_cons]; omega
theorem dep_put {α : Type} (t : Tr α) {n m : Nat} (x : α) (h : n < 4 ^ m) : depT (t.put n x) ≤ max (depT t) (m + 1) := by
  have h1 := dep_putP x (Tr.path n) t
  have h2 := pathF_len n n m h
  have h3 : (Tr.path n).length ≤ m := h2
  exact Nat.le_trans h1 (by omega)
theorem dep_putL {α : Type} (m : Nat) : ∀ (l : List α) (i : Nat) (t : Tr α), i + l.length ≤ 4 ^ m → depT (Tr.putL l i t) ≤ max (depT t) (m + 1)
  | [], i, t, _ => by rw [Tr.putL_nil]; omega
  | x :: l, i, t, h => by
    simp only [List.length_cons] at h
    rw [Tr.putL_cons]
    have h1 := dep_putL m l (i + 1) (t.put i x) (by omega)
    have h2 := dep_put t (n := i) (m := m) x (by omega)
    omega
theorem all_putL {α : Type} {P : α → Prop} : ∀ (l : List α) (i : Nat) (t : Tr α), (∀ x ∈ l, P x) → allT P t → allT P (Tr.putL l i t)
  | [], i, t, _, ht => ht
  | x :: l, i, t, h, ht => by rw [Tr.putL_cons]; exact all_putL l (i + 1) _ (fun y hy => h y (by simp [hy])) (all_putP (h x (by simp)) _ t ht)
def okT (t : Tr Value) : Prop := depT t ≤ 30 ∧ allT (fun v => f3 v = true) t
theorem okT_nil : okT .nil := ⟨Nat.zero_le _, trivial⟩
theorem okT_putL {l : List Value} {i : Nat} {t : Tr Value} (h : okT t) (hl : i + l.length ≤ 4 ^ 29) (hv : ∀ v ∈ l, f3 v = true) : okT (Tr.putL l i t) :=
  ⟨by have h1 := dep_putL 29 l i t hl; have h2 := h.1; omega, all_putL l i t hv h.2⟩
theorem okT_ofL {l : List Value} (hl : l.length ≤ 4 ^ 29) (hv : ∀ v ∈ l, f3 v = true) : okT (Tr.ofL l) := okT_putL okT_nil (by omega) hv
theorem eqNO_refl (a : Option Nat) : eqNO a a = true := by cases a <;> simp [eqNO]
theorem eqOb_refl {c : Tr Value} {n : Nat} {z : ZT} {t r : Bool} (h : okT c) : eqOb (.cells c n z t r) (.cells c n z t r) = true := by
  have := eqTr_refl c 40 (by have := h.1; omega) h.2
  simp [eqOb, this, eqNO_refl]
  cases t <;> cases r <;> exact ⟨rfl, rfl⟩
def KR (cx : Cx) (d : TypeDesc) : TK → Prop
  | .int k => d = .int k
  | .str => d = .string
  | .bool => d = .bool
  | .sl e => d = .slice e
  | .strc fs => ∃ a, d = .struct a ∧ (∀ fd ∈ a.toList, ∃ fi, cx.ti fd.type = some fi) ∧ ∀ (f off sz : Nat) (ag : Bool), fs[f]? = some (off, sz, ag) → ∃ (fd : Field) (fi : TI), a.toList[f]? = some fd ∧ fd.offset = off ∧ cx.ti fd.type = some fi ∧ fi.size = sz ∧ isAggB fi.desc = ag
  | .oth => True
structure TIR (cx : Cx) (i : TI) (b : TB) : Prop where
  size : i.size = b.size
  bytes : i.bytes = b.bytes
  agg : isAggB i.desc = b.agg
  small : b.size ≤ 40
  pos : 0 < b.size
  zero : ∀ Φ g, Reps Φ g b.zero i.zero
  zl : b.zero.length = b.size
  zf : ∀ v ∈ i.zero, f1 v = true
  kind : KR cx i.desc b.kind
structure PvOk (cx : Cx) (tb : TypeId → Option TB) : Prop where
  tb : ∀ t b, tb t = some b → ∃ i, cx.ti t = some i ∧ TIR cx i b
  facts : cx.facts = []
  tabs : cx.tabs = []
  eqs : ∀ t, cx.eqs t = none
noncomputable def slotV (T : Tr Value) (t : Nat) : Value := match T.get t with | some v => v | none => undef
theorem slotV_put (T : Tr Value) (t : Nat) (v : Value) (s : Nat) : slotV (T.put t v) s = if s = t then v else slotV T s := by
  unfold slotV; rw [Tr.get_put]; by_cases h : s = t <;> simp [h]
structure RS (Φ : Fz) (g : Gh) (e : PEnv) (os : List PObj) (T : Tr Value) (H : Hp) : Prop where
  tm : ∀ t, Rep Φ g (e t) (slotV T t)
  hs : HS Φ g os H
theorem ofVal_f1 (Φ : Fz) (g : Gh) (k : Nat) {v : Value} (h : f1 v = true) : Rep Φ g (ofVal (k + 1) v) v := by
  have hu : Rep Φ g .und v := .und (f3_of_f2 (f2_of_f1 h))
  cases v with
  | bool b => exact .bool b
  | int k n => exact .int k n
  | string s => obtain ⟨⟨l⟩⟩ := s; exact .str l
  | pointer a => cases a with
    | none => exact .nilp
    | some a => exact hu
  | slice a l c => cases a with
    | some a => exact hu
    | none => cases l with
      | succ l => exact hu
      | zero => cases c with
        | zero => exact .nils
        | succ c => exact hu
  | nilFunc => exact .nilf
  | agg cs => simp [f1, f0] at h
  | _ => exact hu
theorem ofVal_f2 (Φ : Fz) (g : Gh) (k : Nat) {v : Value} (h : f2 v = true) : Rep Φ g (ofVal (k + 2) v) v := by
  unfold f2 at h
  cases h1 : f1 v with
  | true => exact ofVal_f1 Φ g (k + 1) h1
  | false =>
    rw [h1] at h
    simp only [Bool.false_or] at h
    split at h
    · rename_i l
      simp only [Bool.and_eq_true, List.all_eq_true, Nat.ble_eq] at h
      show Rep Φ g (.agg (l.toList.map (ofVal (k + 1)))) (.agg l)
      have := Reps.map (Φ := Φ) (g := g) (f := ofVal (k + 1)) (h := id) (l := l.toList) (fun x hx => ofVal_f1 Φ g k (h.2 x hx))
      rw [List.map_id] at this
      exact .agg (vs := l.toList) this h.2 h.1
    · cases h
variable {Φ : Fz} {g : Gh} {e : PEnv} {os : List PObj} {T : Tr Value} {H : Hp}
theorem opnd_rep (h : ∀ t, Rep Φ g (e t) (slotV T t)) {x : Operand} (hx : okP x = true) : Rep Φ g (evP e x) (evO T x) := by
  cases x with
  | tmp t => exact h t
  | const v => simp [okP] at hx; exact ofVal_f2 Φ g 2 hx.2
  | global n => simp [okP] at hx
  | func f => exact .fn f .nil .nil (fun _ h => by cases h) (fun _ h => by cases h) (Nat.zero_le _) (Nat.zero_le _)
theorem opnds_rep (h : ∀ t, Rep Φ g (e t) (slotV T t)) : ∀ {l : List Operand}, l.all okP = true → Reps Φ g (l.map (evP e)) (l.map (evO T))
  | [], _ => .nil
  | x :: l, hx => by
    simp only [List.all_cons, Bool.and_eq_true] at hx
    exact .cons (opnd_rep h hx.1) (opnds_rep h hx.2)
theorem cells_rep {p : V} {v : Value} {l : List V} (h : Rep Φ g p v) (e : cellsP p = some l) : ∃ vs, cellsL v = some vs ∧ Reps Φ g l vs ∧ (∀ x ∈ vs, f1 x = true) ∧ vs.length ≤ 40 := by
  cases h with
  | und h => cases e
  | tup h1 h2 h3 => cases e
  | st h1 h2 h3 => cases e; exact ⟨_, rfl, h1, h2, h3⟩
  | agg h1 h2 h3 => cases e; exact ⟨_, rfl, h1, h2, h3⟩
  | fn f h1 h2 h3 h4 h5 h6 =>
    cases e
    exact ⟨_, rfl, .cons (.fn f h1 h2 h3 h4 h5 h6) .nil, by simp [f1, List.all_eq_true]; exact .inr ⟨⟨⟨h5, h3⟩, h6⟩, h4⟩, by simp⟩
  | slb h1 h2 h3 h4 h5 => cases e; exact ⟨_, rfl, .cons (.slb h1 h2 h3 h4 h5) .nil, by simp [f1, f0, okA], by simp⟩
  | fad o h1 h2 h3 h4 => cases e; exact ⟨_, rfl, .cons (.fad o h1 h2 h3 h4) .nil, by simp [f1, f0, okA], by simp⟩
  | bool b => cases e; exact ⟨_, rfl, .cons (.bool b) .nil, by simp [f1, f0], by simp⟩
  | int k n => cases e; exact ⟨_, rfl, .cons (.int k n) .nil, by simp [f1, f0], by simp⟩
  | str k => cases e; exact ⟨_, rfl, .cons (.str k) .nil, by simp [f1, f0], by simp⟩
  | nilp => cases e; exact ⟨_, rfl, .cons .nilp .nil, by simp [f1, f0, okA], by simp⟩
  | ptr o h => cases e; exact ⟨_, rfl, .cons (.ptr o h) .nil, by simp [f1, f0, okA], by simp⟩
  | nils => cases e; exact ⟨_, rfl, .cons .nils .nil, by simp [f1, f0, okA], by simp⟩
  | sln c => cases e; exact ⟨_, rfl, .cons (.sln c) .nil, by simp [f1, f0, okA], by simp⟩
  | loc0 h k => cases e; exact ⟨_, rfl, .cons (.loc0 h k) .nil, by simp [f1, f0, okA], by simp⟩
  | loc h k => cases e; exact ⟨_, rfl, .cons (.loc h k) .nil, by simp [f1, f0, okA], by simp⟩
  | elt o h k => cases e; exact ⟨_, rfl, .cons (.elt o h k) .nil, by simp [f1, f0, okA], by simp⟩
  | nilf => cases e; exact ⟨_, rfl, .cons .nilf .nil, by simp [f1, f0], by simp⟩
def Gh.push (g : Gh) (b c l s : Nat) (v : Bool) : Gh := ⟨g.n + 1, fun o => if o = g.n then b else g.blk o, fun o => if o = g.n then c else g.cap o, fun o => if o = g.n then l else g.len o, fun o => if o = g.n then s else g.es o, fun o => if o = g.n then v else g.vir o⟩
theorem Gh.push_le (g : Gh) (b c l s : Nat) (v : Bool) : GLe g (g.push b c l s v) :=
  ⟨Nat.le_succ _, fun o h => if_neg (by omega), fun o h => if_neg (by omega), fun o h => if_neg (by omega), fun o h => if_neg (by omega), fun o h => if_neg (by omega)⟩
theorem ArrC.mono {Φ' : Fz} {g' : Gh} (hf : FLe Φ Φ') (hg : GLe g g') {c : Tr Value} {off k : Nat} {l : List (Dat.S k)} (h : ArrC Φ g c off k l) : ArrC Φ' g' c off k l := fun i x hx => by
  obtain ⟨vs, h1, h2⟩ := h i x hx
  exact ⟨vs, h1.mono hf hg, h2⟩
theorem ObjR.keep {Φ' : Fz} {g' : Gh} {H' : Hp} (hf : FLe Φ Φ') (hg : GLe g g') (hn : H.n ≤ H'.n) {o : Nat} (ho : o < g.n) {x : PObj}
    (hfr : Lv g o x → H'.b.get (g.blk o) = H.b.get (g.blk o) ∧ Φ' (g.blk o) = none) (h : ObjR Φ g H o x) : ObjR Φ' g' H' o x := by
  cases x with
  | cells l =>
    obtain ⟨hv, h1, h2, c, n, z, t, h3, h4, h5⟩ := h
    obtain ⟨k1, k2⟩ := hfr ⟨trivial, hv⟩
    unfold ObjR
    rw [hg.blk o ho, hg.vir o ho]
    refine ⟨hv, Nat.lt_of_lt_of_le h1 hn, k2, c, n, z, t, k1.trans h3, h4, fun j p hp => ?_⟩
    obtain ⟨v, e1, e2, e3⟩ := h5 j p hp
    exact ⟨v, e1, e2.mono hf hg, e3⟩
  | arr k l =>
    obtain ⟨a1, a2, h⟩ := h
    unfold ObjR
    rw [hg.blk o ho, hg.len o ho, hg.es o ho, hg.cap o ho, hg.vir o ho]
    refine ⟨a1, a2, ?_⟩
    rcases h with h | ⟨hv, h1, h2, a3, c, n, z, t, h3, h4, h5, h6⟩
    · exact .inl h
    · obtain ⟨k1, k2⟩ := hfr ⟨trivial, hv⟩
      exact .inr ⟨hv, Nat.lt_of_lt_of_le h1 hn, k2, a3, c, n, z, t, k1.trans h3, h4, h5, h6.mono hf hg⟩
  | frz k l =>
    obtain ⟨a1, a2, h⟩ := h
    unfold ObjR
    rw [hg.blk o ho, hg.len o ho, hg.es o ho, hg.cap o ho, hg.vir o ho]
    refine ⟨a1, a2, ?_⟩
    rcases h with h | ⟨hv, a3, c, n, z, t, r, h3, h4, h5⟩
    · exact .inl h
    · exact .inr ⟨hv, a3, c, n, z, t, r, hf _ _ h3, h4, h5.mono hf hg⟩
  | dead => trivial
theorem HS.lt (h : HS Φ g os H) {o : Nat} {x : PObj} (hx : os[o]? = some x) : o < g.n := by
  rw [h.n]; exact (List.getElem?_eq_some_iff.1 hx).1
theorem ObjR.blk_lt {o : Nat} {x : PObj} (h : ObjR Φ g H o x) (hl : Lv g o x) : g.blk o < H.n ∧ Φ (g.blk o) = none := by
  obtain ⟨hl, hv⟩ := hl
  cases x with
  | cells l => exact ⟨h.2.1, h.2.2.1⟩
  | arr k l =>
    obtain ⟨_, _, h | h⟩ := h
    · rw [hv] at h; cases h.1
    · exact ⟨h.2.1, h.2.2.1⟩
  | _ => exact hl.elim
theorem app_cases {os : List PObj} {x y : PObj} {o : Nat} (hy : (os ++ [x])[o]? = some y) : (os[o]? = some y ∧ o < os.length) ∨ (o = os.length ∧ y = x) := by
  by_cases ho : o < os.length
  · rw [List.getElem?_append_left ho] at hy; exact .inl ⟨hy, ho⟩
  · rw [List.getElem?_append_right (by omega)] at hy
    have : o - os.length = 0 := by
      have := (List.getElem?_eq_some_iff.1 hy).1
      simp at this; omega
    rw [this] at hy
    exact .inr ⟨by omega, by simpa using hy.symm⟩
theorem HS.new (h : HS Φ g os H) {x : PObj} (bk cp ln es : Nat) (vr : Bool) {H' : Hp} (hn : H.n ≤ H'.n) (hH : ∀ b, b < H.n → H'.b.get b = H.b.get b) (hbk : vr = false → H.n ≤ bk)
    (hob : ObjR Φ (g.push bk cp ln es vr) H' g.n x) :
    HS Φ (g.push bk cp ln es vr) (os ++ [x]) H' ∧ Nx Φ g os H Φ (g.push bk cp ln es vr) (os ++ [x]) H' [] := by
  have hle := g.push_le bk cp ln es vr
  have hcase : ∀ o y, (os ++ [x])[o]? = some y → (os[o]? = some y ∧ o < g.n) ∨ (o = g.n ∧ y = x) := fun o y hy => by rw [h.n]; exact app_cases hy
  have hbn : (g.push bk cp ln es vr).blk g.n = bk := if_pos rfl
  have hvn : (g.push bk cp ln es vr).vir g.n = vr := if_pos rfl
  have hlv : ∀ {o y}, o < g.n → Lv (g.push bk cp ln es vr) o y → Lv g o y := fun ho hl => ⟨hl.1, (hle.vir _ ho).symm.trans hl.2⟩
  refine ⟨⟨by simp [Gh.push, h.n], fun o y hy => ?_, fun o p y z hy hz ly lz hb => ?_, fun b y hb => ?_⟩, ⟨FLe.refl _, hle, hn, fun b hb _ => hH b hb, fun o y hy ly => ?_, fun o l ho => ?_, (fun o ho => by cases ho), fun o y ho hd _ => ⟨y, by rw [List.getElem?_append_left (List.getElem?_eq_some_iff.1 ho).1]; exact ho, hd⟩, fun _ _ h => .inl h⟩⟩
  · rcases hcase o y hy with ⟨h1, h2⟩ | ⟨rfl, rfl⟩
    · exact (h.ob o y h1).keep (FLe.refl _) hle hn h2 (fun hl => ⟨hH _ ((h.ob o y h1).blk_lt hl).1, ((h.ob o y h1).blk_lt hl).2⟩)
    · exact hob
  · rcases hcase o y hy with ⟨h1, h2⟩ | ⟨rfl, rfl⟩ <;> rcases hcase p z hz with ⟨k1, k2⟩ | ⟨rfl, rfl⟩
    · rw [hle.blk o h2, hle.blk p k2] at hb; exact h.inj o p y z h1 k1 (hlv h2 ly) (hlv k2 lz) hb
    · rw [hle.blk o h2, hbn] at hb; have := ((h.ob o y h1).blk_lt (hlv h2 ly)).1; have := hbk (hvn.symm.trans lz.2); omega
    · rw [hle.blk p k2, hbn] at hb; have := ((h.ob p z k1).blk_lt (hlv k2 lz)).1; have := hbk (hvn.symm.trans ly.2); omega
    · rfl
  · obtain ⟨h1, h2⟩ := h.phi b y hb
    exact ⟨Nat.lt_of_lt_of_le h1 hn, (hH b h1).trans h2⟩
  · rcases hcase o y hy with ⟨h1, h2⟩ | ⟨rfl, rfl⟩
    · exact .inl ⟨o, y, h1, hlv h2 ly, (hle.blk o h2).symm⟩
    · rw [hbn]; exact .inr (hbk (hvn.symm.trans ly.2))
  · exact ⟨l, by rw [List.getElem?_append_left (List.getElem?_eq_some_iff.1 ho).1]; exact ho⟩
theorem HS.phi_new (h : HS Φ g os H) {b : Nat} (hb : H.n ≤ b) : Φ b = none := by
  cases hx : Φ b with
  | none => rfl
  | some x => have := (h.phi _ _ hx).1; omega
theorem HS.newCells (h : HS Φ g os H) {l : List V} {vs : List Value} (hr : Reps Φ g l vs) (hf : ∀ v ∈ vs, f1 v = true) (z : ZT) (t : Bool) :
    HS Φ (g.push H.n 0 0 0 false) (os ++ [.cells l]) ⟨Nat.succ H.n, H.b.put H.n (.cells (Tr.ofL vs) vs.length z t false)⟩ ∧ Nx Φ g os H Φ (g.push H.n 0 0 0 false) (os ++ [.cells l]) ⟨Nat.succ H.n, H.b.put H.n (.cells (Tr.ofL vs) vs.length z t false)⟩ [] := by
  refine h.new H.n 0 0 0 false (Nat.le_succ _) (fun b hb => Tr.get_put_ne _ _ (by omega)) (fun _ => Nat.le_refl _) ?_
  have hle := g.push_le H.n 0 0 0 false
  have hb : (g.push H.n 0 0 0 false).blk g.n = H.n := if_pos rfl
  refine ⟨if_pos rfl, by rw [hb]; exact Nat.lt_succ_self _, by rw [hb]; exact h.phi_new (Nat.le_refl _), Tr.ofL vs, vs.length, z, t, by rw [hb]; exact Tr.get_put_eq _ _ _, hr.length, fun j p hp => ?_⟩
  obtain ⟨v, h1, h2⟩ := hr.get hp
  exact ⟨v, by rw [Tr.get_ofL]; exact h1, h2.mono (FLe.refl _) hle, hf v (List.mem_of_getElem? h1)⟩
end Go.Pv
namespace Go.Pv
open Go Go.EvM
set_option linter.unusedVariables false
set_option linter.unusedSectionVars false
variable [Dat] {Φ : Fz} {g : Gh} {e : PEnv} {os : List PObj} {T : Tr Value} {H : Hp}
theorem HS.setO (h : HS Φ g os H) {a : Nat} {x x' : PObj} (hx : os[a]? = some x) (hl : Lv g a x) {Φ' : Fz} {H' : Hp} (hn : H'.n = H.n) (hΦ : FLe Φ Φ') (hΦ2 : ∀ b, b ≠ g.blk a → Φ' b = Φ b)
    (hH : ∀ b, b ≠ g.blk a → H'.b.get b = H.b.get b) (hΦa : ∀ y, Φ' (g.blk a) = some y → H'.b.get (g.blk a) = some y) (hob : ObjR Φ' g H' a x') (hxd : x' ≠ .dead) (hk : ∀ l, x = .cells l → ∃ l', x' = .cells l')
    (t : List Nat) (ht : ∀ b, (∀ o ∈ t, g.vir o = false → g.blk o ≠ b) → H'.b.get b = H.b.get b) (htl : ∀ o ∈ t, ∃ y : PObj, os[o]? = some y ∧ (g.vir o = false → y.live)) :
    HS Φ' g (os.set a x') H' ∧ Nx Φ g os H Φ' g (os.set a x') H' t := by
  have hal : a < os.length := (List.getElem?_eq_some_iff.1 hx).1
  have hcase : ∀ o y, (os.set a x')[o]? = some y → (o = a ∧ y = x') ∨ (o ≠ a ∧ os[o]? = some y) := fun o y hy => by
    rw [List.getElem?_set] at hy
    split at hy
    · rename_i hao
      subst hao
      exact .inl ⟨rfl, by simpa using hy.symm⟩
    · rename_i hao
      exact .inr ⟨fun e => hao e.symm, hy⟩
  have hne : ∀ o y, o ≠ a → os[o]? = some y → Lv g o y → g.blk o ≠ g.blk a := fun o y ho hy ly hb => ho (h.inj o a y x hy hx ly hl hb)
  refine ⟨⟨by rw [List.length_set]; exact h.n, fun o y hy => ?_, fun o p y z hy hz ly lz hb => ?_, fun b y hb => ?_⟩, ⟨hΦ, GLe.refl _, Nat.le_of_eq hn.symm, fun b _ hb => ht b hb, fun o y hy ly => ?_, fun o l ho => ?_, htl, fun o y ho hd _ => ?_, fun b y hb => ?_⟩⟩
  · rcases hcase o y hy with ⟨rfl, rfl⟩ | ⟨h1, h2⟩
    · exact hob
    · refine (h.ob o y h2).keep hΦ (GLe.refl _) (Nat.le_of_eq hn.symm) (h.lt h2) (fun ly => ⟨hH _ (hne o y h1 h2 ly), ?_⟩)
      rw [hΦ2 _ (hne o y h1 h2 ly)]; exact ((h.ob o y h2).blk_lt ly).2
  · rcases hcase o y hy with ⟨rfl, rfl⟩ | ⟨h1, h2⟩ <;> rcases hcase p z hz with ⟨rfl, rfl⟩ | ⟨k1, k2⟩
    · rfl
    · exact absurd hb.symm (hne p z k1 k2 lz)
    · exact absurd hb (hne o y h1 h2 ly)
    · exact h.inj o p y z h2 k2 ly lz hb
  · by_cases hba : b = g.blk a
    · subst hba
      exact ⟨by rw [hn]; exact ((h.ob a x hx).blk_lt hl).1, hΦa y hb⟩
    · rw [hΦ2 b hba] at hb
      obtain ⟨h1, h2⟩ := h.phi b y hb
      exact ⟨by rw [hn]; exact h1, (hH b hba).trans h2⟩
  · rcases hcase o y hy with ⟨rfl, rfl⟩ | ⟨h1, h2⟩
    · exact .inl ⟨o, x, hx, hl, rfl⟩
    · exact .inl ⟨o, y, h2, ly, rfl⟩
  · by_cases hoa : o = a
    · subst hoa
      rw [hx] at ho
      obtain ⟨l', hl'⟩ := hk l (by simpa using ho)
      exact ⟨l', by rw [List.getElem?_set_self hal, hl']⟩
    · exact ⟨l, by rw [List.getElem?_set_ne (fun e => hoa e.symm)]; exact ho⟩
  · by_cases hoa : o = a
    · subst hoa
      exact ⟨x', List.getElem?_set_self hal, hxd⟩
    · exact ⟨y, by rw [List.getElem?_set_ne (fun e => hoa e.symm)]; exact ho, hd⟩
  · by_cases hba : b = g.blk a
    · exact .inr (.inr ⟨a, x, hx, hl, hba.symm⟩)
    · rw [hΦ2 b hba] at hb; exact .inl hb
theorem HS.setV (h : HS Φ g os H) {a : Nat} {x x' : PObj} (hx : os[a]? = some x) (hv : g.vir a = true) (hnc : ∀ l, x ≠ .cells l) (hxd : x' ≠ .dead) (hob : ObjR Φ g H a x') : HS Φ g (os.set a x') H ∧ Nx Φ g os H Φ g (os.set a x') H [] := by
  have hal : a < os.length := (List.getElem?_eq_some_iff.1 hx).1
  have hcase : ∀ o y, (os.set a x')[o]? = some y → (o = a ∧ y = x') ∨ (o ≠ a ∧ os[o]? = some y) := fun o y hy => by
    rw [List.getElem?_set] at hy
    split at hy
    · rename_i hao
      subst hao
      exact .inl ⟨rfl, by simpa using hy.symm⟩
    · rename_i hao
      exact .inr ⟨fun e => hao e.symm, hy⟩
  have nolv : ∀ y, ¬ Lv g a y := fun y l => by have := l.2; rw [hv] at this; cases this
  refine ⟨⟨by rw [List.length_set]; exact h.n, fun o y hy => ?_, fun o p y z hy hz ly lz hb => ?_, h.phi⟩, ⟨FLe.refl _, GLe.refl _, Nat.le_refl _, fun _ _ _ => rfl, fun o y hy ly => ?_, fun o l ho => ?_, (fun o ho => by cases ho), fun o y ho hd _ => ?_, fun _ _ h => .inl h⟩⟩
  · rcases hcase o y hy with ⟨rfl, rfl⟩ | ⟨h1, h2⟩
    · exact hob
    · exact h.ob o y h2
  · rcases hcase o y hy with ⟨rfl, rfl⟩ | ⟨h1, h2⟩ <;> rcases hcase p z hz with ⟨rfl, rfl⟩ | ⟨k1, k2⟩
    · rfl
    · exact absurd ly (nolv _)
    · exact absurd lz (nolv _)
    · exact h.inj o p y z h2 k2 ly lz hb
  · rcases hcase o y hy with ⟨rfl, rfl⟩ | ⟨h1, h2⟩
    · exact absurd ly (nolv _)
    · exact .inl ⟨o, y, h2, ly, rfl⟩
  · have hoa : o ≠ a := fun e => by subst e; rw [hx] at ho; exact hnc l (by simpa using ho)
    exact ⟨l, by rw [List.getElem?_set_ne (fun e => hoa e.symm)]; exact ho⟩
  · by_cases hoa : o = a
    · subst hoa
      exact ⟨x', List.getElem?_set_self hal, hxd⟩
    · exact ⟨y, by rw [List.getElem?_set_ne (fun e => hoa e.symm)]; exact ho, hd⟩
theorem HS.app (h : HS Φ g os H) {a : Nat} {x y : PObj} (hx : os[a]? = some x) (hl : x.live) (hnc : ∀ l, x ≠ .cells l) {bk cp ln es : Nat} {vr : Bool} {H' : Hp} (hbk : vr = false → (g.vir a = false ∧ bk = g.blk a) ∨ H.n ≤ bk)
    (hn : H.n ≤ H'.n) (hH : ∀ b, b < H.n → (g.vir a = false → b ≠ g.blk a) → H'.b.get b = H.b.get b) (hob : ObjR Φ (g.push bk cp ln es vr) H' g.n y) :
    HS Φ (g.push bk cp ln es vr) (os.set a .dead ++ [y]) H' ∧ Nx Φ g os H Φ (g.push bk cp ln es vr) (os.set a .dead ++ [y]) H' [a] := by
  have hal : a < os.length := (List.getElem?_eq_some_iff.1 hx).1
  have hle := g.push_le bk cp ln es vr
  have hbg : (g.push bk cp ln es vr).blk g.n = bk := if_pos rfl
  have hvg : (g.push bk cp ln es vr).vir g.n = vr := if_pos rfl
  have hlv : ∀ {o y}, o < g.n → Lv (g.push bk cp ln es vr) o y → Lv g o y := fun ho hl => ⟨hl.1, (hle.vir _ ho).symm.trans hl.2⟩
  have hcase : ∀ o z, (os.set a .dead ++ [y])[o]? = some z → (o = a ∧ z = .dead) ∨ (o ≠ a ∧ o < g.n ∧ os[o]? = some z) ∨ (o = g.n ∧ z = y) := fun o z hz => by
    rw [h.n]
    rcases app_cases hz with ⟨hz2, ho⟩ | ⟨h1, h2⟩
    · rw [List.length_set] at ho
      rw [List.getElem?_set] at hz2
      split at hz2
      · rename_i hao
        subst hao
        exact .inl ⟨rfl, by simpa using hz2.symm⟩
      · rename_i hao
        exact .inr (.inl ⟨fun e => hao e.symm, ho, hz2⟩)
    · exact .inr (.inr ⟨by rw [List.length_set] at h1; exact h1, h2⟩)
  have hne : ∀ o z, o ≠ a → os[o]? = some z → Lv g o z → g.vir a = false → g.blk o ≠ g.blk a := fun o z ho hz lz hv hb => ho (h.inj o a z x hz hx lz ⟨hl, hv⟩ hb)
  have hneb : ∀ o z, o ≠ a → os[o]? = some z → Lv g o z → vr = false → g.blk o ≠ bk := fun o z ho hz lz hvr hb => by
    rcases hbk hvr with ⟨hv, rfl⟩ | hbk
    · exact hne o z ho hz lz hv hb
    · have := ((h.ob o z hz).blk_lt lz).1; omega
  refine ⟨⟨by simp [Gh.push, h.n], fun o z hz => ?_, fun o p z u hz hu lz lu hb => ?_, fun b z hb => ?_⟩, ⟨FLe.refl _, hle, hn, fun b hb hba => hH b hb (fun hv e => hba a (by simp) hv e.symm), fun o z hz lz => ?_, fun o l ho => ?_, fun o ho => ?_, fun o z ho hd hot => ⟨z, by rw [List.getElem?_append_left (by rw [List.length_set]; exact (List.getElem?_eq_some_iff.1 ho).1), List.getElem?_set_ne (fun e => hot (by simp [e]))]; exact ho, hd⟩, fun _ _ h => .inl h⟩⟩
  · rcases hcase o z hz with ⟨rfl, rfl⟩ | ⟨h1, h2, h3⟩ | ⟨rfl, rfl⟩
    · trivial
    · exact (h.ob o z h3).keep (FLe.refl _) hle hn h2 (fun lz => ⟨hH _ ((h.ob o z h3).blk_lt lz).1 (fun hv => hne o z h1 h3 lz hv), ((h.ob o z h3).blk_lt lz).2⟩)
    · exact hob
  · rcases hcase o z hz with ⟨rfl, rfl⟩ | ⟨h1, h2, h3⟩ | ⟨rfl, rfl⟩ <;> rcases hcase p u hu with ⟨rfl, rfl⟩ | ⟨k1, k2, k3⟩ | ⟨rfl, rfl⟩
    all_goals first
      | exact lz.1.elim
      | exact lu.1.elim
      | rfl
      | skip
    · rw [hle.blk o h2, hle.blk p k2] at hb; exact h.inj o p z u h3 k3 (hlv h2 lz) (hlv k2 lu) hb
    · rw [hle.blk o h2, hbg] at hb; exact absurd hb (hneb o z h1 h3 (hlv h2 lz) (hvg.symm.trans lu.2))
    · rw [hle.blk p k2, hbg] at hb; exact absurd hb.symm (hneb p u k1 k3 (hlv k2 lu) (hvg.symm.trans lz.2))
  · obtain ⟨h1, h2⟩ := h.phi b z hb
    refine ⟨Nat.lt_of_lt_of_le h1 hn, (hH b h1 fun hv e => ?_).trans h2⟩
    have := ((h.ob a x hx).blk_lt ⟨hl, hv⟩).2
    rw [← e, hb] at this; cases this
  · rcases hcase o z hz with ⟨rfl, rfl⟩ | ⟨h1, h2, h3⟩ | ⟨rfl, rfl⟩
    · exact lz.1.elim
    · exact .inl ⟨o, z, h3, hlv h2 lz, (hle.blk o h2).symm⟩
    · rw [hbg]
      rcases hbk (hvg.symm.trans lz.2) with ⟨hv, rfl⟩ | hbk
      · exact .inl ⟨a, x, hx, ⟨hl, hv⟩, rfl⟩
      · exact .inr hbk
  · refine ⟨l, ?_⟩
    have hol := (List.getElem?_eq_some_iff.1 ho).1
    have hoa : o ≠ a := fun e => by subst e; rw [hx] at ho; exact hnc l (by simpa using ho)
    rw [List.getElem?_append_left (by rw [List.length_set]; exact hol), List.getElem?_set_ne (fun e => hoa e.symm)]
    exact ho
  · simp at ho; subst ho; exact ⟨x, hx, fun _ => hl⟩
theorem Nx.nil_trans {Φ1 Φ2 : Fz} {g2 : Gh} {os1 os2 : List PObj} {H2 : Hp} {t : List Nat} (h : Nx Φ g os H Φ1 g os1 H []) (k : Nx Φ1 g os1 H Φ2 g2 os2 H2 t) (ht : ∀ o ∈ t, ∃ y : PObj, os[o]? = some y ∧ (g.vir o = false → y.live)) : Nx Φ g os H Φ2 g2 os2 H2 t := by
  have w := h.weak.trans k.weak
  exact ⟨w.phi, w.gle, w.n, k.fr, w.lv, w.kp, ht, fun o x hx hd hot => by obtain ⟨y, y1, y2⟩ := h.nd o x hx hd (by simp); exact k.nd o y y1 y2 hot, w.pf⟩
theorem Nx.trans_nil {Φ1 Φ2 : Fz} {g1 g2 : Gh} {os1 os2 : List PObj} {H1 H2 : Hp} {t : List Nat} (h : Nx Φ g os H Φ1 g1 os1 H1 t) (k : Nx Φ1 g1 os1 H1 Φ2 g2 os2 H2 []) : Nx Φ g os H Φ2 g2 os2 H2 t := by
  have w := h.weak.trans k.weak
  exact ⟨w.phi, w.gle, w.n, fun b hb ho => (k.fr b (Nat.lt_of_lt_of_le hb h.n) (fun o h => by cases h)).trans (h.fr b hb ho), w.lv, w.kp, h.tl, fun o x hx hd hot => by obtain ⟨y, y1, y2⟩ := h.nd o x hx hd hot; exact k.nd o y y1 y2 (by simp), w.pf⟩
theorem arr_slb {c : Nat} {l : List (Dat.S c)} {b off cap : Nat} {cs : Tr Value} {n : Nat} {z : ZT} {t r : Bool} (h1 : Φ b = some (.cells cs n z t r)) (h2 : (t || Nat.beq z.z (Dat.sz c)) = true) (h3 : l.length ≤ cap) (h4 : ArrC Φ g cs off c l) :
    Rep Φ g (.sl c l) (.slice (some ⟨b, off, none⟩) l.length cap) := by
  have h : ∀ i, ∃ vs : List Value, ∀ x, l[i]? = some x → Reps Φ g (Dat.fld c x) vs ∧ ∀ j v, vs[j]? = some v → cs.get (off + i * Dat.sz c + j) = some v ∧ f1 v = true := fun i => by
    cases hx : l[i]? with
    | none => exact ⟨[], fun x e => by cases e⟩
    | some x => obtain ⟨vs, k1, k2⟩ := h4 i x hx; exact ⟨vs, fun y e => by cases e; exact ⟨k1, k2⟩⟩
  exact .slb (vs := fun i => (h i).choose) h1 h2 h3 (fun i x hx => ((h i).choose_spec x hx).1) (fun i x hx => ((h i).choose_spec x hx).2)
theorem frz1_sim (h : HS Φ g os H) {p p' : V} {v : Value} {os' : List PObj} (hr : Rep Φ g p v) (e : frz1 os p = (p', os')) : ∃ Φ', HS Φ' g os' H ∧ Rep Φ' g p' v ∧ Nx Φ g os H Φ' g os' H [] := by
  have hsame : ∀ {q : V}, (q, os) = (p', os') → Rep Φ g q v → ∃ Φ', HS Φ' g os' H ∧ Rep Φ' g p' v ∧ Nx Φ g os H Φ' g os' H [] := fun {q} e hq => by
    cases e; exact ⟨Φ, h, hq, Nx.refl _ _ _ _⟩
  cases hr with
  | loc0 ha hv =>
    rename_i a
    unfold frz1 at e
    dsimp only at e
    split at e
    · rename_i c l hx
      cases e
      have hx := nth_some hx
      obtain ⟨a1, a2, h1⟩ := h.ob a _ hx
      rcases h1 with ⟨_, rfl⟩ | ⟨h1, _⟩
      · obtain ⟨k1, k2⟩ := h.setV (x' := .frz c []) hx hv (fun l e => by cases e) (fun e => by cases e) ⟨a1, a2, .inl ⟨hv, rfl⟩⟩
        exact ⟨Φ, k1, .sln c, k2⟩
      · rw [hv] at h1; cases h1
    · rename_i c l hx
      cases e
      have hx := nth_some hx
      obtain ⟨a1, a2, h1⟩ := h.ob a _ hx
      rcases h1 with ⟨_, rfl⟩ | ⟨h1, _⟩
      · exact ⟨Φ, h, .sln c, Nx.refl _ _ _ _⟩
      · rw [hv] at h1; cases h1
    · exact hsame e (.und rfl)
  | loc ha hv =>
    rename_i a
    unfold frz1 at e
    dsimp only at e
    split at e
    · rename_i c l hx
      cases e
      have hx := nth_some hx
      obtain ⟨a1, a2, h1⟩ := h.ob a _ hx
      rcases h1 with ⟨h1, _⟩ | ⟨_, h1, h2, a3, cs, n, z, t, h3, h4, h5, h6⟩
      · rw [hv] at h1; cases h1
      · have hf : FLe Φ (fun b => if b = g.blk a then some (.cells cs n z t false) else Φ b) := fun b y hb => by
          have : b ≠ g.blk a := fun e => by rw [e, h2] at hb; cases hb
          exact (if_neg this).trans hb
        obtain ⟨k1, k2⟩ := h.setO (x' := .frz c l) hx ⟨trivial, hv⟩ (H' := H) rfl hf (fun b hb => if_neg hb) (fun _ _ => rfl) (fun y hy => by have hy := (if_pos rfl : (if g.blk a = g.blk a then some (Ob.cells cs n z t false) else Φ (g.blk a)) = _).symm.trans hy; cases hy; exact h3)
          ⟨a1, a2, .inr ⟨hv, a3, cs, n, z, t, false, if_pos rfl, h4, h6.mono hf (GLe.refl _)⟩⟩ (fun e => by cases e) (fun l e => by cases e) [] (fun _ _ => rfl) (fun _ h => by cases h)
        refine ⟨_, k1, ?_, k2⟩
        rw [a1]
        exact arr_slb (if_pos rfl) h4 a3 (h6.mono hf (GLe.refl _))
    · rename_i c l hx
      cases e
      have hx := nth_some hx
      obtain ⟨a1, a2, h1⟩ := h.ob a _ hx
      rcases h1 with ⟨h1, _⟩ | ⟨_, a3, cs, n, z, t, r, h3, h4, h5⟩
      · rw [hv] at h1; cases h1
      · refine ⟨Φ, h, ?_, Nx.refl _ _ _ _⟩
        rw [a1]
        exact arr_slb h3 h4 a3 h5
    · exact hsame e (.und (Rep.f3 (Φ := Φ) (.loc ha hv)))
  | und h1 => exact hsame e (.und h1)
  | bool b => exact hsame e (.bool b)
  | int k n => exact hsame e (.int k n)
  | str l => exact hsame e (.str l)
  | nilp => exact hsame e .nilp
  | ptr o h1 => exact hsame e (.ptr o h1)
  | fad o h1 h2 h3 h4 => exact hsame e (.fad o h1 h2 h3 h4)
  | nils => exact hsame e .nils
  | sln c => exact hsame e (.sln c)
  | slb h1 h2 h3 h4 h5 => exact hsame e (.slb h1 h2 h3 h4 h5)
  | elt o h1 h2 => exact hsame e (.elt o h1 h2)
  | st h1 h2 h3 => exact hsame e (.st h1 h2 h3)
  | agg h1 h2 h3 => exact hsame e (.agg h1 h2 h3)
  | tup h1 h2 h3 => exact hsame e (.tup h1 h2 h3)
  | fn f h1 h2 h3 h4 h5 h6 => exact hsame e (.fn f h1 h2 h3 h4 h5 h6)
  | nilf => exact hsame e .nilf
theorem frzL_sim : ∀ {l l' : List V} {vs : List Value} {os os' : List PObj} {Φ : Fz}, HS Φ g os H → Reps Φ g l vs → frzL l os = (l', os') → ∃ Φ', HS Φ' g os' H ∧ Reps Φ' g l' vs ∧ Nx Φ g os H Φ' g os' H []
  | [], _, _, os, _, Φ, h, .nil, e => by cases e; exact ⟨Φ, h, .nil, Nx.refl _ _ _ _⟩
  | p :: l, _, _, os, _, Φ, h, .cons hp hl, e => by
    unfold frzL at e
    generalize he : frz1 os p = q at e
    obtain ⟨p', os1⟩ := q
    obtain ⟨Φ1, h1, h2, h3⟩ := frz1_sim h hp he
    dsimp only at e
    generalize he2 : frzL l os1 = q2 at e
    obtain ⟨l', os2⟩ := q2
    obtain ⟨Φ2, k1, k2, k3⟩ := frzL_sim h1 (hl.mono h3.phi h3.gle) he2
    cases e
    exact ⟨Φ2, k1, .cons (h2.mono k3.phi k3.gle) k2, h3.nil_trans k3 (fun _ h => by cases h)⟩
theorem frzV_sim (h : HS Φ g os H) {p p' : V} {v : Value} {os' : List PObj} (hr : Rep Φ g p v) (e : frzV os p = (p', os')) : ∃ Φ', HS Φ' g os' H ∧ Rep Φ' g p' v ∧ Nx Φ g os H Φ' g os' H [] := by
  unfold frzV at e
  split at e
  · rename_i l
    generalize he : frzL l os = q at e
    obtain ⟨l', os1⟩ := q
    cases e
    cases hr with
    | agg h1 h2 h3 =>
      obtain ⟨Φ1, k1, k2, k3⟩ := frzL_sim h h1 he
      exact ⟨Φ1, k1, .agg k2 h2 h3, k3⟩
  · rename_i l
    generalize he : frzL l os = q at e
    obtain ⟨l', os1⟩ := q
    cases e
    cases hr with
    | tup h1 h2 h3 =>
      obtain ⟨Φ1, k1, k2, k3⟩ := frzL_sim h h1 he
      exact ⟨Φ1, k1, .tup k2 h2 h3, k3⟩
  · exact frz1_sim h hr e
theorem frzVL_sim : ∀ {l l' : List V} {vs : List Value} {os os' : List PObj} {Φ : Fz}, HS Φ g os H → Reps Φ g l vs → frzVL l os = (l', os') → ∃ Φ', HS Φ' g os' H ∧ Reps Φ' g l' vs ∧ Nx Φ g os H Φ' g os' H []
  | [], _, _, os, _, Φ, h, .nil, e => by cases e; exact ⟨Φ, h, .nil, Nx.refl _ _ _ _⟩
  | p :: l, _, _, os, _, Φ, h, .cons hp hl, e => by
    unfold frzVL at e
    generalize he : frzV os p = q at e
    obtain ⟨p', os1⟩ := q
    obtain ⟨Φ1, h1, h2, h3⟩ := frzV_sim h hp he
    dsimp only at e
    generalize he2 : frzVL l os1 = q2 at e
    obtain ⟨l', os2⟩ := q2
    obtain ⟨Φ2, k1, k2, k3⟩ := frzVL_sim h1 (hl.mono h3.phi h3.gle) he2
    cases e
    exact ⟨Φ2, k1, .cons (h2.mono k3.phi k3.gle) k2, h3.nil_trans k3 (fun _ h => by cases h)⟩
theorem mkE_rep {c : Nat} {p : V} {v : Value} {x : Dat.S c} (hr : Rep Φ g p v) (e : mkE c p = some x) : ∃ vs, cellsL v = some vs ∧ Reps Φ g (Dat.fld c x) vs ∧ (∀ u ∈ vs, f1 u = true) ∧ vs.length ≤ 40 := by
  unfold mkE at e
  split at e
  · rename_i d y
    cases hr with
    | st h1 h2 h3 =>
      split at e
      · rename_i hdc
        subst hdc
        cases e
        exact ⟨_, rfl, h1, h2, h3⟩
      · exact ⟨_, rfl, h1.likes (Dat.mkOk _ _ _ e), h2, h3⟩
  · split at e
    · rename_i l hc
      obtain ⟨vs, h1, h2, h3, h4⟩ := cells_rep hr hc
      exact ⟨vs, h1, h2.likes (Dat.mkOk _ _ _ e), h3, h4⟩
    · cases e
theorem reps_sz {c : Nat} {x : Dat.S c} {vs : List Value} (h : Reps Φ g (Dat.fld c x) vs) : vs.length = Dat.sz c := by rw [h.length, Dat.len]
end Go.Pv
namespace Go.Pv
open Go Go.EvM
set_option linter.unusedVariables false
set_option linter.unusedSectionVars false
variable [Dat]
inductive OpR (Φ' : Fz) (g' : Gh) (leans : List Nat) : Cls → Tr Value → Hp → Value → Hp → Prop
  | pure {f : Env → Option Value} {T : Tr Value} {H : Hp} {w : Value} : f (evO T) = some w → OpR Φ' g' leans (.pure f) T H w H
  | look {f : Env → Hp → Option Value} {T : Tr Value} {H : Hp} {w : Value} : f (evO T) H = some w → (∀ H2 : Hp, (∀ b, ((∃ x, Φ' b = some x) ∨ ∃ o ∈ leans, g'.vir o = false ∧ g'.blk o = b) → H2.b.get b = H.b.get b) → f (evO T) H2 = some w) → OpR Φ' g' leans (.look f) T H w H
  | make {f : Env → Option Mk} {T : Tr Value} {H : Hp} {m : Mk} : f (evO T) = some m → (∃ o ∈ leans, g'.vir o = false ∧ g'.blk o = H.n) → eqOb m.ob m.ob = true → OpR Φ' g' leans (.make f) T H (m.val H.n) ⟨Nat.succ H.n, H.b.put H.n m.ob⟩
  | eff {f : Env → Hp → OR} {T : Tr Value} {H H' : Hp} {w : Value} : f (evO T) H = .ok w H' → OpR Φ' g' leans (.eff f) T H w H'
theorem OpR.eff_mono {Φ Φ' : Fz} {g g' : Gh} {l l' : List Nat} {f : Env → Hp → OR} {T : Tr Value} {H H' : Hp} {w : Value} (h : OpR Φ g l (.eff f) T H w H') : OpR Φ' g' l' (.eff f) T H w H' := by
  cases h with
  | eff h => exact .eff h
def Good (cx : Cx) (e : PEnv) (os : List PObj) (op : Op) (v : V) (os' : List PObj) (t : List Nat) : Prop :=
  ∀ (Φ : Fz) (g : Gh) (T : Tr Value) (H : Hp), RS Φ g e os T H → ∃ w H' Φ' g', OpR Φ' g' (leansOn e op v) (cOp cx op) T H w H' ∧ Rep Φ' g' v w ∧ HS Φ' g' os' H' ∧ Nx Φ g os H Φ' g' os' H' t
variable {cx : Cx} {tb : TypeId → Option TB} {e : PEnv} {os : List PObj}
theorem Good.same {op : Op} {v : V} (h : ∀ (Φ : Fz) (g : Gh) (T : Tr Value) (H : Hp), RS Φ g e os T H → ∃ w, OpR Φ g (leansOn e op v) (cOp cx op) T H w H ∧ Rep Φ g v w) : Good cx e os op v os [] := fun Φ g T H R => by
  obtain ⟨w, h1, h2⟩ := h Φ g T H R
  exact ⟨w, H, Φ, g, h1, h2, R.hs, Nx.refl _ _ _ _⟩
theorem binI_sim {Φ : Fz} {g : Gh} {op : BinOp} {k : IntKind} {a b : Int} {v : V} (h : binI op k a b = some (true, v)) : ∃ w, intBin op k a b = some w ∧ Rep Φ g v w := by
  cases op
  case quo =>
    simp only [binI, Option.some.injEq, Prod.mk.injEq, Bool.not_eq_true'] at h
    obtain ⟨h1, rfl⟩ := h
    exact ⟨_, by simp only [intBin, h1]; rfl, .int _ _⟩
  case rem =>
    simp only [binI, Option.some.injEq, Prod.mk.injEq, Bool.not_eq_true'] at h
    obtain ⟨h1, rfl⟩ := h
    exact ⟨_, by simp only [intBin, h1]; rfl, .int _ _⟩
  all_goals (simp only [binI, intBin] at h)
  all_goals first
    | cases h; exact ⟨_, rfl, .int _ _⟩
    | cases h; exact ⟨_, rfl, .bool _⟩
    | cases h
theorem leI_iNat {b : Int} (h : leI (.ofNat 0) b = true) : b = .ofNat (iNat b) := by
  cases b with
  | ofNat n => rfl
  | negSucc n => cases h
theorem bin_sim {Φ : Fz} {g : Gh} {op : BinOp} {p q v : V} {u u' : Value} (h : binP op p q = some (true, v)) (hp : Rep Φ g p u) (hq : Rep Φ g q u') : ∃ w, binVS [] [] op u u' = some w ∧ Rep Φ g v w := by
  unfold binP at h
  split at h
  · rename_i k a k' b
    cases hp; cases hq
    split at h
    · simp only [Option.some.injEq, Prod.mk.injEq] at h
      obtain ⟨h1, rfl⟩ := h
      rw [leI_iNat h1]
      exact ⟨_, rfl, .int _ _⟩
    · simp only [Option.some.injEq, Prod.mk.injEq] at h
      obtain ⟨h1, rfl⟩ := h
      rw [leI_iNat h1]
      exact ⟨_, rfl, .int _ _⟩
    · rename_i h1 h2
      cases hd : decide (k = k') with
      | false => rw [hd] at h; cases h
      | true =>
        rw [hd] at h
        obtain ⟨w, k1, k2⟩ := binI_sim (Φ := Φ) (g := g) h
        refine ⟨w, ?_, k2⟩
        cases op <;> first
          | exact absurd rfl h1
          | exact absurd rfl h2
          | (show (bif decide (k = k') then intBin _ k a b else none) = some w; rw [hd]; exact k1)
  · rename_i a b
    cases hp; cases hq
    cases op <;> first
      | cases h
      | skip
    case add =>
      simp only [Option.some.injEq, Prod.mk.injEq] at h
      obtain ⟨h1, rfl⟩ := h
      exact ⟨_, by show (bif Nat.blt (Nat.add a.length b.length) lim63 then _ else none) = _; rw [h1]; rfl, .str _⟩
    all_goals exact ⟨_, rfl, .bool _⟩
  · cases h
theorem eqI_sim {Φ : Fz} {g : Gh} {ne : Bool} {d : TypeDesc} {p q v : V} {u u' : Value} (h : eqIP (eqOp ne) p q = some (true, v)) (hp : Rep Φ g p u) (hq : Rep Φ g q u') : ∃ w, eqVS [] [] d ne u u' = some w ∧ Rep Φ g v w := by
  unfold eqIP at h
  split at h
  · rename_i k a k' b
    cases hp; cases hq
    cases hd : decide (k = k') with
    | false => rw [hd] at h; cases h
    | true =>
      rw [hd] at h
      obtain ⟨w, k1, k2⟩ := binI_sim (Φ := Φ) (g := g) h
      refine ⟨w, ?_, k2⟩
      cases ne
      · show (bif decide (k = k') then intBin .eql k a b else none) = some w; rw [hd]; exact k1
      · show (bif decide (k = k') then intBin .neq k a b else none) = some w; rw [hd]; exact k1
  · cases h
theorem eqS_sim {Φ : Fz} {g : Gh} {ne : Bool} {d : TypeDesc} {p q v : V} {u u' : Value} (h : eqSP (eqOp ne) p q = some (true, v)) (hp : Rep Φ g p u) (hq : Rep Φ g q u') : ∃ w, eqVS [] [] d ne u u' = some w ∧ Rep Φ g v w := by
  unfold eqSP at h
  split at h
  · cases hp; cases hq
    cases ne <;> cases h <;> exact ⟨_, rfl, .bool _⟩
  · cases h
theorem eqB_sim {Φ : Fz} {g : Gh} {ne : Bool} {p q v : V} {u u' : Value} (h : eqBP ne p q = some (true, v)) (hp : Rep Φ g p u) (hq : Rep Φ g q u') : ∃ w, eqVS [] [] .bool ne u u' = some w ∧ Rep Φ g v w := by
  unfold eqBP at h
  split at h
  · cases hp; cases hq
    cases h
    exact ⟨_, rfl, .bool _⟩
  · cases h
theorem eqN_sim {Φ : Fz} {g : Gh} {ne : Bool} {t : TypeId} {p q v : V} {u u' : Value} (h : eqNP ne p q = some (true, v)) (hp : Rep Φ g p u) (hq : Rep Φ g q u') : ∃ w, eqVS [] [] (.slice t) ne u u' = some w ∧ Rep Φ g v w := by
  unfold eqNP at h
  split at h
  · cases hp; cases hq
    cases h
    exact ⟨_, rfl, .bool _⟩
  · cases hp; cases hq
    cases h
    exact ⟨_, rfl, .bool _⟩
  · cases h
theorem good_eq (C : PvOk cx tb) {ne : Bool} {t u : TypeId} {x y : Operand} {v : V} {os' : List PObj} {tt : List Nat} (hx : okP x = true) (hy : okP y = true) {op : BinOp} (hop : op = eqOp ne)
    (h : (match tb t with
      | some b => (match b.kind with
        | .int _ => condP os (eqIP (eqOp ne) (evP e x) (evP e y))
        | .str => condP os (eqSP (eqOp ne) (evP e x) (evP e y))
        | .bool => condP os (eqBP ne (evP e x) (evP e y))
        | .sl _ => condP os (eqNP ne (evP e x) (evP e y))
        | _ => .no)
      | none => .no) = PR.ok true v os' tt) : Good cx e os (.binOp op t x y u) v os' tt := by
  split at h
  · rename_i b hb
    obtain ⟨i, h1, h2⟩ := C.tb t b hb
    have hk := h2.kind
    have key : ∀ d, i.desc = d → (d = .string ∨ d = .bool ∨ (∃ k, d = .int k) ∨ ∃ s, d = .slice s) → cBin cx op t x y = .pure fun ρ => eqVS [] [] d ne (ρ x) (ρ y) := fun d hd hd2 => by
      have he : cBin cx op t x y = cEq cx ne t x y := by subst hop; cases ne <;> rfl
      rw [he]
      unfold cEq
      rw [C.eqs t, h1]
      dsimp only
      rw [hd, C.facts, C.tabs]
      rcases hd2 with rfl | rfl | ⟨k, rfl⟩ | ⟨s, rfl⟩ <;> rfl
    have fin : ∀ d r, i.desc = d → (d = .string ∨ d = .bool ∨ (∃ k, d = .int k) ∨ ∃ s, d = .slice s) → condP os r = PR.ok true v os' tt → (∀ Φ g T H, RS Φ g e os T H → r = some (true, v) → ∃ w, eqVS [] [] d ne (evO T x) (evO T y) = some w ∧ Rep Φ g v w) → Good cx e os (.binOp op t x y u) v os' tt := fun d r hd hd2 hr hs => by
      unfold condP at hr
      split at hr
      · rename_i c v' 
        cases hr
        refine Good.same fun Φ g T H R => ?_
        obtain ⟨w, k1, k2⟩ := hs Φ g T H R rfl
        refine ⟨w, ?_, k2⟩
        show OpR Φ g _ (cBin cx op t x y) T H w H
        rw [key d hd hd2]
        exact .pure k1
      · cases hr
    split at h
    · rename_i k hkk
      rw [hkk] at hk
      exact fin _ _ hk (.inr (.inr (.inl ⟨k, rfl⟩))) h fun Φ g T H R hr => eqI_sim hr (opnd_rep R.tm hx) (opnd_rep R.tm hy)
    · rename_i hkk
      rw [hkk] at hk
      exact fin _ _ hk (.inl rfl) h fun Φ g T H R hr => eqS_sim hr (opnd_rep R.tm hx) (opnd_rep R.tm hy)
    · rename_i hkk
      rw [hkk] at hk
      exact fin _ _ hk (.inr (.inl rfl)) h fun Φ g T H R hr => eqB_sim hr (opnd_rep R.tm hx) (opnd_rep R.tm hy)
    · rename_i s hkk
      rw [hkk] at hk
      exact fin _ _ hk (.inr (.inr (.inr ⟨s, rfl⟩))) h fun Φ g T H R hr => eqN_sim hr (opnd_rep R.tm hx) (opnd_rep R.tm hy)
    · cases h
  · cases h
theorem good_bin (C : PvOk cx tb) {op : BinOp} {t u : TypeId} {x y : Operand} {v : V} {os' : List PObj} {tt : List Nat} (hx : okP x = true) (hy : okP y = true) (h : pop tb os e (.binOp op t x y u) = .ok true v os' tt) : Good cx e os (.binOp op t x y u) v os' tt := by
  have gen : op ≠ .eql → op ≠ .neq → condP os (binP op (evP e x) (evP e y)) = PR.ok true v os' tt → Good cx e os (.binOp op t x y u) v os' tt := fun n1 n2 h => by
    unfold condP at h
    split at h
    · rename_i c v' hr
      cases h
      refine Good.same fun Φ g T H R => ?_
      obtain ⟨w, k1, k2⟩ := bin_sim hr (opnd_rep R.tm hx) (opnd_rep R.tm hy)
      refine ⟨w, ?_, k2⟩
      show OpR Φ g _ (cBin cx op t x y) T H w H
      have : cBin cx op t x y = .pure fun ρ => binVS [] [] op (ρ x) (ρ y) := by
        cases op <;> first | exact absurd rfl n1 | exact absurd rfl n2 | (show (Cls.pure fun ρ => binVS cx.facts cx.tabs _ (ρ x) (ρ y)) = _; rw [C.facts, C.tabs])
      rw [this]
      exact .pure k1
    · cases h
  cases op
  case eql => exact good_eq C (ne := false) hx hy rfl h
  case neq => exact good_eq C (ne := true) hx hy rfl h
  all_goals exact gen (fun e => by cases e) (fun e => by cases e) h
theorem pure_some {o : Option V} {v : V} {os' : List PObj} {t : List Nat} {c : Bool} (h : pureP os o = .ok c v os' t) : o = some v ∧ os' = os ∧ t = [] := by
  unfold pureP at h
  split at h
  · cases h; exact ⟨rfl, rfl, rfl⟩
  · cases h
theorem un_sim {Φ : Fz} {g : Gh} {op : UnOp} {p v : V} {u : Value} (h : unP op p = some v) (hp : Rep Φ g p u) : ∃ w, unVS [] op u = some w ∧ Rep Φ g v w := by
  unfold unP at h
  split at h
  · cases hp; cases h; exact ⟨_, rfl, .bool _⟩
  · cases hp; cases h; exact ⟨_, rfl, .int _ _⟩
  · cases hp
    rename_i k n
    split at h
    · rename_i k' n' hi
      cases h
      exact ⟨_, by unfold unVS; rw [show unV .xor (.int k n) = intBin .xor k (if k.signed then -1 else k.max) n from rfl, hi], .int _ _⟩
    · cases h
  · cases h
theorem good_un (C : PvOk cx tb) {op : UnOp} {t : TypeId} {x : Operand} {v : V} {os' : List PObj} {tt : List Nat} (hx : okP x = true) (h : pop tb os e (.unOp op t x) = .ok true v os' tt) : Good cx e os (.unOp op t x) v os' tt := by
  have h : pureP os (unP op (evP e x)) = .ok true v os' tt := h
  obtain ⟨h0, rfl, rfl⟩ := pure_some h
  refine Good.same fun Φ g T H R => ?_
  obtain ⟨w, h1, h2⟩ := un_sim h0 (opnd_rep R.tm hx)
  refine ⟨w, ?_, h2⟩
  show OpR Φ g _ (.pure fun ρ => unVS cx.facts op (ρ x)) T H w H
  exact .pure (by rw [C.facts]; exact h1)
end Go.Pv
namespace Go.Pv
open Go Go.EvM
set_option linter.unusedVariables false
set_option linter.unusedSectionVars false
variable [Dat] {cx : Cx} {tb : TypeId → Option TB} {e : PEnv} {os os' : List PObj} {Φ : Fz} {g : Gh} {T : Tr Value} {H : Hp} {v : V} {tt : List Nat}
theorem good_move {x : Operand} (hx : okP x = true) : Good cx e os (.move x) (evP e x) os [] :=
  Good.same fun Φ g T H R => ⟨_, .pure rfl, opnd_rep R.tm hx⟩
theorem good_assign {x : Operand} (hx : okP x = true) : Good cx e os (.assign x) (evP e x) os [] :=
  Good.same fun Φ g T H R => ⟨_, .pure rfl, opnd_rep R.tm hx⟩
theorem good_extract {x : Operand} {i : Nat} (hx : okP x = true) (h : pop tb os e (.extract x i) = .ok true v os' tt) : Good cx e os (.extract x i) v os' tt := by
  have h : pureP os (match evP e x with | .tup l => nth l i | _ => none) = .ok true v os' tt := h
  obtain ⟨h0, rfl, rfl⟩ := pure_some h
  refine Good.same fun Φ g T H R => ?_
  have hr := opnd_rep R.tm hx
  show ∃ w, OpR Φ g _ (.pure fun ρ => extrV (ρ x) i) T H w H ∧ Rep Φ g v w
  generalize evP e x = p at h0 hr
  split at h0
  · generalize hu : evO T x = u at hr
    cases hr with
    | tup h1 h2 h3 =>
      obtain ⟨w, k1, k2⟩ := h1.get (nth_some h0)
      exact ⟨w, .pure (by rw [hu]; show nth _ i = _; rw [nth_eq]; exact k1), k2⟩
  · cases h0
theorem good_nilCheck {x : Operand} (hx : okP x = true) (h : pop tb os e (.nilCheck x) = .ok true v os' tt) : Good cx e os (.nilCheck x) v os' tt := by
  have h : pureP os (match evP e x with | .ptr o p => some (.ptr o p) | .fad c y p => some (.fad c y p) | .elt a i p => some (.elt a i p) | _ => none) = .ok true v os' tt := h
  obtain ⟨h0, rfl, rfl⟩ := pure_some h
  refine Good.same fun Φ g T H R => ?_
  have hr := opnd_rep R.tm hx
  show ∃ w, OpR Φ g _ (.pure fun ρ => nilV (ρ x)) T H w H ∧ Rep Φ g v w
  generalize evP e x = p at h0 hr
  split at h0
  all_goals first | cases h0; done | skip
  all_goals
    cases h0
    generalize hu : evO T x = u at hr
    cases hr
  · rename_i h1; exact ⟨_, .pure (by rw [hu]; rfl), .ptr _ h1⟩
  · rename_i h1 h3 h4 h2; exact ⟨_, .pure (by rw [hu]; rfl), .fad _ h1 h2 h3 h4⟩
  · rename_i h1 h2; exact ⟨_, .pure (by rw [hu]; rfl), .elt _ h1 h2⟩
theorem ptr_add {b o off k : Nat} : (Value.pointer (some ⟨b, Nat.add (o + off) k, none⟩)) = .pointer (some ⟨b, o + Nat.add off k, none⟩) := by
  show Value.pointer (some ⟨b, o + off + k, none⟩) = .pointer (some ⟨b, o + (off + k), none⟩)
  rw [Nat.add_assoc]
theorem good_fieldAddr (C : PvOk cx tb) {t : TypeId} {x : Operand} {f : Nat} (hx : okP x = true) (h : pop tb os e (.fieldAddr t x f) = .ok true v os' tt) : Good cx e os (.fieldAddr t x f) v os' tt := by
  have h : pureP os (pFieldAddr tb t (evP e x) f) = .ok true v os' tt := h
  obtain ⟨h0, rfl, rfl⟩ := pure_some h
  refine Good.same fun Φ g T H R => ?_
  have hr := opnd_rep R.tm hx
  unfold pFieldAddr at h0
  split at h0
  · rename_i b hb
    obtain ⟨i, h1, h2⟩ := C.tb t b hb
    split at h0
    · rename_i fs hk
      have hk2 := h2.kind
      rw [hk] at hk2
      obtain ⟨a, k1, _, k2⟩ := hk2
      split at h0
      · rename_i off size ag hf
        obtain ⟨fd, fi, j1, j2, j3, j4, j5⟩ := k2 f off size ag (nth_some hf)
        cases hz : Nat.beq size 0 with
        | true => rw [hz] at h0; cases h0
        | false =>
          rw [hz] at h0
          have hc : cOp cx (.fieldAddr t x f) = .pure fun ρ => match ptrV (ρ x) with | some (b, off) => some (.pointer (some ⟨b, Nat.add off fd.offset, none⟩)) | none => none := by
            show cFieldAddr cx t x f = _
            unfold cFieldAddr
            rw [h1]; dsimp only
            rw [k1]; dsimp only
            rw [j1]; dsimp only
            rw [j3]; dsimp only
            rw [j4, hz]; rfl
          rw [hc, j2]
          have h0 : (match evP e x with | .ptr o p => some (.ptr o (Nat.add p off)) | .fad c y p => some (.fad c y (Nat.add p off)) | .elt a i p => some (.elt a i (Nat.add p off)) | _ => none) = some v := h0
          generalize evP e x = p at h0 hr
          split at h0
          all_goals first | cases h0; done | skip
          all_goals
            cases h0
            generalize hu : evO T x = u at hr
            cases hr
          · rename_i h1; exact ⟨_, .pure (by rw [hu]; rfl), .ptr _ h1⟩
          · rename_i h1 h3 h4 h2; exact ⟨_, .pure (by rw [hu]; rfl), by rw [ptr_add]; exact .fad _ h1 h2 h3 h4⟩
          · rename_i h1 h2; exact ⟨_, .pure (by rw [hu]; rfl), by rw [ptr_add]; exact .elt _ h1 h2⟩
      · cases h0
    · cases h0
  · cases h0
theorem part_sim {agg : Bool} {off size : Nat} {l : List V} {vs : List Value} (h : partP agg off size l = some v) (hr : Reps Φ g l vs) (hf : ∀ u ∈ vs, f1 u = true) (hl : vs.length ≤ 40) : ∃ w, partV agg off size (.agg ⟨vs⟩) = some w ∧ Rep Φ g v w := by
  unfold partP at h
  cases agg with
  | true =>
    dsimp only at h
    cases hb : Nat.ble (Nat.add off size) l.length with
    | false => rw [hb] at h; cases h
    | true =>
      rw [hb] at h; cases h
      exact ⟨_, rfl, .agg ((hr.drop off).take size) (fun u hu => hf u (List.mem_of_mem_drop (List.mem_of_mem_take hu))) (by
        show ((vs.drop off).take size).length ≤ 40
        rw [List.length_take, List.length_drop]; omega)⟩
  | false =>
    obtain ⟨w, h1, h2⟩ := hr.get (nth_some h)
    exact ⟨w, by show nth vs off = _; rw [nth_eq]; exact h1, h2⟩
theorem good_field (C : PvOk cx tb) {t : TypeId} {x : Operand} {f : Nat} (hx : okP x = true) (h : pop tb os e (.field t x f) = .ok true v os' tt) : Good cx e os (.field t x f) v os' tt := by
  have h : pureP os (pField tb t (evP e x) f) = .ok true v os' tt := h
  obtain ⟨h0, rfl, rfl⟩ := pure_some h
  refine Good.same fun Φ g T H R => ?_
  have hr := opnd_rep R.tm hx
  unfold pField at h0
  split at h0
  · rename_i b hb
    obtain ⟨i, h1, h2⟩ := C.tb t b hb
    split at h0
    · rename_i fs hk
      have hk2 := h2.kind
      rw [hk] at hk2
      obtain ⟨a, k1, _, k2⟩ := hk2
      split at h0
      · rename_i off size ag hf
        obtain ⟨fd, fi, j1, j2, j3, j4, j5⟩ := k2 f off size ag (nth_some hf)
        have hc : cOp cx (.field t x f) = .pure fun ρ => partV ag off size (ρ x) := by
          show cField cx t x f = _
          unfold cField
          rw [h1]; dsimp only
          rw [k1]; dsimp only
          rw [j1]; dsimp only
          rw [j3]; dsimp only
          rw [j2, j4, j5]
        rw [hc]
        generalize evP e x = p at h0 hr
        split at h0
        · generalize hu : evO T x = u at hr
          cases hr with
          | agg h1 h2 h3 =>
            obtain ⟨w, k1, k2⟩ := part_sim h0 h1 h2 h3
            exact ⟨w, .pure (by rw [hu]; exact k1), k2⟩
        · generalize hu : evO T x = u at hr
          cases hr with
          | st h1 h2 h3 =>
            obtain ⟨w, k1, k2⟩ := part_sim h0 h1 h2 h3
            exact ⟨w, .pure (by rw [hu]; exact k1), k2⟩
        · cases h0
      · cases h0
    · cases h0
  · cases h0
theorem inB_spec {n : Int} {len : Nat} (h : inB n len = true) : n = .ofNat (iNat n) ∧ iNat n < len := by
  cases n with
  | ofNat j => exact ⟨rfl, Nat.le_of_ble_eq_true h⟩
  | negSucc j => cases h
theorem getD_some {α : Type} {d : α} {l : List α} {n : Nat} (h : n < l.length) : l[n]? = some (getD d l n) := by
  unfold getD
  rw [nth_eq, List.getElem?_eq_getElem h]
theorem fad_of {c : Nat} {l : List (Dat.S c)} {b off cap : Nat} {n : Nat} {u : Value} (hr : Rep Φ g (.sl c l) u) (hn : n < l.length) :
    ∃ b off len cap, u = .slice (some ⟨b, off, none⟩) len cap ∧ len = l.length ∧ Rep Φ g (.fad c (getD (Dat.dflt c) l n) 0) (.pointer (some ⟨b, Nat.add off (Nat.mul n (Dat.sz c)), none⟩)) := by
  cases hr with
  | sln => simp at hn
  | slb h1 h2 h3 h4 h5 =>
    have hx := getD_some (d := Dat.dflt c) hn
    exact ⟨_, _, _, _, rfl, rfl, .fad (o := _ + n * Dat.sz c) 0 h1 (h4 n _ hx) (fun j v hj => (h5 n _ hx j v hj).1) (fun v hv => by
      obtain ⟨j, hj⟩ := List.getElem?_of_mem hv
      exact (h5 n _ hx j v hj).2)⟩
theorem good_indexAddr (C : PvOk cx tb) {t : TypeId} {x i : Operand} (hx : okP x = true) (hi : okP i = true) (h : pop tb os e (.indexAddr t x i) = .ok true v os' tt) : Good cx e os (.indexAddr t x i) v os' tt := by
  have h : pIndexAddr tb os t (evP e x) (evP e i) = .ok true v os' tt := h
  unfold pIndexAddr at h
  split at h
  · rename_i b hb
    obtain ⟨ti, h1, h2⟩ := C.tb t b hb
    split at h
    · rename_i el k n hk hin
      have hk2 := h2.kind
      rw [hk] at hk2
      split at h
      · rename_i eb heb
        obtain ⟨ei, k1, k2⟩ := C.tb el eb heb
        have hc : cOp cx (.indexAddr t x i) = .pure fun ρ => match ρ x, natV (ρ i) with
          | .slice (some ⟨b, off, none⟩) len _, some j => bif Nat.blt j len then some (.pointer (some ⟨b, Nat.add off (Nat.mul j ei.size), none⟩)) else none
          | _, _ => none := by
          show cIndexAddr cx t x i = _
          unfold cIndexAddr
          rw [h1]; dsimp only
          rw [hk2]; dsimp only
          rw [k1]; rfl
        have fin : ∀ (Φ : Fz) (g : Gh) (T : Tr Value) (H : Hp), RS Φ g e os T H → ∀ b off len cap j, evO T x = .slice (some ⟨b, off, none⟩) len cap → n = .ofNat j → j < len → Rep Φ g v (.pointer (some ⟨b, Nat.add off (Nat.mul j eb.size), none⟩)) → ∃ w, OpR Φ g (leansOn e (.indexAddr t x i) v) (cOp cx (.indexAddr t x i)) T H w H ∧ Rep Φ g v w := fun Φ g T H R b off len cap j hu hj hjl hrv => by
          have hri := opnd_rep R.tm hi
          rw [hin] at hri
          generalize hui : evO T i = ui at hri
          cases hri
          rw [hc]
          refine ⟨_, .pure ?_, hrv⟩
          rw [hu, hui, hj]
          dsimp only [natV]
          rw [show Nat.blt j len = true from by simpa [Nat.blt_eq] using hjl, k2.size]
          rfl
        split at h
        · rename_i c l hxx
          cases hz : Nat.beq (Dat.sz c) eb.size with
          | false => rw [hz] at h; cases h
          | true =>
            rw [hz] at h
            have hz := Nat.eq_of_beq_eq_true hz
            simp only [cond_true, PR.ok.injEq] at h
            obtain ⟨g1, rfl, rfl, rfl⟩ := h
            obtain ⟨m1, m2⟩ := inB_spec g1
            refine Good.same fun Φ g T H R => ?_
            have hr := opnd_rep R.tm hx
            rw [hxx] at hr
            obtain ⟨b, off, len, cap, q1, q2, q3⟩ := fad_of (b := 0) (off := 0) (cap := 0) hr m2
            exact fin Φ g T H R b off len cap _ q1 m1 (by omega) (by rw [← hz]; exact q3)
        · rename_i a hxx
          have arr : ∀ (c : Nat) (l : List (Dat.S c)), (∀ (Φ : Fz) (g : Gh) (T : Tr Value) (H : Hp), RS Φ g e os T H → g.len a = l.length ∧ g.es a = Dat.sz c) → (∀ (Φ : Fz) (g : Gh) (T : Tr Value) (H : Hp), RS Φ g e os T H → g.vir a = true → l = []) → (bif Nat.beq (Dat.sz c) eb.size then PR.ok (inB n l.length) (.elt a (iNat n) 0) os [] else .no) = .ok true v os' tt → Good cx e os (.indexAddr t x i) v os' tt := fun c l hgl hgl0 h => by
            cases hz : Nat.beq (Dat.sz c) eb.size with
            | false => rw [hz] at h; cases h
            | true =>
              rw [hz] at h
              have hz := Nat.eq_of_beq_eq_true hz
              simp only [cond_true, PR.ok.injEq] at h
              obtain ⟨g1, rfl, rfl, rfl⟩ := h
              obtain ⟨m1, m2⟩ := inB_spec g1
              refine Good.same fun Φ g T H R => ?_
              obtain ⟨q1, q2⟩ := hgl Φ g T H R
              have hr := opnd_rep R.tm hx
              rw [hxx] at hr
              generalize hu : evO T x = u at hr
              cases hr with
              | loc0 ha hv =>
                have hl0 : l = [] := hgl0 Φ g T H R hv
                subst hl0; simp at m2
              | loc ha hv =>
                refine fin Φ g T H R _ _ _ _ _ hu m1 (by omega) ?_
                have := Rep.elt (Φ := Φ) (g := g) (a := a) (i := iNat n) 0 ha (by omega)
                rw [q2, hz] at this
                have e1 : Nat.add 0 (Nat.mul (iNat n) eb.size) = iNat n * eb.size + 0 := by show 0 + iNat n * eb.size = _; omega
                rw [e1]; exact this
          split at h
          · rename_i c l hxa
            exact arr c l (fun Φ g T H R => by obtain ⟨q1, q2, _⟩ := R.hs.ob a _ (nth_some hxa); exact ⟨q1, q2⟩) (fun Φ g T H R hv => by
              obtain ⟨_, _, ⟨_, q⟩ | ⟨q, _⟩⟩ := R.hs.ob a _ (nth_some hxa)
              · exact q
              · rw [hv] at q; cases q) h
          · rename_i c l hxa
            exact arr c l (fun Φ g T H R => by obtain ⟨q1, q2, _⟩ := R.hs.ob a _ (nth_some hxa); exact ⟨q1, q2⟩) (fun Φ g T H R hv => by
              obtain ⟨_, _, ⟨_, q⟩ | ⟨q, _⟩⟩ := R.hs.ob a _ (nth_some hxa)
              · exact q
              · rw [hv] at q; cases q) h
          · cases h
        · cases h
      · cases h
    · cases h
  · cases h
theorem good_index (C : PvOk cx tb) {t : TypeId} {x i : Operand} (hx : okP x = true) (hi : okP i = true) (h : pop tb os e (.index t x i) = .ok true v os' tt) : Good cx e os (.index t x i) v os' tt := by
  have h : (match tb t with
    | some b => (match b.kind, evP e x, evP e i with
      | .str, .str l, .int _ n => PR.ok (inB n l.length) (.int .u8 (.ofNat (getD 0 l (iNat n)).toNat)) os []
      | _, _, _ => .no)
    | none => .no) = .ok true v os' tt := h
  split at h
  · rename_i b hb
    obtain ⟨ti, h1, h2⟩ := C.tb t b hb
    split at h
    · rename_i l k n hk hxx hin
      have hk2 := h2.kind
      rw [hk] at hk2
      simp only [PR.ok.injEq] at h
      obtain ⟨g1, rfl, rfl, rfl⟩ := h
      obtain ⟨m1, m2⟩ := inB_spec g1
      refine Good.same fun Φ g T H R => ?_
      have hr := opnd_rep R.tm hx
      have hri := opnd_rep R.tm hi
      rw [hxx] at hr
      rw [hin] at hri
      generalize hu : evO T x = u at hr
      generalize hui : evO T i = ui at hri
      cases hr
      cases hri
      have hc : cOp cx (.index t x i) = .pure fun ρ => match ρ x, natV (ρ i) with
        | .string s, some j => (match nth s.data.toList j with | some b => some (.int .u8 (.ofNat b.toNat)) | none => none)
        | _, _ => none := by
        show cIndex cx t x i = _
        unfold cIndex
        rw [h1]; dsimp only
        rw [hk2]; rfl
      rw [hc]
      refine ⟨_, .pure ?_, .int _ _⟩
      rw [hu, hui, m1]
      dsimp only [natV]
      rw [nth_eq, getD_some (d := 0) m2]
      rfl
    · cases h
  · cases h
theorem lenP_sim (hs : HS Φ g os H) {p : V} {u : Value} {n : Nat} (h : lenP os p = some n) (hr : Rep Φ g p u) : ∃ b c, u = .slice b n c := by
  unfold lenP at h
  split at h
  · cases h; cases hr with
    | sln => exact ⟨_, _, rfl⟩
    | slb h1 h2 h3 h4 h5 => exact ⟨_, _, rfl⟩
  · cases h; cases hr; exact ⟨_, _, rfl⟩
  · rename_i a
    cases hr with
    | loc0 ha hv =>
      split at h
      · rename_i c l hx
        cases h
        obtain ⟨_, _, ⟨_, q⟩ | ⟨q, _⟩⟩ := hs.ob a _ (nth_some hx)
        · exact ⟨none, 0, by rw [q]; rfl⟩
        · rw [hv] at q; cases q
      · rename_i c l hx
        cases h
        obtain ⟨_, _, ⟨_, q⟩ | ⟨q, _⟩⟩ := hs.ob a _ (nth_some hx)
        · exact ⟨none, 0, by rw [q]; rfl⟩
        · rw [hv] at q; cases q
      · cases h
    | loc ha hv =>
      split at h
      · rename_i c l hx
        cases h
        obtain ⟨q1, _⟩ := hs.ob a _ (nth_some hx)
        exact ⟨_, _, by rw [q1]⟩
      · rename_i c l hx
        cases h
        obtain ⟨q1, _⟩ := hs.ob a _ (nth_some hx)
        exact ⟨_, _, by rw [q1]⟩
      · cases h
  · cases h
theorem good_len (C : PvOk cx tb) {c : Call} (hc : c.callee = .builtin .len) (ha : c.args.toList.all okP = true) (h : pBuiltin tb os .len (c.args.toList.map (evP e)) c.argTypes.toList = .ok true v os' tt) : Good cx e os (.call c) v os' tt := by
  unfold pBuiltin at h
  dsimp only at h
  split at h
  · rename_i p t hargs hts
    obtain ⟨x, hx1, hx2⟩ : ∃ x, c.args.toList = [x] ∧ evP e x = p := by
      cases hl : c.args.toList with
      | nil => rw [hl] at hargs; cases hargs
      | cons x r =>
        rw [hl] at hargs
        simp only [List.map_cons, List.cons.injEq, List.map_eq_nil_iff] at hargs
        exact ⟨x, by rw [hargs.2], hargs.1⟩
    have hx : okP x = true := by rw [hx1] at ha; simpa using ha
    split at h
    · rename_i b hb
      obtain ⟨ti, h1, h2⟩ := C.tb t b hb
      have hk2 := h2.kind
      have hcl : cOp cx (.call c) = lenCls cx t x := by
        show cCall cx c = _
        unfold cCall
        rw [hc]; dsimp only
        unfold cBuiltin
        dsimp only
        rw [hx1, hts]
      split at h
      · rename_i hk
        rw [hk] at hk2
        split at h
        · rename_i l
          simp only [PR.ok.injEq] at h
          obtain ⟨_, rfl, rfl, rfl⟩ := h
          refine Good.same fun Φ g T H R => ?_
          have hr := opnd_rep R.tm hx
          rw [hx2] at hr
          generalize hu : evO T x = u at hr
          cases hr
          rw [hcl]
          unfold lenCls
          rw [h1]; dsimp only
          rw [hk2]; dsimp only
          exact ⟨_, .pure (by rw [hu]), .int _ _⟩
        · cases h
      · rename_i el hk
        rw [hk] at hk2
        split at h
        · rename_i n hn
          simp only [PR.ok.injEq] at h
          obtain ⟨_, rfl, rfl, rfl⟩ := h
          refine Good.same fun Φ g T H R => ?_
          have hr := opnd_rep R.tm hx
          rw [hx2] at hr
          obtain ⟨b, cp, hu⟩ := lenP_sim R.hs hn hr
          rw [hcl]
          unfold lenCls
          rw [h1]; dsimp only
          rw [hk2]; dsimp only
          exact ⟨_, .pure (by rw [hu]), .int _ _⟩
        · cases h
      · cases h
    · cases h
  · cases h
end Go.Pv
namespace Go.Pv
open Go Go.EvM
set_option linter.unusedVariables false
set_option linter.unusedSectionVars false
variable [Dat] {cx : Cx} {tb : TypeId → Option TB} {e : PEnv} {os os' : List PObj} {Φ : Fz} {g : Gh} {T : Tr Value} {H : Hp} {v : V} {tt : List Nat}
def At (c : Tr Value) (off : Nat) (vs : List Value) : Prop := ∀ j v, vs[j]? = some v → c.get (off + j) = some v
theorem At.getL {c : Tr Value} {off : Nat} {vs : List Value} (h : At c off vs) : c.getL vs.length off = some vs :=
  Tr.getL_mk c _ _ vs rfl fun j hj => by rw [List.getElem?_eq_getElem hj]; exact h j _ (List.getElem?_eq_getElem hj)
theorem At.drop {c : Tr Value} {off : Nat} {vs : List Value} (h : At c off vs) (k : Nat) : At c (off + k) (vs.drop k) := fun j v hv => by
  rw [List.getElem?_drop] at hv
  have := h (k + j) v hv
  rw [Nat.add_assoc]; exact this
theorem At.take {c : Tr Value} {off : Nat} {vs : List Value} (h : At c off vs) (k : Nat) : At c off (vs.take k) := fun j v hv => by
  rw [List.getElem?_take] at hv
  split at hv
  · exact h j v hv
  · cases hv
theorem cells_list {c : Tr Value} : ∀ (l : List V) (off : Nat), (∀ j p, l[j]? = some p → ∃ v, c.get (off + j) = some v ∧ Rep Φ g p v ∧ f1 v = true) → ∃ vs, Reps Φ g l vs ∧ At c off vs ∧ ∀ v ∈ vs, f1 v = true
  | [], off, _ => ⟨[], .nil, fun j v h => by simp at h, fun v h => by cases h⟩
  | p :: l, off, h => by
    obtain ⟨v, h1, h2, h3⟩ := h 0 p (by simp)
    obtain ⟨vs, k1, k2, k3⟩ := cells_list (c := c) l (off + 1) (fun j q hq => by
      obtain ⟨u, m1, m2⟩ := h (j + 1) q (by simpa using hq)
      exact ⟨u, by rw [show off + 1 + j = off + (j + 1) by omega]; exact m1, m2⟩)
    refine ⟨v :: vs, .cons h2 k1, fun j u hu => ?_, fun u hu => ?_⟩
    · cases j with
      | zero => simp at hu; subst hu; exact h1
      | succ j => rw [show off + (j + 1) = off + 1 + j by omega]; exact k2 j u (by simpa using hu)
    · rcases List.mem_cons.1 hu with rfl | hu
      · exact h3
      · exact k3 u hu
noncomputable def ldH (agg : Bool) (size : Nat) (H : Hp) (b off : Nat) : Option Value := match agg with | true => loadA H size b off | false => load1 H b off
theorem ld_core {b base k size : Nat} {c : Tr Value} {n : Nat} {z : ZT} {t r : Bool} {l : List V} {vs : List Value} (agg : Bool) (hs : size ≤ 40) (hr : Reps Φ g l vs) (ha : At c base vs) (hf : ∀ u ∈ vs, f1 u = true) (h : partP agg k size l = some v) :
    ∃ w, Rep Φ g v w ∧ ∀ H2 : Hp, H2.b.get b = some (.cells c n z t r) → ldH agg size H2 b (base + k) = some w := by
  unfold partP at h
  cases agg with
  | true =>
    dsimp only at h
    cases hb : Nat.ble (Nat.add k size) l.length with
    | false => rw [hb] at h; cases h
    | true =>
      rw [hb] at h; cases h
      have hb : k + size ≤ l.length := Nat.le_of_ble_eq_true hb
      have hl : ((vs.drop k).take size).length = size := by rw [List.length_take, List.length_drop, hr.length]; omega
      refine ⟨.agg ⟨(vs.drop k).take size⟩, .agg ((hr.drop k).take size) (fun u hu => hf u (List.mem_of_mem_drop (List.mem_of_mem_take hu))) (by omega), fun H2 h2 => ?_⟩
      show loadA H2 size b (base + k) = _
      unfold loadA
      rw [h2]
      dsimp only
      have := ((ha.drop k).take size).getL
      rw [hl] at this
      rw [this]
  | false =>
    obtain ⟨w, h1, h2⟩ := hr.get (nth_some h)
    refine ⟨w, h2, fun H2 k2 => ?_⟩
    show load1 H2 b (base + k) = _
    unfold load1
    rw [k2]
    exact ha k w h1
theorem ldE_core {b base k size cd : Nat} {x : Dat.S cd} {c : Tr Value} {n : Nat} {z : ZT} {t r : Bool} {vs : List Value} (agg : Bool) (hs : size ≤ 40) (hr : Reps Φ g (Dat.fld cd x) vs) (ha : At c base vs) (hf : ∀ u ∈ vs, f1 u = true) (h : loadE agg size cd x k = some v) :
    ∃ w, Rep Φ g v w ∧ ∀ H2 : Hp, H2.b.get b = some (.cells c n z t r) → ldH agg size H2 b (base + k) = some w := by
  unfold loadE at h
  cases agg with
  | true =>
    dsimp only at h
    cases hb : Nat.beq k 0 && Nat.beq size (Dat.sz cd) with
    | false => rw [hb] at h; exact ld_core true hs hr ha hf h
    | true =>
      rw [hb] at h; cases h
      rw [Bool.and_eq_true] at hb
      obtain rfl := Nat.eq_of_beq_eq_true hb.1
      obtain rfl := Nat.eq_of_beq_eq_true hb.2
      have hl := reps_sz hr
      refine ⟨.agg ⟨vs⟩, .st hr hf (by omega), fun H2 h2 => ?_⟩
      show loadA H2 (Dat.sz cd) b (base + 0) = _
      unfold loadA
      rw [h2]
      dsimp only
      have := ha.getL
      rw [hl] at this
      rw [Nat.add_zero, this]
  | false => exact ld_core false hs hr ha hf h
theorem good_load (C : PvOk cx tb) {t : TypeId} {a : Operand} (ha : okP a = true) (h : pop tb os e (.load t a) = .ok true v os' tt) : Good cx e os (.load t a) v os' tt := by
  have h : (match tb t with | some b => pureP os (loadP os b.agg b.size (evP e a)) | none => .no) = PR.ok true v os' tt := h
  split at h
  · rename_i b hb
    obtain ⟨i, h1, h2⟩ := C.tb t b hb
    obtain ⟨h0, rfl, rfl⟩ := pure_some h
    have hc : cOp cx (.load t a) = .look fun ρ h => match ptrV (ρ a) with
      | some (bk, off) => ldH b.agg b.size h bk off
      | none => match gptrV (ρ a) with | some (g, off) => (match b.agg with | true => loadGA cx b.size g off | false => loadG1 cx g off) | none => none := by
      show cLoad cx t a = _
      unfold cLoad
      rw [h1]; dsimp only
      rw [h2.agg, h2.size]
      cases b.agg <;> rfl
    refine Good.same fun Φ g T H R => ?_
    have hr := opnd_rep R.tm ha
    have fin : ∀ bk off ob, evO T a = .pointer (some ⟨bk, off, none⟩) → H.b.get bk = some ob → ((∃ x, Φ bk = some x) ∨ ∃ o ∈ leansOn e (.load t a) v, g.vir o = false ∧ g.blk o = bk) → (∃ w, Rep Φ g v w ∧ ∀ H2 : Hp, H2.b.get bk = some ob → ldH b.agg b.size H2 bk off = some w) →
        ∃ w, OpR Φ g (leansOn e (.load t a) v) (cOp cx (.load t a)) T H w H ∧ Rep Φ g v w := fun bk off ob hu hob hl ⟨w, k1, k2⟩ => by
        rw [hc]
        refine ⟨w, .look ?_ fun H2 hH => ?_, k1⟩
        · rw [hu]; exact k2 H hob
        · rw [hu]; exact k2 H2 ((hH bk hl).trans hob)
    have hle : leansOn e (.load t a) v = (match evP e a with | .ptr o _ => [o] | .elt a _ _ => [a] | _ => []) := rfl
    unfold loadP at h0
    split at h0
    · rename_i o off hev
      rw [hev] at hr hle
      generalize hu : evO T a = u at hr
      cases hr with
      | ptr _ ho =>
        split at h0
        · rename_i l hx
          obtain ⟨qv, _, _, c, n, z, t', q1, q2, q3⟩ := R.hs.ob o _ (nth_some hx)
          obtain ⟨vs, m1, m2, m3⟩ := cells_list l 0 (fun j p hp => by rw [Nat.zero_add]; exact q3 j p hp)
          refine fin _ _ _ hu q1 (.inr ⟨o, by rw [hle]; simp, qv, rfl⟩) ?_
          have := ld_core (b := g.blk o) (n := n) (z := z) (t := t') (r := false) b.agg h2.small m1 m2 m3 h0
          rw [Nat.zero_add] at this
          exact this
        · cases h0
    · rename_i c x off hev
      rw [hev] at hr hle
      generalize hu : evO T a = u at hr
      cases hr with
      | fad _ q1 q2 q3 q4 => exact fin _ _ _ hu (R.hs.phi _ _ q1).2 (.inl ⟨_, q1⟩) (ldE_core b.agg h2.small q2 q3 q4 h0)
    · rename_i a' i' off hev
      rw [hev] at hr hle
      generalize hu : evO T a = u at hr
      cases hr with
      | elt _ ho hi =>
        have arr : ∀ (cd : Nat) (l : List (Dat.S cd)) (c : Tr Value) (n : Nat) (z : ZT) (t' r : Bool), g.vir a' = false → H.b.get (g.blk a') = some (.cells c n z t' r) → g.len a' = l.length → g.es a' = Dat.sz cd → ArrC Φ g c 0 cd l → loadE b.agg b.size cd (getD (Dat.dflt cd) l i') off = some v → ∃ w, OpR Φ g (leansOn e (.load t a) v) (cOp cx (.load t a)) T H w H ∧ Rep Φ g v w := fun cd l c n z t' r qv q1 q2 q3 q4 h0 => by
          have hx := getD_some (d := Dat.dflt cd) (l := l) (n := i') (by omega)
          obtain ⟨vs, m1, m2⟩ := q4 i' _ hx
          refine fin _ _ _ hu q1 (.inr ⟨a', by rw [hle]; simp, qv, rfl⟩) ?_
          rw [q3]
          exact ldE_core (base := i' * Dat.sz cd) b.agg h2.small m1 (fun j u hj => by have := (m2 j u hj).1; rw [Nat.zero_add] at this; exact this) (fun u hu => by
            obtain ⟨j, hj⟩ := List.getElem?_of_mem hu
            exact (m2 j u hj).2) h0
        split at h0
        · rename_i cd l hx
          obtain ⟨q1, q2, ⟨_, q⟩ | ⟨qv, _, _, _, c, n, z, t', q3, _, _, q4⟩⟩ := R.hs.ob a' _ (nth_some hx)
          · subst q; simp at q1; omega
          · exact arr cd l c n z t' false qv q3 q1 q2 q4 h0
        · rename_i cd l hx
          obtain ⟨q1, q2, ⟨_, q⟩ | ⟨qv, _, c, n, z, t', r, q3, _, q4⟩⟩ := R.hs.ob a' _ (nth_some hx)
          · subst q; simp at q1; omega
          · exact arr cd l c n z t' r qv (R.hs.phi _ _ q3).2 q1 q2 q4 h0
        · cases h0
    · cases h0
  · cases h
theorem splice_length {α : Type} {l cs : List α} {off : Nat} (h : off + cs.length ≤ l.length) : (splice l off cs).length = l.length := by
  unfold splice
  rw [List.length_append, List.length_append, List.length_take, List.length_drop, show Nat.add off cs.length = off + cs.length from rfl]
  omega
theorem splice_get {α : Type} {l cs : List α} {off : Nat} (h : off + cs.length ≤ l.length) (j : Nat) : (splice l off cs)[j]? = if off ≤ j ∧ j < off + cs.length then cs[j - off]? else l[j]? := by
  unfold splice
  rw [show Nat.add off cs.length = off + cs.length from rfl]
  by_cases h1 : j < off
  · rw [List.getElem?_append_left (by rw [List.length_take]; omega), List.getElem?_take, if_pos h1, if_neg (by omega)]
  · rw [List.getElem?_append_right (by rw [List.length_take]; omega), List.length_take, show min off l.length = off by omega]
    by_cases h2 : j < off + cs.length
    · rw [List.getElem?_append_left (by omega), if_pos ⟨by omega, h2⟩]
    · rw [List.getElem?_append_right (by omega), List.getElem?_drop, if_neg (by omega)]
      congr 1; omega
theorem frz1_arr {p p' : V} {a c : Nat} {l : List (Dat.S c)} (e : frz1 os p = (p', os')) (h : os'[a]? = some (.arr c l)) : os[a]? = some (.arr c l) := by
  have hs : os' = os ∨ ∃ b c l, os' = os.set b (.frz c l) := by
    unfold frz1 at e
    split at e
    · split at e
      · cases e; exact .inr ⟨_, _, _, rfl⟩
      · cases e; exact .inl rfl
      · cases e; exact .inl rfl
    · cases e; exact .inl rfl
  rcases hs with rfl | ⟨b, c', l', rfl⟩
  · exact h
  · rw [List.getElem?_set] at h
    split at h
    · split at h
      · cases h
      · cases h
    · exact h
theorem frzL_arr {a c : Nat} {l : List (Dat.S c)} : ∀ {ps ps' : List V} {os os' : List PObj}, frzL ps os = (ps', os') → os'[a]? = some (.arr c l) → os[a]? = some (.arr c l)
  | [], _, _, _, e, h => by cases e; exact h
  | p :: ps, _, os, _, e, h => by
    unfold frzL at e
    generalize he : frz1 os p = q at e
    obtain ⟨p', os1⟩ := q
    dsimp only at e
    generalize he2 : frzL ps os1 = q2 at e
    obtain ⟨l', os2⟩ := q2
    cases e
    exact frz1_arr he (frzL_arr he2 h)
theorem frzV_arr {p p' : V} {a c : Nat} {l : List (Dat.S c)} (e : frzV os p = (p', os')) (h : os'[a]? = some (.arr c l)) : os[a]? = some (.arr c l) := by
  unfold frzV at e
  split at e
  · rename_i ps
    generalize he : frzL ps os = q at e
    obtain ⟨l', os1⟩ := q
    cases e
    exact frzL_arr he h
  · rename_i ps
    generalize he : frzL ps os = q at e
    obtain ⟨l', os1⟩ := q
    cases e
    exact frzL_arr he h
  · exact frz1_arr e h
theorem good_store (C : PvOk cx tb) {t : TypeId} {a x : Operand} (ha : okP a = true) (hxo : okP x = true) (h : pop tb os e (.store t a x) = .ok true v os' tt) : Good cx e os (.store t a x) v os' tt := by
  have h : (match tb t with | some b => storeP os b.size (evP e a) (evP e x) | none => .no) = PR.ok true v os' tt := h
  split at h
  · rename_i b hb
    obtain ⟨i, h1, h2⟩ := C.tb t b hb
    have hc : cOp cx (.store t a x) = .eff fun ρ h => match ptrV (ρ a) with
      | some (bk, off) => (match cellsL (ρ x) with
        | some cs => bif Nat.beq cs.length b.size then (match putCells h bk off cs with | some h => .ok undef h | none => .no) else .no
        | none => .no)
      | none => .no := by
      show cStore cx t a x = _
      unfold cStore
      rw [h1]; dsimp only
      rw [h2.size]; rfl
    have run : ∀ {T : Tr Value} {H : Hp} {bk off : Nat} {cs : List Value} {c : Tr Value} {n : Nat} {z : ZT} {t' : Bool} {Φ' : Fz} {g' : Gh}, evO T a = .pointer (some ⟨bk, off, none⟩) → cellsL (evO T x) = some cs → cs.length = b.size → H.b.get bk = some (.cells c n z t' false) → off + cs.length ≤ n →
        OpR Φ' g' (leansOn e (.store t a x) v) (cOp cx (.store t a x)) T H undef ⟨H.n, H.b.put bk (.cells (Tr.putL cs off c) n z t' false)⟩ := fun {T H bk off cs c n z t' Φ' g'} m1 m2 m3 m4 m5 => by
      rw [hc]
      refine .eff ?_
      rw [m1]
      dsimp only [ptrV]
      rw [m2]
      dsimp only
      rw [show Nat.beq cs.length b.size = true by rw [m3]; simp]
      unfold putCells
      rw [m4]
      dsimp only
      rw [show Nat.ble (Nat.add off cs.length) n = true from Nat.ble_eq_true_of_le m5]
      rfl
    unfold storeP at h
    split at h
    · rename_i o off hev
      split at h
      · rename_i l cs hx hcs
        cases hq : Nat.beq cs.length b.size && Nat.ble (Nat.add off b.size) l.length with
        | false => rw [hq] at h; cases h
        | true =>
          rw [hq] at h
          simp only [cond_true, PR.ok.injEq] at h
          obtain ⟨_, rfl, rfl, rfl⟩ := h
          rw [Bool.and_eq_true] at hq
          have hq1 := Nat.eq_of_beq_eq_true hq.1
          have hq2 : off + b.size ≤ l.length := Nat.le_of_ble_eq_true hq.2
          intro Φ g T H R
          have hr := opnd_rep R.tm ha
          rw [hev] at hr
          generalize hu : evO T a = u at hr
          cases hr with
          | ptr _ ho =>
            obtain ⟨vs, m1, m2, m3, m4⟩ := cells_rep (opnd_rep R.tm hxo) hcs
            obtain ⟨q0, q1, q2, c, n, z, t', q3, q4, q5⟩ := R.hs.ob o _ (nth_some hx)
            have hlen := m2.length
            have hcsl : off + cs.length ≤ l.length := by omega
            obtain ⟨k1, k2⟩ := R.hs.setO (a := o) (x' := .cells (splice l off cs)) (Φ' := Φ) (H' := ⟨H.n, H.b.put (g.blk o) (.cells (Tr.putL vs off c) n z t' false)⟩) (nth_some hx) ⟨trivial, q0⟩ rfl (FLe.refl _) (fun _ _ => rfl) (fun b hb => Tr.get_put_ne _ _ hb)
              (fun y hy => by rw [q2] at hy; cases hy) ⟨q0, q1, q2, _, n, z, t', Tr.get_put_eq _ _ _, by rw [splice_length hcsl]; exact q4, fun j p hp => by
                rw [splice_get hcsl] at hp
                rw [Tr.get_putL, hlen]
                split at hp
                · rename_i hj
                  rw [if_pos hj]
                  obtain ⟨w, w1, w2⟩ := m2.get hp
                  exact ⟨w, w1, w2, m3 w (List.mem_of_getElem? w1)⟩
                · rename_i hj
                  rw [if_neg hj]
                  exact q5 j p hp⟩ (fun e => by cases e) (fun l' e => ⟨_, rfl⟩) [o] (fun b hb => Tr.get_put_ne _ _ (fun e => hb o (by simp) q0 e.symm)) (fun p hp => by simp at hp; subst hp; exact ⟨_, nth_some hx, fun _ => trivial⟩)
            exact ⟨_, _, Φ, g, run hu m1 (by omega) q3 (by omega), .und rfl, k1, k2⟩
      · cases h
    · rename_i a' i' off hev
      split at h
      rename_i v' os1 hfv
      split at h
      · rename_i cd l hx
        have core : ∀ (y : Dat.S cd) (Φ : Fz) (g : Gh) (T : Tr Value) (H : Hp) (Φ1 : Fz), RS Φ g e os T H → HS Φ1 g os1 H → Nx Φ g os H Φ1 g os1 H [] → v = .und → os' = os1.set a' (.arr cd (l.set i' y)) → tt = [a'] →
            (∀ (vo : List Value), i' < l.length → Reps Φ1 g (Dat.fld cd (getD (Dat.dflt cd) l i')) vo → (∀ u ∈ vo, f1 u = true) → ∃ cs vn, cellsL (evO T x) = some cs ∧ cs.length = b.size ∧ off + cs.length ≤ Dat.sz cd ∧ vn = splice vo off cs ∧ Reps Φ1 g (Dat.fld cd y) vn ∧ (∀ u ∈ vn, f1 u = true)) →
            ∃ w H' Φ' g', OpR Φ' g' (leansOn e (.store t a x) v) (cOp cx (.store t a x)) T H w H' ∧ Rep Φ' g' v w ∧ HS Φ' g' os' H' ∧ Nx Φ g os H Φ' g' os' H' tt := fun y Φ g T H Φ1 R h1s hnx e1 e2 e3 hcore => by
          subst e1 e2 e3
          have hr := opnd_rep R.tm ha
          rw [hev] at hr
          generalize hu : evO T a = u at hr
          cases hr with
          | elt _ ho hi =>
            obtain ⟨q3, q4, ⟨_, q⟩ | ⟨q0, q1, q2, q5, c, n, z, t', q6, q7, q8, q9⟩⟩ := h1s.ob a' _ (nth_some hx)
            · subst q; simp at q3; omega
            have hil : i' < l.length := by omega
            have hxx := getD_some (d := Dat.dflt cd) (l := l) (n := i') hil
            obtain ⟨vo, r1, r2⟩ := q9 i' _ hxx
            have hof : ∀ u ∈ vo, f1 u = true := fun u hu => by obtain ⟨j, hj⟩ := List.getElem?_of_mem hu; exact (r2 j u hj).2
            obtain ⟨cs, vn, s1, s2, s3, s4, s5, s6⟩ := hcore vo hil r1 hof
            have hvo := reps_sz r1
            have hvn := reps_sz s5
            have hmul : (i' + 1) * Dat.sz cd ≤ l.length * Dat.sz cd := Nat.mul_le_mul_right _ hil
            have hmul2 : l.length * Dat.sz cd ≤ g.cap a' * Dat.sz cd := Nat.mul_le_mul_right _ q5
            rw [Nat.add_mul, Nat.one_mul] at hmul
            have hfit : i' * g.es a' + off + cs.length ≤ n := by rw [q4]; omega
            obtain ⟨k1, k2⟩ := h1s.setO (a := a') (x' := .arr cd (l.set i' y)) (Φ' := Φ1) (H' := ⟨H.n, H.b.put (g.blk a') (.cells (Tr.putL cs (i' * g.es a' + off) c) n z t' false)⟩) (nth_some hx) ⟨trivial, q0⟩ rfl (FLe.refl _) (fun _ _ => rfl) (fun b hb => Tr.get_put_ne _ _ hb)
              (fun y hy => by rw [q2] at hy; cases hy) ⟨by rw [List.length_set]; exact q3, q4, .inr ⟨q0, q1, q2, by rw [List.length_set]; exact q5, _, n, z, t', Tr.get_put_eq _ _ _, q7, q8, fun k xx hk => by
                rw [List.getElem?_set] at hk
                split at hk
                · rename_i hik
                  subst hik
                  simp at hk
                  obtain ⟨_, rfl⟩ : _ ∧ y = xx := ⟨hil, by first | exact hk | exact hk.2⟩
                  refine ⟨vn, s5, fun j u hj => ⟨?_, s6 u (List.mem_of_getElem? hj)⟩⟩
                  rw [s4, splice_get (by omega)] at hj
                  rw [Tr.get_putL, q4]
                  split at hj
                  · rename_i hjj
                    rw [if_pos (by omega), show 0 + i' * Dat.sz cd + j - (i' * Dat.sz cd + off) = j - off by omega]
                    exact hj
                  · rename_i hjj
                    rw [if_neg (by omega)]
                    exact (r2 j u hj).1
                · rename_i hik
                  obtain ⟨vk, w1, w2⟩ := q9 k xx hk
                  have hvk := reps_sz w1
                  refine ⟨vk, w1, fun j u hj => ⟨?_, (w2 j u hj).2⟩⟩
                  have hjl : j < Dat.sz cd := by have := (List.getElem?_eq_some_iff.1 hj).1; omega
                  rw [Tr.get_putL, q4, if_neg]
                  · exact (w2 j u hj).1
                  · rintro ⟨y1, y2⟩
                    rcases Nat.lt_or_gt_of_ne hik with hlt | hlt
                    · have := Nat.mul_le_mul_right (Dat.sz cd) (show i' + 1 ≤ k from hlt)
                      rw [Nat.add_mul, Nat.one_mul] at this
                      omega
                    · have := Nat.mul_le_mul_right (Dat.sz cd) (show k + 1 ≤ i' from hlt)
                      rw [Nat.add_mul, Nat.one_mul] at this
                      omega⟩⟩ (fun e => by cases e) (fun l' e => by cases e) [a'] (fun b hb => Tr.get_put_ne _ _ (fun e => hb a' (by simp) q0 e.symm)) (fun p hp => by simp at hp; subst hp; exact ⟨_, nth_some hx, fun _ => trivial⟩)
            have hlive : ∃ y : PObj, os[a']? = some y ∧ y.live := ⟨_, frzV_arr hfv (nth_some hx), trivial⟩
            refine ⟨_, _, Φ1, g, run hu s1 s2 q6 hfit, .und rfl, k1, hnx.nil_trans k2 (fun p hp => by simp at hp; subst hp; obtain ⟨y, y1, y2⟩ := hlive; exact ⟨y, y1, fun _ => y2⟩)⟩
        split at h
        · rename_i hq
          rw [Bool.and_eq_true] at hq
          obtain rfl := Nat.eq_of_beq_eq_true hq.1
          have hq2 := Nat.eq_of_beq_eq_true hq.2
          split at h
          · rename_i y hy
            simp only [PR.ok.injEq] at h
            obtain ⟨_, e1, e2, e3⟩ := h
            intro Φ g T H R
            obtain ⟨Φ1, k1, k2, k3⟩ := frzV_sim R.hs (opnd_rep R.tm hxo) hfv
            refine core y Φ g T H Φ1 R k1 k3 e1.symm e2.symm e3.symm fun vo hi hvo hvf => ?_
            obtain ⟨vs, m1, m2, m3, m4⟩ := mkE_rep k2 hy
            have := reps_sz m2
            have h0 := reps_sz hvo
            refine ⟨vs, vs, m1, by omega, by omega, ?_, m2, m3⟩
            unfold splice
            rw [List.take_zero, List.drop_eq_nil_of_le (by show vo.length ≤ 0 + vs.length; omega)]
            simp
          · cases h
        · split at h
          · rename_i cs hcs
            cases hq : Nat.beq cs.length b.size && Nat.ble (Nat.add off b.size) (Dat.sz cd) with
            | false => rw [hq] at h; cases h
            | true =>
              rw [hq] at h
              rw [Bool.and_eq_true] at hq
              have hq1 := Nat.eq_of_beq_eq_true hq.1
              have hq2 : off + b.size ≤ Dat.sz cd := Nat.le_of_ble_eq_true hq.2
              rw [cond_true] at h
              split at h
              · rename_i y hy
                simp only [PR.ok.injEq] at h
                obtain ⟨_, e1, e2, e3⟩ := h
                intro Φ g T H R
                obtain ⟨Φ1, k1, k2, k3⟩ := frzV_sim R.hs (opnd_rep R.tm hxo) hfv
                refine core y Φ g T H Φ1 R k1 k3 e1.symm e2.symm e3.symm fun vo hi hvo hvf => ?_
                obtain ⟨vs, m1, m2, m3, m4⟩ := cells_rep k2 hcs
                have hl := m2.length
                refine ⟨vs, splice vo off vs, m1, by omega, by omega, rfl, (hvo.splice off m2).likes (Dat.mkOk _ _ _ hy), fun u hu => ?_⟩
                unfold splice at hu
                simp only [List.mem_append] at hu
                rcases hu with hu | hu | hu
                · exact hvf u (List.mem_of_mem_take hu)
                · exact m3 u hu
                · exact hvf u (List.mem_of_mem_drop hu)
              · cases h
          · cases h
      · cases h
    · cases h
  · cases h
end Go.Pv
namespace Go.Pv
open Go Go.EvM
set_option linter.unusedVariables false
set_option linter.unusedSectionVars false
variable [Dat] {cx : Cx} {tb : TypeId → Option TB} {e : PEnv} {os os' : List PObj} {Φ : Fz} {g : Gh} {T : Tr Value} {H : Hp} {v : V} {tt : List Nat}
theorem good_alloc (C : PvOk cx tb) {t : TypeId} (h : pop tb os e (.alloc t) = .ok true v os' tt) : Good cx e os (.alloc t) v os' tt := by
  have h : (match tb t with | some b => PR.ok true (.ptr os.length 0) (os ++ [PObj.cells b.zero]) [] | none => .no) = .ok true v os' tt := h
  split at h
  · rename_i b hb
    obtain ⟨i, h1, h2⟩ := C.tb t b hb
    simp only [PR.ok.injEq] at h
    obtain ⟨_, rfl, rfl, rfl⟩ := h
    intro Φ g T H R
    obtain ⟨k1, k2⟩ := R.hs.newCells (h2.zero Φ g) h2.zf ⟨1, some t⟩ true
    refine ⟨.pointer (some ⟨H.n, 0, none⟩), _, Φ, _, ?_, ?_, k1, k2⟩
    · show OpR Φ _ _ (cAlloc cx t) T H _ _
      unfold cAlloc
      rw [h1]
      exact .make (m := ⟨mkCells i.zero ⟨1, some t⟩ true, fun r => .pointer (some ⟨r, 0, none⟩)⟩) rfl ⟨os.length, by simp [leansOn], by rw [← R.hs.n]; exact if_pos rfl, by rw [← R.hs.n]; exact if_pos rfl⟩ (eqOb_refl (okT_ofL (by
        have := (h2.zero Φ g).length; have := h2.zl; have := h2.small; omega) (fun v hv => f3_of_f2 (f2_of_f1 (h2.zf v hv)))))
    · have := Rep.ptr (Φ := Φ) (g := g.push H.n 0 0 0 false) (o := os.length) 0 (by rw [← R.hs.n]; exact Nat.lt_succ_self _)
      rw [show (g.push H.n 0 0 0 false).blk os.length = H.n by rw [← R.hs.n]; exact if_pos rfl] at this
      exact this
  · cases h
theorem good_box {t : TypeId} {x : Operand} (hx : okP x = true) (h : pop tb os e (.box t x) = .ok true v os' tt) : Good cx e os (.box t x) v os' tt := by
  have h : (match cellsP (evP e x) with | some cs => PR.ok true (.ptr os.length 0) (os ++ [PObj.cells cs]) [] | none => .no) = .ok true v os' tt := h
  split at h
  · rename_i cs hcs
    simp only [PR.ok.injEq] at h
    obtain ⟨_, rfl, rfl, rfl⟩ := h
    intro Φ g T H R
    obtain ⟨vs, m1, m2, m3, m4⟩ := cells_rep (opnd_rep R.tm hx) hcs
    obtain ⟨k1, k2⟩ := R.hs.newCells m2 m3 ⟨1, none⟩ true
    refine ⟨.pointer (some ⟨H.n, 0, none⟩), _, Φ, _, ?_, ?_, k1, k2⟩
    · show OpR Φ _ _ (cBox x) T H _ _
      unfold cBox
      exact .make (m := ⟨mkCells vs ⟨1, none⟩ true, fun r => .pointer (some ⟨r, 0, none⟩)⟩) (by rw [m1]) ⟨os.length, by simp [leansOn], by rw [← R.hs.n]; exact if_pos rfl, by rw [← R.hs.n]; exact if_pos rfl⟩ (eqOb_refl (okT_ofL (by omega) (fun v hv => f3_of_f2 (f2_of_f1 (m3 v hv)))))
    · have := Rep.ptr (Φ := Φ) (g := g.push H.n 0 0 0 false) (o := os.length) 0 (by rw [← R.hs.n]; exact Nat.lt_succ_self _)
      rw [show (g.push H.n 0 0 0 false).blk os.length = H.n by rw [← R.hs.n]; exact if_pos rfl] at this
      exact this
  · cases h
theorem placesL_ok (cx : Cx) : ∀ (l : List Field), (∀ fd ∈ l, ∃ fi, cx.ti fd.type = some fi) → ∃ pl, placesL cx l = some pl ∧ ∀ (f : Nat) (fd : Field) (fi : TI), l[f]? = some fd → cx.ti fd.type = some fi → pl[f]? = some (fd.offset, fi.size)
  | [], _ => ⟨[], rfl, fun f fd fi h => by simp at h⟩
  | fd :: l, h => by
    obtain ⟨fi, h1⟩ := h fd (by simp)
    obtain ⟨pl, h2, h3⟩ := placesL_ok cx l (fun x hx => h x (by simp [hx]))
    refine ⟨(fd.offset, fi.size) :: pl, by simp [placesL, h1, h2], fun f fd' fi' hf ht => ?_⟩
    cases f with
    | zero => simp at hf; subst hf; rw [h1] at ht; cases ht; rfl
    | succ f => simpa using h3 f fd' fi' (by simpa using hf) ht
theorem At.put {c : Tr Value} {vs cs : List Value} {off : Nat} (h : At c 0 vs) (hl : off + cs.length ≤ vs.length) : At (Tr.putL cs off c) 0 (splice vs off cs) := fun j v hv => by
  rw [splice_get hl] at hv
  rw [Nat.zero_add, Tr.get_putL]
  split at hv
  · rename_i hj; rw [if_pos hj]; exact hv
  · rename_i hj; rw [if_neg hj]; have := h j v hv; rw [Nat.zero_add] at this; exact this
theorem splice_mem {α : Type} {l cs : List α} {off : Nat} {x : α} (h : x ∈ splice l off cs) : x ∈ l ∨ x ∈ cs := by
  unfold splice at h
  simp only [List.mem_append] at h
  rcases h with h | h | h
  · exact .inl (List.mem_of_mem_take h)
  · exact .inr h
  · exact .inl (List.mem_of_mem_drop h)
theorem fill_sim {fs : List (Nat × Nat × Bool)} {place : Nat → Option (Nat × Nat)} (hp : ∀ j off size ag, fs[j]? = some (off, size, ag) → place j = some (off, size)) (ht : ∀ t, Rep Φ g (e t) (slotV T t)) :
    ∀ (ps : List (Nat × Operand)) (z l : List V) (c : Tr Value) (vs : List Value), ps.all (fun p => okP p.2) = true → fillP fs z (partsP e ps) = some l → Reps Φ g z vs → At c 0 vs → (∀ u ∈ vs, f1 u = true) →
      ∃ c' vs', fillL c vs.length place (ps.map fun p => (p.1, evO T p.2)) = some c' ∧ Reps Φ g l vs' ∧ At c' 0 vs' ∧ vs'.length = vs.length ∧ (∀ u ∈ vs', f1 u = true)
  | [], z, l, c, vs, _, h, hr, ha, hf => by
    have h : some z = some l := h
    cases h
    exact ⟨c, vs, rfl, hr, ha, rfl, hf⟩
  | (j, x) :: ps, z, l, c, vs, hok, h, hr, ha, hf => by
    simp only [List.all_cons, Bool.and_eq_true] at hok
    have h : (match nth fs j, cellsP (evP e x) with
      | some (off, size, _), some cs => bif Nat.beq cs.length size && Nat.ble (Nat.add off size) z.length then fillP fs (splice z off cs) (partsP e ps) else none
      | _, _ => none) = some l := h
    split at h
    · rename_i off size ag cs hf1 hcs
      cases hq : Nat.beq cs.length size && Nat.ble (Nat.add off size) z.length with
      | false => rw [hq] at h; cases h
      | true =>
        rw [hq] at h
        rw [Bool.and_eq_true] at hq
        have hq1 := Nat.eq_of_beq_eq_true hq.1
        have hq2 : off + size ≤ z.length := Nat.le_of_ble_eq_true hq.2
        obtain ⟨us, m1, m2, m3, m4⟩ := cells_rep (opnd_rep ht hok.1) hcs
        have hul := m2.length
        have hzl := hr.length
        have hfit : off + us.length ≤ vs.length := by omega
        obtain ⟨c', vs', k1, k2, k3, k4, k5⟩ := fill_sim hp ht ps (splice z off cs) l (Tr.putL us off c) (splice vs off us) hok.2 h (hr.splice off m2) (ha.put hfit) (fun u hu => by
          rcases splice_mem hu with hu | hu
          · exact hf u hu
          · exact m3 u hu)
        rw [splice_length hfit] at k1 k4
        refine ⟨c', vs', ?_, k2, k3, k4, k5⟩
        show (match place j with
          | none => none
          | some (off, size) => match cellsL (evO T x) with
            | some cs => bif Nat.beq cs.length size && Nat.ble (Nat.add off size) vs.length then fillL (Tr.putL cs off c) vs.length place (ps.map fun p => (p.1, evO T p.2)) else none
            | none => none) = some c'
        rw [hp j off size ag (nth_some hf1)]
        dsimp only
        rw [m1]
        dsimp only
        rw [show (Nat.beq us.length size && Nat.ble (Nat.add off size) vs.length) = true by
          rw [Bool.and_eq_true]; exact ⟨by rw [hul, hq1]; simp, Nat.ble_eq_true_of_le (by show off + size ≤ vs.length; omega)⟩]
        exact k1
    · cases h
theorem parts_ok {t : TypeId} {ps : Array (Nat × Operand)} (h : (Op.build t ps).operands.toList.all okP = true) : ps.toList.all (fun p => okP p.2) = true := by
  have : (Op.build t ps).operands.toList = ps.toList.map (·.2) := by simp [Op.operands]
  rw [this, List.all_map] at h
  exact h
theorem parts_ok2 {t : TypeId} {n : Nat} {ps : Array (Nat × Operand)} (h : (Op.buildSlice t n ps).operands.toList.all okP = true) : ps.toList.all (fun p => okP p.2) = true := by
  have : (Op.buildSlice t n ps).operands.toList = ps.toList.map (·.2) := by simp [Op.operands]
  rw [this, List.all_map] at h
  exact h
theorem good_build (C : PvOk cx tb) {t : TypeId} {ps : Array (Nat × Operand)} (hx : ps.toList.all (fun p => okP p.2) = true) (h : pop tb os e (.build t ps) = .ok true v os' tt) : Good cx e os (.build t ps) v os' tt := by
  have h : (match tb t with
    | some b => (match b.kind with
      | .strc fs => (match fillP fs b.zero (partsP e ps.toList) with | some l => PR.ok true (.agg l) os [] | none => .no)
      | _ => .no)
    | none => .no) = .ok true v os' tt := h
  split at h
  · rename_i b hb
    obtain ⟨i, h1, h2⟩ := C.tb t b hb
    split at h
    · rename_i fs hk
      have hk2 := h2.kind
      rw [hk] at hk2
      obtain ⟨a, k1, k0, k2⟩ := hk2
      split at h
      · rename_i l hl
        simp only [PR.ok.injEq] at h
        obtain ⟨_, rfl, rfl, rfl⟩ := h
        obtain ⟨pl, p1, p2⟩ := placesL_ok cx a.toList k0
        refine Good.same fun Φ g T H R => ?_
        have hz := h2.zero Φ g
        have hzl : i.zero.length = b.size := by rw [hz.length, h2.zl]
        obtain ⟨c', vs', m1, m2, m3, m4, m5⟩ := fill_sim (place := fun j => nth pl j) (fun j off size ag hf => by
          obtain ⟨fd, fi, j1, j2, j3, j4, j5⟩ := k2 j off size ag hf
          show nth pl j = _
          rw [nth_eq, p2 j fd fi j1 j3, j2, j4]) R.tm ps.toList b.zero l (Tr.ofL i.zero) i.zero hx hl hz (fun j v hv => by rw [Nat.zero_add, Tr.get_ofL]; exact hv) h2.zf
        refine ⟨.agg ⟨vs'⟩, ?_, .agg m2 m5 (by have := h2.small; omega)⟩
        show OpR Φ g _ (cBuild cx t ps) T H _ H
        unfold cBuild
        rw [h1]; dsimp only
        rw [k1]; dsimp only
        rw [p1]
        refine .pure ?_
        show buildS pl i.zero i.size (ps.toList.map fun p => (p.1, evO T p.2)) = _
        unfold buildS
        rw [h2.size, ← hzl, m1]
        dsimp only
        rw [← m4, m3.getL]
      · cases h
    · cases h
  · cases h
structure NvR (Φ : Fz) (g : Gh) (k : Nat) (l : List (Dat.S k)) (nv : List Value) : Prop where
  len : nv.length = l.length * Dat.sz k
  at_ : ∀ i x, l[i]? = some x → ∃ vs, Reps Φ g (Dat.fld k x) vs ∧ ∀ j v, vs[j]? = some v → nv[i * Dat.sz k + j]? = some v
  f1 : ∀ v ∈ nv, f1 v = true
theorem NvR.mono {Φ' : Fz} {g' : Gh} (hf : FLe Φ Φ') (hg : GLe g g') {k : Nat} {l : List (Dat.S k)} {nv : List Value} (h : NvR Φ g k l nv) : NvR Φ' g' k l nv :=
  ⟨h.len, fun i x hx => by obtain ⟨vs, h1, h2⟩ := h.at_ i x hx; exact ⟨vs, h1.mono hf hg, h2⟩, h.f1⟩
theorem NvR.nil (k : Nat) : NvR Φ g k [] [] := ⟨by simp, fun i x h => by simp at h, fun v h => by cases h⟩
theorem NvR.cons {k : Nat} {x : Dat.S k} {l : List (Dat.S k)} {vs nv : List Value} (h1 : Reps Φ g (Dat.fld k x) vs) (h2 : ∀ v ∈ vs, Pv.f1 v = true) (h : NvR Φ g k l nv) : NvR Φ g k (x :: l) (vs ++ nv) := by
  have hs := reps_sz h1
  refine ⟨by rw [List.length_append, h.len, hs, List.length_cons, Nat.add_mul, Nat.one_mul, Nat.add_comm], fun i y hy => ?_, fun v hv => ?_⟩
  · cases i with
    | zero =>
      simp at hy; subst hy
      exact ⟨vs, h1, fun j v hv => by rw [Nat.zero_mul, Nat.zero_add, List.getElem?_append_left (List.getElem?_eq_some_iff.1 hv).1]; exact hv⟩
    | succ i =>
      obtain ⟨us, k1, k2⟩ := h.at_ i y (by simpa using hy)
      refine ⟨us, k1, fun j v hv => ?_⟩
      rw [Nat.add_mul, Nat.one_mul, List.getElem?_append_right (by omega), hs, show i * Dat.sz k + Dat.sz k + j - Dat.sz k = i * Dat.sz k + j by omega]
      exact k2 j v hv
  · rcases List.mem_append.1 hv with hv | hv
    · exact h2 v hv
    · exact h.f1 v hv
theorem NvR.append {k : Nat} {l m : List (Dat.S k)} {a b : List Value} (h : NvR Φ g k l a) (h' : NvR Φ g k m b) : NvR Φ g k (l ++ m) (a ++ b) := by
  refine ⟨by rw [List.length_append, List.length_append, h.len, h'.len, Nat.add_mul], fun i x hx => ?_, fun v hv => ?_⟩
  · by_cases hi : i < l.length
    · rw [List.getElem?_append_left hi] at hx
      obtain ⟨vs, h1, h2⟩ := h.at_ i x hx
      exact ⟨vs, h1, fun j v hv => by rw [List.getElem?_append_left (List.getElem?_eq_some_iff.1 (h2 j v hv)).1]; exact h2 j v hv⟩
    · rw [List.getElem?_append_right (by omega)] at hx
      obtain ⟨vs, h1, h2⟩ := h'.at_ _ x hx
      refine ⟨vs, h1, fun j v hv => ?_⟩
      have hm : l.length * Dat.sz k ≤ i * Dat.sz k := Nat.mul_le_mul_right _ (by omega)
      rw [List.getElem?_append_right (by rw [h.len]; omega), h.len, show i * Dat.sz k + j - l.length * Dat.sz k = (i - l.length) * Dat.sz k + j by rw [Nat.sub_mul]; omega]
      exact h2 j v hv
  · rcases List.mem_append.1 hv with hv | hv
    · exact h.f1 v hv
    · exact h'.f1 v hv
theorem NvR.arr {k : Nat} {l : List (Dat.S k)} {nv : List Value} (h : NvR Φ g k l nv) {c : Tr Value} {off : Nat} (ha : At c off nv) : ArrC Φ g c off k l := fun i x hx => by
  obtain ⟨vs, h1, h2⟩ := h.at_ i x hx
  exact ⟨vs, h1, fun j v hv => ⟨by have := ha _ v (h2 j v hv); rw [Nat.add_assoc]; exact this, h.f1 v (List.mem_of_getElem? (h2 j v hv))⟩⟩
theorem ArrC.nv {k : Nat} : ∀ {l : List (Dat.S k)} {c : Tr Value} {off : Nat}, ArrC Φ g c off k l → ∃ nv, NvR Φ g k l nv ∧ At c off nv
  | [], c, off, _ => ⟨[], .nil k, fun j v h => by simp at h⟩
  | x :: l, c, off, h => by
    obtain ⟨vs, h1, h2⟩ := h 0 x (by simp)
    have hs := reps_sz h1
    obtain ⟨nv, k1, k2⟩ := ArrC.nv (l := l) (c := c) (off := off + Dat.sz k) (fun i y hy => by
      obtain ⟨us, m1, m2⟩ := h (i + 1) y (by simpa using hy)
      exact ⟨us, m1, fun j v hv => by have := m2 j v hv; rw [Nat.add_mul, Nat.one_mul] at this; rw [show off + Dat.sz k + i * Dat.sz k + j = off + (i * Dat.sz k + Dat.sz k) + j by omega]; exact this⟩)
    refine ⟨vs ++ nv, k1.cons h1 (fun v hv => by obtain ⟨j, hj⟩ := List.getElem?_of_mem hv; exact (h2 j v hj).2), fun j v hv => ?_⟩
    by_cases hj : j < vs.length
    · rw [List.getElem?_append_left hj] at hv
      have := (h2 j v hv).1
      rw [Nat.zero_mul, Nat.add_zero] at this; exact this
    · rw [List.getElem?_append_right (by omega)] at hv
      have := k2 _ v hv
      rw [show off + Dat.sz k + (j - vs.length) = off + j by omega] at this; exact this
theorem At.ofL (l : List Value) : At (Tr.ofL l) 0 l := fun j v hv => by rw [Nat.zero_add, Tr.get_ofL]; exact hv
theorem HS.newArr (h : HS Φ g os H) {k : Nat} {l : List (Dat.S k)} {nv : List Value} (hn : NvR Φ g k l nv) {c : Tr Value} (ha : At c 0 nv) {n cp : Nat} {z : ZT} {t : Bool} (hz : (t || Nat.beq z.z (Dat.sz k)) = true) (hc : l.length ≤ cp) (hcn : cp * Dat.sz k ≤ n) :
    HS Φ (g.push H.n cp l.length (Dat.sz k) false) (os ++ [.arr k l]) ⟨Nat.succ H.n, H.b.put H.n (.cells c n z t false)⟩ ∧ Nx Φ g os H Φ (g.push H.n cp l.length (Dat.sz k) false) (os ++ [.arr k l]) ⟨Nat.succ H.n, H.b.put H.n (.cells c n z t false)⟩ [] := by
  refine h.new H.n cp l.length (Dat.sz k) false (Nat.le_succ _) (fun b hb => Tr.get_put_ne _ _ (by omega)) (fun _ => Nat.le_refl _) ?_
  have hb : (g.push H.n cp l.length (Dat.sz k) false).blk g.n = H.n := if_pos rfl
  have hc' : (g.push H.n cp l.length (Dat.sz k) false).cap g.n = cp := if_pos rfl
  refine ⟨if_pos rfl, if_pos rfl, .inr ⟨if_pos rfl, by rw [hb]; exact Nat.lt_succ_self _, by rw [hb]; exact h.phi_new (Nat.le_refl _), by rw [hc']; exact hc, c, n, z, t, by rw [hb]; exact Tr.get_put_eq _ _ _, hz, by rw [hc']; exact hcn, ?_⟩⟩
  exact (hn.mono (FLe.refl _) (g.push_le _ _ _ _ _)).arr ha
theorem rep_loc_new (g : Gh) (Φ : Fz) {b cp ln es o : Nat} (ho : o = g.n) : Rep Φ (g.push b cp ln es false) (.loc o) (.slice (some ⟨b, 0, none⟩) ln cp) := by
  subst ho
  have := Rep.loc (Φ := Φ) (g := g.push b cp ln es false) (a := g.n) (Nat.lt_succ_self _) (if_pos rfl)
  rw [show (g.push b cp ln es false).blk g.n = b from if_pos rfl, show (g.push b cp ln es false).len g.n = ln from if_pos rfl, show (g.push b cp ln es false).cap g.n = cp from if_pos rfl] at this
  exact this
theorem listOf_sim (hs : HS Φ g os H) {c size : Nat} {p : V} {u : Value} {l : List (Dat.S c)} (hz : Dat.sz c = size) (h : listOf c os p = some l) (hr : Rep Φ g p u) :
    lenV u = some l.length ∧ ∃ nv, NvR Φ g c l nv ∧ ∀ H2 : Hp, (∀ b, ((∃ x, Φ b = some x) ∨ ∃ a, p = .loc a ∧ g.vir a = false ∧ g.blk a = b) → H2.b.get b = H.b.get b) → firstL H2 size l.length u = some nv := by
  have blk : ∀ {b off cp : Nat} {cs : Tr Value} {n : Nat} {z : ZT} {t r : Bool}, H.b.get b = some (.cells cs n z t r) → ArrC Φ g cs off c l → ((∃ x, Φ b = some x) ∨ ∃ a, p = .loc a ∧ g.vir a = false ∧ g.blk a = b) → u = .slice (some ⟨b, off, none⟩) l.length cp → lenV u = some l.length ∧ ∃ nv, NvR Φ g c l nv ∧ ∀ H2 : Hp, (∀ b, ((∃ x, Φ b = some x) ∨ ∃ a, p = .loc a ∧ g.vir a = false ∧ g.blk a = b) → H2.b.get b = H.b.get b) → firstL H2 size l.length u = some nv := fun {b off cp cs n z t r} h1 h2 h3 h4 => by
    subst h4
    obtain ⟨nv, k1, k2⟩ := h2.nv
    refine ⟨rfl, nv, k1, fun H2 hH => ?_⟩
    show (match H2.b.get b with | some (.cells c _ _ _ _) => c.getL (Nat.mul l.length size) off | _ => none) = some nv
    rw [hH b h3, h1]
    dsimp only
    have := k2.getL
    rw [k1.len, hz] at this
    exact this
  have nil : l = [] → u = .slice none 0 0 → lenV u = some l.length ∧ ∃ nv, NvR Φ g c l nv ∧ ∀ H2 : Hp, (∀ b, ((∃ x, Φ b = some x) ∨ ∃ a, p = .loc a ∧ g.vir a = false ∧ g.blk a = b) → H2.b.get b = H.b.get b) → firstL H2 size l.length u = some nv := fun h1 h2 => by
    subst h1 h2
    exact ⟨rfl, [], .nil c, fun H2 _ => rfl⟩
  unfold listOf at h
  split at h
  · rename_i d m
    split at h
    · rename_i hd
      subst hd
      cases h
      cases hr with
      | sln => exact nil rfl rfl
      | slb h1 h2 h3 h4 h5 => exact blk (hs.phi _ _ h1).2 (fun i x hx => ⟨_, h4 i x hx, h5 i x hx⟩) (.inl ⟨_, h1⟩) rfl
    · cases h
  · rename_i a
    have arr : ∀ (d : Nat) (m : List (Dat.S d)), (if h : d = c then some (h ▸ m) else none) = some l → (g.len a = m.length ∧ ((g.vir a = true ∧ m = []) ∨ (g.vir a = false ∧ ∃ cs n z t r, H.b.get (g.blk a) = some (.cells cs n z t r) ∧ ArrC Φ g cs 0 d m))) → lenV u = some l.length ∧ ∃ nv, NvR Φ g c l nv ∧ ∀ H2 : Hp, (∀ b, ((∃ x, Φ b = some x) ∨ ∃ a', PV.loc a = .loc a' ∧ g.vir a' = false ∧ g.blk a' = b) → H2.b.get b = H.b.get b) → firstL H2 size l.length u = some nv := fun d m h h2 => by
      split at h
      · rename_i hd
        subst hd
        cases h
        obtain ⟨h0, h2⟩ := h2
        cases hr with
        | loc0 ha hv =>
          rcases h2 with ⟨_, h2⟩ | ⟨h2, _⟩
          · exact nil h2 rfl
          · rw [hv] at h2; cases h2
        | loc ha hv =>
          rcases h2 with ⟨h2, _⟩ | ⟨_, cs, n, z, t, r, h2, h3⟩
          · rw [hv] at h2; cases h2
          · exact blk h2 h3 (.inr ⟨a, rfl, hv, rfl⟩) (by rw [h0])
      · cases h
    split at h
    · rename_i d m hx
      obtain ⟨q1, q2, q3⟩ := hs.ob a _ (nth_some hx)
      refine arr d m h ⟨q1, ?_⟩
      rcases q3 with q3 | ⟨q3, _, _, _, cs, n, z, t, q4, _, _, q5⟩
      · exact .inl q3
      · exact .inr ⟨q3, cs, n, z, t, false, q4, q5⟩
    · rename_i d m hx
      obtain ⟨q1, q2, q3⟩ := hs.ob a _ (nth_some hx)
      refine arr d m h ⟨q1, ?_⟩
      rcases q3 with q3 | ⟨q3, _, cs, n, z, t, r, q4, _, q5⟩
      · exact .inl q3
      · exact .inr ⟨q3, cs, n, z, t, r, (hs.phi _ _ q4).2, q5⟩
    · cases h
  · cases h
    cases hr
    exact nil rfl rfl
  · cases h
end Go.Pv
