/- Ext: what some functions answer, told without their text. -/
import Derived.Test.YtmnpdgldmpjekaaEvRun
namespace Go.EvM
open Go.RowKit
set_option linter.unusedVariables false

noncomputable def cloneE (args : List Value) (h : Hp) : OR :=
  match args with
  | [.iface t (.map (some b))] => (match h.b.get b with
    | some (.map es cl) => .ok (.iface t (.map (some h.n))) ⟨Nat.succ h.n, h.b.put h.n (.map es cl)⟩
    | _ => .no)
  | _ => .no

/-- The values' sums, above and below nought. -/
noncomputable def upDown (es : List (Value × Value × Nat)) : Option (Int × Int) :=
  List.rec (motive := fun _ => Option (Int × Int)) (some (0, 0)) (fun e _ ih => match e.2.1, ih with
    | .int .i64 v, some (u, d) => bif ltI 0 v then some (Int.add u v, d) else some (u, Int.sub d v)
    | _, _ => none) es
/-- Stamps: each below the clock, no two alike. -/
noncomputable def stampsOk (cl : Nat) (es : List (Value × Value × Nat)) : Bool :=
  List.rec (motive := fun _ => Bool) true (fun e l ih => Nat.blt e.2.2 cl && l.all (fun f => !(Nat.beq e.2.2 f.2.2)) && ih) es
noncomputable def trialE (f : Nat) (args : List Value) (h : Hp) : OR :=
  match args with
  | [.pointer (some ⟨b, off, none⟩)] => (match load1 h b (Nat.add off f) with
    | some (.map (some m)) => (match h.b.get m with
      | some (.map es cl) => (match stampsOk cl es, upDown es with
        | true, some (u, d) => .ok (.tuple ⟨[.int .i64 (wr .i64 u), .int .i64 (wr .i64 d)]⟩) h
        | _, _ => .no)
      | _ => .no)
    | _ => .no)
  | _ => .no

/-- A list of texts in order. -/
noncomputable def insL (x : List UInt8) (l : List (List UInt8)) : List (List UInt8) :=
  List.rec (motive := fun _ => List (List UInt8)) [x] (fun y m ih => bif ltL y x then y :: ih else x :: y :: m) l
noncomputable def sortL (l : List (List UInt8)) : List (List UInt8) := List.rec (motive := fun _ => List (List UInt8)) [] (fun x _ ih => insL x ih) l
noncomputable def keysL (es : List (Value × Value × Nat)) : Option (List (List UInt8)) :=
  List.rec (motive := fun _ => Option (List (List UInt8))) (some []) (fun e _ ih => match e.1, ih with
    | .string s, some l => some (s.data.toList :: l)
    | _, _ => none) es
noncomputable def memL (x : List UInt8) (l : List (List UInt8)) : Bool := l.any (eqL x)
noncomputable def keysOk (l : List (List UInt8)) : Bool :=
  List.rec (motive := fun _ => Bool) true (fun x l ih => Nat.blt x.length lim63 && !(memL x l) && ih) l
noncomputable def loadT (h : Hp) (b : Nat) : Option Value :=
  match h.b.get b with
  | some (.cells c _ _ t _) => (match t with | true => c.get 0 | false => none)
  | _ => none
/-- slices.Sorted at what maps.Keys handed back ('it': the iterator). -/
noncomputable def sortedE (it : FuncId) (args : List Value) (h : Hp) : OR :=
  match args with
  | [.func (.func g) a c] => (match Nat.beq g it, a.toList, c.toList with
    | true, [], [.pointer (some ⟨b, 0, none⟩)] => (match loadT h b with
      | some (.map (some m)) => (match h.b.get m with
        | some (.map es cl) => (match keysL es with
          | some ks => bif stampsOk cl es && keysOk ks && Nat.blt (Nat.mul es.length 16) 140737488355328 then
              (match sortL ks with
              | [] => .ok (.slice none 0 0) h
              | l => .ok (.slice (some ⟨h.n, 0, none⟩) l.length l.length) ⟨Nat.succ h.n, h.b.put h.n (.cells (Tr.ofL (l.map fun x => Value.string ⟨⟨x⟩⟩)) l.length 1 false false)⟩)
            else .no
          | none => .no)
        | _ => .no)
      | _ => .no)
    | _, _, _ => .no)
  | _ => .no
end Go.EvM
