/- Ext: what some functions answer, told without their text. -/
import Derived.Test.YtnohfnepgcdlaaaGreatEmRun
namespace Go.EvM
set_option linter.unusedSectionVars false
variable [GLs]
open Go.RowKit
set_option linter.unusedVariables false

/-- abi.NoEscape. -/
def noEscE (args : List Value) (h : Hp) : OR :=
  match args with
  | [x] => .ok x h
  | _ => .no

noncomputable def cloneE (args : List Value) (h : Hp) : OR :=
  match args with
  | [.iface t (.map (some b))] => (match h.b.get b with
    | some (.map es) => .ok (.iface t (.map (some h.n))) ⟨Nat.succ h.n, h.b.put h.n (.map es)⟩
    | _ => .no)
  | _ => .no

/-- The values' sums, above and below nought. -/
noncomputable def upDown (es : List (Value × Value)) : Option (Int × Int) :=
  List.rec (motive := fun _ => Option (Int × Int)) (some (0, 0)) (fun e _ ih => match e.2, ih with
    | .int .i64 v, some (u, d) => bif ltI 0 v then some (Int.add u v, d) else some (u, Int.sub d v)
    | _, _ => none) es
noncomputable def trialE (f : Nat) (args : List Value) (h : Hp) : OR :=
  match args with
  | [.pointer (some ⟨b, off, none⟩)] => (match load1 h b (Nat.add off f) with
    | some (.map (some m)) => (match h.b.get m with
      | some (.map es) => (match upDown es with
        | some (u, d) => .ok (.tuple ⟨[.int .i64 (wr .i64 u), .int .i64 (wr .i64 d)]⟩) h
        | none => .no)
      | _ => .no)
    | _ => .no)
  | _ => .no

/-- A list of texts in order. -/
noncomputable def insL (x : List UInt8) (l : List (List UInt8)) : List (List UInt8) :=
  List.rec (motive := fun _ => List (List UInt8)) [x] (fun y m ih => bif ltL y x then y :: ih else x :: y :: m) l
noncomputable def sortL (l : List (List UInt8)) : List (List UInt8) := List.rec (motive := fun _ => List (List UInt8)) [] (fun x _ ih => insL x ih) l
noncomputable def keysL (es : List (Value × Value)) : Option (List (List UInt8)) :=
  List.rec (motive := fun _ => Option (List (List UInt8))) (some []) (fun e _ ih => match e.1, ih with
    | .string s, some l => some (s.data.toList :: l)
    | _, _ => none) es
noncomputable def memL (x : List UInt8) (l : List (List UInt8)) : Bool := l.any (eqL x)
noncomputable def keysOk (l : List (List UInt8)) : Bool :=
  List.rec (motive := fun _ => Bool) true (fun x l ih => Nat.blt x.length lim63 && !(memL x l) && ih) l
noncomputable def loadT (h : Hp) (b : Nat) : Option Value :=
  match h.b.get b with
  | some (.cells c _ _ t _) => (match t with | true => c.get 0 | false => none)
  | _ => none
/-- slices.Sorted at what maps.Keys handed back ('it': the iterator). -/
noncomputable def sortedE (it : FuncId) (args : List Value) (h : Hp) : OR :=
  match args with
  | [.func (.func g) a c] => (match Nat.beq g it, a.toList, c.toList with
    | true, [], [.pointer (some ⟨b, 0, none⟩)] => (match loadT h b with
      | some (.map (some m)) => (match h.b.get m with
        | some (.map es) => (match keysL es with
          | some ks => bif keysOk ks && Nat.blt (Nat.mul es.length 16) 140737488355328 then
              (match sortL ks with
              | [] => .ok (.slice none 0 0) h
              | l => .ok (.slice (some ⟨h.n, 0, none⟩) l.length l.length) ⟨Nat.succ h.n, h.b.put h.n (.cells (Tr.ofL (l.map fun x => Value.string ⟨⟨x⟩⟩)) l.length ⟨1, none⟩ false false)⟩)
            else .no
          | none => .no)
        | _ => .no)
      | _ => .no)
    | _, _, _ => .no)
  | _ => .no

theorem ext_cases {f k : Nat} {x e : List Value → Hp → OR} {r : Option (List Value → Hp → OR)} (h : (bif Nat.beq f k then some x else r) = some e) : (f = k ∧ x = e) ∨ r = some e := by
  cases h1 : Nat.beq f k with
  | true => rw [h1] at h; exact .inl ⟨Nat.eq_of_beq_eq_true h1, Option.some.inj h⟩
  | false => rw [h1] at h; exact .inr h
theorem sum_of {P : Program} {f k : Nat} {x e : List Value → Hp → OR} (h : f = k ∧ x = e) (H : SumOk P k x) : SumOk P f e := by
  obtain ⟨rfl, rfl⟩ := h; exact H
end Go.EvM
