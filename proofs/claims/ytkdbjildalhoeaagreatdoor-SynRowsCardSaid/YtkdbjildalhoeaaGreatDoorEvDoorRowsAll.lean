/- DoorRowsAll: SynRows' call. -/
import Derived.Test.YtkdbjildalhoeaaGreatDoorEvDoorRows0
import Derived.Test.YtkdbjildalhoeaaGreatDoorEvDoorRows1
import Derived.Test.YtkdbjildalhoeaaGreatDoorEvDoorRows2
import Derived.Test.YtkdbjildalhoeaaGreatDoorEvDoorRows3
import Derived.Test.YtkdbjildalhoeaaGreatDoorEvDoorRowsB3
import Derived.Test.YtkdbjildalhoeaaGreatDoorEvDoorRowsC0
import Derived.Test.YtkdbjildalhoeaaGreatDoorEvDoorRowsC1
import Derived.Test.YtkdbjildalhoeaaGreatDoorEvDoorRowsC2
import Derived.Test.YtkdbjildalhoeaaGreatDoorEvDoorRowsC3
import Derived.Test.YtkdbjildalhoeaaGreatDoorEvDoorRowsD
namespace Go.EvM.DoorRun
open Go.RowKit Go.Proofs
set_option linter.unusedVariables false
theorem y7 : ∀ n : Int, Yes7 n ∨ Yes8 n ∨ Yes9 n ∨ Yes10 n
  | .negSucc m => .inl (r7n m)
  | .ofNat 0 => .inl r7_0
  | .ofNat 1 => .inl r7_1
  | .ofNat 2 => .inl r7_2
  | .ofNat 3 => .inl r7_3
  | .ofNat 4 => .inl r7_4
  | .ofNat 5 => .inl r7_5
  | .ofNat 6 => .inl r7_6
  | .ofNat 7 => .inl r7_7
  | .ofNat 8 => .inl r7_8
  | .ofNat 9 => .inl r7_9
  | .ofNat 10 => .inl r7_10
  | .ofNat 11 => .inl r7_11
  | .ofNat 12 => .inl r7_12
  | .ofNat 13 => .inl r7_13
  | .ofNat 14 => .inl r7_14
  | .ofNat 15 => .inl r7_15
  | .ofNat 16 => .inl r7_16
  | .ofNat 17 => .inl r7_17
  | .ofNat 18 => .inl r7_18
  | .ofNat 19 => .inl r7_19
  | .ofNat 20 => .inl r7_20
  | .ofNat 21 => .inl r7_21
  | .ofNat 22 => .inl r7_22
  | .ofNat 23 => .inl r7_23
  | .ofNat 24 => .inl r7_24
  | .ofNat 25 => .inl r7_25
  | .ofNat 26 => .inl r7_26
  | .ofNat 27 => .inl r7_27
  | .ofNat 28 => .inl r7_28
  | .ofNat 29 => .inl r7_29
  | .ofNat 30 => .inl r7_30
  | .ofNat 31 => .inr (.inr (.inl r9_31))
  | .ofNat 32 => .inr (.inr (.inl r9_32))
  | .ofNat 33 => .inr (.inr (.inl r9_33))
  | .ofNat 34 => .inr (.inr (.inl r9_34))
  | .ofNat 35 => .inr (.inr (.inl r9_35))
  | .ofNat 36 => .inr (.inl r8_36)
  | .ofNat 37 => .inr (.inl r8_37)
  | .ofNat 38 => .inr (.inr (.inl r9_38))
  | .ofNat 39 => .inr (.inr (.inl r9_39))
  | .ofNat 40 => .inr (.inr (.inr r10_40))
  | .ofNat (m + 41) => .inl (r7p m)
theorem synRows (n : Int) (w : World) : Calls Tryz.prog 7 #[.int .i64 n] w fun e w' => e = .returned (.bool true) ∧ Below w.heap.size w w' :=
  (y7 n).elim (fun h => fast_yes sound 2000 f7 n7 b7 h (.cons (.int _ n) .nil) w)
    (fun h => h.elim (fun h => fast_yes sound2 2000 f7 n7 b7 h (.cons (.int _ n) .nil) w) (fun h => h.elim (fun h => fast_yes sound3 2000 f7 n7 b7 h (.cons (.int _ n) .nil) w) (fun h => fast_yes sound4 2000 f7 n7 b7 h (.cons (.int _ n) .nil) w)))
#print axioms synRows
end Go.EvM.DoorRun
