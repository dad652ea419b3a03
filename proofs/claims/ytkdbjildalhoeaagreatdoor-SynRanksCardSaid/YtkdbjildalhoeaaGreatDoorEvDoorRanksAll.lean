/- DoorRanksAll: SynRanks' call. -/
import Derived.Test.YtkdbjildalhoeaaGreatDoorEvDoorRanks0
import Derived.Test.YtkdbjildalhoeaaGreatDoorEvDoorRanks1
import Derived.Test.YtkdbjildalhoeaaGreatDoorEvDoorRanks2
import Derived.Test.YtkdbjildalhoeaaGreatDoorEvDoorRanks3
namespace Go.EvM.DoorRun
open Go.RowKit Go.Proofs
set_option linter.unusedVariables false
theorem y_0 : ∀ b i k : Int, Yes5 (.ofNat 0) b i k
  | .negSucc m, i, k => r5n_0 m i k
  | .ofNat 0, i, k => y_00 i k
  | .ofNat 1, i, k => y_01 i k
  | .ofNat 2, i, k => y_02 i k
  | .ofNat 3, i, k => y_03 i k
  | .ofNat 4, i, k => y_04 i k
  | .ofNat (m + 5), i, k => r5p_0 m i k
theorem y_1 : ∀ b i k : Int, Yes5 (.ofNat 1) b i k
  | .negSucc m, i, k => r5n_1 m i k
  | .ofNat 0, i, k => y_10 i k
  | .ofNat 1, i, k => y_11 i k
  | .ofNat 2, i, k => y_12 i k
  | .ofNat 3, i, k => y_13 i k
  | .ofNat 4, i, k => y_14 i k
  | .ofNat (m + 5), i, k => r5p_1 m i k
theorem y_2 : ∀ b i k : Int, Yes5 (.ofNat 2) b i k
  | .negSucc m, i, k => r5n_2 m i k
  | .ofNat 0, i, k => y_20 i k
  | .ofNat 1, i, k => y_21 i k
  | .ofNat 2, i, k => y_22 i k
  | .ofNat 3, i, k => y_23 i k
  | .ofNat 4, i, k => y_24 i k
  | .ofNat (m + 5), i, k => r5p_2 m i k
theorem y_3 : ∀ b i k : Int, Yes5 (.ofNat 3) b i k
  | .negSucc m, i, k => r5n_3 m i k
  | .ofNat 0, i, k => y_30 i k
  | .ofNat 1, i, k => y_31 i k
  | .ofNat 2, i, k => y_32 i k
  | .ofNat 3, i, k => y_33 i k
  | .ofNat 4, i, k => y_34 i k
  | .ofNat (m + 5), i, k => r5p_3 m i k
theorem y_4 : ∀ b i k : Int, Yes5 (.ofNat 4) b i k
  | .negSucc m, i, k => r5n_4 m i k
  | .ofNat 0, i, k => y_40 i k
  | .ofNat 1, i, k => y_41 i k
  | .ofNat 2, i, k => y_42 i k
  | .ofNat 3, i, k => y_43 i k
  | .ofNat 4, i, k => y_44 i k
  | .ofNat (m + 5), i, k => r5p_4 m i k
theorem y_all : ∀ a b i k : Int, Yes5 a b i k
  | .negSucc m, b, i, k => r5n m b i k
  | .ofNat 0, b, i, k => y_0 b i k
  | .ofNat 1, b, i, k => y_1 b i k
  | .ofNat 2, b, i, k => y_2 b i k
  | .ofNat 3, b, i, k => y_3 b i k
  | .ofNat 4, b, i, k => y_4 b i k
  | .ofNat (m + 5), b, i, k => r5p m b i k
theorem synRanks (a b i k : Int) (w : World) : Calls Tryz.prog 5 #[.int .i64 a, .int .i64 b, .int .i64 i, .int .i64 k] w fun e w' => e = .returned (.bool true) ∧ Below w.heap.size w w' :=
  fast_yes sound 2000 f5 n5 b5 (y_all a b i k) (.cons (.int _ a) (.cons (.int _ b) (.cons (.int _ i) (.cons (.int _ k) .nil)))) w
#print axioms synRanks
end Go.EvM.DoorRun
