/- DoorRanks0: SynRanks, case by case. -/
import Derived.Test.YtkdbjildalhoeaaGreatDoorEvDoorRanks
namespace Go.EvM.DoorRun
open Go.RowKit Go.Proofs
set_option linter.unusedVariables false
theorem i1_00 (m : Nat) (k : Int) : Yes5 (.ofNat 0) (.ofNat 0) (.negSucc m) k := by unfold Yes5; kernel_rfl
theorem k1_00 (n m : Nat) : Yes5 (.ofNat 0) (.ofNat 0) (.ofNat n) (.negSucc m) := by unfold Yes5; kernel_rfl
theorem i2_00 (m n : Nat) : Yes5 (.ofNat 0) (.ofNat 0) (.ofNat (Nat.succ m)) (.ofNat n) := by unfold Yes5; kernel_rfl
theorem k2_00_0 (m : Nat) : Yes5 (.ofNat 0) (.ofNat 0) (.ofNat 0) (.ofNat (Nat.succ m)) := by unfold Yes5; kernel_rfl
theorem m_00_00 : Yes5 (.ofNat 0) (.ofNat 0) (.ofNat 0) (.ofNat 0) := by unfold Yes5; kernel_rfl
theorem y_00 : ∀ i k : Int, Yes5 (.ofNat 0) (.ofNat 0) i k
  | .negSucc m, k => i1_00 m k
  | .ofNat n, .negSucc m => k1_00 n m
  | .ofNat 0, .ofNat 0 => m_00_00
  | .ofNat 0, .ofNat (m + 1) => k2_00_0 m
  | .ofNat (m + 1), .ofNat n => i2_00 m n
theorem i1_01 (m : Nat) (k : Int) : Yes5 (.ofNat 0) (.ofNat 1) (.negSucc m) k := by unfold Yes5; kernel_rfl
theorem k1_01 (n m : Nat) : Yes5 (.ofNat 0) (.ofNat 1) (.ofNat n) (.negSucc m) := by unfold Yes5; kernel_rfl
theorem i2_01 (m n : Nat) : Yes5 (.ofNat 0) (.ofNat 1) (.ofNat (Nat.succ m)) (.ofNat n) := by unfold Yes5; kernel_rfl
theorem k2_01_0 (m : Nat) : Yes5 (.ofNat 0) (.ofNat 1) (.ofNat 0) (.ofNat (Nat.succ m)) := by unfold Yes5; kernel_rfl
theorem m_01_00 : Yes5 (.ofNat 0) (.ofNat 1) (.ofNat 0) (.ofNat 0) := by unfold Yes5; kernel_rfl
theorem y_01 : ∀ i k : Int, Yes5 (.ofNat 0) (.ofNat 1) i k
  | .negSucc m, k => i1_01 m k
  | .ofNat n, .negSucc m => k1_01 n m
  | .ofNat 0, .ofNat 0 => m_01_00
  | .ofNat 0, .ofNat (m + 1) => k2_01_0 m
  | .ofNat (m + 1), .ofNat n => i2_01 m n
theorem i1_02 (m : Nat) (k : Int) : Yes5 (.ofNat 0) (.ofNat 2) (.negSucc m) k := by unfold Yes5; kernel_rfl
theorem k1_02 (n m : Nat) : Yes5 (.ofNat 0) (.ofNat 2) (.ofNat n) (.negSucc m) := by unfold Yes5; kernel_rfl
theorem i2_02 (m n : Nat) : Yes5 (.ofNat 0) (.ofNat 2) (.ofNat (Nat.succ m)) (.ofNat n) := by unfold Yes5; kernel_rfl
theorem k2_02_0 (m : Nat) : Yes5 (.ofNat 0) (.ofNat 2) (.ofNat 0) (.ofNat (Nat.succ (Nat.succ (Nat.succ (Nat.succ (Nat.succ (Nat.succ m))))))) := by unfold Yes5; kernel_rfl
theorem m_02_00 : Yes5 (.ofNat 0) (.ofNat 2) (.ofNat 0) (.ofNat 0) := by unfold Yes5; kernel_rfl
theorem m_02_01 : Yes5 (.ofNat 0) (.ofNat 2) (.ofNat 0) (.ofNat 1) := by unfold Yes5; kernel_rfl
theorem m_02_02 : Yes5 (.ofNat 0) (.ofNat 2) (.ofNat 0) (.ofNat 2) := by unfold Yes5; kernel_rfl
theorem m_02_03 : Yes5 (.ofNat 0) (.ofNat 2) (.ofNat 0) (.ofNat 3) := by unfold Yes5; kernel_rfl
theorem m_02_04 : Yes5 (.ofNat 0) (.ofNat 2) (.ofNat 0) (.ofNat 4) := by unfold Yes5; kernel_rfl
theorem m_02_05 : Yes5 (.ofNat 0) (.ofNat 2) (.ofNat 0) (.ofNat 5) := by unfold Yes5; kernel_rfl
theorem y_02 : ∀ i k : Int, Yes5 (.ofNat 0) (.ofNat 2) i k
  | .negSucc m, k => i1_02 m k
  | .ofNat n, .negSucc m => k1_02 n m
  | .ofNat 0, .ofNat 0 => m_02_00
  | .ofNat 0, .ofNat 1 => m_02_01
  | .ofNat 0, .ofNat 2 => m_02_02
  | .ofNat 0, .ofNat 3 => m_02_03
  | .ofNat 0, .ofNat 4 => m_02_04
  | .ofNat 0, .ofNat 5 => m_02_05
  | .ofNat 0, .ofNat (m + 6) => k2_02_0 m
  | .ofNat (m + 1), .ofNat n => i2_02 m n
theorem i1_03 (m : Nat) (k : Int) : Yes5 (.ofNat 0) (.ofNat 3) (.negSucc m) k := by unfold Yes5; kernel_rfl
theorem k1_03 (n m : Nat) : Yes5 (.ofNat 0) (.ofNat 3) (.ofNat n) (.negSucc m) := by unfold Yes5; kernel_rfl
theorem i2_03 (m n : Nat) : Yes5 (.ofNat 0) (.ofNat 3) (.ofNat (Nat.succ m)) (.ofNat n) := by unfold Yes5; kernel_rfl
theorem k2_03_0 (m : Nat) : Yes5 (.ofNat 0) (.ofNat 3) (.ofNat 0) (.ofNat (Nat.succ (Nat.succ m))) := by unfold Yes5; kernel_rfl
theorem m_03_00 : Yes5 (.ofNat 0) (.ofNat 3) (.ofNat 0) (.ofNat 0) := by unfold Yes5; kernel_rfl
theorem m_03_01 : Yes5 (.ofNat 0) (.ofNat 3) (.ofNat 0) (.ofNat 1) := by unfold Yes5; kernel_rfl
theorem y_03 : ∀ i k : Int, Yes5 (.ofNat 0) (.ofNat 3) i k
  | .negSucc m, k => i1_03 m k
  | .ofNat n, .negSucc m => k1_03 n m
  | .ofNat 0, .ofNat 0 => m_03_00
  | .ofNat 0, .ofNat 1 => m_03_01
  | .ofNat 0, .ofNat (m + 2) => k2_03_0 m
  | .ofNat (m + 1), .ofNat n => i2_03 m n
theorem i1_04 (m : Nat) (k : Int) : Yes5 (.ofNat 0) (.ofNat 4) (.negSucc m) k := by unfold Yes5; kernel_rfl
theorem k1_04 (n m : Nat) : Yes5 (.ofNat 0) (.ofNat 4) (.ofNat n) (.negSucc m) := by unfold Yes5; kernel_rfl
theorem i2_04 (m n : Nat) : Yes5 (.ofNat 0) (.ofNat 4) (.ofNat (Nat.succ m)) (.ofNat n) := by unfold Yes5; kernel_rfl
theorem k2_04_0 (m : Nat) : Yes5 (.ofNat 0) (.ofNat 4) (.ofNat 0) (.ofNat (Nat.succ (Nat.succ m))) := by unfold Yes5; kernel_rfl
theorem m_04_00 : Yes5 (.ofNat 0) (.ofNat 4) (.ofNat 0) (.ofNat 0) := by unfold Yes5; kernel_rfl
theorem m_04_01 : Yes5 (.ofNat 0) (.ofNat 4) (.ofNat 0) (.ofNat 1) := by unfold Yes5; kernel_rfl
theorem y_04 : ∀ i k : Int, Yes5 (.ofNat 0) (.ofNat 4) i k
  | .negSucc m, k => i1_04 m k
  | .ofNat n, .negSucc m => k1_04 n m
  | .ofNat 0, .ofNat 0 => m_04_00
  | .ofNat 0, .ofNat 1 => m_04_01
  | .ofNat 0, .ofNat (m + 2) => k2_04_0 m
  | .ofNat (m + 1), .ofNat n => i2_04 m n
theorem i1_10 (m : Nat) (k : Int) : Yes5 (.ofNat 1) (.ofNat 0) (.negSucc m) k := by unfold Yes5; kernel_rfl
theorem k1_10 (n m : Nat) : Yes5 (.ofNat 1) (.ofNat 0) (.ofNat n) (.negSucc m) := by unfold Yes5; kernel_rfl
theorem i2_10 (m n : Nat) : Yes5 (.ofNat 1) (.ofNat 0) (.ofNat (Nat.succ m)) (.ofNat n) := by unfold Yes5; kernel_rfl
theorem k2_10_0 (m : Nat) : Yes5 (.ofNat 1) (.ofNat 0) (.ofNat 0) (.ofNat (Nat.succ m)) := by unfold Yes5; kernel_rfl
theorem m_10_00 : Yes5 (.ofNat 1) (.ofNat 0) (.ofNat 0) (.ofNat 0) := by unfold Yes5; kernel_rfl
theorem y_10 : ∀ i k : Int, Yes5 (.ofNat 1) (.ofNat 0) i k
  | .negSucc m, k => i1_10 m k
  | .ofNat n, .negSucc m => k1_10 n m
  | .ofNat 0, .ofNat 0 => m_10_00
  | .ofNat 0, .ofNat (m + 1) => k2_10_0 m
  | .ofNat (m + 1), .ofNat n => i2_10 m n
theorem i1_11 (m : Nat) (k : Int) : Yes5 (.ofNat 1) (.ofNat 1) (.negSucc m) k := by unfold Yes5; kernel_rfl
theorem k1_11 (n m : Nat) : Yes5 (.ofNat 1) (.ofNat 1) (.ofNat n) (.negSucc m) := by unfold Yes5; kernel_rfl
theorem i2_11 (m n : Nat) : Yes5 (.ofNat 1) (.ofNat 1) (.ofNat (Nat.succ m)) (.ofNat n) := by unfold Yes5; kernel_rfl
theorem k2_11_0 (m : Nat) : Yes5 (.ofNat 1) (.ofNat 1) (.ofNat 0) (.ofNat (Nat.succ m)) := by unfold Yes5; kernel_rfl
theorem m_11_00 : Yes5 (.ofNat 1) (.ofNat 1) (.ofNat 0) (.ofNat 0) := by unfold Yes5; kernel_rfl
theorem y_11 : ∀ i k : Int, Yes5 (.ofNat 1) (.ofNat 1) i k
  | .negSucc m, k => i1_11 m k
  | .ofNat n, .negSucc m => k1_11 n m
  | .ofNat 0, .ofNat 0 => m_11_00
  | .ofNat 0, .ofNat (m + 1) => k2_11_0 m
  | .ofNat (m + 1), .ofNat n => i2_11 m n
theorem i1_12 (m : Nat) (k : Int) : Yes5 (.ofNat 1) (.ofNat 2) (.negSucc m) k := by unfold Yes5; kernel_rfl
theorem k1_12 (n m : Nat) : Yes5 (.ofNat 1) (.ofNat 2) (.ofNat n) (.negSucc m) := by unfold Yes5; kernel_rfl
theorem i2_12 (m n : Nat) : Yes5 (.ofNat 1) (.ofNat 2) (.ofNat (Nat.succ m)) (.ofNat n) := by unfold Yes5; kernel_rfl
theorem k2_12_0 (m : Nat) : Yes5 (.ofNat 1) (.ofNat 2) (.ofNat 0) (.ofNat (Nat.succ (Nat.succ (Nat.succ (Nat.succ (Nat.succ (Nat.succ m))))))) := by unfold Yes5; kernel_rfl
theorem m_12_00 : Yes5 (.ofNat 1) (.ofNat 2) (.ofNat 0) (.ofNat 0) := by unfold Yes5; kernel_rfl
theorem m_12_01 : Yes5 (.ofNat 1) (.ofNat 2) (.ofNat 0) (.ofNat 1) := by unfold Yes5; kernel_rfl
theorem m_12_02 : Yes5 (.ofNat 1) (.ofNat 2) (.ofNat 0) (.ofNat 2) := by unfold Yes5; kernel_rfl
theorem m_12_03 : Yes5 (.ofNat 1) (.ofNat 2) (.ofNat 0) (.ofNat 3) := by unfold Yes5; kernel_rfl
theorem m_12_04 : Yes5 (.ofNat 1) (.ofNat 2) (.ofNat 0) (.ofNat 4) := by unfold Yes5; kernel_rfl
theorem m_12_05 : Yes5 (.ofNat 1) (.ofNat 2) (.ofNat 0) (.ofNat 5) := by unfold Yes5; kernel_rfl
theorem y_12 : ∀ i k : Int, Yes5 (.ofNat 1) (.ofNat 2) i k
  | .negSucc m, k => i1_12 m k
  | .ofNat n, .negSucc m => k1_12 n m
  | .ofNat 0, .ofNat 0 => m_12_00
  | .ofNat 0, .ofNat 1 => m_12_01
  | .ofNat 0, .ofNat 2 => m_12_02
  | .ofNat 0, .ofNat 3 => m_12_03
  | .ofNat 0, .ofNat 4 => m_12_04
  | .ofNat 0, .ofNat 5 => m_12_05
  | .ofNat 0, .ofNat (m + 6) => k2_12_0 m
  | .ofNat (m + 1), .ofNat n => i2_12 m n
theorem i1_13 (m : Nat) (k : Int) : Yes5 (.ofNat 1) (.ofNat 3) (.negSucc m) k := by unfold Yes5; kernel_rfl
theorem k1_13 (n m : Nat) : Yes5 (.ofNat 1) (.ofNat 3) (.ofNat n) (.negSucc m) := by unfold Yes5; kernel_rfl
theorem i2_13 (m n : Nat) : Yes5 (.ofNat 1) (.ofNat 3) (.ofNat (Nat.succ m)) (.ofNat n) := by unfold Yes5; kernel_rfl
theorem k2_13_0 (m : Nat) : Yes5 (.ofNat 1) (.ofNat 3) (.ofNat 0) (.ofNat (Nat.succ (Nat.succ m))) := by unfold Yes5; kernel_rfl
theorem m_13_00 : Yes5 (.ofNat 1) (.ofNat 3) (.ofNat 0) (.ofNat 0) := by unfold Yes5; kernel_rfl
theorem m_13_01 : Yes5 (.ofNat 1) (.ofNat 3) (.ofNat 0) (.ofNat 1) := by unfold Yes5; kernel_rfl
theorem y_13 : ∀ i k : Int, Yes5 (.ofNat 1) (.ofNat 3) i k
  | .negSucc m, k => i1_13 m k
  | .ofNat n, .negSucc m => k1_13 n m
  | .ofNat 0, .ofNat 0 => m_13_00
  | .ofNat 0, .ofNat 1 => m_13_01
  | .ofNat 0, .ofNat (m + 2) => k2_13_0 m
  | .ofNat (m + 1), .ofNat n => i2_13 m n
theorem i1_14 (m : Nat) (k : Int) : Yes5 (.ofNat 1) (.ofNat 4) (.negSucc m) k := by unfold Yes5; kernel_rfl
theorem k1_14 (n m : Nat) : Yes5 (.ofNat 1) (.ofNat 4) (.ofNat n) (.negSucc m) := by unfold Yes5; kernel_rfl
theorem i2_14 (m n : Nat) : Yes5 (.ofNat 1) (.ofNat 4) (.ofNat (Nat.succ m)) (.ofNat n) := by unfold Yes5; kernel_rfl
theorem k2_14_0 (m : Nat) : Yes5 (.ofNat 1) (.ofNat 4) (.ofNat 0) (.ofNat (Nat.succ (Nat.succ m))) := by unfold Yes5; kernel_rfl
theorem m_14_00 : Yes5 (.ofNat 1) (.ofNat 4) (.ofNat 0) (.ofNat 0) := by unfold Yes5; kernel_rfl
theorem m_14_01 : Yes5 (.ofNat 1) (.ofNat 4) (.ofNat 0) (.ofNat 1) := by unfold Yes5; kernel_rfl
theorem y_14 : ∀ i k : Int, Yes5 (.ofNat 1) (.ofNat 4) i k
  | .negSucc m, k => i1_14 m k
  | .ofNat n, .negSucc m => k1_14 n m
  | .ofNat 0, .ofNat 0 => m_14_00
  | .ofNat 0, .ofNat 1 => m_14_01
  | .ofNat 0, .ofNat (m + 2) => k2_14_0 m
  | .ofNat (m + 1), .ofNat n => i2_14 m n
end Go.EvM.DoorRun
