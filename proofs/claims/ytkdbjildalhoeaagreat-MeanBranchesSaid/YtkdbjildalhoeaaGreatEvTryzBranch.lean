/- TryzBranch: MeanBranches' calls. -/
import Derived.Test.YtkdbjildalhoeaaGreatEvTryzRun
namespace Go.EvM.TryzRun
open Go.RowKit Go.Proofs
theorem f6 : Tryz.prog.funcs[6]? = some Tryz.f6 := by kernel_rfl
theorem b6 : Tryz.f6.body = some (Tryz.f6.body.getD .skip) := by kernel_rfl
theorem n6 : Tryz.f6.name ≠ "runtime.NumGoroutine" := by decide
def Yes6 (b : Bool) (n : Int) : Prop := isYes (fastBody cx (fastFun cx 2000) (fastDef cx (fastFun cx 2000) 2000) 2000 Tryz.f6 [.bool b, .int .i64 n] ⟨0, .nil⟩) = true
theorem r6n (b : Bool) (m : Nat) : isYes (fastBody cx (fastFun cx 2000) (fastDef cx (fastFun cx 2000) 2000) 2000 Tryz.f6 [.bool b, .int .i64 (.negSucc m)] ⟨0, .nil⟩) = true := by kernel_rfl
theorem r6p (b : Bool) (m : Nat) : isYes (fastBody cx (fastFun cx 2000) (fastDef cx (fastFun cx 2000) 2000) 2000 Tryz.f6 [.bool b, .int .i64 (.ofNat (Nat.succ (Nat.succ (Nat.succ (Nat.succ m)))))] ⟨0, .nil⟩) = true := by kernel_rfl
theorem r6t0 : isYes (fastBody cx (fastFun cx 2000) (fastDef cx (fastFun cx 2000) 2000) 2000 Tryz.f6 [.bool true, .int .i64 (.ofNat 0)] ⟨0, .nil⟩) = true := by kernel_rfl
theorem r6t1 : isYes (fastBody cx (fastFun cx 2000) (fastDef cx (fastFun cx 2000) 2000) 2000 Tryz.f6 [.bool true, .int .i64 (.ofNat 1)] ⟨0, .nil⟩) = true := by kernel_rfl
theorem r6t2 : isYes (fastBody cx (fastFun cx 2000) (fastDef cx (fastFun cx 2000) 2000) 2000 Tryz.f6 [.bool true, .int .i64 (.ofNat 2)] ⟨0, .nil⟩) = true := by kernel_rfl
theorem r6t3 : isYes (fastBody cx (fastFun cx 2000) (fastDef cx (fastFun cx 2000) 2000) 2000 Tryz.f6 [.bool true, .int .i64 (.ofNat 3)] ⟨0, .nil⟩) = true := by kernel_rfl
theorem r6f0 : isYes (fastBody cx (fastFun cx 2000) (fastDef cx (fastFun cx 2000) 2000) 2000 Tryz.f6 [.bool false, .int .i64 (.ofNat 0)] ⟨0, .nil⟩) = true := by kernel_rfl
theorem r6f1 : isYes (fastBody cx (fastFun cx 2000) (fastDef cx (fastFun cx 2000) 2000) 2000 Tryz.f6 [.bool false, .int .i64 (.ofNat 1)] ⟨0, .nil⟩) = true := by kernel_rfl
theorem r6f2 : isYes (fastBody cx (fastFun cx 2000) (fastDef cx (fastFun cx 2000) 2000) 2000 Tryz.f6 [.bool false, .int .i64 (.ofNat 2)] ⟨0, .nil⟩) = true := by kernel_rfl
theorem r6f3 : isYes (fastBody cx (fastFun cx 2000) (fastDef cx (fastFun cx 2000) 2000) 2000 Tryz.f6 [.bool false, .int .i64 (.ofNat 3)] ⟨0, .nil⟩) = true := by kernel_rfl
theorem yes6 : ∀ (b : Bool) (n : Int), Yes6 b n
  | b, .negSucc m => r6n b m
  | true, .ofNat 0 => r6t0
  | true, .ofNat 1 => r6t1
  | true, .ofNat 2 => r6t2
  | true, .ofNat 3 => r6t3
  | false, .ofNat 0 => r6f0
  | false, .ofNat 1 => r6f1
  | false, .ofNat 2 => r6f2
  | false, .ofNat 3 => r6f3
  | b, .ofNat (m + 4) => r6p b m
theorem meanBranches (b : Bool) (n : Int) (w : World) : Calls Tryz.prog 6 #[.bool b, .int .i64 n] w fun e w' => e = .returned (.bool true) ∧ Below w.heap.size w w' := fast_yes sound 2000 f6 n6 b6 (yes6 b n) (.cons (.bool b) (.cons (.int _ n) .nil)) w
#print axioms meanBranches
end Go.EvM.TryzRun
