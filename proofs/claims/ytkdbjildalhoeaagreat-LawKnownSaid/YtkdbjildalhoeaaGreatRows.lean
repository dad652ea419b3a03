/-
  No cell of these rows narrows 'for every input' (looked for: loops, veiled, ifaces, maps, wideKeys, modest, calm, conditions, laid).
  DERIVED. THE GIVEN ROWS OF THIS SEAT. 6 by the template 'for every input the law returns true; each argument reads behind the call as it read before'; 0 by the template 'total and deterministic' (their statements: YtkdbjildalhoeaaGreatTotals.lean).
  GIVEN WITH THE SEED: the statements are not yours to turn. If you find one false, say at which input.
  Laid BY PROGRAM, IN A SANDBOX (cutbox-rows.mjs): the forced cells as the released guide's own fill.sh prints them over the translation 2e8eb3e299e53ab1… (all of the seat's roots in one cut). By AI agents, Wed Nov 11 2026. No macro, syntax, notation, axiom, sorry.
-/
import Derived.Test.YtkdbjildalhoeaaGreatChecked
import GoSem.Claim
import GoSem.ClaimJoined
import GoSem.ClaimMapViews
import Derived.JoinedTies
import Derived.KernelRfl
namespace Go.Proofs.YtkdbjildalhoeaaGreat
/- THE CELL 'sum', in the pinned program and in every row, IS THE sha256 OF THE DUMP (.gsa) THAT YtkdbjildalhoeaaGreatProg.lean LOADS. Nothing in Lean hashes anything: it is a label: what it is worth is what the hold of that sum in a sandbox is worth. -/
noncomputable def Tryz.pinned : Pinned := { name := "ytkdbjildalhoeaagreat", sum := "2e8eb3e299e53ab1a73a94bc272bf8e998dbd995a3901f748e7854d2343d90cf", checked := Tryz.checked }
namespace Rows
def none {H : Type} : Left H := { results := [], args := [] }

/-- 'publicanlaw12.OrderKnown': WHATEVER THE INPUT: true; the input reads as it did. -/
def orderKnownSpec : ChangeSpec := { name := "orderKnown", fn := fun _ => fun
  | [] => { results := [.lit (.bool true)], args := [] }
  | _ => none }
def orderKnownRow : OpenClaim := { program := "ytkdbjildalhoeaagreat", sum := "2e8eb3e299e53ab1a73a94bc272bf8e998dbd995a3901f748e7854d2343d90cf", func := "publican/publicanlaw12.OrderKnown", spec := "orderKnown", unfollowed := true, recurses := true, apart := false }
def OrderKnownSaid : Prop := orderKnownRow.holds Tryz.pinned (OpenSpec.ofChange orderKnownSpec)

/-- ITS FALSE NEIGHBOUR: 'it returns false'. Refute it at one input. -/
def orderKnownWrong : ChangeSpec := { name := "orderKnown", fn := fun _ => fun
  | [] => { results := [.lit (.bool false)], args := [] }
  | _ => none }
def OrderKnownWrongFalsely : Prop := orderKnownRow.holds Tryz.pinned (OpenSpec.ofChange orderKnownWrong)

/-- 'publicanlaw12.OrderRings': WHATEVER THE INPUT: true; the input reads as it did. -/
def orderRingsSpec : ChangeSpec := { name := "orderRings", fn := fun _ => fun
  | [d1, d2] => { results := [.lit (.bool true)], args := [d1, d2] }
  | _ => none }
def orderRingsRow : OpenClaim := { program := "ytkdbjildalhoeaagreat", sum := "2e8eb3e299e53ab1a73a94bc272bf8e998dbd995a3901f748e7854d2343d90cf", func := "publican/publicanlaw12.OrderRings", spec := "orderRings", unfollowed := true, recurses := true, apart := false }
def OrderRingsSaid : Prop := orderRingsRow.holds Tryz.pinned (OpenSpec.ofChange orderRingsSpec)

/-- ITS FALSE NEIGHBOUR: 'it returns false'. Refute it at one input. -/
def orderRingsWrong : ChangeSpec := { name := "orderRings", fn := fun _ => fun
  | [d1, d2] => { results := [.lit (.bool false)], args := [d1, d2] }
  | _ => none }
def OrderRingsWrongFalsely : Prop := orderRingsRow.holds Tryz.pinned (OpenSpec.ofChange orderRingsWrong)

/-- 'publicanlaw13.MeanKnown': WHATEVER THE INPUT: true; the input reads as it did. -/
def meanKnownSpec : ChangeSpec := { name := "meanKnown", fn := fun _ => fun
  | [] => { results := [.lit (.bool true)], args := [] }
  | _ => none }
def meanKnownRow : OpenClaim := { program := "ytkdbjildalhoeaagreat", sum := "2e8eb3e299e53ab1a73a94bc272bf8e998dbd995a3901f748e7854d2343d90cf", func := "publican/publicanlaw13.MeanKnown", spec := "meanKnown", inPlace := ["math/bits.Sub64", "math/bits.Add64"], unfollowed := true, recurses := true, named := ["math/bits.divideError", "math/bits.overflowError"], apart := false }
def MeanKnownSaid : Prop := meanKnownRow.holds Tryz.pinned (OpenSpec.ofChange meanKnownSpec)

/-- ITS FALSE NEIGHBOUR: 'it returns false'. Refute it at one input. -/
def meanKnownWrong : ChangeSpec := { name := "meanKnown", fn := fun _ => fun
  | [] => { results := [.lit (.bool false)], args := [] }
  | _ => none }
def MeanKnownWrongFalsely : Prop := meanKnownRow.holds Tryz.pinned (OpenSpec.ofChange meanKnownWrong)

/-- 'publicanlaw13.MeanBranches': WHATEVER THE INPUT: true; the input reads as it did. -/
def meanBranchesSpec : ChangeSpec := { name := "meanBranches", fn := fun _ => fun
  | [d1, d2] => { results := [.lit (.bool true)], args := [d1, d2] }
  | _ => none }
def meanBranchesRow : OpenClaim := { program := "ytkdbjildalhoeaagreat", sum := "2e8eb3e299e53ab1a73a94bc272bf8e998dbd995a3901f748e7854d2343d90cf", func := "publican/publicanlaw13.MeanBranches", spec := "meanBranches", inPlace := ["math/bits.Sub64", "math/bits.Add64"], unfollowed := true, recurses := true, named := ["math/bits.divideError", "math/bits.overflowError"], apart := false }
def MeanBranchesSaid : Prop := meanBranchesRow.holds Tryz.pinned (OpenSpec.ofChange meanBranchesSpec)

/-- ITS FALSE NEIGHBOUR: 'it returns false'. Refute it at one input. -/
def meanBranchesWrong : ChangeSpec := { name := "meanBranches", fn := fun _ => fun
  | [d1, d2] => { results := [.lit (.bool false)], args := [d1, d2] }
  | _ => none }
def MeanBranchesWrongFalsely : Prop := meanBranchesRow.holds Tryz.pinned (OpenSpec.ofChange meanBranchesWrong)

/-- 'publicanlaw16.EmitKnown': WHATEVER THE INPUT: true; the input reads as it did. -/
def emitKnownSpec : ChangeSpec := { name := "emitKnown", fn := fun _ => fun
  | [] => { results := [.lit (.bool true)], args := [] }
  | _ => none }
def emitKnownRow : OpenClaim := { program := "ytkdbjildalhoeaagreat", sum := "2e8eb3e299e53ab1a73a94bc272bf8e998dbd995a3901f748e7854d2343d90cf", func := "publican/publicanlaw16.EmitKnown", spec := "emitKnown", inPlace := ["internal/abi.NoEscape", "internal/bytealg.MakeNoZero", "math/bits.Sub64", "math/bits.Add64"], unfollowed := true, recurses := true, named := ["math/bits.divideError", "math/bits.overflowError"], apart := false }
def EmitKnownSaid : Prop := emitKnownRow.holds Tryz.pinned (OpenSpec.ofChange emitKnownSpec)

/-- ITS FALSE NEIGHBOUR: 'it returns false'. Refute it at one input. -/
def emitKnownWrong : ChangeSpec := { name := "emitKnown", fn := fun _ => fun
  | [] => { results := [.lit (.bool false)], args := [] }
  | _ => none }
def EmitKnownWrongFalsely : Prop := emitKnownRow.holds Tryz.pinned (OpenSpec.ofChange emitKnownWrong)

/-- 'publicanlaw25.LawKnown': WHATEVER THE INPUT: true; the input reads as it did. -/
def lawKnownSpec : ChangeSpec := { name := "lawKnown", fn := fun _ => fun
  | [] => { results := [.lit (.bool true)], args := [] }
  | _ => none }
def lawKnownRow : OpenClaim := { program := "ytkdbjildalhoeaagreat", sum := "2e8eb3e299e53ab1a73a94bc272bf8e998dbd995a3901f748e7854d2343d90cf", func := "publican/publicanlaw25.LawKnown", spec := "lawKnown", inPlace := ["internal/abi.NoEscape", "internal/bytealg.MakeNoZero", "math/bits.Sub64", "math/bits.Add64"], unfollowed := true, recurses := true, named := ["math/bits.divideError", "math/bits.overflowError"], apart := false }
def LawKnownSaid : Prop := lawKnownRow.holds Tryz.pinned (OpenSpec.ofChange lawKnownSpec)

/-- ITS FALSE NEIGHBOUR: 'it returns false'. Refute it at one input. -/
def lawKnownWrong : ChangeSpec := { name := "lawKnown", fn := fun _ => fun
  | [] => { results := [.lit (.bool false)], args := [] }
  | _ => none }
def LawKnownWrongFalsely : Prop := lawKnownRow.holds Tryz.pinned (OpenSpec.ofChange lawKnownWrong)

/- THE SECOND FORM. 'bulk': how many values and letters a reading holds, each counted each time it is reached (what is shared counts as often as it is met; a slice's spare places count too). A statement '..UptoSaid' is the law's where the arguments, and the package variables that the reading takes, are together of bulk at most 1048576: NARROWER than '..Said'. Prove '..Said' where nothing that the law and all that it calls make is longer than what came in: it says more and counts as full. Else prove '..UptoSaid'. A law counts once. -/
mutual
def uptoBulk {H : Type} : DataW H → Nat
  | .lit (.string bytes) => bytes.length + 1
  | .lit _ => 1
  | .nil => 1
  | .ptr d => uptoBulk d + 1
  | .slice elems spare => uptoBulkAll elems + uptoBulkAll spare + 1
  | .agg parts => uptoBulkAll parts + 1
  | .iface _ d => uptoBulk d + 1
  | .map entries => uptoBulkEntries entries + 1
  | .held _ => 1
def uptoBulkAll {H : Type} : List (DataW H) → Nat
  | [] => 0
  | d :: r => uptoBulk d + uptoBulkAll r
def uptoBulkEntries {H : Type} : List (Lit × DataW H) → Nat
  | [] => 0
  | x :: r => uptoBulkEntry x + uptoBulkEntries r
def uptoBulkEntry {H : Type} : Lit × DataW H → Nat
  | (.string bytes, d) => bytes.length + uptoBulk d + 1
  | (_, d) => uptoBulk d + 1
 end
def uptoSmall : (H : Type) → List (DataW H) → Bool := fun _ ds => decide (uptoBulkAll ds ≤ 1048576)
def OpenSpec.upto (s : _root_.Go.ChangeSpec) : _root_.Go.OpenSpec := { _root_.Go.OpenSpec.ofChange s with cond := some uptoSmall }

/-- 'publicanlaw12.OrderKnown', WHERE WHAT IT READS IS OF BULK AT MOST 1048576: true; the input reads as it did. -/
def orderKnownUptoRow : OpenClaim := { program := "ytkdbjildalhoeaagreat", sum := "2e8eb3e299e53ab1a73a94bc272bf8e998dbd995a3901f748e7854d2343d90cf", func := "publican/publicanlaw12.OrderKnown", spec := "orderKnown", unfollowed := true, recurses := true, apart := false, narrowed := true }
def OrderKnownUptoSaid : Prop := orderKnownUptoRow.holds Tryz.pinned (OpenSpec.upto orderKnownSpec)

/-- 'publicanlaw12.OrderRings', WHERE WHAT IT READS IS OF BULK AT MOST 1048576: true; the input reads as it did. -/
def orderRingsUptoRow : OpenClaim := { program := "ytkdbjildalhoeaagreat", sum := "2e8eb3e299e53ab1a73a94bc272bf8e998dbd995a3901f748e7854d2343d90cf", func := "publican/publicanlaw12.OrderRings", spec := "orderRings", unfollowed := true, recurses := true, apart := false, narrowed := true }
def OrderRingsUptoSaid : Prop := orderRingsUptoRow.holds Tryz.pinned (OpenSpec.upto orderRingsSpec)

/-- 'publicanlaw13.MeanKnown', WHERE WHAT IT READS IS OF BULK AT MOST 1048576: true; the input reads as it did. -/
def meanKnownUptoRow : OpenClaim := { program := "ytkdbjildalhoeaagreat", sum := "2e8eb3e299e53ab1a73a94bc272bf8e998dbd995a3901f748e7854d2343d90cf", func := "publican/publicanlaw13.MeanKnown", spec := "meanKnown", inPlace := ["math/bits.Sub64", "math/bits.Add64"], unfollowed := true, recurses := true, named := ["math/bits.divideError", "math/bits.overflowError"], apart := false, narrowed := true }
def MeanKnownUptoSaid : Prop := meanKnownUptoRow.holds Tryz.pinned (OpenSpec.upto meanKnownSpec)

/-- 'publicanlaw13.MeanBranches', WHERE WHAT IT READS IS OF BULK AT MOST 1048576: true; the input reads as it did. -/
def meanBranchesUptoRow : OpenClaim := { program := "ytkdbjildalhoeaagreat", sum := "2e8eb3e299e53ab1a73a94bc272bf8e998dbd995a3901f748e7854d2343d90cf", func := "publican/publicanlaw13.MeanBranches", spec := "meanBranches", inPlace := ["math/bits.Sub64", "math/bits.Add64"], unfollowed := true, recurses := true, named := ["math/bits.divideError", "math/bits.overflowError"], apart := false, narrowed := true }
def MeanBranchesUptoSaid : Prop := meanBranchesUptoRow.holds Tryz.pinned (OpenSpec.upto meanBranchesSpec)

/-- 'publicanlaw16.EmitKnown', WHERE WHAT IT READS IS OF BULK AT MOST 1048576: true; the input reads as it did. -/
def emitKnownUptoRow : OpenClaim := { program := "ytkdbjildalhoeaagreat", sum := "2e8eb3e299e53ab1a73a94bc272bf8e998dbd995a3901f748e7854d2343d90cf", func := "publican/publicanlaw16.EmitKnown", spec := "emitKnown", inPlace := ["internal/abi.NoEscape", "internal/bytealg.MakeNoZero", "math/bits.Sub64", "math/bits.Add64"], unfollowed := true, recurses := true, named := ["math/bits.divideError", "math/bits.overflowError"], apart := false, narrowed := true }
def EmitKnownUptoSaid : Prop := emitKnownUptoRow.holds Tryz.pinned (OpenSpec.upto emitKnownSpec)

/-- 'publicanlaw25.LawKnown', WHERE WHAT IT READS IS OF BULK AT MOST 1048576: true; the input reads as it did. -/
def lawKnownUptoRow : OpenClaim := { program := "ytkdbjildalhoeaagreat", sum := "2e8eb3e299e53ab1a73a94bc272bf8e998dbd995a3901f748e7854d2343d90cf", func := "publican/publicanlaw25.LawKnown", spec := "lawKnown", inPlace := ["internal/abi.NoEscape", "internal/bytealg.MakeNoZero", "math/bits.Sub64", "math/bits.Add64"], unfollowed := true, recurses := true, named := ["math/bits.divideError", "math/bits.overflowError"], apart := false, narrowed := true }
def LawKnownUptoSaid : Prop := lawKnownUptoRow.holds Tryz.pinned (OpenSpec.upto lawKnownSpec)

end Rows
end Go.Proofs.YtkdbjildalhoeaaGreat
