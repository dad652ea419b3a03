/-
  No cell of these rows narrows 'for every input' (looked for: loops, veiled, ifaces, maps, wideKeys, modest, calm, conditions, laid).
  DERIVED. THE GIVEN ROWS OF THIS SEAT. 9 by the template 'for every input the law returns true; each argument reads behind the call as it read before'; 0 by the template 'total and deterministic' (their statements: YtodccifahbgogaaGreatTotals.lean).
  GIVEN WITH THE SEED: the statements are not yours to turn. If you find one false, say at which input.
  Laid BY PROGRAM, IN A SANDBOX (cutbox-rows.mjs): the forced cells as the released guide's own fill.sh prints them over the translation 942b49b4244d7d46… (all of the seat's roots in one cut). By AI agents, Wed Nov 11 2026. No macro, syntax, notation, axiom, sorry.
-/
import Derived.Test.YtodccifahbgogaaGreatChecked
import GoSem.Claim
import GoSem.ClaimJoined
import GoSem.ClaimMapViews
import Derived.JoinedTies
import Derived.KernelRfl
namespace Go.Proofs.YtodccifahbgogaaGreat
/- THE CELL 'sum', in the pinned program and in every row, IS THE sha256 OF THE DUMP (.gsa) THAT YtodccifahbgogaaGreatProg.lean LOADS. Nothing in Lean hashes anything: it is a label: what it is worth is what the hold of that sum in a sandbox is worth. -/
noncomputable def Tryz.pinned : Pinned := { name := "ytodccifahbgogaagreat", sum := "942b49b4244d7d46162816d8381b1e2720cc88dbb445f71215f702af4fd9a942", checked := Tryz.checked }
namespace Rows
def none {H : Type} : Left H := { results := [], args := [] }

/-- 'publicanlaw15.FoldSays': WHATEVER THE INPUT: true; the input reads as it did. -/
def foldSaysSpec : ChangeSpec := { name := "foldSays", fn := fun _ => fun
  | [d] => { results := [.lit (.bool true)], args := [d] }
  | _ => none }
def foldSaysRow : OpenClaim := { program := "ytodccifahbgogaagreat", sum := "942b49b4244d7d46162816d8381b1e2720cc88dbb445f71215f702af4fd9a942", func := "publican/publicanlaw15.FoldSays", spec := "foldSays", inPlace := ["math/bits.Sub64", "math/bits.Add64"], unfollowed := true, recurses := true, named := ["math/bits.divideError", "math/bits.overflowError"], apart := false }
def FoldSaysSaid : Prop := foldSaysRow.holds Tryz.pinned (OpenSpec.ofChange foldSaysSpec)

/-- ITS FALSE NEIGHBOUR: 'it returns false'. Refute it at one input. -/
def foldSaysWrong : ChangeSpec := { name := "foldSays", fn := fun _ => fun
  | [d] => { results := [.lit (.bool false)], args := [d] }
  | _ => none }
def FoldSaysWrongFalsely : Prop := foldSaysRow.holds Tryz.pinned (OpenSpec.ofChange foldSaysWrong)

/-- 'publicanlaw12.OrderSays': WHATEVER THE INPUT: true; the input reads as it did. -/
def orderSaysSpec : ChangeSpec := { name := "orderSays", fn := fun _ => fun
  | [d] => { results := [.lit (.bool true)], args := [d] }
  | _ => none }
def orderSaysRow : OpenClaim := { program := "ytodccifahbgogaagreat", sum := "942b49b4244d7d46162816d8381b1e2720cc88dbb445f71215f702af4fd9a942", func := "publican/publicanlaw12.OrderSays", spec := "orderSays", unfollowed := true, recurses := true, apart := false }
def OrderSaysSaid : Prop := orderSaysRow.holds Tryz.pinned (OpenSpec.ofChange orderSaysSpec)

/-- ITS FALSE NEIGHBOUR: 'it returns false'. Refute it at one input. -/
def orderSaysWrong : ChangeSpec := { name := "orderSays", fn := fun _ => fun
  | [d] => { results := [.lit (.bool false)], args := [d] }
  | _ => none }
def OrderSaysWrongFalsely : Prop := orderSaysRow.holds Tryz.pinned (OpenSpec.ofChange orderSaysWrong)

/-- 'publicanlaw12.OrderLeans': WHATEVER THE INPUT: true; the input reads as it did. -/
def orderLeansSpec : ChangeSpec := { name := "orderLeans", fn := fun _ => fun
  | [d] => { results := [.lit (.bool true)], args := [d] }
  | _ => none }
def orderLeansRow : OpenClaim := { program := "ytodccifahbgogaagreat", sum := "942b49b4244d7d46162816d8381b1e2720cc88dbb445f71215f702af4fd9a942", func := "publican/publicanlaw12.OrderLeans", spec := "orderLeans", unfollowed := true, recurses := true, apart := false }
def OrderLeansSaid : Prop := orderLeansRow.holds Tryz.pinned (OpenSpec.ofChange orderLeansSpec)

/-- ITS FALSE NEIGHBOUR: 'it returns false'. Refute it at one input. -/
def orderLeansWrong : ChangeSpec := { name := "orderLeans", fn := fun _ => fun
  | [d] => { results := [.lit (.bool false)], args := [d] }
  | _ => none }
def OrderLeansWrongFalsely : Prop := orderLeansRow.holds Tryz.pinned (OpenSpec.ofChange orderLeansWrong)

/-- 'publicanlaw12.OrderRings': WHATEVER THE INPUT: true; the input reads as it did. -/
def orderRingsSpec : ChangeSpec := { name := "orderRings", fn := fun _ => fun
  | [d1, d2] => { results := [.lit (.bool true)], args := [d1, d2] }
  | _ => none }
def orderRingsRow : OpenClaim := { program := "ytodccifahbgogaagreat", sum := "942b49b4244d7d46162816d8381b1e2720cc88dbb445f71215f702af4fd9a942", func := "publican/publicanlaw12.OrderRings", spec := "orderRings", unfollowed := true, recurses := true, apart := false }
def OrderRingsSaid : Prop := orderRingsRow.holds Tryz.pinned (OpenSpec.ofChange orderRingsSpec)

/-- ITS FALSE NEIGHBOUR: 'it returns false'. Refute it at one input. -/
def orderRingsWrong : ChangeSpec := { name := "orderRings", fn := fun _ => fun
  | [d1, d2] => { results := [.lit (.bool false)], args := [d1, d2] }
  | _ => none }
def OrderRingsWrongFalsely : Prop := orderRingsRow.holds Tryz.pinned (OpenSpec.ofChange orderRingsWrong)

/-- 'publicanlaw13.MeanRuns': WHATEVER THE INPUT: true; the input reads as it did. -/
def meanRunsSpec : ChangeSpec := { name := "meanRuns", fn := fun _ => fun
  | [d1, d2] => { results := [.lit (.bool true)], args := [d1, d2] }
  | _ => none }
def meanRunsRow : OpenClaim := { program := "ytodccifahbgogaagreat", sum := "942b49b4244d7d46162816d8381b1e2720cc88dbb445f71215f702af4fd9a942", func := "publican/publicanlaw13.MeanRuns", spec := "meanRuns", inPlace := ["math/bits.Sub64", "math/bits.Add64"], unfollowed := true, recurses := true, named := ["math/bits.divideError", "math/bits.overflowError"], apart := false }
def MeanRunsSaid : Prop := meanRunsRow.holds Tryz.pinned (OpenSpec.ofChange meanRunsSpec)

/-- ITS FALSE NEIGHBOUR: 'it returns false'. Refute it at one input. -/
def meanRunsWrong : ChangeSpec := { name := "meanRuns", fn := fun _ => fun
  | [d1, d2] => { results := [.lit (.bool false)], args := [d1, d2] }
  | _ => none }
def MeanRunsWrongFalsely : Prop := meanRunsRow.holds Tryz.pinned (OpenSpec.ofChange meanRunsWrong)

/-- 'publicanlaw13.MeanOps': WHATEVER THE INPUT: true; the input reads as it did. -/
def meanOpsSpec : ChangeSpec := { name := "meanOps", fn := fun _ => fun
  | [d1, d2, d3] => { results := [.lit (.bool true)], args := [d1, d2, d3] }
  | _ => none }
def meanOpsRow : OpenClaim := { program := "ytodccifahbgogaagreat", sum := "942b49b4244d7d46162816d8381b1e2720cc88dbb445f71215f702af4fd9a942", func := "publican/publicanlaw13.MeanOps", spec := "meanOps", inPlace := ["math/bits.Sub64", "math/bits.Add64"], unfollowed := true, recurses := true, named := ["math/bits.divideError", "math/bits.overflowError"], apart := false }
def MeanOpsSaid : Prop := meanOpsRow.holds Tryz.pinned (OpenSpec.ofChange meanOpsSpec)

/-- ITS FALSE NEIGHBOUR: 'it returns false'. Refute it at one input. -/
def meanOpsWrong : ChangeSpec := { name := "meanOps", fn := fun _ => fun
  | [d1, d2, d3] => { results := [.lit (.bool false)], args := [d1, d2, d3] }
  | _ => none }
def MeanOpsWrongFalsely : Prop := meanOpsRow.holds Tryz.pinned (OpenSpec.ofChange meanOpsWrong)

/-- 'publicanlaw13.MeanTables': WHATEVER THE INPUT: true; the input reads as it did. -/
def meanTablesSpec : ChangeSpec := { name := "meanTables", fn := fun _ => fun
  | [d1, d2] => { results := [.lit (.bool true)], args := [d1, d2] }
  | _ => none }
def meanTablesRow : OpenClaim := { program := "ytodccifahbgogaagreat", sum := "942b49b4244d7d46162816d8381b1e2720cc88dbb445f71215f702af4fd9a942", func := "publican/publicanlaw13.MeanTables", spec := "meanTables", inPlace := ["math/bits.Sub64", "math/bits.Add64"], unfollowed := true, recurses := true, named := ["math/bits.divideError", "math/bits.overflowError"], apart := false }
def MeanTablesSaid : Prop := meanTablesRow.holds Tryz.pinned (OpenSpec.ofChange meanTablesSpec)

/-- ITS FALSE NEIGHBOUR: 'it returns false'. Refute it at one input. -/
def meanTablesWrong : ChangeSpec := { name := "meanTables", fn := fun _ => fun
  | [d1, d2] => { results := [.lit (.bool false)], args := [d1, d2] }
  | _ => none }
def MeanTablesWrongFalsely : Prop := meanTablesRow.holds Tryz.pinned (OpenSpec.ofChange meanTablesWrong)

/-- 'publicanlaw13.MeanSums': WHATEVER THE INPUT: true; the input reads as it did. -/
def meanSumsSpec : ChangeSpec := { name := "meanSums", fn := fun _ => fun
  | [d1, d2] => { results := [.lit (.bool true)], args := [d1, d2] }
  | _ => none }
def meanSumsRow : OpenClaim := { program := "ytodccifahbgogaagreat", sum := "942b49b4244d7d46162816d8381b1e2720cc88dbb445f71215f702af4fd9a942", func := "publican/publicanlaw13.MeanSums", spec := "meanSums", inPlace := ["math/bits.Sub64", "math/bits.Add64"], unfollowed := true, recurses := true, named := ["math/bits.divideError", "math/bits.overflowError"], apart := false }
def MeanSumsSaid : Prop := meanSumsRow.holds Tryz.pinned (OpenSpec.ofChange meanSumsSpec)

/-- ITS FALSE NEIGHBOUR: 'it returns false'. Refute it at one input. -/
def meanSumsWrong : ChangeSpec := { name := "meanSums", fn := fun _ => fun
  | [d1, d2] => { results := [.lit (.bool false)], args := [d1, d2] }
  | _ => none }
def MeanSumsWrongFalsely : Prop := meanSumsRow.holds Tryz.pinned (OpenSpec.ofChange meanSumsWrong)

/-- 'publicanlaw15.FoldMeans': WHATEVER THE INPUT: true; the input reads as it did. -/
def foldMeansSpec : ChangeSpec := { name := "foldMeans", fn := fun _ => fun
  | [d1, d2] => { results := [.lit (.bool true)], args := [d1, d2] }
  | _ => none }
def foldMeansRow : OpenClaim := { program := "ytodccifahbgogaagreat", sum := "942b49b4244d7d46162816d8381b1e2720cc88dbb445f71215f702af4fd9a942", func := "publican/publicanlaw15.FoldMeans", spec := "foldMeans", inPlace := ["math/bits.Sub64", "math/bits.Add64"], unfollowed := true, recurses := true, named := ["math/bits.divideError", "math/bits.overflowError"], apart := false }
def FoldMeansSaid : Prop := foldMeansRow.holds Tryz.pinned (OpenSpec.ofChange foldMeansSpec)

/-- ITS FALSE NEIGHBOUR: 'it returns false'. Refute it at one input. -/
def foldMeansWrong : ChangeSpec := { name := "foldMeans", fn := fun _ => fun
  | [d1, d2] => { results := [.lit (.bool false)], args := [d1, d2] }
  | _ => none }
def FoldMeansWrongFalsely : Prop := foldMeansRow.holds Tryz.pinned (OpenSpec.ofChange foldMeansWrong)

/- THE SECOND FORM. 'bulk': how many values and letters a reading holds, each counted each time it is reached (what is shared counts as often as it is met; a slice's spare places count too). A statement '..UptoSaid' is the law's where the arguments, and the package variables that the reading takes, are together of bulk at most 1048576: NARROWER than '..Said'. Prove '..Said' where nothing that the law and all that it calls make is longer than what came in: it says more and counts as full. Else prove '..UptoSaid'. A law counts once. -/
mutual
def uptoBulk {H : Type} : DataW H → Nat
  | .lit (.string bytes) => bytes.length + 1
  | .lit _ => 1
  | .nil => 1
  | .ptr d => uptoBulk d + 1
  | .slice elems spare => uptoBulkAll elems + uptoBulkAll spare + 1
  | .agg parts => uptoBulkAll parts + 1
  | .iface _ d => uptoBulk d + 1
  | .map entries => uptoBulkEntries entries + 1
  | .held _ => 1
def uptoBulkAll {H : Type} : List (DataW H) → Nat
  | [] => 0
  | d :: r => uptoBulk d + uptoBulkAll r
def uptoBulkEntries {H : Type} : List (Lit × DataW H) → Nat
  | [] => 0
  | x :: r => uptoBulkEntry x + uptoBulkEntries r
def uptoBulkEntry {H : Type} : Lit × DataW H → Nat
  | (.string bytes, d) => bytes.length + uptoBulk d + 1
  | (_, d) => uptoBulk d + 1
 end
def uptoSmall : (H : Type) → List (DataW H) → Bool := fun _ ds => decide (uptoBulkAll ds ≤ 1048576)
def OpenSpec.upto (s : _root_.Go.ChangeSpec) : _root_.Go.OpenSpec := { _root_.Go.OpenSpec.ofChange s with cond := some uptoSmall }

/-- 'publicanlaw15.FoldSays', WHERE WHAT IT READS IS OF BULK AT MOST 1048576: true; the input reads as it did. -/
def foldSaysUptoRow : OpenClaim := { program := "ytodccifahbgogaagreat", sum := "942b49b4244d7d46162816d8381b1e2720cc88dbb445f71215f702af4fd9a942", func := "publican/publicanlaw15.FoldSays", spec := "foldSays", inPlace := ["math/bits.Sub64", "math/bits.Add64"], unfollowed := true, recurses := true, named := ["math/bits.divideError", "math/bits.overflowError"], apart := false, narrowed := true }
def FoldSaysUptoSaid : Prop := foldSaysUptoRow.holds Tryz.pinned (OpenSpec.upto foldSaysSpec)

/-- 'publicanlaw12.OrderSays', WHERE WHAT IT READS IS OF BULK AT MOST 1048576: true; the input reads as it did. -/
def orderSaysUptoRow : OpenClaim := { program := "ytodccifahbgogaagreat", sum := "942b49b4244d7d46162816d8381b1e2720cc88dbb445f71215f702af4fd9a942", func := "publican/publicanlaw12.OrderSays", spec := "orderSays", unfollowed := true, recurses := true, apart := false, narrowed := true }
def OrderSaysUptoSaid : Prop := orderSaysUptoRow.holds Tryz.pinned (OpenSpec.upto orderSaysSpec)

/-- 'publicanlaw12.OrderLeans', WHERE WHAT IT READS IS OF BULK AT MOST 1048576: true; the input reads as it did. -/
def orderLeansUptoRow : OpenClaim := { program := "ytodccifahbgogaagreat", sum := "942b49b4244d7d46162816d8381b1e2720cc88dbb445f71215f702af4fd9a942", func := "publican/publicanlaw12.OrderLeans", spec := "orderLeans", unfollowed := true, recurses := true, apart := false, narrowed := true }
def OrderLeansUptoSaid : Prop := orderLeansUptoRow.holds Tryz.pinned (OpenSpec.upto orderLeansSpec)

/-- 'publicanlaw12.OrderRings', WHERE WHAT IT READS IS OF BULK AT MOST 1048576: true; the input reads as it did. -/
def orderRingsUptoRow : OpenClaim := { program := "ytodccifahbgogaagreat", sum := "942b49b4244d7d46162816d8381b1e2720cc88dbb445f71215f702af4fd9a942", func := "publican/publicanlaw12.OrderRings", spec := "orderRings", unfollowed := true, recurses := true, apart := false, narrowed := true }
def OrderRingsUptoSaid : Prop := orderRingsUptoRow.holds Tryz.pinned (OpenSpec.upto orderRingsSpec)

/-- 'publicanlaw13.MeanRuns', WHERE WHAT IT READS IS OF BULK AT MOST 1048576: true; the input reads as it did. -/
def meanRunsUptoRow : OpenClaim := { program := "ytodccifahbgogaagreat", sum := "942b49b4244d7d46162816d8381b1e2720cc88dbb445f71215f702af4fd9a942", func := "publican/publicanlaw13.MeanRuns", spec := "meanRuns", inPlace := ["math/bits.Sub64", "math/bits.Add64"], unfollowed := true, recurses := true, named := ["math/bits.divideError", "math/bits.overflowError"], apart := false, narrowed := true }
def MeanRunsUptoSaid : Prop := meanRunsUptoRow.holds Tryz.pinned (OpenSpec.upto meanRunsSpec)

/-- 'publicanlaw13.MeanOps', WHERE WHAT IT READS IS OF BULK AT MOST 1048576: true; the input reads as it did. -/
def meanOpsUptoRow : OpenClaim := { program := "ytodccifahbgogaagreat", sum := "942b49b4244d7d46162816d8381b1e2720cc88dbb445f71215f702af4fd9a942", func := "publican/publicanlaw13.MeanOps", spec := "meanOps", inPlace := ["math/bits.Sub64", "math/bits.Add64"], unfollowed := true, recurses := true, named := ["math/bits.divideError", "math/bits.overflowError"], apart := false, narrowed := true }
def MeanOpsUptoSaid : Prop := meanOpsUptoRow.holds Tryz.pinned (OpenSpec.upto meanOpsSpec)

/-- 'publicanlaw13.MeanTables', WHERE WHAT IT READS IS OF BULK AT MOST 1048576: true; the input reads as it did. -/
def meanTablesUptoRow : OpenClaim := { program := "ytodccifahbgogaagreat", sum := "942b49b4244d7d46162816d8381b1e2720cc88dbb445f71215f702af4fd9a942", func := "publican/publicanlaw13.MeanTables", spec := "meanTables", inPlace := ["math/bits.Sub64", "math/bits.Add64"], unfollowed := true, recurses := true, named := ["math/bits.divideError", "math/bits.overflowError"], apart := false, narrowed := true }
def MeanTablesUptoSaid : Prop := meanTablesUptoRow.holds Tryz.pinned (OpenSpec.upto meanTablesSpec)

/-- 'publicanlaw13.MeanSums', WHERE WHAT IT READS IS OF BULK AT MOST 1048576: true; the input reads as it did. -/
def meanSumsUptoRow : OpenClaim := { program := "ytodccifahbgogaagreat", sum := "942b49b4244d7d46162816d8381b1e2720cc88dbb445f71215f702af4fd9a942", func := "publican/publicanlaw13.MeanSums", spec := "meanSums", inPlace := ["math/bits.Sub64", "math/bits.Add64"], unfollowed := true, recurses := true, named := ["math/bits.divideError", "math/bits.overflowError"], apart := false, narrowed := true }
def MeanSumsUptoSaid : Prop := meanSumsUptoRow.holds Tryz.pinned (OpenSpec.upto meanSumsSpec)

/-- 'publicanlaw15.FoldMeans', WHERE WHAT IT READS IS OF BULK AT MOST 1048576: true; the input reads as it did. -/
def foldMeansUptoRow : OpenClaim := { program := "ytodccifahbgogaagreat", sum := "942b49b4244d7d46162816d8381b1e2720cc88dbb445f71215f702af4fd9a942", func := "publican/publicanlaw15.FoldMeans", spec := "foldMeans", inPlace := ["math/bits.Sub64", "math/bits.Add64"], unfollowed := true, recurses := true, named := ["math/bits.divideError", "math/bits.overflowError"], apart := false, narrowed := true }
def FoldMeansUptoSaid : Prop := foldMeansUptoRow.holds Tryz.pinned (OpenSpec.upto foldMeansSpec)

end Rows
end Go.Proofs.YtodccifahbgogaaGreat
