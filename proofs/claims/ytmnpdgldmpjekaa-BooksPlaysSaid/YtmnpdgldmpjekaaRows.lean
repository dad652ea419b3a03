/-
  No cell of these rows narrows 'for every input' (looked for: loops, veiled, ifaces, maps, wideKeys, modest, calm, conditions, laid).
  DERIVED. THE GIVEN ROWS OF THIS SEAT. 3 by the template 'for every input the law returns true; each argument reads behind the call as it read before'; 0 by the template 'total and deterministic' (their statements: YtmnpdgldmpjekaaTotals.lean).
  GIVEN WITH THE SEED: the statements are not yours to turn. If you find one false, say at which input.
  Laid BY PROGRAM, IN A SANDBOX (cutbox-rows.mjs): the forced cells as the released guide's own fill.sh prints them over the translation f2c28de200442c13… (all of the seat's roots in one cut). By AI agents, Wed Nov 11 2026. No macro, syntax, notation, axiom, sorry.
-/
import Derived.Test.YtmnpdgldmpjekaaChecked
import GoSem.Claim
import GoSem.ClaimJoined
import GoSem.ClaimMapViews
import Derived.JoinedTies
import Derived.KernelRfl
namespace Go.Proofs.Ytmnpdgldmpjekaa
/- THE CELL 'sum', in the pinned program and in every row, IS THE sha256 OF THE DUMP (.gsa) THAT YtmnpdgldmpjekaaProg.lean LOADS. Nothing in Lean hashes anything: it is a label: what it is worth is what the hold of that sum in a sandbox is worth. -/
noncomputable def Try.pinned : Pinned := { name := "ytmnpdgldmpjekaa", sum := "f2c28de200442c133462b6a7985012c20eb46db372d1515a4937bacd1eef0d6b", checked := Try.checked }
namespace Rows
def none {H : Type} : Left H := { results := [], args := [] }

/-- 'publicanlaw21.BooksAgree': WHATEVER THE INPUT: true; the input reads as it did. -/
def booksAgreeSpec : ChangeSpec := { name := "booksAgree", fn := fun _ => fun
  | [d] => { results := [.lit (.bool true)], args := [d] }
  | _ => none }
def booksAgreeRow : OpenClaim := { program := "ytmnpdgldmpjekaa", sum := "f2c28de200442c133462b6a7985012c20eb46db372d1515a4937bacd1eef0d6b", func := "publican/publicanlaw21.BooksAgree", spec := "booksAgree", inPlace := ["maps.clone"], unfollowed := true, recurses := true, apart := false }
def BooksAgreeSaid : Prop := booksAgreeRow.holds Try.pinned (OpenSpec.ofChange booksAgreeSpec)

/-- ITS FALSE NEIGHBOUR: 'it returns false'. Refute it at one input. -/
def booksAgreeWrong : ChangeSpec := { name := "booksAgree", fn := fun _ => fun
  | [d] => { results := [.lit (.bool false)], args := [d] }
  | _ => none }
def BooksAgreeWrongFalsely : Prop := booksAgreeRow.holds Try.pinned (OpenSpec.ofChange booksAgreeWrong)

/-- 'publicanlaw21.BooksAll': WHATEVER THE INPUT: true; the input reads as it did. -/
def booksAllSpec : ChangeSpec := { name := "booksAll", fn := fun _ => fun
  | [d1, d2] => { results := [.lit (.bool true)], args := [d1, d2] }
  | _ => none }
def booksAllRow : OpenClaim := { program := "ytmnpdgldmpjekaa", sum := "f2c28de200442c133462b6a7985012c20eb46db372d1515a4937bacd1eef0d6b", func := "publican/publicanlaw21.BooksAll", spec := "booksAll", inPlace := ["maps.clone"], unfollowed := true, recurses := true, apart := false }
def BooksAllSaid : Prop := booksAllRow.holds Try.pinned (OpenSpec.ofChange booksAllSpec)

/-- ITS FALSE NEIGHBOUR: 'it returns false'. Refute it at one input. -/
def booksAllWrong : ChangeSpec := { name := "booksAll", fn := fun _ => fun
  | [d1, d2] => { results := [.lit (.bool false)], args := [d1, d2] }
  | _ => none }
def BooksAllWrongFalsely : Prop := booksAllRow.holds Try.pinned (OpenSpec.ofChange booksAllWrong)

/-- 'publicanlaw21.BooksPlays': WHATEVER THE INPUT: true; the input reads as it did. -/
def booksPlaysSpec : ChangeSpec := { name := "booksPlays", fn := fun _ => fun
  | [d1, d2] => { results := [.lit (.bool true)], args := [d1, d2] }
  | _ => none }
def booksPlaysRow : OpenClaim := { program := "ytmnpdgldmpjekaa", sum := "f2c28de200442c133462b6a7985012c20eb46db372d1515a4937bacd1eef0d6b", func := "publican/publicanlaw21.BooksPlays", spec := "booksPlays", inPlace := ["maps.clone"], unfollowed := true, recurses := true, apart := false }
def BooksPlaysSaid : Prop := booksPlaysRow.holds Try.pinned (OpenSpec.ofChange booksPlaysSpec)

/-- ITS FALSE NEIGHBOUR: 'it returns false'. Refute it at one input. -/
def booksPlaysWrong : ChangeSpec := { name := "booksPlays", fn := fun _ => fun
  | [d1, d2] => { results := [.lit (.bool false)], args := [d1, d2] }
  | _ => none }
def BooksPlaysWrongFalsely : Prop := booksPlaysRow.holds Try.pinned (OpenSpec.ofChange booksPlaysWrong)

/- THE SECOND FORM. 'bulk': how many values and letters a reading holds, each counted each time it is reached (what is shared counts as often as it is met; a slice's spare places count too). A statement '..UptoSaid' is the law's where the arguments, and the package variables that the reading takes, are together of bulk at most 1048576: NARROWER than '..Said'. Prove '..Said' where nothing that the law and all that it calls make is longer than what came in: it says more and counts as full. Else prove '..UptoSaid'. A law counts once. -/
mutual
def uptoBulk {H : Type} : DataW H → Nat
  | .lit (.string bytes) => bytes.length + 1
  | .lit _ => 1
  | .nil => 1
  | .ptr d => uptoBulk d + 1
  | .slice elems spare => uptoBulkAll elems + uptoBulkAll spare + 1
  | .agg parts => uptoBulkAll parts + 1
  | .iface _ d => uptoBulk d + 1
  | .map entries => uptoBulkEntries entries + 1
  | .held _ => 1
def uptoBulkAll {H : Type} : List (DataW H) → Nat
  | [] => 0
  | d :: r => uptoBulk d + uptoBulkAll r
def uptoBulkEntries {H : Type} : List (Lit × DataW H) → Nat
  | [] => 0
  | x :: r => uptoBulkEntry x + uptoBulkEntries r
def uptoBulkEntry {H : Type} : Lit × DataW H → Nat
  | (.string bytes, d) => bytes.length + uptoBulk d + 1
  | (_, d) => uptoBulk d + 1
 end
def uptoSmall : (H : Type) → List (DataW H) → Bool := fun _ ds => decide (uptoBulkAll ds ≤ 1048576)
def OpenSpec.upto (s : _root_.Go.ChangeSpec) : _root_.Go.OpenSpec := { _root_.Go.OpenSpec.ofChange s with cond := some uptoSmall }

/-- 'publicanlaw21.BooksAgree', WHERE WHAT IT READS IS OF BULK AT MOST 1048576: true; the input reads as it did. -/
def booksAgreeUptoRow : OpenClaim := { program := "ytmnpdgldmpjekaa", sum := "f2c28de200442c133462b6a7985012c20eb46db372d1515a4937bacd1eef0d6b", func := "publican/publicanlaw21.BooksAgree", spec := "booksAgree", inPlace := ["maps.clone"], unfollowed := true, recurses := true, apart := false, narrowed := true }
def BooksAgreeUptoSaid : Prop := booksAgreeUptoRow.holds Try.pinned (OpenSpec.upto booksAgreeSpec)

/-- 'publicanlaw21.BooksAll', WHERE WHAT IT READS IS OF BULK AT MOST 1048576: true; the input reads as it did. -/
def booksAllUptoRow : OpenClaim := { program := "ytmnpdgldmpjekaa", sum := "f2c28de200442c133462b6a7985012c20eb46db372d1515a4937bacd1eef0d6b", func := "publican/publicanlaw21.BooksAll", spec := "booksAll", inPlace := ["maps.clone"], unfollowed := true, recurses := true, apart := false, narrowed := true }
def BooksAllUptoSaid : Prop := booksAllUptoRow.holds Try.pinned (OpenSpec.upto booksAllSpec)

/-- 'publicanlaw21.BooksPlays', WHERE WHAT IT READS IS OF BULK AT MOST 1048576: true; the input reads as it did. -/
def booksPlaysUptoRow : OpenClaim := { program := "ytmnpdgldmpjekaa", sum := "f2c28de200442c133462b6a7985012c20eb46db372d1515a4937bacd1eef0d6b", func := "publican/publicanlaw21.BooksPlays", spec := "booksPlays", inPlace := ["maps.clone"], unfollowed := true, recurses := true, apart := false, narrowed := true }
def BooksPlaysUptoSaid : Prop := booksPlaysUptoRow.holds Try.pinned (OpenSpec.upto booksPlaysSpec)

end Rows
end Go.Proofs.Ytmnpdgldmpjekaa
