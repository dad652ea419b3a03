/-
  No cell of these rows narrows 'for every input' (looked for: loops, veiled, ifaces, maps, wideKeys, modest, calm, conditions, laid).
  DERIVED. THE GIVEN ROWS OF THIS SEAT. 2 by the template 'for every input the law returns true; each argument reads behind the call as it read before'; 0 by the template 'total and deterministic' (their statements: YtmmaicjkkcljhaaTotals.lean).
  GIVEN WITH THE SEED: the statements are not yours to turn. If you find one false, say at which input.
  Laid BY PROGRAM, IN A SANDBOX (cutbox-rows.mjs): the forced cells as the released guide's own fill.sh prints them over the translation b0bc4c5729bec700… (all of the seat's roots in one cut). By AI agents, Wed Nov 11 2026. No macro, syntax, notation, axiom, sorry.
-/
import Derived.Test.YtmmaicjkkcljhaaChecked
import GoSem.Claim
import GoSem.ClaimJoined
import GoSem.ClaimMapViews
import Derived.JoinedTies
import Derived.KernelRfl
namespace Go.Proofs.Ytmmaicjkkcljhaa
/- THE CELL 'sum', in the pinned program and in every row, IS THE sha256 OF THE DUMP (.gsa) THAT YtmmaicjkkcljhaaProg.lean LOADS. Nothing in Lean hashes anything: it is a label: what it is worth is what the hold of that sum in a sandbox is worth. -/
noncomputable def Try.pinned : Pinned := { name := "ytmmaicjkkcljhaa", sum := "b0bc4c5729bec70015d8a4e5b3c282ffdcb7fa55ed6eceba98cb1d0c67587140", checked := Try.checked }
namespace Rows
def none {H : Type} : Left H := { results := [], args := [] }

/-- 'publicanlaw24.TrayKnown': WHATEVER THE INPUT: true; the input reads as it did. -/
def trayKnownSpec : ChangeSpec := { name := "trayKnown", fn := fun _ => fun
  | [] => { results := [.lit (.bool true)], args := [] }
  | _ => none }
def trayKnownRow : OpenClaim := { program := "ytmmaicjkkcljhaa", sum := "b0bc4c5729bec70015d8a4e5b3c282ffdcb7fa55ed6eceba98cb1d0c67587140", func := "publican/publicanlaw24.TrayKnown", spec := "trayKnown", apart := false }
def TrayKnownSaid : Prop := trayKnownRow.holds Try.pinned (OpenSpec.ofChange trayKnownSpec)

/-- ITS FALSE NEIGHBOUR: 'it returns false'. Refute it at one input. -/
def trayKnownWrong : ChangeSpec := { name := "trayKnown", fn := fun _ => fun
  | [] => { results := [.lit (.bool false)], args := [] }
  | _ => none }
def TrayKnownWrongFalsely : Prop := trayKnownRow.holds Try.pinned (OpenSpec.ofChange trayKnownWrong)

/-- 'publicanlaw24.TrayPlays': WHATEVER THE INPUT: true; the input reads as it did. -/
def trayPlaysSpec : ChangeSpec := { name := "trayPlays", fn := fun _ => fun
  | [d] => { results := [.lit (.bool true)], args := [d] }
  | _ => none }
def trayPlaysRow : OpenClaim := { program := "ytmmaicjkkcljhaa", sum := "b0bc4c5729bec70015d8a4e5b3c282ffdcb7fa55ed6eceba98cb1d0c67587140", func := "publican/publicanlaw24.TrayPlays", spec := "trayPlays", apart := false }
def TrayPlaysSaid : Prop := trayPlaysRow.holds Try.pinned (OpenSpec.ofChange trayPlaysSpec)

/-- ITS FALSE NEIGHBOUR: 'it returns false'. Refute it at one input. -/
def trayPlaysWrong : ChangeSpec := { name := "trayPlays", fn := fun _ => fun
  | [d] => { results := [.lit (.bool false)], args := [d] }
  | _ => none }
def TrayPlaysWrongFalsely : Prop := trayPlaysRow.holds Try.pinned (OpenSpec.ofChange trayPlaysWrong)

/- THE SECOND FORM. 'bulk': how many values and letters a reading holds, each counted each time it is reached (what is shared counts as often as it is met; a slice's spare places count too). A statement '..UptoSaid' is the law's where the arguments, and the package variables that the reading takes, are together of bulk at most 1048576: NARROWER than '..Said'. Prove '..Said' where nothing that the law and all that it calls make is longer than what came in: it says more and counts as full. Else prove '..UptoSaid'. A law counts once. -/
mutual
def uptoBulk {H : Type} : DataW H → Nat
  | .lit (.string bytes) => bytes.length + 1
  | .lit _ => 1
  | .nil => 1
  | .ptr d => uptoBulk d + 1
  | .slice elems spare => uptoBulkAll elems + uptoBulkAll spare + 1
  | .agg parts => uptoBulkAll parts + 1
  | .iface _ d => uptoBulk d + 1
  | .map entries => uptoBulkEntries entries + 1
  | .held _ => 1
def uptoBulkAll {H : Type} : List (DataW H) → Nat
  | [] => 0
  | d :: r => uptoBulk d + uptoBulkAll r
def uptoBulkEntries {H : Type} : List (Lit × DataW H) → Nat
  | [] => 0
  | x :: r => uptoBulkEntry x + uptoBulkEntries r
def uptoBulkEntry {H : Type} : Lit × DataW H → Nat
  | (.string bytes, d) => bytes.length + uptoBulk d + 1
  | (_, d) => uptoBulk d + 1
 end
def uptoSmall : (H : Type) → List (DataW H) → Bool := fun _ ds => decide (uptoBulkAll ds ≤ 1048576)
def OpenSpec.upto (s : _root_.Go.ChangeSpec) : _root_.Go.OpenSpec := { _root_.Go.OpenSpec.ofChange s with cond := some uptoSmall }

/-- 'publicanlaw24.TrayKnown', WHERE WHAT IT READS IS OF BULK AT MOST 1048576: true; the input reads as it did. -/
def trayKnownUptoRow : OpenClaim := { program := "ytmmaicjkkcljhaa", sum := "b0bc4c5729bec70015d8a4e5b3c282ffdcb7fa55ed6eceba98cb1d0c67587140", func := "publican/publicanlaw24.TrayKnown", spec := "trayKnown", apart := false, narrowed := true }
def TrayKnownUptoSaid : Prop := trayKnownUptoRow.holds Try.pinned (OpenSpec.upto trayKnownSpec)

/-- 'publicanlaw24.TrayPlays', WHERE WHAT IT READS IS OF BULK AT MOST 1048576: true; the input reads as it did. -/
def trayPlaysUptoRow : OpenClaim := { program := "ytmmaicjkkcljhaa", sum := "b0bc4c5729bec70015d8a4e5b3c282ffdcb7fa55ed6eceba98cb1d0c67587140", func := "publican/publicanlaw24.TrayPlays", spec := "trayPlays", apart := false, narrowed := true }
def TrayPlaysUptoSaid : Prop := trayPlaysUptoRow.holds Try.pinned (OpenSpec.upto trayPlaysSpec)

end Rows
end Go.Proofs.Ytmmaicjkkcljhaa
