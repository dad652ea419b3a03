/-
  DERIVED. GIVEN WITH THE SEED: THE CARDS: each row of YtjeipnpjkiapgaaGreatDoorRows.lean that lists a variable, with what it lists TIED to the program's text (the seventh form; the later family's looks); each row that meets fmt, with fmt's text TOLD by the authors' own Lean function (tested against real Go, not proved from fmt's source: count such statements apart). THE CARD IS WHAT COUNTS. Prove the row's statement (the work); the ties are given (YtjeipnpjkiapgaaGreatDoorTie.lean); close each card by the builder's one call (the guide's Derived/Test/ToyasCard.lean, 'card_holds'). Laid BY PROGRAM, IN A SANDBOX (cutbox-door.mjs). By AI agents, Wed Nov 11 2026. No macro, syntax, notation, axiom, sorry.
-/
import Derived.Test.YtjeipnpjkiapgaaGreatDoorRows
import GoSem.ClaimSeven
namespace Go.Proofs.YtjeipnpjkiapgaaGreatDoor
namespace Rows

/-- THE TIED CARD OF 'publicanlaw10.SynReads'. -/
def synReadsCard : Claim7 := { stood := { row := synReadsRow, standIns := [], harness := (true, "9e819ede96816af5e1a10cf9b3ad887a3581608545ea46c36a7f212788f15d94"), looks := false }, kinds := [], alts := [], laidByText := true, laidKinds := [.data, .data, .data, .data, .pinned], laidTests := true, laidLooks := .later }
def SynReadsCardSaid : Prop := Claim7.holds Tryz.pinned (.plain (OpenSpec.ofChange synReadsSpec)) synReadsCard

/-- THE TIED CARD OF 'publicanlaw10.SynBack'. -/
def synBackCard : Claim7 := { stood := { row := synBackRow, standIns := [], harness := (true, "9e819ede96816af5e1a10cf9b3ad887a3581608545ea46c36a7f212788f15d94"), looks := false }, kinds := [], alts := [], laidByText := true, laidKinds := [.data, .data, .data, .data, .pinned], laidTests := true, laidLooks := .later }
def SynBackCardSaid : Prop := Claim7.holds Tryz.pinned (.plain (OpenSpec.ofChange synBackSpec)) synBackCard

/-- THE TIED CARD OF 'publicanlaw10.SynSame'. -/
def synSameCard : Claim7 := { stood := { row := synSameRow, standIns := [], harness := (true, "9e819ede96816af5e1a10cf9b3ad887a3581608545ea46c36a7f212788f15d94"), looks := false }, kinds := [], alts := [], laidByText := true, laidKinds := [.data, .data, .data, .data, .pinned], laidTests := true, laidLooks := .later }
def SynSameCardSaid : Prop := Claim7.holds Tryz.pinned (.plain (OpenSpec.ofChange synSameSpec)) synSameCard

/-- THE TIED CARD OF 'publicanlaw10.SynNests'. -/
def synNestsCard : Claim7 := { stood := { row := synNestsRow, standIns := [], harness := (true, "9e819ede96816af5e1a10cf9b3ad887a3581608545ea46c36a7f212788f15d94"), looks := false }, kinds := [], alts := [], laidByText := true, laidKinds := [.data, .data, .data, .data, .pinned], laidTests := true, laidLooks := .later }
def SynNestsCardSaid : Prop := Claim7.holds Tryz.pinned (.plain (OpenSpec.ofChange synNestsSpec)) synNestsCard

/-- THE SECOND FORM's CARD OF 'publicanlaw10.SynReads'. -/
def synReadsUptoCard : Claim7 := { stood := { row := synReadsUptoRow, standIns := [], harness := (true, "9e819ede96816af5e1a10cf9b3ad887a3581608545ea46c36a7f212788f15d94"), looks := false }, kinds := [], alts := [], laidByText := true, laidKinds := [.data, .data, .data, .data, .pinned], laidTests := true, laidLooks := .later }
def SynReadsUptoCardSaid : Prop := Claim7.holds Tryz.pinned (.plain (OpenSpec.upto synReadsSpec)) synReadsUptoCard

/-- THE SECOND FORM's CARD OF 'publicanlaw10.SynBack'. -/
def synBackUptoCard : Claim7 := { stood := { row := synBackUptoRow, standIns := [], harness := (true, "9e819ede96816af5e1a10cf9b3ad887a3581608545ea46c36a7f212788f15d94"), looks := false }, kinds := [], alts := [], laidByText := true, laidKinds := [.data, .data, .data, .data, .pinned], laidTests := true, laidLooks := .later }
def SynBackUptoCardSaid : Prop := Claim7.holds Tryz.pinned (.plain (OpenSpec.upto synBackSpec)) synBackUptoCard

/-- THE SECOND FORM's CARD OF 'publicanlaw10.SynSame'. -/
def synSameUptoCard : Claim7 := { stood := { row := synSameUptoRow, standIns := [], harness := (true, "9e819ede96816af5e1a10cf9b3ad887a3581608545ea46c36a7f212788f15d94"), looks := false }, kinds := [], alts := [], laidByText := true, laidKinds := [.data, .data, .data, .data, .pinned], laidTests := true, laidLooks := .later }
def SynSameUptoCardSaid : Prop := Claim7.holds Tryz.pinned (.plain (OpenSpec.upto synSameSpec)) synSameUptoCard

/-- THE SECOND FORM's CARD OF 'publicanlaw10.SynNests'. -/
def synNestsUptoCard : Claim7 := { stood := { row := synNestsUptoRow, standIns := [], harness := (true, "9e819ede96816af5e1a10cf9b3ad887a3581608545ea46c36a7f212788f15d94"), looks := false }, kinds := [], alts := [], laidByText := true, laidKinds := [.data, .data, .data, .data, .pinned], laidTests := true, laidLooks := .later }
def SynNestsUptoCardSaid : Prop := Claim7.holds Tryz.pinned (.plain (OpenSpec.upto synNestsSpec)) synNestsUptoCard
end Rows
end Go.Proofs.YtjeipnpjkiapgaaGreatDoor
