/-
  DERIVED. GIVEN WITH THE SEED: THE CARDS: each row of YtkdbjildalhoeaaGreatDoorRows.lean that lists a variable, with what it lists TIED to the program's text (the seventh form; the later family's looks); each row that meets fmt, with fmt's text TOLD by the authors' own Lean function (tested against real Go, not proved from fmt's source: count such statements apart). THE CARD IS WHAT COUNTS. Prove the row's statement (the work); the ties are given (YtkdbjildalhoeaaGreatDoorTie.lean); close each card by the builder's one call (the guide's Derived/Test/ToyasCard.lean, 'card_holds'). Laid BY PROGRAM, IN A SANDBOX (cutbox-door.mjs). By AI agents, Wed Nov 11 2026. No macro, syntax, notation, axiom, sorry.
-/
import Derived.Test.YtkdbjildalhoeaaGreatDoorRows
import GoSem.ClaimSeven
namespace Go.Proofs.YtkdbjildalhoeaaGreatDoor
namespace Rows

/-- THE TIED CARD OF 'publicanlaw15.FoldKnown'. -/
def foldKnownCard : Claim7 := { stood := { row := foldKnownRow, standIns := [], harness := (true, "a72cbde1647e0daedbe2bb749c0e720a550231a7abaa1d71c28eda99a2d0c978"), looks := false }, kinds := [], alts := [], laidByText := true, laidKinds := [.data, .data, .data, .data, .pinned], laidTests := true, laidLooks := .later }
def FoldKnownCardSaid : Prop := Claim7.holds Tryz.pinned (.plain (OpenSpec.ofChange foldKnownSpec)) foldKnownCard

/-- THE TIED CARD OF 'publicanlaw10.SynKnown'. -/
def synKnownCard : Claim7 := { stood := { row := synKnownRow, standIns := [], harness := (true, "a72cbde1647e0daedbe2bb749c0e720a550231a7abaa1d71c28eda99a2d0c978"), looks := false }, kinds := [], alts := [], laidByText := true, laidKinds := [.data, .data, .data, .data, .pinned], laidTests := true, laidLooks := .later }
def SynKnownCardSaid : Prop := Claim7.holds Tryz.pinned (.plain (OpenSpec.ofChange synKnownSpec)) synKnownCard

/-- THE TIED CARD OF 'publicanlaw10.SynRanks'. -/
def synRanksCard : Claim7 := { stood := { row := synRanksRow, standIns := [], harness := (true, "a72cbde1647e0daedbe2bb749c0e720a550231a7abaa1d71c28eda99a2d0c978"), looks := false }, kinds := [], alts := [], laidByText := true, laidKinds := [.data, .data, .data, .data, .pinned], laidTests := true, laidLooks := .later }
def SynRanksCardSaid : Prop := Claim7.holds Tryz.pinned (.plain (OpenSpec.ofChange synRanksSpec)) synRanksCard

/-- THE TIED CARD OF 'publicanlaw10.SynNests'. -/
def synNestsCard : Claim7 := { stood := { row := synNestsRow, standIns := [], harness := (true, "a72cbde1647e0daedbe2bb749c0e720a550231a7abaa1d71c28eda99a2d0c978"), looks := false }, kinds := [], alts := [], laidByText := true, laidKinds := [.data, .data, .data, .data, .pinned], laidTests := true, laidLooks := .later }
def SynNestsCardSaid : Prop := Claim7.holds Tryz.pinned (.plain (OpenSpec.ofChange synNestsSpec)) synNestsCard

/-- THE TIED CARD OF 'publicanlaw10.SynRows'. -/
def synRowsCard : Claim7 := { stood := { row := synRowsRow, standIns := [], harness := (true, "a72cbde1647e0daedbe2bb749c0e720a550231a7abaa1d71c28eda99a2d0c978"), looks := false }, kinds := [], alts := [], laidByText := true, laidKinds := [.data, .data, .data, .data, .pinned], laidTests := true, laidLooks := .later }
def SynRowsCardSaid : Prop := Claim7.holds Tryz.pinned (.plain (OpenSpec.ofChange synRowsSpec)) synRowsCard

/-- THE TIED CARD OF 'publicanlaw23.FilingKnown'. -/
def filingKnownCard : Claim7 := { stood := { row := filingKnownRow, standIns := [], harness := (true, "a72cbde1647e0daedbe2bb749c0e720a550231a7abaa1d71c28eda99a2d0c978"), looks := false }, kinds := [], alts := [], laidByText := true, laidKinds := [.data, .data, .data, .data, .pinned], laidTests := true, laidLooks := .later }
def FilingKnownCardSaid : Prop := Claim7.holds Tryz.pinned (.plain (OpenSpec.ofChange filingKnownSpec)) filingKnownCard

/-- THE SECOND FORM's CARD OF 'publicanlaw15.FoldKnown'. -/
def foldKnownUptoCard : Claim7 := { stood := { row := foldKnownUptoRow, standIns := [], harness := (true, "a72cbde1647e0daedbe2bb749c0e720a550231a7abaa1d71c28eda99a2d0c978"), looks := false }, kinds := [], alts := [], laidByText := true, laidKinds := [.data, .data, .data, .data, .pinned], laidTests := true, laidLooks := .later }
def FoldKnownUptoCardSaid : Prop := Claim7.holds Tryz.pinned (.plain (OpenSpec.upto foldKnownSpec)) foldKnownUptoCard

/-- THE SECOND FORM's CARD OF 'publicanlaw10.SynKnown'. -/
def synKnownUptoCard : Claim7 := { stood := { row := synKnownUptoRow, standIns := [], harness := (true, "a72cbde1647e0daedbe2bb749c0e720a550231a7abaa1d71c28eda99a2d0c978"), looks := false }, kinds := [], alts := [], laidByText := true, laidKinds := [.data, .data, .data, .data, .pinned], laidTests := true, laidLooks := .later }
def SynKnownUptoCardSaid : Prop := Claim7.holds Tryz.pinned (.plain (OpenSpec.upto synKnownSpec)) synKnownUptoCard

/-- THE SECOND FORM's CARD OF 'publicanlaw10.SynRanks'. -/
def synRanksUptoCard : Claim7 := { stood := { row := synRanksUptoRow, standIns := [], harness := (true, "a72cbde1647e0daedbe2bb749c0e720a550231a7abaa1d71c28eda99a2d0c978"), looks := false }, kinds := [], alts := [], laidByText := true, laidKinds := [.data, .data, .data, .data, .pinned], laidTests := true, laidLooks := .later }
def SynRanksUptoCardSaid : Prop := Claim7.holds Tryz.pinned (.plain (OpenSpec.upto synRanksSpec)) synRanksUptoCard

/-- THE SECOND FORM's CARD OF 'publicanlaw10.SynNests'. -/
def synNestsUptoCard : Claim7 := { stood := { row := synNestsUptoRow, standIns := [], harness := (true, "a72cbde1647e0daedbe2bb749c0e720a550231a7abaa1d71c28eda99a2d0c978"), looks := false }, kinds := [], alts := [], laidByText := true, laidKinds := [.data, .data, .data, .data, .pinned], laidTests := true, laidLooks := .later }
def SynNestsUptoCardSaid : Prop := Claim7.holds Tryz.pinned (.plain (OpenSpec.upto synNestsSpec)) synNestsUptoCard

/-- THE SECOND FORM's CARD OF 'publicanlaw10.SynRows'. -/
def synRowsUptoCard : Claim7 := { stood := { row := synRowsUptoRow, standIns := [], harness := (true, "a72cbde1647e0daedbe2bb749c0e720a550231a7abaa1d71c28eda99a2d0c978"), looks := false }, kinds := [], alts := [], laidByText := true, laidKinds := [.data, .data, .data, .data, .pinned], laidTests := true, laidLooks := .later }
def SynRowsUptoCardSaid : Prop := Claim7.holds Tryz.pinned (.plain (OpenSpec.upto synRowsSpec)) synRowsUptoCard

/-- THE SECOND FORM's CARD OF 'publicanlaw23.FilingKnown'. -/
def filingKnownUptoCard : Claim7 := { stood := { row := filingKnownUptoRow, standIns := [], harness := (true, "a72cbde1647e0daedbe2bb749c0e720a550231a7abaa1d71c28eda99a2d0c978"), looks := false }, kinds := [], alts := [], laidByText := true, laidKinds := [.data, .data, .data, .data, .pinned], laidTests := true, laidLooks := .later }
def FilingKnownUptoCardSaid : Prop := Claim7.holds Tryz.pinned (.plain (OpenSpec.upto filingKnownSpec)) filingKnownUptoCard
end Rows
end Go.Proofs.YtkdbjildalhoeaaGreatDoor
