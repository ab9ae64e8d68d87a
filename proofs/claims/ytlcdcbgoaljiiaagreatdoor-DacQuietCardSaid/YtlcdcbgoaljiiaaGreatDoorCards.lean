/-
  DERIVED. GIVEN WITH THE SEED: THE CARDS: each row of YtlcdcbgoaljiiaaGreatDoorRows.lean that lists a variable, with what it lists TIED to the program's text (the seventh form; the later family's looks); each row that meets fmt, with fmt's text TOLD by the authors' own Lean function (tested against real Go, not proved from fmt's source: count such statements apart). THE CARD IS WHAT COUNTS. Prove the row's statement (the work); the ties are given (YtlcdcbgoaljiiaaGreatDoorTie.lean); close each card by the builder's one call (the guide's Derived/Test/ToyasCard.lean, 'card_holds'). Laid BY PROGRAM, IN A SANDBOX (cutbox-door.mjs). By AI agents, Wed Nov 11 2026. No macro, syntax, notation, axiom, sorry.
-/
import Derived.Test.YtlcdcbgoaljiiaaGreatDoorRows
import GoSem.ClaimSeven
namespace Go.Proofs.YtlcdcbgoaljiiaaGreatDoor
namespace Rows

/-- THE TIED CARD OF 'pennyweightlaw18.DacBounds'. -/
def dacBoundsCard : Claim7 := { stood := { row := dacBoundsRow, standIns := [], harness := (true, "8a621aa233b44856bc946bbfcdfdbd815d59b8c44b582b80d5afa28348e4f60a"), looks := false }, kinds := [], alts := [], laidByText := true, laidKinds := [.data, .data, .data], laidTests := true, laidLooks := .later }
def DacBoundsCardSaid : Prop := Claim7.holds Tryz.pinned (.plain (OpenSpec.ofChange dacBoundsSpec)) dacBoundsCard

/-- THE TIED CARD OF 'pennyweightlaw18.DacHolds'. -/
def dacHoldsCard : Claim7 := { stood := { row := dacHoldsRow, standIns := [], harness := (true, "8a621aa233b44856bc946bbfcdfdbd815d59b8c44b582b80d5afa28348e4f60a"), looks := false }, kinds := [], alts := [], laidByText := true, laidKinds := [.data, .data, .data], laidTests := true, laidLooks := .later }
def DacHoldsCardSaid : Prop := Claim7.holds Tryz.pinned (.plain (OpenSpec.ofChange dacHoldsSpec)) dacHoldsCard

/-- THE TIED CARD OF 'pennyweightlaw18.DacQuiet'. -/
def dacQuietCard : Claim7 := { stood := { row := dacQuietRow, standIns := [], harness := (true, "8a621aa233b44856bc946bbfcdfdbd815d59b8c44b582b80d5afa28348e4f60a"), looks := false }, kinds := [], alts := [], laidByText := true, laidKinds := [.data, .data, .data], laidTests := true, laidLooks := .later }
def DacQuietCardSaid : Prop := Claim7.holds Tryz.pinned (.plain (OpenSpec.ofChange dacQuietSpec)) dacQuietCard

/-- THE SECOND FORM's CARD OF 'pennyweightlaw18.DacBounds'. -/
def dacBoundsUptoCard : Claim7 := { stood := { row := dacBoundsUptoRow, standIns := [], harness := (true, "8a621aa233b44856bc946bbfcdfdbd815d59b8c44b582b80d5afa28348e4f60a"), looks := false }, kinds := [], alts := [], laidByText := true, laidKinds := [.data, .data, .data], laidTests := true, laidLooks := .later }
def DacBoundsUptoCardSaid : Prop := Claim7.holds Tryz.pinned (.plain (OpenSpec.upto dacBoundsSpec)) dacBoundsUptoCard

/-- THE SECOND FORM's CARD OF 'pennyweightlaw18.DacHolds'. -/
def dacHoldsUptoCard : Claim7 := { stood := { row := dacHoldsUptoRow, standIns := [], harness := (true, "8a621aa233b44856bc946bbfcdfdbd815d59b8c44b582b80d5afa28348e4f60a"), looks := false }, kinds := [], alts := [], laidByText := true, laidKinds := [.data, .data, .data], laidTests := true, laidLooks := .later }
def DacHoldsUptoCardSaid : Prop := Claim7.holds Tryz.pinned (.plain (OpenSpec.upto dacHoldsSpec)) dacHoldsUptoCard

/-- THE SECOND FORM's CARD OF 'pennyweightlaw18.DacQuiet'. -/
def dacQuietUptoCard : Claim7 := { stood := { row := dacQuietUptoRow, standIns := [], harness := (true, "8a621aa233b44856bc946bbfcdfdbd815d59b8c44b582b80d5afa28348e4f60a"), looks := false }, kinds := [], alts := [], laidByText := true, laidKinds := [.data, .data, .data], laidTests := true, laidLooks := .later }
def DacQuietUptoCardSaid : Prop := Claim7.holds Tryz.pinned (.plain (OpenSpec.upto dacQuietSpec)) dacQuietUptoCard
end Rows
end Go.Proofs.YtlcdcbgoaljiiaaGreatDoor
