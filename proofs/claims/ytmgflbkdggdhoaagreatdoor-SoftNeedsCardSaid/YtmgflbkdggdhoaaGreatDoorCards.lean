/-
  DERIVED. GIVEN WITH THE SEED: THE CARDS: each row of YtmgflbkdggdhoaaGreatDoorRows.lean that lists a variable, with what it lists TIED to the program's text (the seventh form; the later family's looks); each row that meets fmt, with fmt's text TOLD by the authors' own Lean function (tested against real Go, not proved from fmt's source: count such statements apart). THE CARD IS WHAT COUNTS. Prove the row's statement (the work); the ties are given (YtmgflbkdggdhoaaGreatDoorTie.lean); close each card by the builder's one call (the guide's Derived/Test/ToyasCard.lean, 'card_holds'). Laid BY PROGRAM, IN A SANDBOX (cutbox-door.mjs). By AI agents, Wed Nov 11 2026. No macro, syntax, notation, axiom, sorry.
-/
import Derived.Test.YtmgflbkdggdhoaaGreatDoorRows
import GoSem.ClaimSeven
namespace Go.Proofs.YtmgflbkdggdhoaaGreatDoor
namespace Rows

/-- THE TIED CARD OF 'pennyweightlaw14.SoftTells'. -/
def softTellsCard : Claim7 := { stood := { row := softTellsRow, standIns := [], harness := (true, "18a0d66f4d07540a2471b83340a66137ead21a2ded773d4fb74c4ffb4ef027b1"), looks := false }, kinds := [], alts := [], laidByText := true, laidKinds := [.data, .data, .data], laidTests := true, laidLooks := .later }
def SoftTellsCardSaid : Prop := Claim7.holds Tryz.pinned (.plain (OpenSpec.ofChange softTellsSpec)) softTellsCard

/-- THE TIED CARD OF 'pennyweightlaw14.SoftNeeds'. -/
def softNeedsCard : Claim7 := { stood := { row := softNeedsRow, standIns := [], harness := (true, "18a0d66f4d07540a2471b83340a66137ead21a2ded773d4fb74c4ffb4ef027b1"), looks := false }, kinds := [], alts := [], laidByText := true, laidKinds := [.data, .data, .data], laidTests := true, laidLooks := .later }
def SoftNeedsCardSaid : Prop := Claim7.holds Tryz.pinned (.plain (OpenSpec.ofChange softNeedsSpec)) softNeedsCard

/-- THE TIED CARD OF 'pennyweightlaw14.SoftLess'. -/
def softLessCard : Claim7 := { stood := { row := softLessRow, standIns := [], harness := (true, "18a0d66f4d07540a2471b83340a66137ead21a2ded773d4fb74c4ffb4ef027b1"), looks := false }, kinds := [], alts := [], laidByText := true, laidKinds := [.data, .data, .data], laidTests := true, laidLooks := .later }
def SoftLessCardSaid : Prop := Claim7.holds Tryz.pinned (.plain (OpenSpec.ofChange softLessSpec)) softLessCard

/-- THE TIED CARD OF 'pennyweightlaw14.SoftBounds'. -/
def softBoundsCard : Claim7 := { stood := { row := softBoundsRow, standIns := [], harness := (true, "18a0d66f4d07540a2471b83340a66137ead21a2ded773d4fb74c4ffb4ef027b1"), looks := false }, kinds := [], alts := [], laidByText := true, laidKinds := [.data, .data, .data], laidTests := true, laidLooks := .later }
def SoftBoundsCardSaid : Prop := Claim7.holds Tryz.pinned (.plain (OpenSpec.ofChange softBoundsSpec)) softBoundsCard

/-- THE SECOND FORM's CARD OF 'pennyweightlaw14.SoftTells'. -/
def softTellsUptoCard : Claim7 := { stood := { row := softTellsUptoRow, standIns := [], harness := (true, "18a0d66f4d07540a2471b83340a66137ead21a2ded773d4fb74c4ffb4ef027b1"), looks := false }, kinds := [], alts := [], laidByText := true, laidKinds := [.data, .data, .data], laidTests := true, laidLooks := .later }
def SoftTellsUptoCardSaid : Prop := Claim7.holds Tryz.pinned (.plain (OpenSpec.upto softTellsSpec)) softTellsUptoCard

/-- THE SECOND FORM's CARD OF 'pennyweightlaw14.SoftNeeds'. -/
def softNeedsUptoCard : Claim7 := { stood := { row := softNeedsUptoRow, standIns := [], harness := (true, "18a0d66f4d07540a2471b83340a66137ead21a2ded773d4fb74c4ffb4ef027b1"), looks := false }, kinds := [], alts := [], laidByText := true, laidKinds := [.data, .data, .data], laidTests := true, laidLooks := .later }
def SoftNeedsUptoCardSaid : Prop := Claim7.holds Tryz.pinned (.plain (OpenSpec.upto softNeedsSpec)) softNeedsUptoCard

/-- THE SECOND FORM's CARD OF 'pennyweightlaw14.SoftLess'. -/
def softLessUptoCard : Claim7 := { stood := { row := softLessUptoRow, standIns := [], harness := (true, "18a0d66f4d07540a2471b83340a66137ead21a2ded773d4fb74c4ffb4ef027b1"), looks := false }, kinds := [], alts := [], laidByText := true, laidKinds := [.data, .data, .data], laidTests := true, laidLooks := .later }
def SoftLessUptoCardSaid : Prop := Claim7.holds Tryz.pinned (.plain (OpenSpec.upto softLessSpec)) softLessUptoCard

/-- THE SECOND FORM's CARD OF 'pennyweightlaw14.SoftBounds'. -/
def softBoundsUptoCard : Claim7 := { stood := { row := softBoundsUptoRow, standIns := [], harness := (true, "18a0d66f4d07540a2471b83340a66137ead21a2ded773d4fb74c4ffb4ef027b1"), looks := false }, kinds := [], alts := [], laidByText := true, laidKinds := [.data, .data, .data], laidTests := true, laidLooks := .later }
def SoftBoundsUptoCardSaid : Prop := Claim7.holds Tryz.pinned (.plain (OpenSpec.upto softBoundsSpec)) softBoundsUptoCard
end Rows
end Go.Proofs.YtmgflbkdggdhoaaGreatDoor
