/-
  DERIVED. GIVEN WITH THE SEED: THE CARDS: each row of YtnhkbjhpbbobaaaGreatDoorRows.lean that lists a variable, with what it lists TIED to the program's text (the seventh form; the later family's looks); each row that meets fmt, with fmt's text TOLD by the authors' own Lean function (tested against real Go, not proved from fmt's source: count such statements apart). THE CARD IS WHAT COUNTS. Prove the row's statement (the work); the ties are given (YtnhkbjhpbbobaaaGreatDoorTie.lean); close each card by the builder's one call (the guide's Derived/Test/ToyasCard.lean, 'card_holds'). Laid BY PROGRAM, IN A SANDBOX (cutbox-door.mjs). By AI agents, Wed Nov 11 2026. No macro, syntax, notation, axiom, sorry.
-/
import Derived.Test.YtnhkbjhpbbobaaaGreatDoorRows
import GoSem.ClaimSeven
namespace Go.Proofs.YtnhkbjhpbbobaaaGreatDoor
namespace Rows

/-- THE TIED CARD OF 'pennyweightlaw17.AcBounds'. -/
def acBoundsCard : Claim7 := { stood := { row := acBoundsRow, standIns := [], harness := (true, "0d750992a8da34f88a94c23451edd2a3a44fc47dee75411333f482bbf6f08b79"), looks := false }, kinds := [], alts := [], laidByText := true, laidKinds := [.data, .data, .data], laidTests := true, laidLooks := .later }
def AcBoundsCardSaid : Prop := Claim7.holds Tryz.pinned (.plain (OpenSpec.ofChange acBoundsSpec)) acBoundsCard

/-- THE TIED CARD OF 'pennyweightlaw17.AcHolds'. -/
def acHoldsCard : Claim7 := { stood := { row := acHoldsRow, standIns := [], harness := (true, "0d750992a8da34f88a94c23451edd2a3a44fc47dee75411333f482bbf6f08b79"), looks := false }, kinds := [], alts := [], laidByText := true, laidKinds := [.data, .data, .data], laidTests := true, laidLooks := .later }
def AcHoldsCardSaid : Prop := Claim7.holds Tryz.pinned (.plain (OpenSpec.ofChange acHoldsSpec)) acHoldsCard

/-- THE TIED CARD OF 'pennyweightlaw17.AcQuiet'. -/
def acQuietCard : Claim7 := { stood := { row := acQuietRow, standIns := [], harness := (true, "0d750992a8da34f88a94c23451edd2a3a44fc47dee75411333f482bbf6f08b79"), looks := false }, kinds := [], alts := [], laidByText := true, laidKinds := [.data, .data, .data], laidTests := true, laidLooks := .later }
def AcQuietCardSaid : Prop := Claim7.holds Tryz.pinned (.plain (OpenSpec.ofChange acQuietSpec)) acQuietCard

/-- THE SECOND FORM's CARD OF 'pennyweightlaw17.AcBounds'. -/
def acBoundsUptoCard : Claim7 := { stood := { row := acBoundsUptoRow, standIns := [], harness := (true, "0d750992a8da34f88a94c23451edd2a3a44fc47dee75411333f482bbf6f08b79"), looks := false }, kinds := [], alts := [], laidByText := true, laidKinds := [.data, .data, .data], laidTests := true, laidLooks := .later }
def AcBoundsUptoCardSaid : Prop := Claim7.holds Tryz.pinned (.plain (OpenSpec.upto acBoundsSpec)) acBoundsUptoCard

/-- THE SECOND FORM's CARD OF 'pennyweightlaw17.AcHolds'. -/
def acHoldsUptoCard : Claim7 := { stood := { row := acHoldsUptoRow, standIns := [], harness := (true, "0d750992a8da34f88a94c23451edd2a3a44fc47dee75411333f482bbf6f08b79"), looks := false }, kinds := [], alts := [], laidByText := true, laidKinds := [.data, .data, .data], laidTests := true, laidLooks := .later }
def AcHoldsUptoCardSaid : Prop := Claim7.holds Tryz.pinned (.plain (OpenSpec.upto acHoldsSpec)) acHoldsUptoCard

/-- THE SECOND FORM's CARD OF 'pennyweightlaw17.AcQuiet'. -/
def acQuietUptoCard : Claim7 := { stood := { row := acQuietUptoRow, standIns := [], harness := (true, "0d750992a8da34f88a94c23451edd2a3a44fc47dee75411333f482bbf6f08b79"), looks := false }, kinds := [], alts := [], laidByText := true, laidKinds := [.data, .data, .data], laidTests := true, laidLooks := .later }
def AcQuietUptoCardSaid : Prop := Claim7.holds Tryz.pinned (.plain (OpenSpec.upto acQuietSpec)) acQuietUptoCard
end Rows
end Go.Proofs.YtnhkbjhpbbobaaaGreatDoor
