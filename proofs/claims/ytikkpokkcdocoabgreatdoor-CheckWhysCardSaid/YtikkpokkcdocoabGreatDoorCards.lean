/-
  DERIVED. GIVEN WITH THE SEED: THE CARDS: each row of YtikkpokkcdocoabGreatDoorRows.lean that lists a variable, with what it lists TIED to the program's text (the seventh form; the later family's looks); each row that meets fmt, with fmt's text TOLD by the authors' own Lean function (tested against real Go, not proved from fmt's source: count such statements apart). THE CARD IS WHAT COUNTS. Prove the row's statement (the work); the ties are given (YtikkpokkcdocoabGreatDoorTie.lean); close each card by the builder's one call (the guide's Derived/Test/ToyasCard.lean, 'card_holds'). Laid BY PROGRAM, IN A SANDBOX (cutbox-door.mjs). By AI agents, Wed Nov 11 2026. No macro, syntax, notation, axiom, sorry.
-/
import Derived.Test.YtikkpokkcdocoabGreatDoorRows
import GoSem.ClaimSeven
namespace Go.Proofs.YtikkpokkcdocoabGreatDoor
namespace Rows

/-- THE TIED CARD OF 'pennyweightlaw15.CheckWhys'. -/
def checkWhysCard : Claim7 := { stood := { row := checkWhysRow, standIns := [], harness := (true, "65a205724732cae2f81f33ebfa2a3bfd3a9fc5f515fd2bae75e202cdeb39a4d1"), looks := false }, kinds := [], alts := [], laidByText := true, laidKinds := [.data, .data, .data], laidTests := true, laidLooks := .later }
def CheckWhysCardSaid : Prop := Claim7.holds Tryz.pinned (.plain (OpenSpec.ofChange checkWhysSpec)) checkWhysCard

/-- THE TIED CARD OF 'pennyweightlaw15.CheckLevels'. -/
def checkLevelsCard : Claim7 := { stood := { row := checkLevelsRow, standIns := [], harness := (true, "65a205724732cae2f81f33ebfa2a3bfd3a9fc5f515fd2bae75e202cdeb39a4d1"), looks := false }, kinds := [], alts := [], laidByText := true, laidKinds := [.data, .data, .data], laidTests := true, laidLooks := .later }
def CheckLevelsCardSaid : Prop := Claim7.holds Tryz.pinned (.plain (OpenSpec.ofChange checkLevelsSpec)) checkLevelsCard

/-- THE TIED CARD OF 'pennyweightlaw15.CheckWiped'. -/
def checkWipedCard : Claim7 := { stood := { row := checkWipedRow, standIns := [], harness := (true, "65a205724732cae2f81f33ebfa2a3bfd3a9fc5f515fd2bae75e202cdeb39a4d1"), looks := false }, kinds := [], alts := [], laidByText := true, laidKinds := [.data, .data, .data], laidTests := true, laidLooks := .later }
def CheckWipedCardSaid : Prop := Claim7.holds Tryz.pinned (.plain (OpenSpec.ofChange checkWipedSpec)) checkWipedCard

/-- THE TIED CARD OF 'pennyweightlaw15.CheckQuiet'. -/
def checkQuietCard : Claim7 := { stood := { row := checkQuietRow, standIns := [], harness := (true, "65a205724732cae2f81f33ebfa2a3bfd3a9fc5f515fd2bae75e202cdeb39a4d1"), looks := false }, kinds := [], alts := [], laidByText := true, laidKinds := [.data, .data, .data], laidTests := true, laidLooks := .later }
def CheckQuietCardSaid : Prop := Claim7.holds Tryz.pinned (.plain (OpenSpec.ofChange checkQuietSpec)) checkQuietCard

/-- THE SECOND FORM's CARD OF 'pennyweightlaw15.CheckWhys'. -/
def checkWhysUptoCard : Claim7 := { stood := { row := checkWhysUptoRow, standIns := [], harness := (true, "65a205724732cae2f81f33ebfa2a3bfd3a9fc5f515fd2bae75e202cdeb39a4d1"), looks := false }, kinds := [], alts := [], laidByText := true, laidKinds := [.data, .data, .data], laidTests := true, laidLooks := .later }
def CheckWhysUptoCardSaid : Prop := Claim7.holds Tryz.pinned (.plain (OpenSpec.upto checkWhysSpec)) checkWhysUptoCard

/-- THE SECOND FORM's CARD OF 'pennyweightlaw15.CheckLevels'. -/
def checkLevelsUptoCard : Claim7 := { stood := { row := checkLevelsUptoRow, standIns := [], harness := (true, "65a205724732cae2f81f33ebfa2a3bfd3a9fc5f515fd2bae75e202cdeb39a4d1"), looks := false }, kinds := [], alts := [], laidByText := true, laidKinds := [.data, .data, .data], laidTests := true, laidLooks := .later }
def CheckLevelsUptoCardSaid : Prop := Claim7.holds Tryz.pinned (.plain (OpenSpec.upto checkLevelsSpec)) checkLevelsUptoCard

/-- THE SECOND FORM's CARD OF 'pennyweightlaw15.CheckWiped'. -/
def checkWipedUptoCard : Claim7 := { stood := { row := checkWipedUptoRow, standIns := [], harness := (true, "65a205724732cae2f81f33ebfa2a3bfd3a9fc5f515fd2bae75e202cdeb39a4d1"), looks := false }, kinds := [], alts := [], laidByText := true, laidKinds := [.data, .data, .data], laidTests := true, laidLooks := .later }
def CheckWipedUptoCardSaid : Prop := Claim7.holds Tryz.pinned (.plain (OpenSpec.upto checkWipedSpec)) checkWipedUptoCard

/-- THE SECOND FORM's CARD OF 'pennyweightlaw15.CheckQuiet'. -/
def checkQuietUptoCard : Claim7 := { stood := { row := checkQuietUptoRow, standIns := [], harness := (true, "65a205724732cae2f81f33ebfa2a3bfd3a9fc5f515fd2bae75e202cdeb39a4d1"), looks := false }, kinds := [], alts := [], laidByText := true, laidKinds := [.data, .data, .data], laidTests := true, laidLooks := .later }
def CheckQuietUptoCardSaid : Prop := Claim7.holds Tryz.pinned (.plain (OpenSpec.upto checkQuietSpec)) checkQuietUptoCard
end Rows
end Go.Proofs.YtikkpokkcdocoabGreatDoor
