/-
  DERIVED. GIVEN WITH THE SEED: THE CARDS: each row of YtikkpokkcdocoaaGreatDoorRows.lean that lists a variable, with what it lists TIED to the program's text (the seventh form; the later family's looks); each row that meets fmt, with fmt's text TOLD by the authors' own Lean function (tested against real Go, not proved from fmt's source: count such statements apart). THE CARD IS WHAT COUNTS. Prove the row's statement (the work); the ties are given (YtikkpokkcdocoaaGreatDoorTie.lean); close each card by the builder's one call (the guide's Derived/Test/ToyasCard.lean, 'card_holds'). Laid BY PROGRAM, IN A SANDBOX (cutbox-door.mjs). By AI agents, Wed Nov 11 2026. No macro, syntax, notation, axiom, sorry.
-/
import Derived.Test.YtikkpokkcdocoaaGreatDoorRows
import GoSem.ClaimSeven
namespace Go.Proofs.YtikkpokkcdocoaaGreatDoor
namespace Rows

/-- THE TIED CARD OF 'pennyweightlaw16.NcBounds'. -/
def ncBoundsCard : Claim7 := { stood := { row := ncBoundsRow, standIns := [], harness := (true, "3f697f109cde7bcb005f5785bd97cd6871787304989b7e29e98e37860a5e9a8d"), looks := false }, kinds := [], alts := [], laidByText := true, laidKinds := [.data, .data, .data], laidTests := true, laidLooks := .later }
def NcBoundsCardSaid : Prop := Claim7.holds Tryz.pinned (.plain (OpenSpec.ofChange ncBoundsSpec)) ncBoundsCard

/-- THE TIED CARD OF 'pennyweightlaw16.NcHolds'. -/
def ncHoldsCard : Claim7 := { stood := { row := ncHoldsRow, standIns := [], harness := (true, "3f697f109cde7bcb005f5785bd97cd6871787304989b7e29e98e37860a5e9a8d"), looks := false }, kinds := [], alts := [], laidByText := true, laidKinds := [.data, .data, .data], laidTests := true, laidLooks := .later }
def NcHoldsCardSaid : Prop := Claim7.holds Tryz.pinned (.plain (OpenSpec.ofChange ncHoldsSpec)) ncHoldsCard

/-- THE TIED CARD OF 'pennyweightlaw16.NcSteps'. -/
def ncStepsCard : Claim7 := { stood := { row := ncStepsRow, standIns := [], harness := (true, "3f697f109cde7bcb005f5785bd97cd6871787304989b7e29e98e37860a5e9a8d"), looks := false }, kinds := [], alts := [], laidByText := true, laidKinds := [.data, .data, .data], laidTests := true, laidLooks := .later }
def NcStepsCardSaid : Prop := Claim7.holds Tryz.pinned (.plain (OpenSpec.ofChange ncStepsSpec)) ncStepsCard

/-- THE TIED CARD OF 'pennyweightlaw16.NcQuiet'. -/
def ncQuietCard : Claim7 := { stood := { row := ncQuietRow, standIns := [], harness := (true, "3f697f109cde7bcb005f5785bd97cd6871787304989b7e29e98e37860a5e9a8d"), looks := false }, kinds := [], alts := [], laidByText := true, laidKinds := [.data, .data, .data], laidTests := true, laidLooks := .later }
def NcQuietCardSaid : Prop := Claim7.holds Tryz.pinned (.plain (OpenSpec.ofChange ncQuietSpec)) ncQuietCard

/-- THE SECOND FORM's CARD OF 'pennyweightlaw16.NcBounds'. -/
def ncBoundsUptoCard : Claim7 := { stood := { row := ncBoundsUptoRow, standIns := [], harness := (true, "3f697f109cde7bcb005f5785bd97cd6871787304989b7e29e98e37860a5e9a8d"), looks := false }, kinds := [], alts := [], laidByText := true, laidKinds := [.data, .data, .data], laidTests := true, laidLooks := .later }
def NcBoundsUptoCardSaid : Prop := Claim7.holds Tryz.pinned (.plain (OpenSpec.upto ncBoundsSpec)) ncBoundsUptoCard

/-- THE SECOND FORM's CARD OF 'pennyweightlaw16.NcHolds'. -/
def ncHoldsUptoCard : Claim7 := { stood := { row := ncHoldsUptoRow, standIns := [], harness := (true, "3f697f109cde7bcb005f5785bd97cd6871787304989b7e29e98e37860a5e9a8d"), looks := false }, kinds := [], alts := [], laidByText := true, laidKinds := [.data, .data, .data], laidTests := true, laidLooks := .later }
def NcHoldsUptoCardSaid : Prop := Claim7.holds Tryz.pinned (.plain (OpenSpec.upto ncHoldsSpec)) ncHoldsUptoCard

/-- THE SECOND FORM's CARD OF 'pennyweightlaw16.NcSteps'. -/
def ncStepsUptoCard : Claim7 := { stood := { row := ncStepsUptoRow, standIns := [], harness := (true, "3f697f109cde7bcb005f5785bd97cd6871787304989b7e29e98e37860a5e9a8d"), looks := false }, kinds := [], alts := [], laidByText := true, laidKinds := [.data, .data, .data], laidTests := true, laidLooks := .later }
def NcStepsUptoCardSaid : Prop := Claim7.holds Tryz.pinned (.plain (OpenSpec.upto ncStepsSpec)) ncStepsUptoCard

/-- THE SECOND FORM's CARD OF 'pennyweightlaw16.NcQuiet'. -/
def ncQuietUptoCard : Claim7 := { stood := { row := ncQuietUptoRow, standIns := [], harness := (true, "3f697f109cde7bcb005f5785bd97cd6871787304989b7e29e98e37860a5e9a8d"), looks := false }, kinds := [], alts := [], laidByText := true, laidKinds := [.data, .data, .data], laidTests := true, laidLooks := .later }
def NcQuietUptoCardSaid : Prop := Claim7.holds Tryz.pinned (.plain (OpenSpec.upto ncQuietSpec)) ncQuietUptoCard
end Rows
end Go.Proofs.YtikkpokkcdocoaaGreatDoor
