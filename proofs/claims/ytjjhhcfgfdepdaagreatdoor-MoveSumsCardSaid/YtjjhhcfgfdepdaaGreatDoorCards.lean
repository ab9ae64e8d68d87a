/-
  DERIVED. GIVEN WITH THE SEED: THE CARDS: each row of YtjjhhcfgfdepdaaGreatDoorRows.lean that lists a variable, with what it lists TIED to the program's text (the seventh form; the later family's looks); each row that meets fmt, with fmt's text TOLD by the authors' own Lean function (tested against real Go, not proved from fmt's source: count such statements apart). THE CARD IS WHAT COUNTS. Prove the row's statement (the work); the ties are given (YtjjhhcfgfdepdaaGreatDoorTie.lean); close each card by the builder's one call (the guide's Derived/Test/ToyasCard.lean, 'card_holds'). Laid BY PROGRAM, IN A SANDBOX (cutbox-door.mjs). By AI agents, Wed Nov 11 2026. No macro, syntax, notation, axiom, sorry.
-/
import Derived.Test.YtjjhhcfgfdepdaaGreatDoorRows
import GoSem.ClaimSeven
namespace Go.Proofs.YtjjhhcfgfdepdaaGreatDoor
namespace Rows

/-- THE TIED CARD OF 'pennyweightlaw13.MovePlays'. -/
def movePlaysCard : Claim7 := { stood := { row := movePlaysRow, standIns := [], harness := (true, "c257124c3825557ef81536fd7b42ca219da8525aa8a7d2d5dda26ada3e31ec84"), looks := false }, kinds := [], alts := [], laidByText := true, laidKinds := [.data, .data, .data], laidTests := true, laidLooks := .later }
def MovePlaysCardSaid : Prop := Claim7.holds Tryz.pinned (.plain (OpenSpec.ofChange movePlaysSpec)) movePlaysCard

/-- THE TIED CARD OF 'pennyweightlaw13.MoveRooms'. -/
def moveRoomsCard : Claim7 := { stood := { row := moveRoomsRow, standIns := [], harness := (true, "c257124c3825557ef81536fd7b42ca219da8525aa8a7d2d5dda26ada3e31ec84"), looks := false }, kinds := [], alts := [], laidByText := true, laidKinds := [.data, .data, .data], laidTests := true, laidLooks := .later }
def MoveRoomsCardSaid : Prop := Claim7.holds Tryz.pinned (.plain (OpenSpec.ofChange moveRoomsSpec)) moveRoomsCard

/-- THE TIED CARD OF 'pennyweightlaw13.MoveKeeps'. -/
def moveKeepsCard : Claim7 := { stood := { row := moveKeepsRow, standIns := [], harness := (true, "c257124c3825557ef81536fd7b42ca219da8525aa8a7d2d5dda26ada3e31ec84"), looks := false }, kinds := [], alts := [], laidByText := true, laidKinds := [.data, .data, .data], laidTests := true, laidLooks := .later }
def MoveKeepsCardSaid : Prop := Claim7.holds Tryz.pinned (.plain (OpenSpec.ofChange moveKeepsSpec)) moveKeepsCard

/-- THE TIED CARD OF 'pennyweightlaw13.MoveBack'. -/
def moveBackCard : Claim7 := { stood := { row := moveBackRow, standIns := [], harness := (true, "c257124c3825557ef81536fd7b42ca219da8525aa8a7d2d5dda26ada3e31ec84"), looks := false }, kinds := [], alts := [], laidByText := true, laidKinds := [.data, .data, .data], laidTests := true, laidLooks := .later }
def MoveBackCardSaid : Prop := Claim7.holds Tryz.pinned (.plain (OpenSpec.ofChange moveBackSpec)) moveBackCard

/-- THE TIED CARD OF 'pennyweightlaw13.MoveSums'. -/
def moveSumsCard : Claim7 := { stood := { row := moveSumsRow, standIns := [], harness := (true, "c257124c3825557ef81536fd7b42ca219da8525aa8a7d2d5dda26ada3e31ec84"), looks := false }, kinds := [], alts := [], laidByText := true, laidKinds := [.data, .data, .data], laidTests := true, laidLooks := .later }
def MoveSumsCardSaid : Prop := Claim7.holds Tryz.pinned (.plain (OpenSpec.ofChange moveSumsSpec)) moveSumsCard

/-- THE SECOND FORM's CARD OF 'pennyweightlaw13.MovePlays'. -/
def movePlaysUptoCard : Claim7 := { stood := { row := movePlaysUptoRow, standIns := [], harness := (true, "c257124c3825557ef81536fd7b42ca219da8525aa8a7d2d5dda26ada3e31ec84"), looks := false }, kinds := [], alts := [], laidByText := true, laidKinds := [.data, .data, .data], laidTests := true, laidLooks := .later }
def MovePlaysUptoCardSaid : Prop := Claim7.holds Tryz.pinned (.plain (OpenSpec.upto movePlaysSpec)) movePlaysUptoCard

/-- THE SECOND FORM's CARD OF 'pennyweightlaw13.MoveRooms'. -/
def moveRoomsUptoCard : Claim7 := { stood := { row := moveRoomsUptoRow, standIns := [], harness := (true, "c257124c3825557ef81536fd7b42ca219da8525aa8a7d2d5dda26ada3e31ec84"), looks := false }, kinds := [], alts := [], laidByText := true, laidKinds := [.data, .data, .data], laidTests := true, laidLooks := .later }
def MoveRoomsUptoCardSaid : Prop := Claim7.holds Tryz.pinned (.plain (OpenSpec.upto moveRoomsSpec)) moveRoomsUptoCard

/-- THE SECOND FORM's CARD OF 'pennyweightlaw13.MoveKeeps'. -/
def moveKeepsUptoCard : Claim7 := { stood := { row := moveKeepsUptoRow, standIns := [], harness := (true, "c257124c3825557ef81536fd7b42ca219da8525aa8a7d2d5dda26ada3e31ec84"), looks := false }, kinds := [], alts := [], laidByText := true, laidKinds := [.data, .data, .data], laidTests := true, laidLooks := .later }
def MoveKeepsUptoCardSaid : Prop := Claim7.holds Tryz.pinned (.plain (OpenSpec.upto moveKeepsSpec)) moveKeepsUptoCard

/-- THE SECOND FORM's CARD OF 'pennyweightlaw13.MoveBack'. -/
def moveBackUptoCard : Claim7 := { stood := { row := moveBackUptoRow, standIns := [], harness := (true, "c257124c3825557ef81536fd7b42ca219da8525aa8a7d2d5dda26ada3e31ec84"), looks := false }, kinds := [], alts := [], laidByText := true, laidKinds := [.data, .data, .data], laidTests := true, laidLooks := .later }
def MoveBackUptoCardSaid : Prop := Claim7.holds Tryz.pinned (.plain (OpenSpec.upto moveBackSpec)) moveBackUptoCard

/-- THE SECOND FORM's CARD OF 'pennyweightlaw13.MoveSums'. -/
def moveSumsUptoCard : Claim7 := { stood := { row := moveSumsUptoRow, standIns := [], harness := (true, "c257124c3825557ef81536fd7b42ca219da8525aa8a7d2d5dda26ada3e31ec84"), looks := false }, kinds := [], alts := [], laidByText := true, laidKinds := [.data, .data, .data], laidTests := true, laidLooks := .later }
def MoveSumsUptoCardSaid : Prop := Claim7.holds Tryz.pinned (.plain (OpenSpec.upto moveSumsSpec)) moveSumsUptoCard
end Rows
end Go.Proofs.YtjjhhcfgfdepdaaGreatDoor
