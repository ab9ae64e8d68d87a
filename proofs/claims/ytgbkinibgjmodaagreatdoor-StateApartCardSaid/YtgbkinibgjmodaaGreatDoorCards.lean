/-
  DERIVED. GIVEN WITH THE SEED: THE CARDS: each row of YtgbkinibgjmodaaGreatDoorRows.lean that lists a variable, with what it lists TIED to the program's text (the seventh form; the later family's looks); each row that meets fmt, with fmt's text TOLD by the authors' own Lean function (tested against real Go, not proved from fmt's source: count such statements apart). THE CARD IS WHAT COUNTS. Prove the row's statement (the work); the ties are given (YtgbkinibgjmodaaGreatDoorTie.lean); close each card by the builder's one call (the guide's Derived/Test/ToyasCard.lean, 'card_holds'). Laid BY PROGRAM, IN A SANDBOX (cutbox-door.mjs). By AI agents, Wed Nov 11 2026. No macro, syntax, notation, axiom, sorry.
-/
import Derived.Test.YtgbkinibgjmodaaGreatDoorRows
import GoSem.ClaimSeven
namespace Go.Proofs.YtgbkinibgjmodaaGreatDoor
namespace Rows

/-- THE TIED CARD OF 'pennyweightlaw12.StateDrops'. -/
def stateDropsCard : Claim7 := { stood := { row := stateDropsRow, standIns := [], harness := (true, "aa555a2f8b190cf8acf201fb3a7d4e1b32fa3bc1c459d32238a7cd8c61505e0c"), looks := false }, kinds := [], alts := [], laidByText := true, laidKinds := [.data, .data, .data], laidTests := true, laidLooks := .later }
def StateDropsCardSaid : Prop := Claim7.holds Tryz.pinned (.plain (OpenSpec.ofChange stateDropsSpec)) stateDropsCard

/-- THE TIED CARD OF 'pennyweightlaw12.StateVals'. -/
def stateValsCard : Claim7 := { stood := { row := stateValsRow, standIns := [], harness := (true, "aa555a2f8b190cf8acf201fb3a7d4e1b32fa3bc1c459d32238a7cd8c61505e0c"), looks := false }, kinds := [], alts := [], laidByText := true, laidKinds := [.data, .data, .data], laidTests := true, laidLooks := .later }
def StateValsCardSaid : Prop := Claim7.holds Tryz.pinned (.plain (OpenSpec.ofChange stateValsSpec)) stateValsCard

/-- THE TIED CARD OF 'pennyweightlaw14.SoftNil'. -/
def softNilCard : Claim7 := { stood := { row := softNilRow, standIns := [], harness := (true, "aa555a2f8b190cf8acf201fb3a7d4e1b32fa3bc1c459d32238a7cd8c61505e0c"), looks := false }, kinds := [], alts := [], laidByText := true, laidKinds := [.data, .data, .data], laidTests := true, laidLooks := .later }
def SoftNilCardSaid : Prop := Claim7.holds Tryz.pinned (.plain (OpenSpec.ofChange softNilSpec)) softNilCard

/-- THE TIED CARD OF 'pennyweightlaw15.CheckNil'. -/
def checkNilCard : Claim7 := { stood := { row := checkNilRow, standIns := [], harness := (true, "aa555a2f8b190cf8acf201fb3a7d4e1b32fa3bc1c459d32238a7cd8c61505e0c"), looks := false }, kinds := [], alts := [], laidByText := true, laidKinds := [.data, .data, .data], laidTests := true, laidLooks := .later }
def CheckNilCardSaid : Prop := Claim7.holds Tryz.pinned (.plain (OpenSpec.ofChange checkNilSpec)) checkNilCard

/-- THE TIED CARD OF 'pennyweightlaw12.StatePlays'. -/
def statePlaysCard : Claim7 := { stood := { row := statePlaysRow, standIns := [], harness := (true, "aa555a2f8b190cf8acf201fb3a7d4e1b32fa3bc1c459d32238a7cd8c61505e0c"), looks := false }, kinds := [], alts := [], laidByText := true, laidKinds := [.data, .data, .data], laidTests := true, laidLooks := .later }
def StatePlaysCardSaid : Prop := Claim7.holds Tryz.pinned (.plain (OpenSpec.ofChange statePlaysSpec)) statePlaysCard

/-- THE TIED CARD OF 'pennyweightlaw12.StateFacts'. -/
def stateFactsCard : Claim7 := { stood := { row := stateFactsRow, standIns := [], harness := (true, "aa555a2f8b190cf8acf201fb3a7d4e1b32fa3bc1c459d32238a7cd8c61505e0c"), looks := false }, kinds := [], alts := [], laidByText := true, laidKinds := [.data, .data, .data], laidTests := true, laidLooks := .later }
def StateFactsCardSaid : Prop := Claim7.holds Tryz.pinned (.plain (OpenSpec.ofChange stateFactsSpec)) stateFactsCard

/-- THE TIED CARD OF 'pennyweightlaw12.StateApart'. -/
def stateApartCard : Claim7 := { stood := { row := stateApartRow, standIns := [], harness := (true, "aa555a2f8b190cf8acf201fb3a7d4e1b32fa3bc1c459d32238a7cd8c61505e0c"), looks := false }, kinds := [], alts := [], laidByText := true, laidKinds := [.data, .data, .data], laidTests := true, laidLooks := .later }
def StateApartCardSaid : Prop := Claim7.holds Tryz.pinned (.plain (OpenSpec.ofChange stateApartSpec)) stateApartCard

/-- THE TIED CARD OF 'pennyweightlaw12.StateNil'. -/
def stateNilCard : Claim7 := { stood := { row := stateNilRow, standIns := [], harness := (true, "aa555a2f8b190cf8acf201fb3a7d4e1b32fa3bc1c459d32238a7cd8c61505e0c"), looks := false }, kinds := [], alts := [], laidByText := true, laidKinds := [.data, .data, .data], laidTests := true, laidLooks := .later }
def StateNilCardSaid : Prop := Claim7.holds Tryz.pinned (.plain (OpenSpec.ofChange stateNilSpec)) stateNilCard

/-- THE SECOND FORM's CARD OF 'pennyweightlaw12.StateDrops'. -/
def stateDropsUptoCard : Claim7 := { stood := { row := stateDropsUptoRow, standIns := [], harness := (true, "aa555a2f8b190cf8acf201fb3a7d4e1b32fa3bc1c459d32238a7cd8c61505e0c"), looks := false }, kinds := [], alts := [], laidByText := true, laidKinds := [.data, .data, .data], laidTests := true, laidLooks := .later }
def StateDropsUptoCardSaid : Prop := Claim7.holds Tryz.pinned (.plain (OpenSpec.upto stateDropsSpec)) stateDropsUptoCard

/-- THE SECOND FORM's CARD OF 'pennyweightlaw12.StateVals'. -/
def stateValsUptoCard : Claim7 := { stood := { row := stateValsUptoRow, standIns := [], harness := (true, "aa555a2f8b190cf8acf201fb3a7d4e1b32fa3bc1c459d32238a7cd8c61505e0c"), looks := false }, kinds := [], alts := [], laidByText := true, laidKinds := [.data, .data, .data], laidTests := true, laidLooks := .later }
def StateValsUptoCardSaid : Prop := Claim7.holds Tryz.pinned (.plain (OpenSpec.upto stateValsSpec)) stateValsUptoCard

/-- THE SECOND FORM's CARD OF 'pennyweightlaw14.SoftNil'. -/
def softNilUptoCard : Claim7 := { stood := { row := softNilUptoRow, standIns := [], harness := (true, "aa555a2f8b190cf8acf201fb3a7d4e1b32fa3bc1c459d32238a7cd8c61505e0c"), looks := false }, kinds := [], alts := [], laidByText := true, laidKinds := [.data, .data, .data], laidTests := true, laidLooks := .later }
def SoftNilUptoCardSaid : Prop := Claim7.holds Tryz.pinned (.plain (OpenSpec.upto softNilSpec)) softNilUptoCard

/-- THE SECOND FORM's CARD OF 'pennyweightlaw15.CheckNil'. -/
def checkNilUptoCard : Claim7 := { stood := { row := checkNilUptoRow, standIns := [], harness := (true, "aa555a2f8b190cf8acf201fb3a7d4e1b32fa3bc1c459d32238a7cd8c61505e0c"), looks := false }, kinds := [], alts := [], laidByText := true, laidKinds := [.data, .data, .data], laidTests := true, laidLooks := .later }
def CheckNilUptoCardSaid : Prop := Claim7.holds Tryz.pinned (.plain (OpenSpec.upto checkNilSpec)) checkNilUptoCard

/-- THE SECOND FORM's CARD OF 'pennyweightlaw12.StatePlays'. -/
def statePlaysUptoCard : Claim7 := { stood := { row := statePlaysUptoRow, standIns := [], harness := (true, "aa555a2f8b190cf8acf201fb3a7d4e1b32fa3bc1c459d32238a7cd8c61505e0c"), looks := false }, kinds := [], alts := [], laidByText := true, laidKinds := [.data, .data, .data], laidTests := true, laidLooks := .later }
def StatePlaysUptoCardSaid : Prop := Claim7.holds Tryz.pinned (.plain (OpenSpec.upto statePlaysSpec)) statePlaysUptoCard

/-- THE SECOND FORM's CARD OF 'pennyweightlaw12.StateFacts'. -/
def stateFactsUptoCard : Claim7 := { stood := { row := stateFactsUptoRow, standIns := [], harness := (true, "aa555a2f8b190cf8acf201fb3a7d4e1b32fa3bc1c459d32238a7cd8c61505e0c"), looks := false }, kinds := [], alts := [], laidByText := true, laidKinds := [.data, .data, .data], laidTests := true, laidLooks := .later }
def StateFactsUptoCardSaid : Prop := Claim7.holds Tryz.pinned (.plain (OpenSpec.upto stateFactsSpec)) stateFactsUptoCard

/-- THE SECOND FORM's CARD OF 'pennyweightlaw12.StateApart'. -/
def stateApartUptoCard : Claim7 := { stood := { row := stateApartUptoRow, standIns := [], harness := (true, "aa555a2f8b190cf8acf201fb3a7d4e1b32fa3bc1c459d32238a7cd8c61505e0c"), looks := false }, kinds := [], alts := [], laidByText := true, laidKinds := [.data, .data, .data], laidTests := true, laidLooks := .later }
def StateApartUptoCardSaid : Prop := Claim7.holds Tryz.pinned (.plain (OpenSpec.upto stateApartSpec)) stateApartUptoCard

/-- THE SECOND FORM's CARD OF 'pennyweightlaw12.StateNil'. -/
def stateNilUptoCard : Claim7 := { stood := { row := stateNilUptoRow, standIns := [], harness := (true, "aa555a2f8b190cf8acf201fb3a7d4e1b32fa3bc1c459d32238a7cd8c61505e0c"), looks := false }, kinds := [], alts := [], laidByText := true, laidKinds := [.data, .data, .data], laidTests := true, laidLooks := .later }
def StateNilUptoCardSaid : Prop := Claim7.holds Tryz.pinned (.plain (OpenSpec.upto stateNilSpec)) stateNilUptoCard
end Rows
end Go.Proofs.YtgbkinibgjmodaaGreatDoor
