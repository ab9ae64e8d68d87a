/-
  DERIVED. GIVEN WITH THE SEED: THE CARDS: each row of YthjegppepbbojaaGreatDoorRows.lean that lists a variable, with what it lists TIED to the program's text (the seventh form; the later family's looks); each row that meets fmt, with fmt's text TOLD by the authors' own Lean function (tested against real Go, not proved from fmt's source: count such statements apart). THE CARD IS WHAT COUNTS. Prove the row's statement (the work); the ties are given (YthjegppepbbojaaGreatDoorTie.lean); close each card by the builder's one call (the guide's Derived/Test/ToyasCard.lean, 'card_holds'). Laid BY PROGRAM, IN A SANDBOX (cutbox-door.mjs). By AI agents, Wed Nov 11 2026. No macro, syntax, notation, axiom, sorry.
-/
import Derived.Test.YthjegppepbbojaaGreatDoorRows
import GoSem.ClaimSeven
namespace Go.Proofs.YthjegppepbbojaaGreatDoor
namespace Rows

/-- THE TIED CARD OF 'pennyweightlaw15.CheckNil'. -/
def checkNilCard : Claim7 := { stood := { row := checkNilRow, standIns := [], harness := (true, "7306b47a91c13dc8481a5ea212aa9be6198ef37fcadd79849347724246cb7723"), looks := false }, kinds := [], alts := [], laidByText := true, laidKinds := [.data, .data, .data], laidTests := true, laidLooks := .later }
def CheckNilCardSaid : Prop := Claim7.holds Tryz.pinned (.plain (OpenSpec.ofChange checkNilSpec)) checkNilCard

/-- THE TIED CARD OF 'pennyweightlaw12.StateFacts'. -/
def stateFactsCard : Claim7 := { stood := { row := stateFactsRow, standIns := [], harness := (true, "7306b47a91c13dc8481a5ea212aa9be6198ef37fcadd79849347724246cb7723"), looks := false }, kinds := [], alts := [], laidByText := true, laidKinds := [.data, .data, .data], laidTests := true, laidLooks := .later }
def StateFactsCardSaid : Prop := Claim7.holds Tryz.pinned (.plain (OpenSpec.ofChange stateFactsSpec)) stateFactsCard

/-- THE SECOND FORM's CARD OF 'pennyweightlaw15.CheckNil'. -/
def checkNilUptoCard : Claim7 := { stood := { row := checkNilUptoRow, standIns := [], harness := (true, "7306b47a91c13dc8481a5ea212aa9be6198ef37fcadd79849347724246cb7723"), looks := false }, kinds := [], alts := [], laidByText := true, laidKinds := [.data, .data, .data], laidTests := true, laidLooks := .later }
def CheckNilUptoCardSaid : Prop := Claim7.holds Tryz.pinned (.plain (OpenSpec.upto checkNilSpec)) checkNilUptoCard

/-- THE SECOND FORM's CARD OF 'pennyweightlaw12.StateFacts'. -/
def stateFactsUptoCard : Claim7 := { stood := { row := stateFactsUptoRow, standIns := [], harness := (true, "7306b47a91c13dc8481a5ea212aa9be6198ef37fcadd79849347724246cb7723"), looks := false }, kinds := [], alts := [], laidByText := true, laidKinds := [.data, .data, .data], laidTests := true, laidLooks := .later }
def StateFactsUptoCardSaid : Prop := Claim7.holds Tryz.pinned (.plain (OpenSpec.upto stateFactsSpec)) stateFactsUptoCard
end Rows
end Go.Proofs.YthjegppepbbojaaGreatDoor
