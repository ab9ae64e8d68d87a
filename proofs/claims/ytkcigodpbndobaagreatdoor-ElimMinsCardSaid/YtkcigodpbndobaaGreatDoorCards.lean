/-
  DERIVED. GIVEN WITH THE SEED: THE CARDS: each row of YtkcigodpbndobaaGreatDoorRows.lean that lists a variable, with what it lists TIED to the program's text (the seventh form; the later family's looks); each row that meets fmt, with fmt's text TOLD by the authors' own Lean function (tested against real Go, not proved from fmt's source: count such statements apart). THE CARD IS WHAT COUNTS. Prove the row's statement (the work); the ties are given (YtkcigodpbndobaaGreatDoorTie.lean); close each card by the builder's one call (the guide's Derived/Test/ToyasCard.lean, 'card_holds'). Laid BY PROGRAM, IN A SANDBOX (cutbox-door.mjs). By AI agents, Wed Nov 11 2026. No macro, syntax, notation, axiom, sorry.
-/
import Derived.Test.YtkcigodpbndobaaGreatDoorRows
import GoSem.ClaimSeven
namespace Go.Proofs.YtkcigodpbndobaaGreatDoor
namespace Rows

/-- THE TIED CARD OF 'pennyweightlaw20.ElimChains'. -/
def elimChainsCard : Claim7 := { stood := { row := elimChainsRow, standIns := [], harness := (true, "dabd2468a827d800ac3b11465d5a6f59af41636cd8ee86e144da3e457e2875ca"), looks := false }, kinds := [], alts := [], laidByText := true, laidKinds := [.data, .data, .data], laidTests := true, laidLooks := .later }
def ElimChainsCardSaid : Prop := Claim7.holds Tryz.pinned (.plain (OpenSpec.ofChange elimChainsSpec)) elimChainsCard

/-- THE TIED CARD OF 'pennyweightlaw20.ElimOrders'. -/
def elimOrdersCard : Claim7 := { stood := { row := elimOrdersRow, standIns := [], harness := (true, "dabd2468a827d800ac3b11465d5a6f59af41636cd8ee86e144da3e457e2875ca"), looks := false }, kinds := [], alts := [], laidByText := true, laidKinds := [.data, .data, .data], laidTests := true, laidLooks := .later }
def ElimOrdersCardSaid : Prop := Claim7.holds Tryz.pinned (.plain (OpenSpec.ofChange elimOrdersSpec)) elimOrdersCard

/-- THE TIED CARD OF 'pennyweightlaw20.ElimMins'. -/
def elimMinsCard : Claim7 := { stood := { row := elimMinsRow, standIns := [], harness := (true, "dabd2468a827d800ac3b11465d5a6f59af41636cd8ee86e144da3e457e2875ca"), looks := false }, kinds := [], alts := [], laidByText := true, laidKinds := [.data, .data, .data], laidTests := true, laidLooks := .later }
def ElimMinsCardSaid : Prop := Claim7.holds Tryz.pinned (.plain (OpenSpec.ofChange elimMinsSpec)) elimMinsCard

/-- THE TIED CARD OF 'pennyweightlaw20.ElimRebuilds'. -/
def elimRebuildsCard : Claim7 := { stood := { row := elimRebuildsRow, standIns := [], harness := (true, "dabd2468a827d800ac3b11465d5a6f59af41636cd8ee86e144da3e457e2875ca"), looks := false }, kinds := [], alts := [], laidByText := true, laidKinds := [.data, .data, .data], laidTests := true, laidLooks := .later }
def ElimRebuildsCardSaid : Prop := Claim7.holds Tryz.pinned (.plain (OpenSpec.ofChange elimRebuildsSpec)) elimRebuildsCard

/-- THE TIED CARD OF 'pennyweightlaw20.ElimUndone'. -/
def elimUndoneCard : Claim7 := { stood := { row := elimUndoneRow, standIns := [], harness := (true, "dabd2468a827d800ac3b11465d5a6f59af41636cd8ee86e144da3e457e2875ca"), looks := false }, kinds := [], alts := [], laidByText := true, laidKinds := [.data, .data, .data], laidTests := true, laidLooks := .later }
def ElimUndoneCardSaid : Prop := Claim7.holds Tryz.pinned (.plain (OpenSpec.ofChange elimUndoneSpec)) elimUndoneCard

/-- THE SECOND FORM's CARD OF 'pennyweightlaw20.ElimChains'. -/
def elimChainsUptoCard : Claim7 := { stood := { row := elimChainsUptoRow, standIns := [], harness := (true, "dabd2468a827d800ac3b11465d5a6f59af41636cd8ee86e144da3e457e2875ca"), looks := false }, kinds := [], alts := [], laidByText := true, laidKinds := [.data, .data, .data], laidTests := true, laidLooks := .later }
def ElimChainsUptoCardSaid : Prop := Claim7.holds Tryz.pinned (.plain (OpenSpec.upto elimChainsSpec)) elimChainsUptoCard

/-- THE SECOND FORM's CARD OF 'pennyweightlaw20.ElimOrders'. -/
def elimOrdersUptoCard : Claim7 := { stood := { row := elimOrdersUptoRow, standIns := [], harness := (true, "dabd2468a827d800ac3b11465d5a6f59af41636cd8ee86e144da3e457e2875ca"), looks := false }, kinds := [], alts := [], laidByText := true, laidKinds := [.data, .data, .data], laidTests := true, laidLooks := .later }
def ElimOrdersUptoCardSaid : Prop := Claim7.holds Tryz.pinned (.plain (OpenSpec.upto elimOrdersSpec)) elimOrdersUptoCard

/-- THE SECOND FORM's CARD OF 'pennyweightlaw20.ElimMins'. -/
def elimMinsUptoCard : Claim7 := { stood := { row := elimMinsUptoRow, standIns := [], harness := (true, "dabd2468a827d800ac3b11465d5a6f59af41636cd8ee86e144da3e457e2875ca"), looks := false }, kinds := [], alts := [], laidByText := true, laidKinds := [.data, .data, .data], laidTests := true, laidLooks := .later }
def ElimMinsUptoCardSaid : Prop := Claim7.holds Tryz.pinned (.plain (OpenSpec.upto elimMinsSpec)) elimMinsUptoCard

/-- THE SECOND FORM's CARD OF 'pennyweightlaw20.ElimRebuilds'. -/
def elimRebuildsUptoCard : Claim7 := { stood := { row := elimRebuildsUptoRow, standIns := [], harness := (true, "dabd2468a827d800ac3b11465d5a6f59af41636cd8ee86e144da3e457e2875ca"), looks := false }, kinds := [], alts := [], laidByText := true, laidKinds := [.data, .data, .data], laidTests := true, laidLooks := .later }
def ElimRebuildsUptoCardSaid : Prop := Claim7.holds Tryz.pinned (.plain (OpenSpec.upto elimRebuildsSpec)) elimRebuildsUptoCard

/-- THE SECOND FORM's CARD OF 'pennyweightlaw20.ElimUndone'. -/
def elimUndoneUptoCard : Claim7 := { stood := { row := elimUndoneUptoRow, standIns := [], harness := (true, "dabd2468a827d800ac3b11465d5a6f59af41636cd8ee86e144da3e457e2875ca"), looks := false }, kinds := [], alts := [], laidByText := true, laidKinds := [.data, .data, .data], laidTests := true, laidLooks := .later }
def ElimUndoneUptoCardSaid : Prop := Claim7.holds Tryz.pinned (.plain (OpenSpec.upto elimUndoneSpec)) elimUndoneUptoCard
end Rows
end Go.Proofs.YtkcigodpbndobaaGreatDoor
