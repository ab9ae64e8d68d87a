/-
  DERIVED. GIVEN WITH THE SEED: THE CARDS: each row of YtahhkeljejfgfaaDoorRows.lean that lists a variable, with what it lists TIED to the program's text (the seventh form; the later family's looks); each row that meets fmt, with fmt's text TOLD by the authors' own Lean function (tested against real Go, not proved from fmt's source: count such statements apart). THE CARD IS WHAT COUNTS. Prove the row's statement (the work); the ties are given (YtahhkeljejfgfaaDoorTie.lean); close each card by the builder's one call (the guide's Derived/Test/ToyasCard.lean, 'card_holds'). Laid BY PROGRAM, IN A SANDBOX (cutbox-door.mjs). By AI agents, Wed Nov 11 2026. No macro, syntax, notation, axiom, sorry.
-/
import Derived.Test.YtahhkeljejfgfaaDoorRows
import GoSem.ClaimSeven
namespace Go.Proofs.YtahhkeljejfgfaaDoor
namespace Rows

/-- THE TIED CARD OF 'pennyweightlaw04.TableTwice'. -/
def tableTwiceCard : Claim7 := { stood := { row := tableTwiceRow, standIns := [], harness := (true, "e6cb755034a52366f64212fb045e63673c4cdd8410452e53a05d0ec55aa68f7a"), looks := false }, kinds := [], alts := [], laidByText := true, laidKinds := [.data], laidTests := true, laidLooks := .later }
def TableTwiceCardSaid : Prop := Claim7.holds Tryd.pinned (.plain (OpenSpec.ofChange tableTwiceSpec)) tableTwiceCard

/-- THE TIED CARD OF 'pennyweightlaw04.TableOuts'. -/
def tableOutsCard : Claim7 := { stood := { row := tableOutsRow, standIns := [], harness := (true, "e6cb755034a52366f64212fb045e63673c4cdd8410452e53a05d0ec55aa68f7a"), looks := false }, kinds := [], alts := [], laidByText := true, laidKinds := [.data], laidTests := true, laidLooks := .later }
def TableOutsCardSaid : Prop := Claim7.holds Tryd.pinned (.plain (OpenSpec.ofChange tableOutsSpec)) tableOutsCard

/-- THE TIED CARD OF 'pennyweightlaw04.TablePlays'. -/
def tablePlaysCard : Claim7 := { stood := { row := tablePlaysRow, standIns := [], harness := (true, "e6cb755034a52366f64212fb045e63673c4cdd8410452e53a05d0ec55aa68f7a"), looks := false }, kinds := [], alts := [], laidByText := true, laidKinds := [.data], laidTests := true, laidLooks := .later }
def TablePlaysCardSaid : Prop := Claim7.holds Tryd.pinned (.plain (OpenSpec.ofChange tablePlaysSpec)) tablePlaysCard

/-- THE TIED CARD OF 'pennyweightlaw04.TableTurns'. -/
def tableTurnsCard : Claim7 := { stood := { row := tableTurnsRow, standIns := [], harness := (true, "e6cb755034a52366f64212fb045e63673c4cdd8410452e53a05d0ec55aa68f7a"), looks := false }, kinds := [], alts := [], laidByText := true, laidKinds := [.data], laidTests := true, laidLooks := .later }
def TableTurnsCardSaid : Prop := Claim7.holds Tryd.pinned (.plain (OpenSpec.ofChange tableTurnsSpec)) tableTurnsCard

/-- THE TIED CARD OF 'pennyweightlaw04.TableSums'. -/
def tableSumsCard : Claim7 := { stood := { row := tableSumsRow, standIns := [], harness := (true, "e6cb755034a52366f64212fb045e63673c4cdd8410452e53a05d0ec55aa68f7a"), looks := false }, kinds := [], alts := [], laidByText := true, laidKinds := [.data], laidTests := true, laidLooks := .later }
def TableSumsCardSaid : Prop := Claim7.holds Tryd.pinned (.plain (OpenSpec.ofChange tableSumsSpec)) tableSumsCard

/-- THE TIED CARD OF 'pennyweightlaw04.TableJoins'. -/
def tableJoinsCard : Claim7 := { stood := { row := tableJoinsRow, standIns := [], harness := (true, "e6cb755034a52366f64212fb045e63673c4cdd8410452e53a05d0ec55aa68f7a"), looks := false }, kinds := [], alts := [], laidByText := true, laidKinds := [.data], laidTests := true, laidLooks := .later }
def TableJoinsCardSaid : Prop := Claim7.holds Tryd.pinned (.plain (OpenSpec.ofChange tableJoinsSpec)) tableJoinsCard

/-- THE TIED CARD OF 'pennyweightlaw04.TableErrs'. -/
def tableErrsCard : Claim7 := { stood := { row := tableErrsRow, standIns := [], harness := (true, "e6cb755034a52366f64212fb045e63673c4cdd8410452e53a05d0ec55aa68f7a"), looks := false }, kinds := [], alts := [], laidByText := true, laidKinds := [.data], laidTests := true, laidLooks := .later }
def TableErrsCardSaid : Prop := Claim7.holds Tryd.pinned (.plain (OpenSpec.ofChange tableErrsSpec)) tableErrsCard

/-- THE SECOND FORM's CARD OF 'pennyweightlaw04.TableTwice'. -/
def tableTwiceUptoCard : Claim7 := { stood := { row := tableTwiceUptoRow, standIns := [], harness := (true, "e6cb755034a52366f64212fb045e63673c4cdd8410452e53a05d0ec55aa68f7a"), looks := false }, kinds := [], alts := [], laidByText := true, laidKinds := [.data], laidTests := true, laidLooks := .later }
def TableTwiceUptoCardSaid : Prop := Claim7.holds Tryd.pinned (.plain (OpenSpec.upto tableTwiceSpec)) tableTwiceUptoCard

/-- THE SECOND FORM's CARD OF 'pennyweightlaw04.TableOuts'. -/
def tableOutsUptoCard : Claim7 := { stood := { row := tableOutsUptoRow, standIns := [], harness := (true, "e6cb755034a52366f64212fb045e63673c4cdd8410452e53a05d0ec55aa68f7a"), looks := false }, kinds := [], alts := [], laidByText := true, laidKinds := [.data], laidTests := true, laidLooks := .later }
def TableOutsUptoCardSaid : Prop := Claim7.holds Tryd.pinned (.plain (OpenSpec.upto tableOutsSpec)) tableOutsUptoCard

/-- THE SECOND FORM's CARD OF 'pennyweightlaw04.TablePlays'. -/
def tablePlaysUptoCard : Claim7 := { stood := { row := tablePlaysUptoRow, standIns := [], harness := (true, "e6cb755034a52366f64212fb045e63673c4cdd8410452e53a05d0ec55aa68f7a"), looks := false }, kinds := [], alts := [], laidByText := true, laidKinds := [.data], laidTests := true, laidLooks := .later }
def TablePlaysUptoCardSaid : Prop := Claim7.holds Tryd.pinned (.plain (OpenSpec.upto tablePlaysSpec)) tablePlaysUptoCard

/-- THE SECOND FORM's CARD OF 'pennyweightlaw04.TableTurns'. -/
def tableTurnsUptoCard : Claim7 := { stood := { row := tableTurnsUptoRow, standIns := [], harness := (true, "e6cb755034a52366f64212fb045e63673c4cdd8410452e53a05d0ec55aa68f7a"), looks := false }, kinds := [], alts := [], laidByText := true, laidKinds := [.data], laidTests := true, laidLooks := .later }
def TableTurnsUptoCardSaid : Prop := Claim7.holds Tryd.pinned (.plain (OpenSpec.upto tableTurnsSpec)) tableTurnsUptoCard

/-- THE SECOND FORM's CARD OF 'pennyweightlaw04.TableSums'. -/
def tableSumsUptoCard : Claim7 := { stood := { row := tableSumsUptoRow, standIns := [], harness := (true, "e6cb755034a52366f64212fb045e63673c4cdd8410452e53a05d0ec55aa68f7a"), looks := false }, kinds := [], alts := [], laidByText := true, laidKinds := [.data], laidTests := true, laidLooks := .later }
def TableSumsUptoCardSaid : Prop := Claim7.holds Tryd.pinned (.plain (OpenSpec.upto tableSumsSpec)) tableSumsUptoCard

/-- THE SECOND FORM's CARD OF 'pennyweightlaw04.TableJoins'. -/
def tableJoinsUptoCard : Claim7 := { stood := { row := tableJoinsUptoRow, standIns := [], harness := (true, "e6cb755034a52366f64212fb045e63673c4cdd8410452e53a05d0ec55aa68f7a"), looks := false }, kinds := [], alts := [], laidByText := true, laidKinds := [.data], laidTests := true, laidLooks := .later }
def TableJoinsUptoCardSaid : Prop := Claim7.holds Tryd.pinned (.plain (OpenSpec.upto tableJoinsSpec)) tableJoinsUptoCard

/-- THE SECOND FORM's CARD OF 'pennyweightlaw04.TableErrs'. -/
def tableErrsUptoCard : Claim7 := { stood := { row := tableErrsUptoRow, standIns := [], harness := (true, "e6cb755034a52366f64212fb045e63673c4cdd8410452e53a05d0ec55aa68f7a"), looks := false }, kinds := [], alts := [], laidByText := true, laidKinds := [.data], laidTests := true, laidLooks := .later }
def TableErrsUptoCardSaid : Prop := Claim7.holds Tryd.pinned (.plain (OpenSpec.upto tableErrsSpec)) tableErrsUptoCard
end Rows
end Go.Proofs.YtahhkeljejfgfaaDoor
