/-
  NARROWER THAN 'FOR EVERY INPUT', by the rows' own cells (each row's printed sentence says how): TableTwice: laid · TableOuts: laid · TablePlays: laid · TableTurns: laid · TableSums: laid · TableJoins: laid · TableErrs: laid.
  DERIVED. THE GIVEN ROWS OF THIS SEAT. 7 by the template 'for every input the law returns true; each argument reads behind the call as it read before'; 0 by the template 'total and deterministic' (their statements: YtahhkeljejfgfaaDoorTotals.lean).
  GIVEN WITH THE SEED: the statements are not yours to turn. If you find one false, say at which input.
  Laid BY PROGRAM, IN A SANDBOX (cutbox-rows.mjs): the forced cells as the released guide's own fill.sh prints them over the translation ccffba737674b41f… (all of the seat's roots in one cut). By AI agents, Wed Nov 11 2026. No macro, syntax, notation, axiom, sorry.
-/
import Derived.Test.YtahhkeljejfgfaaDoorChecked
import GoSem.Claim
import GoSem.ClaimJoined
import GoSem.ClaimMapViews
import Derived.JoinedTies
import Derived.KernelRfl
namespace Go.Proofs.YtahhkeljejfgfaaDoor
/- THE CELL 'sum', in the pinned program and in every row, IS THE sha256 OF THE DUMP (.gsa) THAT YtahhkeljejfgfaaDoorProg.lean LOADS. Nothing in Lean hashes anything: it is a label: what it is worth is what the hold of that sum in a sandbox is worth. -/
noncomputable def Tryd.pinned : Pinned := { name := "ytahhkeljejfgfaadoor", sum := "ccffba737674b41fd067e35007b9520ba7955c9a9173fbc8d813f3ccb82989ec", checked := Tryd.checked }
namespace Rows
def none {H : Type} : Left H := { results := [], args := [] }

/- WHAT THE LISTED PACKAGE-LEVEL VARIABLES READ AS WHEN THE CALL BEGINS. Each datum BY PROGRAM (the guide's laid-datum.mjs) off the statement by which the dump's own 'gosem.cut.vars' lays the variable. In a bare row this is a premise. The card (YtahhkeljejfgfaaDoorCards.lean) ties it to the program's text. -/
def laid_math_bits_deBruijn64tab {H : Type} : DataW H := .agg [.lit (.int .u8 0), .lit (.int .u8 1), .lit (.int .u8 56), .lit (.int .u8 2), .lit (.int .u8 57), .lit (.int .u8 49), .lit (.int .u8 28), .lit (.int .u8 3), .lit (.int .u8 61), .lit (.int .u8 58), .lit (.int .u8 42), .lit (.int .u8 50), .lit (.int .u8 38), .lit (.int .u8 29), .lit (.int .u8 17), .lit (.int .u8 4), .lit (.int .u8 62), .lit (.int .u8 47), .lit (.int .u8 59), .lit (.int .u8 36), .lit (.int .u8 45), .lit (.int .u8 43), .lit (.int .u8 51), .lit (.int .u8 22), .lit (.int .u8 53), .lit (.int .u8 39), .lit (.int .u8 33), .lit (.int .u8 30), .lit (.int .u8 24), .lit (.int .u8 18), .lit (.int .u8 12), .lit (.int .u8 5), .lit (.int .u8 63), .lit (.int .u8 55), .lit (.int .u8 48), .lit (.int .u8 27), .lit (.int .u8 60), .lit (.int .u8 41), .lit (.int .u8 37), .lit (.int .u8 16), .lit (.int .u8 46), .lit (.int .u8 35), .lit (.int .u8 44), .lit (.int .u8 21), .lit (.int .u8 52), .lit (.int .u8 32), .lit (.int .u8 23), .lit (.int .u8 11), .lit (.int .u8 54), .lit (.int .u8 26), .lit (.int .u8 40), .lit (.int .u8 15), .lit (.int .u8 34), .lit (.int .u8 20), .lit (.int .u8 31), .lit (.int .u8 10), .lit (.int .u8 25), .lit (.int .u8 14), .lit (.int .u8 19), .lit (.int .u8 9), .lit (.int .u8 13), .lit (.int .u8 8), .lit (.int .u8 7), .lit (.int .u8 6)]

/-- 'pennyweightlaw04.TableTwice': WHATEVER THE INPUT: true; the input reads as it did. -/
def tableTwiceSpec : ChangeSpec := { name := "tableTwice", fn := fun _ => fun
  | [d1, d2, d3] => { results := [.lit (.bool true)], args := [d1, d2, d3] }
  | _ => none }
def tableTwiceRow : OpenClaim := { program := "ytahhkeljejfgfaadoor", sum := "ccffba737674b41fd067e35007b9520ba7955c9a9173fbc8d813f3ccb82989ec", func := "pennyweight/pennyweightlaw04.TableTwice", spec := "tableTwice", inPlace := ["slices.overlaps[int]"], unfollowed := true, recurses := true, named := ["math/bits.deBruijn64tab"], apart := false, laid := [("math/bits.deBruijn64tab", laid_math_bits_deBruijn64tab)] }
def TableTwiceSaid : Prop := tableTwiceRow.holds Tryd.pinned (OpenSpec.ofChange tableTwiceSpec)

/-- ITS FALSE NEIGHBOUR: 'it returns false'. Refute it at one input. -/
def tableTwiceWrong : ChangeSpec := { name := "tableTwice", fn := fun _ => fun
  | [d1, d2, d3] => { results := [.lit (.bool false)], args := [d1, d2, d3] }
  | _ => none }
def TableTwiceWrongFalsely : Prop := tableTwiceRow.holds Tryd.pinned (OpenSpec.ofChange tableTwiceWrong)

/-- 'pennyweightlaw04.TableOuts': WHATEVER THE INPUT: true; the input reads as it did. -/
def tableOutsSpec : ChangeSpec := { name := "tableOuts", fn := fun _ => fun
  | [d1, d2, d3, d4, d5, d6] => { results := [.lit (.bool true)], args := [d1, d2, d3, d4, d5, d6] }
  | _ => none }
def tableOutsRow : OpenClaim := { program := "ytahhkeljejfgfaadoor", sum := "ccffba737674b41fd067e35007b9520ba7955c9a9173fbc8d813f3ccb82989ec", func := "pennyweight/pennyweightlaw04.TableOuts", spec := "tableOuts", inPlace := ["slices.overlaps[int]"], unfollowed := true, recurses := true, named := ["math/bits.deBruijn64tab"], apart := false, laid := [("math/bits.deBruijn64tab", laid_math_bits_deBruijn64tab)] }
def TableOutsSaid : Prop := tableOutsRow.holds Tryd.pinned (OpenSpec.ofChange tableOutsSpec)

/-- ITS FALSE NEIGHBOUR: 'it returns false'. Refute it at one input. -/
def tableOutsWrong : ChangeSpec := { name := "tableOuts", fn := fun _ => fun
  | [d1, d2, d3, d4, d5, d6] => { results := [.lit (.bool false)], args := [d1, d2, d3, d4, d5, d6] }
  | _ => none }
def TableOutsWrongFalsely : Prop := tableOutsRow.holds Tryd.pinned (OpenSpec.ofChange tableOutsWrong)

/-- 'pennyweightlaw04.TablePlays': WHATEVER THE INPUT: true; the input reads as it did. -/
def tablePlaysSpec : ChangeSpec := { name := "tablePlays", fn := fun _ => fun
  | [d1, d2, d3, d4] => { results := [.lit (.bool true)], args := [d1, d2, d3, d4] }
  | _ => none }
def tablePlaysRow : OpenClaim := { program := "ytahhkeljejfgfaadoor", sum := "ccffba737674b41fd067e35007b9520ba7955c9a9173fbc8d813f3ccb82989ec", func := "pennyweight/pennyweightlaw04.TablePlays", spec := "tablePlays", inPlace := ["slices.overlaps[int]"], unfollowed := true, recurses := true, named := ["math/bits.deBruijn64tab"], apart := false, laid := [("math/bits.deBruijn64tab", laid_math_bits_deBruijn64tab)] }
def TablePlaysSaid : Prop := tablePlaysRow.holds Tryd.pinned (OpenSpec.ofChange tablePlaysSpec)

/-- ITS FALSE NEIGHBOUR: 'it returns false'. Refute it at one input. -/
def tablePlaysWrong : ChangeSpec := { name := "tablePlays", fn := fun _ => fun
  | [d1, d2, d3, d4] => { results := [.lit (.bool false)], args := [d1, d2, d3, d4] }
  | _ => none }
def TablePlaysWrongFalsely : Prop := tablePlaysRow.holds Tryd.pinned (OpenSpec.ofChange tablePlaysWrong)

/-- 'pennyweightlaw04.TableTurns': WHATEVER THE INPUT: true; the input reads as it did. -/
def tableTurnsSpec : ChangeSpec := { name := "tableTurns", fn := fun _ => fun
  | [d1, d2, d3, d4] => { results := [.lit (.bool true)], args := [d1, d2, d3, d4] }
  | _ => none }
def tableTurnsRow : OpenClaim := { program := "ytahhkeljejfgfaadoor", sum := "ccffba737674b41fd067e35007b9520ba7955c9a9173fbc8d813f3ccb82989ec", func := "pennyweight/pennyweightlaw04.TableTurns", spec := "tableTurns", inPlace := ["slices.overlaps[int]"], unfollowed := true, recurses := true, named := ["math/bits.deBruijn64tab"], apart := false, laid := [("math/bits.deBruijn64tab", laid_math_bits_deBruijn64tab)] }
def TableTurnsSaid : Prop := tableTurnsRow.holds Tryd.pinned (OpenSpec.ofChange tableTurnsSpec)

/-- ITS FALSE NEIGHBOUR: 'it returns false'. Refute it at one input. -/
def tableTurnsWrong : ChangeSpec := { name := "tableTurns", fn := fun _ => fun
  | [d1, d2, d3, d4] => { results := [.lit (.bool false)], args := [d1, d2, d3, d4] }
  | _ => none }
def TableTurnsWrongFalsely : Prop := tableTurnsRow.holds Tryd.pinned (OpenSpec.ofChange tableTurnsWrong)

/-- 'pennyweightlaw04.TableSums': WHATEVER THE INPUT: true; the input reads as it did. -/
def tableSumsSpec : ChangeSpec := { name := "tableSums", fn := fun _ => fun
  | [d1, d2, d3, d4, d5] => { results := [.lit (.bool true)], args := [d1, d2, d3, d4, d5] }
  | _ => none }
def tableSumsRow : OpenClaim := { program := "ytahhkeljejfgfaadoor", sum := "ccffba737674b41fd067e35007b9520ba7955c9a9173fbc8d813f3ccb82989ec", func := "pennyweight/pennyweightlaw04.TableSums", spec := "tableSums", inPlace := ["slices.overlaps[int]"], unfollowed := true, recurses := true, named := ["math/bits.deBruijn64tab"], apart := false, laid := [("math/bits.deBruijn64tab", laid_math_bits_deBruijn64tab)] }
def TableSumsSaid : Prop := tableSumsRow.holds Tryd.pinned (OpenSpec.ofChange tableSumsSpec)

/-- ITS FALSE NEIGHBOUR: 'it returns false'. Refute it at one input. -/
def tableSumsWrong : ChangeSpec := { name := "tableSums", fn := fun _ => fun
  | [d1, d2, d3, d4, d5] => { results := [.lit (.bool false)], args := [d1, d2, d3, d4, d5] }
  | _ => none }
def TableSumsWrongFalsely : Prop := tableSumsRow.holds Tryd.pinned (OpenSpec.ofChange tableSumsWrong)

/-- 'pennyweightlaw04.TableJoins': WHATEVER THE INPUT: true; the input reads as it did. -/
def tableJoinsSpec : ChangeSpec := { name := "tableJoins", fn := fun _ => fun
  | [d1, d2, d3, d4, d5, d6, d7] => { results := [.lit (.bool true)], args := [d1, d2, d3, d4, d5, d6, d7] }
  | _ => none }
def tableJoinsRow : OpenClaim := { program := "ytahhkeljejfgfaadoor", sum := "ccffba737674b41fd067e35007b9520ba7955c9a9173fbc8d813f3ccb82989ec", func := "pennyweight/pennyweightlaw04.TableJoins", spec := "tableJoins", inPlace := ["slices.overlaps[int]"], unfollowed := true, recurses := true, named := ["math/bits.deBruijn64tab"], apart := false, laid := [("math/bits.deBruijn64tab", laid_math_bits_deBruijn64tab)] }
def TableJoinsSaid : Prop := tableJoinsRow.holds Tryd.pinned (OpenSpec.ofChange tableJoinsSpec)

/-- ITS FALSE NEIGHBOUR: 'it returns false'. Refute it at one input. -/
def tableJoinsWrong : ChangeSpec := { name := "tableJoins", fn := fun _ => fun
  | [d1, d2, d3, d4, d5, d6, d7] => { results := [.lit (.bool false)], args := [d1, d2, d3, d4, d5, d6, d7] }
  | _ => none }
def TableJoinsWrongFalsely : Prop := tableJoinsRow.holds Tryd.pinned (OpenSpec.ofChange tableJoinsWrong)

/-- 'pennyweightlaw04.TableErrs': WHATEVER THE INPUT: true; the input reads as it did. -/
def tableErrsSpec : ChangeSpec := { name := "tableErrs", fn := fun _ => fun
  | [d1, d2, d3, d4, d5] => { results := [.lit (.bool true)], args := [d1, d2, d3, d4, d5] }
  | _ => none }
def tableErrsRow : OpenClaim := { program := "ytahhkeljejfgfaadoor", sum := "ccffba737674b41fd067e35007b9520ba7955c9a9173fbc8d813f3ccb82989ec", func := "pennyweight/pennyweightlaw04.TableErrs", spec := "tableErrs", inPlace := ["slices.overlaps[int]"], unfollowed := true, recurses := true, named := ["math/bits.deBruijn64tab"], apart := false, laid := [("math/bits.deBruijn64tab", laid_math_bits_deBruijn64tab)] }
def TableErrsSaid : Prop := tableErrsRow.holds Tryd.pinned (OpenSpec.ofChange tableErrsSpec)

/-- ITS FALSE NEIGHBOUR: 'it returns false'. Refute it at one input. -/
def tableErrsWrong : ChangeSpec := { name := "tableErrs", fn := fun _ => fun
  | [d1, d2, d3, d4, d5] => { results := [.lit (.bool false)], args := [d1, d2, d3, d4, d5] }
  | _ => none }
def TableErrsWrongFalsely : Prop := tableErrsRow.holds Tryd.pinned (OpenSpec.ofChange tableErrsWrong)

/- THE SECOND FORM. 'bulk': how many values and letters a reading holds, each counted each time it is reached (what is shared counts as often as it is met; a slice's spare places count too). A statement '..UptoSaid' is the law's where the arguments, and the package variables that the reading takes, are together of bulk at most 1048576: NARROWER than '..Said'. Prove '..Said' where nothing that the law and all that it calls make is longer than what came in: it says more and counts as full. Else prove '..UptoSaid'. A law counts once. -/
mutual
def uptoBulk {H : Type} : DataW H → Nat
  | .lit (.string bytes) => bytes.length + 1
  | .lit _ => 1
  | .nil => 1
  | .ptr d => uptoBulk d + 1
  | .slice elems spare => uptoBulkAll elems + uptoBulkAll spare + 1
  | .agg parts => uptoBulkAll parts + 1
  | .iface _ d => uptoBulk d + 1
  | .map entries => uptoBulkEntries entries + 1
  | .held _ => 1
def uptoBulkAll {H : Type} : List (DataW H) → Nat
  | [] => 0
  | d :: r => uptoBulk d + uptoBulkAll r
def uptoBulkEntries {H : Type} : List (Lit × DataW H) → Nat
  | [] => 0
  | x :: r => uptoBulkEntry x + uptoBulkEntries r
def uptoBulkEntry {H : Type} : Lit × DataW H → Nat
  | (.string bytes, d) => bytes.length + uptoBulk d + 1
  | (_, d) => uptoBulk d + 1
 end
def uptoSmall : (H : Type) → List (DataW H) → Bool := fun _ ds => decide (uptoBulkAll ds ≤ 1048576)
def OpenSpec.upto (s : _root_.Go.ChangeSpec) : _root_.Go.OpenSpec := { _root_.Go.OpenSpec.ofChange s with cond := some uptoSmall }

/-- 'pennyweightlaw04.TableTwice', WHERE WHAT IT READS IS OF BULK AT MOST 1048576: true; the input reads as it did. -/
def tableTwiceUptoRow : OpenClaim := { program := "ytahhkeljejfgfaadoor", sum := "ccffba737674b41fd067e35007b9520ba7955c9a9173fbc8d813f3ccb82989ec", func := "pennyweight/pennyweightlaw04.TableTwice", spec := "tableTwice", inPlace := ["slices.overlaps[int]"], unfollowed := true, recurses := true, named := ["math/bits.deBruijn64tab"], apart := false, laid := [("math/bits.deBruijn64tab", laid_math_bits_deBruijn64tab)], narrowed := true }
def TableTwiceUptoSaid : Prop := tableTwiceUptoRow.holds Tryd.pinned (OpenSpec.upto tableTwiceSpec)

/-- 'pennyweightlaw04.TableOuts', WHERE WHAT IT READS IS OF BULK AT MOST 1048576: true; the input reads as it did. -/
def tableOutsUptoRow : OpenClaim := { program := "ytahhkeljejfgfaadoor", sum := "ccffba737674b41fd067e35007b9520ba7955c9a9173fbc8d813f3ccb82989ec", func := "pennyweight/pennyweightlaw04.TableOuts", spec := "tableOuts", inPlace := ["slices.overlaps[int]"], unfollowed := true, recurses := true, named := ["math/bits.deBruijn64tab"], apart := false, laid := [("math/bits.deBruijn64tab", laid_math_bits_deBruijn64tab)], narrowed := true }
def TableOutsUptoSaid : Prop := tableOutsUptoRow.holds Tryd.pinned (OpenSpec.upto tableOutsSpec)

/-- 'pennyweightlaw04.TablePlays', WHERE WHAT IT READS IS OF BULK AT MOST 1048576: true; the input reads as it did. -/
def tablePlaysUptoRow : OpenClaim := { program := "ytahhkeljejfgfaadoor", sum := "ccffba737674b41fd067e35007b9520ba7955c9a9173fbc8d813f3ccb82989ec", func := "pennyweight/pennyweightlaw04.TablePlays", spec := "tablePlays", inPlace := ["slices.overlaps[int]"], unfollowed := true, recurses := true, named := ["math/bits.deBruijn64tab"], apart := false, laid := [("math/bits.deBruijn64tab", laid_math_bits_deBruijn64tab)], narrowed := true }
def TablePlaysUptoSaid : Prop := tablePlaysUptoRow.holds Tryd.pinned (OpenSpec.upto tablePlaysSpec)

/-- 'pennyweightlaw04.TableTurns', WHERE WHAT IT READS IS OF BULK AT MOST 1048576: true; the input reads as it did. -/
def tableTurnsUptoRow : OpenClaim := { program := "ytahhkeljejfgfaadoor", sum := "ccffba737674b41fd067e35007b9520ba7955c9a9173fbc8d813f3ccb82989ec", func := "pennyweight/pennyweightlaw04.TableTurns", spec := "tableTurns", inPlace := ["slices.overlaps[int]"], unfollowed := true, recurses := true, named := ["math/bits.deBruijn64tab"], apart := false, laid := [("math/bits.deBruijn64tab", laid_math_bits_deBruijn64tab)], narrowed := true }
def TableTurnsUptoSaid : Prop := tableTurnsUptoRow.holds Tryd.pinned (OpenSpec.upto tableTurnsSpec)

/-- 'pennyweightlaw04.TableSums', WHERE WHAT IT READS IS OF BULK AT MOST 1048576: true; the input reads as it did. -/
def tableSumsUptoRow : OpenClaim := { program := "ytahhkeljejfgfaadoor", sum := "ccffba737674b41fd067e35007b9520ba7955c9a9173fbc8d813f3ccb82989ec", func := "pennyweight/pennyweightlaw04.TableSums", spec := "tableSums", inPlace := ["slices.overlaps[int]"], unfollowed := true, recurses := true, named := ["math/bits.deBruijn64tab"], apart := false, laid := [("math/bits.deBruijn64tab", laid_math_bits_deBruijn64tab)], narrowed := true }
def TableSumsUptoSaid : Prop := tableSumsUptoRow.holds Tryd.pinned (OpenSpec.upto tableSumsSpec)

/-- 'pennyweightlaw04.TableJoins', WHERE WHAT IT READS IS OF BULK AT MOST 1048576: true; the input reads as it did. -/
def tableJoinsUptoRow : OpenClaim := { program := "ytahhkeljejfgfaadoor", sum := "ccffba737674b41fd067e35007b9520ba7955c9a9173fbc8d813f3ccb82989ec", func := "pennyweight/pennyweightlaw04.TableJoins", spec := "tableJoins", inPlace := ["slices.overlaps[int]"], unfollowed := true, recurses := true, named := ["math/bits.deBruijn64tab"], apart := false, laid := [("math/bits.deBruijn64tab", laid_math_bits_deBruijn64tab)], narrowed := true }
def TableJoinsUptoSaid : Prop := tableJoinsUptoRow.holds Tryd.pinned (OpenSpec.upto tableJoinsSpec)

/-- 'pennyweightlaw04.TableErrs', WHERE WHAT IT READS IS OF BULK AT MOST 1048576: true; the input reads as it did. -/
def tableErrsUptoRow : OpenClaim := { program := "ytahhkeljejfgfaadoor", sum := "ccffba737674b41fd067e35007b9520ba7955c9a9173fbc8d813f3ccb82989ec", func := "pennyweight/pennyweightlaw04.TableErrs", spec := "tableErrs", inPlace := ["slices.overlaps[int]"], unfollowed := true, recurses := true, named := ["math/bits.deBruijn64tab"], apart := false, laid := [("math/bits.deBruijn64tab", laid_math_bits_deBruijn64tab)], narrowed := true }
def TableErrsUptoSaid : Prop := tableErrsUptoRow.holds Tryd.pinned (OpenSpec.upto tableErrsSpec)

end Rows
end Go.Proofs.YtahhkeljejfgfaaDoor
