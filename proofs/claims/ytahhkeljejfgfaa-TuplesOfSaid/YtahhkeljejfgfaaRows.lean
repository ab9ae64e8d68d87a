/-
  No cell of these rows narrows 'for every input' (looked for: loops, veiled, ifaces, maps, wideKeys, modest, calm, conditions, laid).
  DERIVED. THE GIVEN ROWS OF THIS SEAT. 6 by the template 'for every input the law returns true; each argument reads behind the call as it read before'; 0 by the template 'total and deterministic' (their statements: YtahhkeljejfgfaaTotals.lean).
  GIVEN WITH THE SEED: the statements are not yours to turn. If you find one false, say at which input.
  Laid BY PROGRAM, IN A SANDBOX (cutbox-rows.mjs): the forced cells as the released guide's own fill.sh prints them over the translation c9429427c288dd60… (all of the seat's roots in one cut). By AI agents, Wed Nov 11 2026. No macro, syntax, notation, axiom, sorry.
-/
import Derived.Test.YtahhkeljejfgfaaChecked
import GoSem.Claim
import GoSem.ClaimJoined
import GoSem.ClaimMapViews
import Derived.JoinedTies
import Derived.KernelRfl
namespace Go.Proofs.Ytahhkeljejfgfaa
/- THE CELL 'sum', in the pinned program and in every row, IS THE sha256 OF THE DUMP (.gsa) THAT YtahhkeljejfgfaaProg.lean LOADS. Nothing in Lean hashes anything: it is a label: what it is worth is what the hold of that sum in a sandbox is worth. -/
noncomputable def Try.pinned : Pinned := { name := "ytahhkeljejfgfaa", sum := "c9429427c288dd60797ff244b0bf6bdf22a904f0bb2a1c55a8519cb1dbc017d8", checked := Try.checked }
namespace Rows
def none {H : Type} : Left H := { results := [], args := [] }

/-- 'pennyweightlaw24.ScriptReads': WHATEVER THE INPUT: true; the input reads as it did. -/
def scriptReadsSpec : ChangeSpec := { name := "scriptReads", fn := fun _ => fun
  | [d] => { results := [.lit (.bool true)], args := [d] }
  | _ => none }
def scriptReadsRow : OpenClaim := { program := "ytahhkeljejfgfaa", sum := "c9429427c288dd60797ff244b0bf6bdf22a904f0bb2a1c55a8519cb1dbc017d8", func := "pennyweight/pennyweightlaw24.ScriptReads", spec := "scriptReads", unfollowed := true, recurses := true, plainKeys := false, apart := false }
def ScriptReadsSaid : Prop := scriptReadsRow.holds Try.pinned (OpenSpec.ofChange scriptReadsSpec)

/-- ITS FALSE NEIGHBOUR: 'it returns false'. Refute it at one input. -/
def scriptReadsWrong : ChangeSpec := { name := "scriptReads", fn := fun _ => fun
  | [d] => { results := [.lit (.bool false)], args := [d] }
  | _ => none }
def ScriptReadsWrongFalsely : Prop := scriptReadsRow.holds Try.pinned (OpenSpec.ofChange scriptReadsWrong)

/-- 'pennyweightlaw05.TuplesPlays': WHATEVER THE INPUT: true; the input reads as it did. -/
def tuplesPlaysSpec : ChangeSpec := { name := "tuplesPlays", fn := fun _ => fun
  | [d1, d2, d3, d4] => { results := [.lit (.bool true)], args := [d1, d2, d3, d4] }
  | _ => none }
def tuplesPlaysRow : OpenClaim := { program := "ytahhkeljejfgfaa", sum := "c9429427c288dd60797ff244b0bf6bdf22a904f0bb2a1c55a8519cb1dbc017d8", func := "pennyweight/pennyweightlaw05.TuplesPlays", spec := "tuplesPlays", unfollowed := true, recurses := true, plainKeys := false, apart := false }
def TuplesPlaysSaid : Prop := tuplesPlaysRow.holds Try.pinned (OpenSpec.ofChange tuplesPlaysSpec)

/-- ITS FALSE NEIGHBOUR: 'it returns false'. Refute it at one input. -/
def tuplesPlaysWrong : ChangeSpec := { name := "tuplesPlays", fn := fun _ => fun
  | [d1, d2, d3, d4] => { results := [.lit (.bool false)], args := [d1, d2, d3, d4] }
  | _ => none }
def TuplesPlaysWrongFalsely : Prop := tuplesPlaysRow.holds Try.pinned (OpenSpec.ofChange tuplesPlaysWrong)

/-- 'pennyweightlaw05.TuplesSame': WHATEVER THE INPUT: true; the input reads as it did. -/
def tuplesSameSpec : ChangeSpec := { name := "tuplesSame", fn := fun _ => fun
  | [d1, d2, d3, d4, d5, d6, d7, d8] => { results := [.lit (.bool true)], args := [d1, d2, d3, d4, d5, d6, d7, d8] }
  | _ => none }
def tuplesSameRow : OpenClaim := { program := "ytahhkeljejfgfaa", sum := "c9429427c288dd60797ff244b0bf6bdf22a904f0bb2a1c55a8519cb1dbc017d8", func := "pennyweight/pennyweightlaw05.TuplesSame", spec := "tuplesSame", unfollowed := true, recurses := true, plainKeys := false, apart := false }
def TuplesSameSaid : Prop := tuplesSameRow.holds Try.pinned (OpenSpec.ofChange tuplesSameSpec)

/-- ITS FALSE NEIGHBOUR: 'it returns false'. Refute it at one input. -/
def tuplesSameWrong : ChangeSpec := { name := "tuplesSame", fn := fun _ => fun
  | [d1, d2, d3, d4, d5, d6, d7, d8] => { results := [.lit (.bool false)], args := [d1, d2, d3, d4, d5, d6, d7, d8] }
  | _ => none }
def TuplesSameWrongFalsely : Prop := tuplesSameRow.holds Try.pinned (OpenSpec.ofChange tuplesSameWrong)

/-- 'pennyweightlaw05.TuplesOrder': WHATEVER THE INPUT: true; the input reads as it did. -/
def tuplesOrderSpec : ChangeSpec := { name := "tuplesOrder", fn := fun _ => fun
  | [d1, d2, d3, d4] => { results := [.lit (.bool true)], args := [d1, d2, d3, d4] }
  | _ => none }
def tuplesOrderRow : OpenClaim := { program := "ytahhkeljejfgfaa", sum := "c9429427c288dd60797ff244b0bf6bdf22a904f0bb2a1c55a8519cb1dbc017d8", func := "pennyweight/pennyweightlaw05.TuplesOrder", spec := "tuplesOrder", unfollowed := true, recurses := true, plainKeys := false, apart := false }
def TuplesOrderSaid : Prop := tuplesOrderRow.holds Try.pinned (OpenSpec.ofChange tuplesOrderSpec)

/-- ITS FALSE NEIGHBOUR: 'it returns false'. Refute it at one input. -/
def tuplesOrderWrong : ChangeSpec := { name := "tuplesOrder", fn := fun _ => fun
  | [d1, d2, d3, d4] => { results := [.lit (.bool false)], args := [d1, d2, d3, d4] }
  | _ => none }
def TuplesOrderWrongFalsely : Prop := tuplesOrderRow.holds Try.pinned (OpenSpec.ofChange tuplesOrderWrong)

/-- 'pennyweightlaw05.TuplesOf': WHATEVER THE INPUT: true; the input reads as it did. -/
def tuplesOfSpec : ChangeSpec := { name := "tuplesOf", fn := fun _ => fun
  | [d1, d2, d3] => { results := [.lit (.bool true)], args := [d1, d2, d3] }
  | _ => none }
def tuplesOfRow : OpenClaim := { program := "ytahhkeljejfgfaa", sum := "c9429427c288dd60797ff244b0bf6bdf22a904f0bb2a1c55a8519cb1dbc017d8", func := "pennyweight/pennyweightlaw05.TuplesOf", spec := "tuplesOf", unfollowed := true, recurses := true, plainKeys := false, apart := false }
def TuplesOfSaid : Prop := tuplesOfRow.holds Try.pinned (OpenSpec.ofChange tuplesOfSpec)

/-- ITS FALSE NEIGHBOUR: 'it returns false'. Refute it at one input. -/
def tuplesOfWrong : ChangeSpec := { name := "tuplesOf", fn := fun _ => fun
  | [d1, d2, d3] => { results := [.lit (.bool false)], args := [d1, d2, d3] }
  | _ => none }
def TuplesOfWrongFalsely : Prop := tuplesOfRow.holds Try.pinned (OpenSpec.ofChange tuplesOfWrong)

/-- 'pennyweightlaw05.TuplesRaw': WHATEVER THE INPUT: true; the input reads as it did. -/
def tuplesRawSpec : ChangeSpec := { name := "tuplesRaw", fn := fun _ => fun
  | [d1, d2, d3, d4, d5] => { results := [.lit (.bool true)], args := [d1, d2, d3, d4, d5] }
  | _ => none }
def tuplesRawRow : OpenClaim := { program := "ytahhkeljejfgfaa", sum := "c9429427c288dd60797ff244b0bf6bdf22a904f0bb2a1c55a8519cb1dbc017d8", func := "pennyweight/pennyweightlaw05.TuplesRaw", spec := "tuplesRaw", unfollowed := true, recurses := true, plainKeys := false, apart := false }
def TuplesRawSaid : Prop := tuplesRawRow.holds Try.pinned (OpenSpec.ofChange tuplesRawSpec)

/-- ITS FALSE NEIGHBOUR: 'it returns false'. Refute it at one input. -/
def tuplesRawWrong : ChangeSpec := { name := "tuplesRaw", fn := fun _ => fun
  | [d1, d2, d3, d4, d5] => { results := [.lit (.bool false)], args := [d1, d2, d3, d4, d5] }
  | _ => none }
def TuplesRawWrongFalsely : Prop := tuplesRawRow.holds Try.pinned (OpenSpec.ofChange tuplesRawWrong)

/- THE SECOND FORM. 'bulk': how many values and letters a reading holds, each counted each time it is reached (what is shared counts as often as it is met; a slice's spare places count too). A statement '..UptoSaid' is the law's where the arguments, and the package variables that the reading takes, are together of bulk at most 1048576: NARROWER than '..Said'. Prove '..Said' where nothing that the law and all that it calls make is longer than what came in: it says more and counts as full. Else prove '..UptoSaid'. A law counts once. -/
mutual
def uptoBulk {H : Type} : DataW H → Nat
  | .lit (.string bytes) => bytes.length + 1
  | .lit _ => 1
  | .nil => 1
  | .ptr d => uptoBulk d + 1
  | .slice elems spare => uptoBulkAll elems + uptoBulkAll spare + 1
  | .agg parts => uptoBulkAll parts + 1
  | .iface _ d => uptoBulk d + 1
  | .map entries => uptoBulkEntries entries + 1
  | .held _ => 1
def uptoBulkAll {H : Type} : List (DataW H) → Nat
  | [] => 0
  | d :: r => uptoBulk d + uptoBulkAll r
def uptoBulkEntries {H : Type} : List (Lit × DataW H) → Nat
  | [] => 0
  | x :: r => uptoBulkEntry x + uptoBulkEntries r
def uptoBulkEntry {H : Type} : Lit × DataW H → Nat
  | (.string bytes, d) => bytes.length + uptoBulk d + 1
  | (_, d) => uptoBulk d + 1
 end
def uptoSmall : (H : Type) → List (DataW H) → Bool := fun _ ds => decide (uptoBulkAll ds ≤ 1048576)
def OpenSpec.upto (s : _root_.Go.ChangeSpec) : _root_.Go.OpenSpec := { _root_.Go.OpenSpec.ofChange s with cond := some uptoSmall }

/-- 'pennyweightlaw24.ScriptReads', WHERE WHAT IT READS IS OF BULK AT MOST 1048576: true; the input reads as it did. -/
def scriptReadsUptoRow : OpenClaim := { program := "ytahhkeljejfgfaa", sum := "c9429427c288dd60797ff244b0bf6bdf22a904f0bb2a1c55a8519cb1dbc017d8", func := "pennyweight/pennyweightlaw24.ScriptReads", spec := "scriptReads", unfollowed := true, recurses := true, plainKeys := false, apart := false, narrowed := true }
def ScriptReadsUptoSaid : Prop := scriptReadsUptoRow.holds Try.pinned (OpenSpec.upto scriptReadsSpec)

/-- 'pennyweightlaw05.TuplesPlays', WHERE WHAT IT READS IS OF BULK AT MOST 1048576: true; the input reads as it did. -/
def tuplesPlaysUptoRow : OpenClaim := { program := "ytahhkeljejfgfaa", sum := "c9429427c288dd60797ff244b0bf6bdf22a904f0bb2a1c55a8519cb1dbc017d8", func := "pennyweight/pennyweightlaw05.TuplesPlays", spec := "tuplesPlays", unfollowed := true, recurses := true, plainKeys := false, apart := false, narrowed := true }
def TuplesPlaysUptoSaid : Prop := tuplesPlaysUptoRow.holds Try.pinned (OpenSpec.upto tuplesPlaysSpec)

/-- 'pennyweightlaw05.TuplesSame', WHERE WHAT IT READS IS OF BULK AT MOST 1048576: true; the input reads as it did. -/
def tuplesSameUptoRow : OpenClaim := { program := "ytahhkeljejfgfaa", sum := "c9429427c288dd60797ff244b0bf6bdf22a904f0bb2a1c55a8519cb1dbc017d8", func := "pennyweight/pennyweightlaw05.TuplesSame", spec := "tuplesSame", unfollowed := true, recurses := true, plainKeys := false, apart := false, narrowed := true }
def TuplesSameUptoSaid : Prop := tuplesSameUptoRow.holds Try.pinned (OpenSpec.upto tuplesSameSpec)

/-- 'pennyweightlaw05.TuplesOrder', WHERE WHAT IT READS IS OF BULK AT MOST 1048576: true; the input reads as it did. -/
def tuplesOrderUptoRow : OpenClaim := { program := "ytahhkeljejfgfaa", sum := "c9429427c288dd60797ff244b0bf6bdf22a904f0bb2a1c55a8519cb1dbc017d8", func := "pennyweight/pennyweightlaw05.TuplesOrder", spec := "tuplesOrder", unfollowed := true, recurses := true, plainKeys := false, apart := false, narrowed := true }
def TuplesOrderUptoSaid : Prop := tuplesOrderUptoRow.holds Try.pinned (OpenSpec.upto tuplesOrderSpec)

/-- 'pennyweightlaw05.TuplesOf', WHERE WHAT IT READS IS OF BULK AT MOST 1048576: true; the input reads as it did. -/
def tuplesOfUptoRow : OpenClaim := { program := "ytahhkeljejfgfaa", sum := "c9429427c288dd60797ff244b0bf6bdf22a904f0bb2a1c55a8519cb1dbc017d8", func := "pennyweight/pennyweightlaw05.TuplesOf", spec := "tuplesOf", unfollowed := true, recurses := true, plainKeys := false, apart := false, narrowed := true }
def TuplesOfUptoSaid : Prop := tuplesOfUptoRow.holds Try.pinned (OpenSpec.upto tuplesOfSpec)

/-- 'pennyweightlaw05.TuplesRaw', WHERE WHAT IT READS IS OF BULK AT MOST 1048576: true; the input reads as it did. -/
def tuplesRawUptoRow : OpenClaim := { program := "ytahhkeljejfgfaa", sum := "c9429427c288dd60797ff244b0bf6bdf22a904f0bb2a1c55a8519cb1dbc017d8", func := "pennyweight/pennyweightlaw05.TuplesRaw", spec := "tuplesRaw", unfollowed := true, recurses := true, plainKeys := false, apart := false, narrowed := true }
def TuplesRawUptoSaid : Prop := tuplesRawUptoRow.holds Try.pinned (OpenSpec.upto tuplesRawSpec)

end Rows
end Go.Proofs.Ytahhkeljejfgfaa
