/- The row of SoftNil: for every input the law returns true, and its arguments read behind the call as before. No conditions but the table of math/bits as the text lays it (tied). -/
import Derived.Test.YtgbkinibgjmodaaGreatDoorCards
import Derived.Test.YtgbkinibgjmodaaGreatDoorTie
import Derived.WalkKit
import Derived.ProofKit
import Derived.OpenShut
import Derived.ShutString
import Derived.ChangeOld
import Derived.Below
import Derived.Deep.DeepHandedRow
import Derived.Lib.LaidTab
import Derived.Stop.LaidErr
import Derived.SizedLaws
import Derived.Test.YtgbkinibgjmodaaGreatDoorZe
namespace Go.Proofs.YtgbkinibgjmodaaGreatDoor.softNil
set_option maxRecDepth 100000
open Go.ChangeShapes Go.WideShapes Go.ChangeAt Go.RowKit
open Go.Proofs.YtgbkinibgjmodaaGreatDoor

theorem own : ownKnob Tryz.prog.godebug = none := by kernel_rfl
theorem laidOut : laidOutB Tryz.prog = true := by kernel_rfl
theorem y1 : Tryz.prog.globalNamed "internal/strconv.uint64pow10" = some 1 := by kernel_rfl
theorem IY : (Tryz.prog.globals[1]?).map (·.type) = some 426 := by kernel_rfl
theorem IZ : Tryz.prog.cellsOf 426 = 20 := by kernel_rfl
theorem I0 : Tryz.prog.cellsOf 39 = 1 := by kernel_rfl
/-- what the row's list gives: the table -/
theorem I1 {W : World} (h : laidMetH Tryz.prog Rows.softNilRow.laid W) : dW W := fun j v ac => by
  have ht : Lib.TabIs Tryz.prog W "internal/strconv.uint64pow10" .u64 mU := Lib.tabIs_of_head (rest := []) y1 IY Tryz.underlying426 Tryz.underlying39 I0 IZ (laidMet.tail (laidMet.tail h))
  have hj : j < mU.length := by simpa using (List.getElem?_eq_some_iff.1 ac).1
  rw [Nat.zero_add, ht.cell y1 j hj, ← ac, List.getElem?_map, List.getElem?_eq_getElem hj, List.getD_eq_getElem?_getD, List.getElem?_eq_getElem hj]
  rfl
theorem y2 : Tryz.prog.globalNamed "math/bits.deBruijn64tab" = some 0 := by kernel_rfl
theorem I2 : (Tryz.prog.globals[0]?).map (·.type) = some 381 := by kernel_rfl
theorem I3 : Tryz.prog.cellsOf 381 = 64 := by kernel_rfl
theorem I4 : Tryz.prog.cellsOf 5 = 1 := by kernel_rfl
/-- what the row's list gives: the table -/
theorem I5 {W : World} (h : laidMetH Tryz.prog Rows.softNilRow.laid W) : Laid W := fun j v ac => by
  have ht : Lib.TabIs Tryz.prog W "math/bits.deBruijn64tab" .u8 oA := Lib.tabIs_of_head y2 I2 Tryz.underlying381 Tryz.underlying5 I4 I3 (laidMet.tail h)
  have hj : j < oA.length := by simpa using (List.getElem?_eq_some_iff.1 ac).1
  rw [Nat.zero_add, ht.cell y2 j hj, ← ac, List.getElem?_map, List.getElem?_eq_getElem hj, List.getD_eq_getElem?_getD, List.getElem?_eq_getElem hj]
  rfl
theorem table {W : World} (h : laidMetH Tryz.prog Rows.softNilRow.laid W) : dW W ∧ Laid W := ⟨I1 h, I5 h⟩
/-- a slice of integers that came in: nil; or it leads to a row of 'cap' cells -/
def y3 (k : IntKind) (w : World) (a : Option Addr) (len cap : Nat) (zs : List Int) : Prop :=
  (a = none ∧ len = 0 ∧ cap = 0 ∧ zs = []) ∨
  ∃ x, a = some x ∧ len ≤ cap ∧ cap ≤ maxLen ∧ zs.length = cap ∧ (∀ i, i < zs.length → w.cell? (x.add i) = some (.int k (zs.getD i 0))) ∧ ∀ n ∈ zs, (Lit.int k n).wf = true

theorem walk (a0 : Option Addr) (len0 cap0 : Nat) (z0 : List Int) (n1 : Int) (n2 : Int) (n3 : Int) (n4 : Int) (w : World) (w0 : y3 .u8 w a0 len0 cap0 z0) (m0 : len0 ≤ 140737488351232) (w1 : (Lit.int .i64 n1).wf = true) (w2 : (Lit.int .i64 n2).wf = true) (w3 : (Lit.int .i64 n3).wf = true) (w4 : (Lit.int .i64 n4).wf = true) (hL : (dW w ∧ Laid w)) :
    Calls Tryz.prog 5 #[.slice a0 len0 cap0, .int .i64 n1, .int .i64 n2, .int .i64 n3, .int .i64 n4] w fun e w' => e = .returned (.bool true) ∧ Below w.heap.size w w' := by
  obtain ⟨h0, g0⟩ := Go.Vc.Cq w0
  have l0 : Go.Vc.aC .u8 w (.slice a0 len0 cap0) (z0.take len0) := Go.Vc.aC.of h0
  have b0 : (z0.take len0).length ≤ 140737488351232 := by rw [List.length_take]; omega
  have r0 : ∀ x ∈ (z0.take len0), 0 ≤ x ∧ x < 256 := fun x J => by
    obtain ⟨h3, h4⟩ := g0 x J
    have e1 : IntKind.u8.min = 0 := by decide
    have e2 : IntKind.u8.max = 255 := by decide
    omega
  have r1 : -9223372036854775808 ≤ n1 ∧ n1 < 9223372036854775808 := by
    have h : IntKind.i64.min ≤ n1 ∧ n1 ≤ IntKind.i64.max := by simpa [Lit.wf] using w1
    have e1 : IntKind.i64.min = -9223372036854775808 := by decide
    have e2 : IntKind.i64.max = 9223372036854775807 := by decide
    omega
  have r2 : -9223372036854775808 ≤ n2 ∧ n2 < 9223372036854775808 := by
    have h : IntKind.i64.min ≤ n2 ∧ n2 ≤ IntKind.i64.max := by simpa [Lit.wf] using w2
    have e1 : IntKind.i64.min = -9223372036854775808 := by decide
    have e2 : IntKind.i64.max = 9223372036854775807 := by decide
    omega
  have r3 : -9223372036854775808 ≤ n3 ∧ n3 < 9223372036854775808 := by
    have h : IntKind.i64.min ≤ n3 ∧ n3 ≤ IntKind.i64.max := by simpa [Lit.wf] using w3
    have e1 : IntKind.i64.min = -9223372036854775808 := by decide
    have e2 : IntKind.i64.max = 9223372036854775807 := by decide
    omega
  have r4 : -9223372036854775808 ≤ n4 ∧ n4 < 9223372036854775808 := by
    have h : IntKind.i64.min ≤ n4 ∧ n4 ≤ IntKind.i64.max := by simpa [Lit.wf] using w4
    have e1 : IntKind.i64.min = -9223372036854775808 := by decide
    have e2 : IntKind.i64.max = 9223372036854775807 := by decide
    omega
  have hen : Go.Vc.Enters Tryz.prog 5 := Go.Vc.Enters.of Tryz.prog (show Tryz.prog.funcs[5]? = some Tryz.f5 from Tryz.func5) rfl (by kernel_rfl)
  exact (Go.Vc.ah.calls (IX l0 r0 hL.1 hL.2) hen).mono fun e w' ⟨v, he, hn, ac, J⟩ => ⟨by rw [he, ac], Go.Vc.Cp J hn⟩

theorem I6 (H : Type) (enc : TypeId × Value → H) (W : World) (base : Nat) (args : Array Value) (ds gs : List (DataW H)) (before : List MemPlace)
    (hval0 : ∀ (j : Nat) t v, Tryz.f5.params[j]? = some t → args[j]? = some v → Value.okWide Tryz.prog W .any base t v)
    (hW : DataW.Whole enc Tryz.prog Tryz.f5.params.toList Rows.softNilSpec.vars false W args.toList ds gs before) (hL : laidMetH Tryz.prog Rows.softNilRow.laid W)
    (hsz0 : (DataW.weightsEach Tryz.prog (Tryz.f5.params.toList ++ (OpenSpec.ofChange Rows.softNilSpec).bare.plain.varTypes Tryz.prog) (ds ++ gs)).all (· ≤ reachBytes) = true) :
    Calls Tryz.prog 5 args W fun e W' => ∃ v, e = .returned v ∧ Rows.softNilSpec.post enc Tryz.prog Tryz.f5 false true false false W args v W' := by
  have hval : ∀ (j : Nat) t v, Tryz.f5.params[j]? = some t → args[j]? = some v → Value.okWide Tryz.prog W .any base t v := hval0
  have hW' := hW
  obtain ⟨p, q, hA0, hV, rfl, hfz, hnd⟩ := hW
  have hA : DataW.TrodAll enc Tryz.prog W 0 (fun _ => true) true Tryz.f5.params.toList args.toList ds p := hA0
  have hsz : (DataW.weightsEach Tryz.prog (Tryz.f5.params.toList ++ []) (ds ++ gs)).all (· ≤ reachBytes) = true := hsz0
  clear hsz0
  rw [Tryz.params5] at hA hval hsz
  obtain ⟨v0, vs0, d0, ds0, kW, q0, hargs, rfl, rfl, h0, r0⟩ := trodAll_cons hA
  obtain ⟨v1, vs1, d1, ds1, p1, q1, rfl, rfl, rfl, h1, r1⟩ := trodAll_cons r0
  obtain ⟨v2, vs2, d2, ds2, p2, q2, rfl, rfl, rfl, h2, r2⟩ := trodAll_cons r1
  obtain ⟨v3, vs3, d3, ds3, p3, q3, rfl, rfl, rfl, h3, r3⟩ := trodAll_cons r2
  obtain ⟨v4, vs4, d4, ds4, p4, q4, rfl, rfl, rfl, h4, r4⟩ := trodAll_cons r3
  obtain ⟨rfl, rfl, rfl⟩ := trodAll_nil r4
  obtain rfl : args = #[v0, v1, v2, v3, v4] := by cases args; simp_all
  obtain ⟨rfl, rfl⟩ := trodVars_none hV
  obtain ⟨a0, len0, cap0, rfl⟩ := okWide_slice Tryz.underlying22 (hval 0 22 v0 rfl rfl)
  have k0 := h0
  have lt0 : ∀ x ∈ kW, x.block < W.heap.size := by obtain ⟨m, hm⟩ := k0; exact DataW.trod_lt m _ _ _ hm
  obtain ⟨z0, w0, m0⟩ : ∃ zs, y3 .u8 W a0 len0 cap0 zs ∧ len0 ≤ 140737488351232 := by
    obtain ⟨fuel, ag⟩ := h0
    rcases open_ints Tryz.underlying22 Tryz.underlying5 (by kernel_rfl) ag with ⟨hcs, _⟩ | ⟨x, l, c, zs, hcs, _, hl, hm, hz, J, hcell, hwz⟩
    · simp [Value.cells] at hcs
      obtain ⟨rfl, rfl, rfl⟩ := hcs
      exact ⟨[], .inl ⟨rfl, rfl, rfl, rfl⟩, Nat.zero_le _⟩
    · simp [Value.cells] at hcs
      obtain ⟨rfl, rfl, rfl⟩ := hcs
      have e : d0 = _ := congrArg Prod.fst J
      have hb := sized_slice hsz (j := 0) (t := 22) (e := 5) rfl (by rw [e]; rfl) Tryz.underlying22
      rw [show Tryz.prog.bytesOf 5 = 1 from by kernel_rfl] at hb
      have hz' : zs.length = cap0 := by simpa using hz
      have h1 : ∀ l : List Int, (ChangeShapes.lits (H := H) .u8 l).length = l.length := fun l => by simp [ChangeShapes.lits]
      rw [h1, h1, List.length_take, List.length_drop] at hb
      have h2 : reachBytes = 140737488351232 := by decide
      exact ⟨zs, .inr ⟨_, rfl, hl, hm, hz', hcell, hwz⟩, by omega⟩
  obtain ⟨n1, rfl, rfl, rfl, w1⟩ := open_int Tryz.underlying3 (hval 1 3 v1 rfl rfl) h1
  obtain ⟨n2, rfl, rfl, rfl, w2⟩ := open_int Tryz.underlying3 (hval 2 3 v2 rfl rfl) h2
  obtain ⟨n3, rfl, rfl, rfl, w3⟩ := open_int Tryz.underlying3 (hval 3 3 v3 rfl rfl) h3
  obtain ⟨n4, rfl, rfl, rfl, w4⟩ := open_int Tryz.underlying3 (hval 4 3 v4 rfl rfl) h4
  clear hA0 hval0
  refine (walk a0 len0 cap0 z0 n1 n2 n3 n4 W w0 m0 w1 w2 w3 w4 (table hL)).mono fun e W' ⟨he, bel⟩ => ?_
  subst he
  exact ⟨_, rfl, _, _, _, [], _, [], hW', trodAll_mk1 (shut_bool Tryz.underlying4 _), (trodAll_cons_mk (Below.trod laidOut (by kernel_rfl) (of_decide_eq_true (by kernel_rfl)) k0 bel lt0) (trodAll_cons_mk (shut_int Tryz.underlying3 w1) (trodAll_cons_mk (shut_int Tryz.underlying3 w2) (trodAll_cons_mk (shut_int Tryz.underlying3 w3) (trodAll_cons_mk (shut_int Tryz.underlying3 w4) trodAll_mk0))))), rfl, bel.frame _, fun h => by cases h⟩

/-- a world for the witness: the settled one, the table holding what its initialiser lays -/
noncomputable def sn (os : Os) : World :=
  { World.holding Tryz.prog os ⟨#[], #[], []⟩ with heap := ((((World.holding Tryz.prog os ⟨#[], #[], []⟩).heap.modify 0 (fun
      | .cells _ t frozen => .cells (([0, 1, 56, 2, 57, 49, 28, 3, 61, 58, 42, 50, 38, 29, 17, 4, 62, 47, 59, 36, 45, 43, 51, 22, 53, 39, 33, 30, 24, 18, 12, 5, 63, 55, 48, 27, 60, 41, 37, 16, 46, 35, 44, 21, 52, 32, 23, 11, 54, 26, 40, 15, 34, 20, 31, 10, 25, 14, 19, 9, 13, 8, 7, 6] : List Int).map fun z => Value.int .u8 z).toArray t frozen
      | o => o)).modify 1 (fun
      | .cells _ t frozen => .cells (mU.map fun z => Value.int .u64 z).toArray t frozen
      | o => o)).modify 2 (fun
      | .cells _ t frozen => .cells (([0, 1, 28, 2, 29, 14, 24, 3, 30, 22, 20, 15, 25, 17, 4, 8, 31, 27, 13, 23, 21, 19, 16, 7, 26, 12, 18, 6, 11, 5, 10, 9] : List Int).map fun z => Value.int .u8 z).toArray t frozen
      | o => o)) }
theorem I7 (os : Os) : laidMet Tryz.prog Rows.softNilRow.laid ((sn os).forCall (fun _ _ => 0) ⟨#[], #[.slice none 0 0, .int .i64 0, .int .i64 0, .int .i64 0, .int .i64 0], []⟩).memory :=
  laidMet_of_run' 8 (by kernel_rfl) (by kernel_rfl)
theorem reads (os : Os) {H : Type} (enc : TypeId × Value → H) : ∃ places, DataW.whole enc Tryz.prog ((sn os).forCall (fun _ _ => 0) ⟨#[], #[.slice none 0 0, .int .i64 0, .int .i64 0, .int .i64 0, .int .i64 0], []⟩).memory Tryz.f5.params.toList Rows.softNilSpec.vars false (#[.slice none 0 0, .int .i64 0, .int .i64 0, .int .i64 0, .int .i64 0] : Array Value).toList 8 = some ([.nil, .lit (.int .i64 0), .lit (.int .i64 0), .lit (.int .i64 0), .lit (.int .i64 0)], [], places) :=
  ⟨[], by kernel_rfl⟩

set_option maxRecDepth 100000 in
theorem lifted (os : Os) (started : os.Started) (H : Type) (enc : TypeId × Value → H) (F : Stop.Interp) :
    ReturnsInHanded {} Tryz.checked os 5 .any ((OpenSpec.ofChange Rows.softNilSpec).preRow enc Tryz.prog Tryz.f5 Rows.softNilRow.domain false Rows.softNilRow.laid) (((OpenSpec.ofChange Rows.softNilSpec).at F).post enc Tryz.prog Tryz.f5 false true false false) := by
  obtain ⟨places, J⟩ := reads os enc
  refine returnsInHanded_of_row (C := Tryz.checked) (s := OpenSpec.ofChange Rows.softNilSpec) own started (by kernel_rfl) Tryz.func5
    (witness_row_at (enc := enc) (C := Tryz.checked) false (sn os) #[.slice none 0 0, .int .i64 0, .int .i64 0, .int .i64 0, .int .i64 0] rfl (by kernel_rfl) (by kernel_rfl) (by kernel_rfl)
      (OpenSpec.preRow_of_cond 8 J (by kernel_rfl) (fun k hk => by cases hk) (by kernel_rfl) (I7 os))) ?_
  intro W base args ds gs before hval hW _ _ hsz hL _ _
  exact I6 H enc W base args ds gs before hval hW hL hsz

end Go.Proofs.YtgbkinibgjmodaaGreatDoor.softNil
