/- The row of ElimOrders: for every input the law returns true, and its arguments read behind the call as before. No conditions but the table of math/bits as the text lays it (tied). -/
import Derived.Test.YtkcigodpbndobaaGreatDoorCards
import Derived.Test.YtkcigodpbndobaaGreatDoorTie
import Derived.WalkKit
import Derived.ProofKit
import Derived.OpenShut
import Derived.ShutString
import Derived.ChangeOld
import Derived.Below
import Derived.Deep.DeepHandedRow
import Derived.Lib.LaidTab
import Derived.Stop.LaidErr
import Derived.SizedLaws
import Derived.Test.YtkcigodpbndobaaGreatDoorWf
namespace Go.Proofs.YtkcigodpbndobaaGreatDoor.elimOrders
set_option maxRecDepth 100000
open Go.ChangeShapes Go.WideShapes Go.ChangeAt Go.RowKit
open Go.Proofs.YtkcigodpbndobaaGreatDoor

theorem own : ownKnob Tryz.prog.godebug = none := by kernel_rfl
theorem laidOut : laidOutB Tryz.prog = true := by kernel_rfl
theorem HI : Tryz.prog.globalNamed "internal/strconv.uint64pow10" = some 1 := by kernel_rfl
theorem Ve : (Tryz.prog.globals[1]?).map (·.type) = some 420 := by kernel_rfl
theorem Vf : Tryz.prog.cellsOf 420 = 20 := by kernel_rfl
theorem Vg : Tryz.prog.cellsOf 169 = 1 := by kernel_rfl
/-- what the row's list gives: the table -/
theorem Vh {W : World} (h : laidMetH Tryz.prog Rows.elimOrdersRow.laid W) : fj W := fun j v hv => by
  have ht : Lib.TabIs Tryz.prog W "internal/strconv.uint64pow10" .u64 sU := Lib.tabIs_of_head (rest := []) HI Ve Tryz.underlying420 Tryz.underlying169 Vg Vf (laidMet.tail (laidMet.tail h))
  have hj : j < sU.length := by simpa using (List.getElem?_eq_some_iff.1 hv).1
  rw [Nat.zero_add, ht.cell HI j hj, ← hv, List.getElem?_map, List.getElem?_eq_getElem hj, List.getD_eq_getElem?_getD, List.getElem?_eq_getElem hj]
  rfl
theorem HJ : Tryz.prog.globalNamed "math/bits.deBruijn64tab" = some 0 := by kernel_rfl
theorem Vi : (Tryz.prog.globals[0]?).map (·.type) = some 394 := by kernel_rfl
theorem Vj : Tryz.prog.cellsOf 394 = 64 := by kernel_rfl
theorem Vk : Tryz.prog.cellsOf 5 = 1 := by kernel_rfl
/-- what the row's list gives: the table -/
theorem Vl {W : World} (h : laidMetH Tryz.prog Rows.elimOrdersRow.laid W) : Laid W := fun j v hv => by
  have ht : Lib.TabIs Tryz.prog W "math/bits.deBruijn64tab" .u8 uV := Lib.tabIs_of_head HJ Vi Tryz.underlying394 Tryz.underlying5 Vk Vj (laidMet.tail h)
  have hj : j < uV.length := by simpa using (List.getElem?_eq_some_iff.1 hv).1
  rw [Nat.zero_add, ht.cell HJ j hj, ← hv, List.getElem?_map, List.getElem?_eq_getElem hj, List.getD_eq_getElem?_getD, List.getElem?_eq_getElem hj]
  rfl
theorem table {W : World} (h : laidMetH Tryz.prog Rows.elimOrdersRow.laid W) : fj W ∧ Laid W := ⟨Vh h, Vl h⟩
/-- a slice of integers that came in: nil; or it li to a row of 'cap' cells -/
def HK (k : IntKind) (w : World) (a : Option Addr) (len cap : Nat) (zs : List Int) : Prop :=
  (a = none ∧ len = 0 ∧ cap = 0 ∧ zs = []) ∨
  ∃ x, a = some x ∧ len ≤ cap ∧ cap ≤ maxLen ∧ zs.length = cap ∧ (∀ i, i < zs.length → w.cell? (x.add i) = some (.int k (zs.getD i 0))) ∧ ∀ n ∈ zs, (Lit.int k n).wf = true

abbrev Ak : Type := (List ((Go.Vc.nP .u8) × (Int × (Int × (Int × Int)))))
abbrev HL : Ak → Prop := (fun l : List ((Go.Vc.nP .u8) × (Int × (Int × (Int × Int)))) => ∀ a ∈ l, (fun p : (Go.Vc.nP .u8) × (Int × (Int × (Int × Int))) => (fun n : Go.Vc.nP .u8 => IntKind.u8.min ≤ n.val ∧ n.val ≤ IntKind.u8.max) p.1 ∧ (fun p : Int × (Int × (Int × Int)) => (fun n : Int => IntKind.i64.min ≤ n ∧ n ≤ IntKind.i64.max) p.1 ∧ (fun p : Int × (Int × Int) => (fun n : Int => IntKind.i64.min ≤ n ∧ n ≤ IntKind.i64.max) p.1 ∧ (fun p : Int × Int => (fun n : Int => IntKind.i64.min ≤ n ∧ n ≤ IntKind.i64.max) p.1 ∧ (fun n : Int => IntKind.i64.min ≤ n ∧ n ≤ IntKind.i64.max) p.2) p.2) p.2) p.2) a)
theorem Vm : Go.Vc.oL Tryz.prog 54 Ak HL :=
  (Go.Vc.Mf Tryz.underlying54 (Go.Vc.Mh Tryz.underlying186 (Go.Vc.uU (Go.Vc.Mc Tryz.underlying5) rfl (by kernel_rfl) (Go.Vc.uU (Go.Vc.uS Tryz.underlying3) rfl (by kernel_rfl) (Go.Vc.uU (Go.Vc.uS Tryz.underlying3) rfl (by kernel_rfl) (Go.Vc.uU (Go.Vc.uS Tryz.underlying3) rfl (by kernel_rfl) (Go.Vc.Mg (Go.Vc.uS Tryz.underlying2) rfl (by kernel_rfl)))))) (by kernel_rfl)) (by kernel_rfl) (by decide))
theorem walk (a0 : Option Addr) (len0 cap0 : Nat) (z0 : List Int) (a1 : Option Addr) (len1 cap1 : Nat) (l1 : Ak) (n2 : Int) (w : World) (w0 : HK .u8 w a0 len0 cap0 z0) (m0 : len0 ≤ 140737488351232) (s1 : Go.Vc.Seen Go.Vc.fo w [.slice a1 len1 cap1] l1) (g1 : HL l1) (V : (Lit.int .u8 n2).wf = true) (hL : (fj w ∧ Laid w)) :
    Calls Tryz.prog 4 #[.slice a0 len0 cap0, .slice a1 len1 cap1, .int .u8 n2] w fun e I => e = .returned (.bool true) ∧ Below w.heap.size w I := by
  obtain ⟨h0, g0⟩ := Go.Vc.LJ w0
  have l0 : Go.Vc.aI .u8 w (.slice a0 len0 cap0) (z0.take len0) := Go.Vc.aI.of h0
  have b0 : (z0.take len0).length ≤ 140737488351232 := by rw [List.length_take]; omega
  have r0 : ∀ x ∈ (z0.take len0), 0 ≤ x ∧ x < 256 := fun x hx => by
    obtain ⟨h3, h4⟩ := g0 x hx
    have e1 : IntKind.u8.min = 0 := by decide
    have e2 : IntKind.u8.max = 255 := by decide
    omega
  have r2 : 0 ≤ n2 ∧ n2 < 256 := by
    have h : IntKind.u8.min ≤ n2 ∧ n2 ≤ IntKind.u8.max := by simpa [Lit.wf] using V
    have e1 : IntKind.u8.min = 0 := by decide
    have e2 : IntKind.u8.max = 255 := by decide
    omega
  have hen : Go.Vc.Enters Tryz.prog 4 := Go.Vc.Enters.of Tryz.prog (show Tryz.prog.funcs[4]? = some Tryz.f4 from Tryz.func4) rfl (by kernel_rfl)
  exact (Go.Vc.aj.calls (Vd l0 r0 s1 (fun x hx => Us (g1 x hx)) r2 hL.1 hL.2) hen).X fun e I ⟨v, he, hn, hv, hx⟩ => ⟨by rw [he, hv], Go.Vc.LI hx hn⟩

theorem Vn (H : Type) (enc : TypeId × Value → H) (W : World) (base : Nat) (args : Array Value) (ds gs : List (DataW H)) (before : List MemPlace)
    (hval0 : ∀ (j : Nat) t v, Tryz.f4.params[j]? = some t → args[j]? = some v → Value.okWide Tryz.prog W .any base t v)
    (hW : DataW.Whole enc Tryz.prog Tryz.f4.params.toList Rows.elimOrdersSpec.vars false W args.toList ds gs before) (hL : laidMetH Tryz.prog Rows.elimOrdersRow.laid W)
    (hsz0 : (DataW.weightsEach Tryz.prog (Tryz.f4.params.toList ++ (OpenSpec.ofChange Rows.elimOrdersSpec).bare.plain.varTypes Tryz.prog) (ds ++ gs)).all (· ≤ reachBytes) = true) :
    Calls Tryz.prog 4 args W fun e W' => ∃ v, e = .returned v ∧ Rows.elimOrdersSpec.post enc Tryz.prog Tryz.f4 false true false false W args v W' := by
  have hval : ∀ (j : Nat) t v, Tryz.f4.params[j]? = some t → args[j]? = some v → Value.okWide Tryz.prog W .any base t v := hval0
  have hW' := hW
  obtain ⟨p, q, hA0, hV, rfl, hfz, hnd⟩ := hW
  have hA : DataW.TrodAll enc Tryz.prog W 0 (fun _ => true) true Tryz.f4.params.toList args.toList ds p := hA0
  have hsz : (DataW.weightsEach Tryz.prog (Tryz.f4.params.toList ++ []) (ds ++ gs)).all (· ≤ reachBytes) = true := hsz0
  clear hsz0
  rw [Tryz.params4] at hA hval hsz
  obtain ⟨v0, vs0, d0, ds0, p0, q0, hargs, rfl, rfl, h0, r0⟩ := trodAll_cons hA
  obtain ⟨v1, vs1, d1, ds1, p1, q1, rfl, rfl, rfl, h1, r1⟩ := trodAll_cons r0
  obtain ⟨v2, vs2, d2, ds2, p2, q2, rfl, rfl, rfl, h2, r2⟩ := trodAll_cons r1
  obtain ⟨rfl, rfl, rfl⟩ := trodAll_nil r2
  obtain rfl : args = #[v0, v1, v2] := by cases args; simp_all
  obtain ⟨rfl, rfl⟩ := trodVars_none hV
  obtain ⟨a0, len0, cap0, rfl⟩ := okWide_slice Tryz.underlying23 (hval 0 23 v0 rfl rfl)
  have k0 := h0
  have lt0 : ∀ x ∈ p0, x.block < W.heap.size := by obtain ⟨m, hm⟩ := k0; exact DataW.trod_lt m _ _ _ hm
  obtain ⟨z0, w0, m0⟩ : ∃ zs, HK .u8 W a0 len0 cap0 zs ∧ len0 ≤ 140737488351232 := by
    obtain ⟨fuel, hf⟩ := h0
    rcases open_ints Tryz.underlying23 Tryz.underlying5 (by kernel_rfl) hf with ⟨hcs, _⟩ | ⟨x, l, c, zs, hcs, _, hl, hm, hz, hx, hcell, hwz⟩
    · simp [Value.cells] at hcs
      obtain ⟨rfl, rfl, rfl⟩ := hcs
      exact ⟨[], .inl ⟨rfl, rfl, rfl, rfl⟩, Nat.zero_le _⟩
    · simp [Value.cells] at hcs
      obtain ⟨rfl, rfl, rfl⟩ := hcs
      have e : d0 = _ := congrArg Prod.fst hx
      have hb := sized_slice hsz (j := 0) (t := 23) (e := 5) rfl (by rw [e]; rfl) Tryz.underlying23
      rw [show Tryz.prog.bytesOf 5 = 1 from by kernel_rfl] at hb
      have hz' : zs.length = cap0 := by simpa using hz
      have h1 : ∀ l : List Int, (ChangeShapes.lits (H := H) .u8 l).length = l.length := fun l => by simp [ChangeShapes.lits]
      rw [h1, h1, List.length_take, List.length_drop] at hb
      have h2 : reachBytes = 140737488351232 := by decide
      exact ⟨zs, .inr ⟨_, rfl, hl, hm, hz', hcell, hwz⟩, by omega⟩
  obtain ⟨a1, len1, cap1, rfl⟩ := okWide_slice Tryz.underlying54 (hval 1 54 v1 rfl rfl)
  have k1 := h1
  have lt1 : ∀ x ∈ p1, x.block < W.heap.size := by obtain ⟨m, hm⟩ := k1; exact DataW.trod_lt m _ _ _ hm
  obtain ⟨fuel1, hf1⟩ := h1
  obtain ⟨l1, s1, g1⟩ := Vm.op hf1
  obtain ⟨n2, rfl, rfl, rfl, V⟩ := open_int Tryz.underlying5 (hval 2 5 v2 rfl rfl) h2
  clear hA0 hval0
  refine (walk a0 len0 cap0 z0 a1 len1 cap1 l1 n2 W w0 m0 s1 g1 V (table hL)).X fun e W' ⟨he, bel⟩ => ?_
  subst he
  exact ⟨_, rfl, _, _, _, [], _, [], hW', trodAll_mk1 (shut_bool Tryz.underlying4 _), (trodAll_cons_mk (Below.trod laidOut (by kernel_rfl) (rc (by kernel_rfl)) k0 bel lt0) (trodAll_cons_mk (Below.trod laidOut (by kernel_rfl) (rc (by kernel_rfl)) k1 bel lt1) (trodAll_cons_mk (shut_int Tryz.underlying5 V) trodAll_mk0))), rfl, bel.frame _, fun h => by cases h⟩

/-- a world for the witness: the settled one, the table holding what its initialiser lays -/
noncomputable def Al (os : Os) : World :=
  { World.holding Tryz.prog os ⟨#[], #[], []⟩ with heap := ((((World.holding Tryz.prog os ⟨#[], #[], []⟩).heap.modify 0 (fun
      | .cells _ t frozen => .cells (([0, 1, 56, 2, 57, 49, 28, 3, 61, 58, 42, 50, 38, 29, 17, 4, 62, 47, 59, 36, 45, 43, 51, 22, 53, 39, 33, 30, 24, 18, 12, 5, 63, 55, 48, 27, 60, 41, 37, 16, 46, 35, 44, 21, 52, 32, 23, 11, 54, 26, 40, 15, 34, 20, 31, 10, 25, 14, 19, 9, 13, 8, 7, 6] : List Int).map fun z => Value.int .u8 z).toArray t frozen
      | o => o)).modify 1 (fun
      | .cells _ t frozen => .cells (sU.map fun z => Value.int .u64 z).toArray t frozen
      | o => o)).modify 2 (fun
      | .cells _ t frozen => .cells (([0, 1, 28, 2, 29, 14, 24, 3, 30, 22, 20, 15, 25, 17, 4, 8, 31, 27, 13, 23, 21, 19, 16, 7, 26, 12, 18, 6, 11, 5, 10, 9] : List Int).map fun z => Value.int .u8 z).toArray t frozen
      | o => o)) }
theorem Vo (os : Os) : laidMet Tryz.prog Rows.elimOrdersRow.laid ((Al os).forCall (fun _ _ => 0) ⟨#[], #[.slice none 0 0, .slice none 0 0, .int .u8 0], []⟩).memory :=
  laidMet_of_run' 8 (by kernel_rfl) (by kernel_rfl)
theorem reads (os : Os) {H : Type} (enc : TypeId × Value → H) : ∃ places, DataW.whole enc Tryz.prog ((Al os).forCall (fun _ _ => 0) ⟨#[], #[.slice none 0 0, .slice none 0 0, .int .u8 0], []⟩).memory Tryz.f4.params.toList Rows.elimOrdersSpec.vars false (#[.slice none 0 0, .slice none 0 0, .int .u8 0] : Array Value).toList 8 = some ([.nil, .nil, .lit (.int .u8 0)], [], places) :=
  ⟨[], by kernel_rfl⟩

set_option maxRecDepth 100000 in
theorem lifted (os : Os) (started : os.Started) (H : Type) (enc : TypeId × Value → H) (F : Stop.Interp) :
    ReturnsInHanded {} Tryz.checked os 4 .any ((OpenSpec.ofChange Rows.elimOrdersSpec).preRow enc Tryz.prog Tryz.f4 Rows.elimOrdersRow.domain false Rows.elimOrdersRow.laid) (((OpenSpec.ofChange Rows.elimOrdersSpec).at F).post enc Tryz.prog Tryz.f4 false true false false) := by
  obtain ⟨places, hx⟩ := reads os enc
  refine returnsInHanded_of_row (C := Tryz.checked) (s := OpenSpec.ofChange Rows.elimOrdersSpec) own started (by kernel_rfl) Tryz.func4
    (witness_row_at (enc := enc) (C := Tryz.checked) false (Al os) #[.slice none 0 0, .slice none 0 0, .int .u8 0] rfl (by kernel_rfl) (by kernel_rfl) (by kernel_rfl)
      (OpenSpec.preRow_of_cond 8 hx (by kernel_rfl) (fun k hk => by cases hk) (by kernel_rfl) (Vo os))) ?_
  intro W base args ds gs before hval hW _ _ hsz hL _ _
  exact Vn H enc W base args ds gs before hval hW hL hsz

end Go.Proofs.YtkcigodpbndobaaGreatDoor.elimOrders
