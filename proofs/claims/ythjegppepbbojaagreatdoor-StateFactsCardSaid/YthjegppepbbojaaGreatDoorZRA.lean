/- The row of StateFacts: for every input the law returns true, and its arguments read behind the call as before. No conditions but the table of math/bits as the text lays it (tied). -/
import Derived.Test.YthjegppepbbojaaGreatDoorCards
import Derived.Test.YthjegppepbbojaaGreatDoorTie
import Derived.WalkKit
import Derived.ProofKit
import Derived.OpenShut
import Derived.ShutString
import Derived.ChangeOld
import Derived.Below
import Derived.Deep.DeepHandedRow
import Derived.Lib.LaidTab
import Derived.Stop.LaidErr
import Derived.SizedLaws
import Derived.Test.YthjegppepbbojaaGreatDoorZf
namespace Go.Proofs.YthjegppepbbojaaGreatDoor.stateFacts
set_option maxRecDepth 100000
open Go.ChangeShapes Go.WideShapes Go.ChangeAt Go.RowKit
open Go.Proofs.YthjegppepbbojaaGreatDoor

theorem own : ownKnob Tryz.prog.godebug = none := by kernel_rfl
theorem laidOut : laidOutB Tryz.prog = true := by kernel_rfl
theorem C9 : Tryz.prog.globalNamed "internal/strconv.uint64pow10" = some 1 := by kernel_rfl
theorem NN : (Tryz.prog.globals[1]?).map (·.type) = some 415 := by kernel_rfl
theorem NO : Tryz.prog.cellsOf 415 = 20 := by kernel_rfl
theorem NP : Tryz.prog.cellsOf 92 = 1 := by kernel_rfl
/-- what the row's list gives: the table -/
theorem NQ {W : World} (h : laidMetH Tryz.prog Rows.stateFactsRow.laid W) : e2 W := fun j v hv => by
  have ht : Lib.TabIs Tryz.prog W "internal/strconv.uint64pow10" .u64 pS := Lib.tabIs_of_head (rest := []) C9 NN Tryz.underlying415 Tryz.underlying92 NP NO (laidMet.tail (laidMet.tail h))
  have hj : j < pS.length := by simpa using (List.getElem?_eq_some_iff.1 hv).1
  rw [Nat.zero_add, ht.cell C9 j hj, ← hv, List.getElem?_map, List.getElem?_eq_getElem hj, List.getD_eq_getElem?_getD, List.getElem?_eq_getElem hj]
  rfl
theorem Da : Tryz.prog.globalNamed "math/bits.deBruijn64tab" = some 0 := by kernel_rfl
theorem NR : (Tryz.prog.globals[0]?).map (·.type) = some 370 := by kernel_rfl
theorem NS : Tryz.prog.cellsOf 370 = 64 := by kernel_rfl
theorem NT : Tryz.prog.cellsOf 5 = 1 := by kernel_rfl
/-- what the row's list gives: the table -/
theorem NU {W : World} (h : laidMetH Tryz.prog Rows.stateFactsRow.laid W) : Laid W := fun j v hv => by
  have ht : Lib.TabIs Tryz.prog W "math/bits.deBruijn64tab" .u8 rI := Lib.tabIs_of_head Da NR Tryz.underlying370 Tryz.underlying5 NT NS (laidMet.tail h)
  have hj : j < rI.length := by simpa using (List.getElem?_eq_some_iff.1 hv).1
  rw [Nat.zero_add, ht.cell Da j hj, ← hv, List.getElem?_map, List.getElem?_eq_getElem hj, List.getD_eq_getElem?_getD, List.getElem?_eq_getElem hj]
  rfl
theorem table {W : World} (h : laidMetH Tryz.prog Rows.stateFactsRow.laid W) : e2 W ∧ Laid W := ⟨NQ h, NU h⟩
/-- a slice of integers that came in: nil; or it leads to a row of 'cap' cells -/
def Db (k : IntKind) (w : World) (a : Option Addr) (len cap : Nat) (zs : List Int) : Prop :=
  (a = none ∧ len = 0 ∧ cap = 0 ∧ zs = []) ∨
  ∃ x, a = some x ∧ len ≤ cap ∧ cap ≤ maxLen ∧ zs.length = cap ∧ (∀ i, i < zs.length → w.cell? (x.add i) = some (.int k (zs.getD i 0))) ∧ ∀ n ∈ zs, (Lit.int k n).wf = true

abbrev qG : Type := (List ((Go.Vc.eR .u8) × (Int × (Int × (Int × (Int × ((List Int) × ((List Int) × ((List (Go.Vc.eR .u16)) × Bool)))))))))
abbrev sZ : qG → Prop := (fun l : List ((Go.Vc.eR .u8) × (Int × (Int × (Int × (Int × ((List Int) × ((List Int) × ((List (Go.Vc.eR .u16)) × Bool)))))))) => ∀ a ∈ l, (fun p : (Go.Vc.eR .u8) × (Int × (Int × (Int × (Int × ((List Int) × ((List Int) × ((List (Go.Vc.eR .u16)) × Bool))))))) => (fun n : Go.Vc.eR .u8 => IntKind.u8.min ≤ n.val ∧ n.val ≤ IntKind.u8.max) p.1 ∧ (fun p : Int × (Int × (Int × (Int × ((List Int) × ((List Int) × ((List (Go.Vc.eR .u16)) × Bool)))))) => (fun n : Int => IntKind.i64.min ≤ n ∧ n ≤ IntKind.i64.max) p.1 ∧ (fun p : Int × (Int × (Int × ((List Int) × ((List Int) × ((List (Go.Vc.eR .u16)) × Bool))))) => (fun n : Int => IntKind.i64.min ≤ n ∧ n ≤ IntKind.i64.max) p.1 ∧ (fun p : Int × (Int × ((List Int) × ((List Int) × ((List (Go.Vc.eR .u16)) × Bool)))) => (fun n : Int => IntKind.i64.min ≤ n ∧ n ≤ IntKind.i64.max) p.1 ∧ (fun p : Int × ((List Int) × ((List Int) × ((List (Go.Vc.eR .u16)) × Bool))) => (fun n : Int => IntKind.i64.min ≤ n ∧ n ≤ IntKind.i64.max) p.1 ∧ (fun p : (List Int) × ((List Int) × ((List (Go.Vc.eR .u16)) × Bool)) => (fun l : List Int => ∀ a ∈ l, (fun n : Int => IntKind.i64.min ≤ n ∧ n ≤ IntKind.i64.max) a) p.1 ∧ (fun p : (List Int) × ((List (Go.Vc.eR .u16)) × Bool) => (fun l : List Int => ∀ a ∈ l, (fun n : Int => IntKind.i64.min ≤ n ∧ n ≤ IntKind.i64.max) a) p.1 ∧ (fun p : (List (Go.Vc.eR .u16)) × Bool => (fun l : List (Go.Vc.eR .u16) => ∀ a ∈ l, (fun n : Go.Vc.eR .u16 => IntKind.u16.min ≤ n.val ∧ n.val ≤ IntKind.u16.max) a) p.1 ∧ (fun _ : Bool => True) p.2) p.2) p.2) p.2) p.2) p.2) p.2) p.2) a)
theorem wz : Go.Vc.k5 Tryz.prog 45 qG sZ :=
  (Go.Vc.rF Tryz.underlying45 (Go.Vc.G9 Tryz.underlying49 (Go.Vc.lT (Go.Vc.yX Tryz.underlying5) rfl (by kernel_rfl) (Go.Vc.lT (Go.Vc.oa Tryz.underlying3) rfl (by kernel_rfl) (Go.Vc.lT (Go.Vc.oa Tryz.underlying3) rfl (by kernel_rfl) (Go.Vc.lT (Go.Vc.oa Tryz.underlying3) rfl (by kernel_rfl) (Go.Vc.lT (Go.Vc.oa Tryz.underlying2) rfl (by kernel_rfl) (Go.Vc.lT (Go.Vc.rF Tryz.underlying26 (Go.Vc.oa Tryz.underlying3) (by kernel_rfl) (by decide)) rfl (by kernel_rfl) (Go.Vc.lT (Go.Vc.rF Tryz.underlying26 (Go.Vc.oa Tryz.underlying3) (by kernel_rfl) (by decide)) rfl (by kernel_rfl) (Go.Vc.lT (Go.Vc.rF Tryz.underlying47 (Go.Vc.yX Tryz.underlying230) (by kernel_rfl) (by decide)) rfl (by kernel_rfl) (Go.Vc.G8 (Go.Vc.G5 Tryz.underlying4) rfl (by kernel_rfl)))))))))) (by kernel_rfl)) (by kernel_rfl) (by decide))
theorem walk (a0 : Option Addr) (len0 cap0 : Nat) (z0 : List Int) (a1 : Option Addr) (len1 cap1 : Nat) (l1 : qG) (a2 : Option Addr) (len2 cap2 : Nat) (l2 : qG) (a3 : Option Addr) (len3 cap3 : Nat) (l3 : qG) (w : World) (w0 : Db .u8 w a0 len0 cap0 z0) (m0 : len0 ≤ 140737488351232) (s1 : Go.Vc.Seen Go.Vc.dr w [.slice a1 len1 cap1] l1) (g1 : sZ l1) (s2 : Go.Vc.Seen Go.Vc.dr w [.slice a2 len2 cap2] l2) (g2 : sZ l2) (s3 : Go.Vc.Seen Go.Vc.dr w [.slice a3 len3 cap3] l3) (g3 : sZ l3) (hL : (e2 w ∧ Laid w)) :
    Calls Tryz.prog 4 #[.slice a0 len0 cap0, .slice a1 len1 cap1, .slice a2 len2 cap2, .slice a3 len3 cap3] w fun e w' => e = .returned (.bool true) ∧ Below w.heap.size w w' := by
  obtain ⟨h0, g0⟩ := Go.Vc.GA w0
  have l0 : Go.Vc.aH .u8 w (.slice a0 len0 cap0) (z0.take len0) := Go.Vc.aH.of h0
  have b0 : (z0.take len0).length ≤ 140737488351232 := by rw [List.length_take]; omega
  have r0 : ∀ x ∈ (z0.take len0), 0 ≤ x ∧ x < 256 := fun x hx => by
    obtain ⟨h3, h4⟩ := g0 x hx
    have e1 : IntKind.u8.min = 0 := by decide
    have e2 : IntKind.u8.max = 255 := by decide
    omega
  have hen : Go.Vc.Enters Tryz.prog 4 := Go.Vc.Enters.of Tryz.prog (show Tryz.prog.funcs[4]? = some Tryz.f4 from Tryz.func4) rfl (by kernel_rfl)
  exact (Go.Vc.ai.calls (NM l0 r0 s1 (fun x hx => wn (g1 x hx)) s2 (fun x hx => wn (g2 x hx)) s3 (fun x hx => wn (g3 x hx)) hL.1 hL.2) hen).mono fun e w' ⟨v, he, hn, hv, hx⟩ => ⟨by rw [he, hv], Go.Vc.Gz hx hn⟩

theorem NV (H : Type) (enc : TypeId × Value → H) (W : World) (base : Nat) (args : Array Value) (ds gs : List (DataW H)) (before : List MemPlace)
    (hval0 : ∀ (j : Nat) t v, Tryz.f4.params[j]? = some t → args[j]? = some v → Value.okWide Tryz.prog W .any base t v)
    (hW : DataW.Whole enc Tryz.prog Tryz.f4.params.toList Rows.stateFactsSpec.vars false W args.toList ds gs before) (hL : laidMetH Tryz.prog Rows.stateFactsRow.laid W)
    (hsz0 : (DataW.weightsEach Tryz.prog (Tryz.f4.params.toList ++ (OpenSpec.ofChange Rows.stateFactsSpec).bare.plain.varTypes Tryz.prog) (ds ++ gs)).all (· ≤ reachBytes) = true) :
    Calls Tryz.prog 4 args W fun e W' => ∃ v, e = .returned v ∧ Rows.stateFactsSpec.post enc Tryz.prog Tryz.f4 false true false false W args v W' := by
  have hval : ∀ (j : Nat) t v, Tryz.f4.params[j]? = some t → args[j]? = some v → Value.okWide Tryz.prog W .any base t v := hval0
  have hW' := hW
  obtain ⟨p, q, hA0, hV, rfl, hfz, hnd⟩ := hW
  have hA : DataW.TrodAll enc Tryz.prog W 0 (fun _ => true) true Tryz.f4.params.toList args.toList ds p := hA0
  have hsz : (DataW.weightsEach Tryz.prog (Tryz.f4.params.toList ++ []) (ds ++ gs)).all (· ≤ reachBytes) = true := hsz0
  clear hsz0
  rw [Tryz.params4] at hA hval hsz
  obtain ⟨v0, vs0, d0, ds0, p0, q0, hargs, rfl, rfl, h0, r0⟩ := trodAll_cons hA
  obtain ⟨v1, vs1, d1, ds1, p1, q1, rfl, rfl, rfl, h1, r1⟩ := trodAll_cons r0
  obtain ⟨v2, vs2, d2, ds2, p2, q2, rfl, rfl, rfl, h2, r2⟩ := trodAll_cons r1
  obtain ⟨v3, vs3, d3, ds3, p3, q3, rfl, rfl, rfl, h3, r3⟩ := trodAll_cons r2
  obtain ⟨rfl, rfl, rfl⟩ := trodAll_nil r3
  obtain rfl : args = #[v0, v1, v2, v3] := by cases args; simp_all
  obtain ⟨rfl, rfl⟩ := trodVars_none hV
  obtain ⟨a0, len0, cap0, rfl⟩ := okWide_slice Tryz.underlying22 (hval 0 22 v0 rfl rfl)
  have k0 := h0
  have lt0 : ∀ x ∈ p0, x.block < W.heap.size := by obtain ⟨m, hm⟩ := k0; exact DataW.trod_lt m _ _ _ hm
  obtain ⟨z0, w0, m0⟩ : ∃ zs, Db .u8 W a0 len0 cap0 zs ∧ len0 ≤ 140737488351232 := by
    obtain ⟨fuel, hf⟩ := h0
    rcases open_ints Tryz.underlying22 Tryz.underlying5 (by kernel_rfl) hf with ⟨hcs, _⟩ | ⟨x, l, c, zs, hcs, _, hl, hm, hz, hx, hcell, hwz⟩
    · simp [Value.cells] at hcs
      obtain ⟨rfl, rfl, rfl⟩ := hcs
      exact ⟨[], .inl ⟨rfl, rfl, rfl, rfl⟩, Nat.zero_le _⟩
    · simp [Value.cells] at hcs
      obtain ⟨rfl, rfl, rfl⟩ := hcs
      have e : d0 = _ := congrArg Prod.fst hx
      have hb := sized_slice hsz (j := 0) (t := 22) (e := 5) rfl (by rw [e]; rfl) Tryz.underlying22
      rw [show Tryz.prog.bytesOf 5 = 1 from by kernel_rfl] at hb
      have hz' : zs.length = cap0 := by simpa using hz
      have h1 : ∀ l : List Int, (ChangeShapes.lits (H := H) .u8 l).length = l.length := fun l => by simp [ChangeShapes.lits]
      rw [h1, h1, List.length_take, List.length_drop] at hb
      have h2 : reachBytes = 140737488351232 := by decide
      exact ⟨zs, .inr ⟨_, rfl, hl, hm, hz', hcell, hwz⟩, by omega⟩
  obtain ⟨a1, len1, cap1, rfl⟩ := okWide_slice Tryz.underlying45 (hval 1 45 v1 rfl rfl)
  have k1 := h1
  have lt1 : ∀ x ∈ p1, x.block < W.heap.size := by obtain ⟨m, hm⟩ := k1; exact DataW.trod_lt m _ _ _ hm
  obtain ⟨fuel1, hf1⟩ := h1
  obtain ⟨l1, s1, g1⟩ := wz.op hf1
  obtain ⟨a2, len2, cap2, rfl⟩ := okWide_slice Tryz.underlying45 (hval 2 45 v2 rfl rfl)
  have k2 := h2
  have lt2 : ∀ x ∈ p2, x.block < W.heap.size := by obtain ⟨m, hm⟩ := k2; exact DataW.trod_lt m _ _ _ hm
  obtain ⟨fuel2, hf2⟩ := h2
  obtain ⟨l2, s2, g2⟩ := wz.op hf2
  obtain ⟨a3, len3, cap3, rfl⟩ := okWide_slice Tryz.underlying45 (hval 3 45 v3 rfl rfl)
  have k3 := h3
  have lt3 : ∀ x ∈ p3, x.block < W.heap.size := by obtain ⟨m, hm⟩ := k3; exact DataW.trod_lt m _ _ _ hm
  obtain ⟨fuel3, hf3⟩ := h3
  obtain ⟨l3, s3, g3⟩ := wz.op hf3
  clear hA0 hval0
  refine (walk a0 len0 cap0 z0 a1 len1 cap1 l1 a2 len2 cap2 l2 a3 len3 cap3 l3 W w0 m0 s1 g1 s2 g2 s3 g3 (table hL)).mono fun e W' ⟨he, bel⟩ => ?_
  subst he
  exact ⟨_, rfl, _, _, _, [], _, [], hW', trodAll_mk1 (shut_bool Tryz.underlying4 _), (trodAll_cons_mk (Below.trod laidOut (by kernel_rfl) (of_decide_eq_true (by kernel_rfl)) k0 bel lt0) (trodAll_cons_mk (Below.trod laidOut (by kernel_rfl) (of_decide_eq_true (by kernel_rfl)) k1 bel lt1) (trodAll_cons_mk (Below.trod laidOut (by kernel_rfl) (of_decide_eq_true (by kernel_rfl)) k2 bel lt2) (trodAll_cons_mk (Below.trod laidOut (by kernel_rfl) (of_decide_eq_true (by kernel_rfl)) k3 bel lt3) trodAll_mk0)))), rfl, bel.frame _, fun h => by cases h⟩

/-- a world for the witness: the settled one, the table holding what its initialiser lays -/
noncomputable def wA (os : Os) : World :=
  { World.holding Tryz.prog os ⟨#[], #[], []⟩ with heap := ((((World.holding Tryz.prog os ⟨#[], #[], []⟩).heap.modify 0 (fun
      | .cells _ t frozen => .cells (([0, 1, 56, 2, 57, 49, 28, 3, 61, 58, 42, 50, 38, 29, 17, 4, 62, 47, 59, 36, 45, 43, 51, 22, 53, 39, 33, 30, 24, 18, 12, 5, 63, 55, 48, 27, 60, 41, 37, 16, 46, 35, 44, 21, 52, 32, 23, 11, 54, 26, 40, 15, 34, 20, 31, 10, 25, 14, 19, 9, 13, 8, 7, 6] : List Int).map fun z => Value.int .u8 z).toArray t frozen
      | o => o)).modify 1 (fun
      | .cells _ t frozen => .cells (pS.map fun z => Value.int .u64 z).toArray t frozen
      | o => o)).modify 2 (fun
      | .cells _ t frozen => .cells (([0, 1, 28, 2, 29, 14, 24, 3, 30, 22, 20, 15, 25, 17, 4, 8, 31, 27, 13, 23, 21, 19, 16, 7, 26, 12, 18, 6, 11, 5, 10, 9] : List Int).map fun z => Value.int .u8 z).toArray t frozen
      | o => o)) }
theorem NW (os : Os) : laidMet Tryz.prog Rows.stateFactsRow.laid ((wA os).forCall (fun _ _ => 0) ⟨#[], #[.slice none 0 0, .slice none 0 0, .slice none 0 0, .slice none 0 0], []⟩).memory :=
  laidMet_of_run' 8 (by kernel_rfl) (by kernel_rfl)
theorem reads (os : Os) {H : Type} (enc : TypeId × Value → H) : ∃ places, DataW.whole enc Tryz.prog ((wA os).forCall (fun _ _ => 0) ⟨#[], #[.slice none 0 0, .slice none 0 0, .slice none 0 0, .slice none 0 0], []⟩).memory Tryz.f4.params.toList Rows.stateFactsSpec.vars false (#[.slice none 0 0, .slice none 0 0, .slice none 0 0, .slice none 0 0] : Array Value).toList 8 = some ([.nil, .nil, .nil, .nil], [], places) :=
  ⟨[], by kernel_rfl⟩

set_option maxRecDepth 100000 in
theorem lifted (os : Os) (started : os.Started) (H : Type) (enc : TypeId × Value → H) (F : Stop.Interp) :
    ReturnsInHanded {} Tryz.checked os 4 .any ((OpenSpec.ofChange Rows.stateFactsSpec).preRow enc Tryz.prog Tryz.f4 Rows.stateFactsRow.domain false Rows.stateFactsRow.laid) (((OpenSpec.ofChange Rows.stateFactsSpec).at F).post enc Tryz.prog Tryz.f4 false true false false) := by
  obtain ⟨places, hx⟩ := reads os enc
  refine returnsInHanded_of_row (C := Tryz.checked) (s := OpenSpec.ofChange Rows.stateFactsSpec) own started (by kernel_rfl) Tryz.func4
    (witness_row_at (enc := enc) (C := Tryz.checked) false (wA os) #[.slice none 0 0, .slice none 0 0, .slice none 0 0, .slice none 0 0] rfl (by kernel_rfl) (by kernel_rfl) (by kernel_rfl)
      (OpenSpec.preRow_of_cond 8 hx (by kernel_rfl) (fun k hk => by cases hk) (by kernel_rfl) (NW os))) ?_
  intro W base args ds gs before hval hW _ _ hsz hL _ _
  exact NV H enc W base args ds gs before hval hW hL hsz

end Go.Proofs.YthjegppepbbojaaGreatDoor.stateFacts
