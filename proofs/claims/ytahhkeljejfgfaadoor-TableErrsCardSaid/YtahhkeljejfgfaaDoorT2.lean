/- TableOuts: without a place a table is the document's. -/
import Derived.Test.YtahhkeljejfgfaaDoorL16
import Derived.Test.YtahhkeljejfgfaaDoorT1
namespace Go.Proofs.YtahhkeljejfgfaaDoor
open Go Go.Vc Go.RowKit Go.Proofs Go.Proofs.Tryd
set_option maxRecDepth 100000

section
variable {P : Program} {w : World} {t : TypeId} {cx cy : Bool} {a b : Nat} {K : Value → Prop}
theorem u32_shr {k : IntKind} {n : Nat} (hn : n < 32) : RunQ P (binS .shr t cx cy (.int .u32 (a : Int)) (.int k (n : Int))) w K = K (.int .u32 ((a / 2 ^ n : Nat) : Int)) := RunQ.of fun w' _ => by
  have e : (a : Int).fdiv (2 ^ min n IntKind.u32.bits) = ((a / 2 ^ n : Nat) : Int) := by
    have : min n IntKind.u32.bits = n := Nat.min_eq_left (by show n ≤ 32; omega)
    rw [this, Int.fdiv_eq_ediv_of_nonneg _ (by exact Int.le_of_lt (Int.pow_pos (by omega)))]
    simp
  simp only [binS, eqGuard, binOp, Op.shift, Int.toNat_natCast, e]
  simp [show ¬ (n : Int) < 0 by omega]
theorem u32_and1 (ha : a < 2 ^ 32) : RunQ P (binS .and t cx cy (.int .u32 (a : Int)) (.int .u32 1)) w K = K (.int .u32 ((a % 2 : Nat) : Int)) := RunQ.of fun w' _ => by
  have e : (BitVec.ofInt 32 (a : Int) &&& BitVec.ofInt 32 (1 : Int)).toNat = a % 2 := by
    rw [BitVec.ofInt_natCast, show BitVec.ofInt 32 (1 : Int) = BitVec.ofNat 32 1 from rfl, BitVec.toNat_and, BitVec.toNat_ofNat, BitVec.toNat_ofNat, Nat.mod_eq_of_lt ha]
    exact Nat.and_one_is_mod a
  have hw : IntKind.u32.wrap ((a % 2 : Nat) : Int) = ((a % 2 : Nat) : Int) := by
    simp only [IntKind.wrap, IntKind.bits, IntKind.signed]
    simp; omega
  have e' : (BitVec.ofInt IntKind.u32.bits (a : Int) &&& BitVec.ofInt IntKind.u32.bits (1 : Int)).toNat = a % 2 := e
  simp only [binS, eqGuard, binOp, Op.intBits, e', hw]
  rfl
end

set_option maxHeartbeats 2000000 in
theorem lOuts {lv cv : Value} {l c : List Int} {k pos bits size : Int} {w : World} (hl : LS .u8 w lv l) (h8 : ∀ x ∈ l, 0 ≤ x ∧ x < 256) (hk : 0 ≤ k ∧ k < 65536) (hc : LS .u16 w cv c) (h16 : ∀ x ∈ c, 0 ≤ x ∧ x < 65536)
    (hpos : -9223372036854775808 ≤ pos ∧ pos < 9223372036854775808) (hbits : 0 ≤ bits ∧ bits < 4294967296) (hsize : -9223372036854775808 ≤ size ∧ size < 9223372036854775808) (hlaid : Laid w) :
    Cal prog F.law04_TableOuts [lv, .int .u16 k, cv, .int .i64 pos, .int .u32 bits, .int .i64 size] w fun v w' => v = .bool true ∧ Ext w w' := by
  obtain ⟨bn, rfl⟩ : ∃ bn : Nat, bits = bn := ⟨bits.toNat, by omega⟩
  apply law04_TableOuts.enter
  unfold law04_TableOuts.body
  refine (lAwake hlaid).mono ?_
  rintro _ w1 _ ⟨rfl, hx1⟩
  simp only [un_not, Bool.not_true, split_false]
  refine (lTop hk).mono ?_
  rintro _ w2 _ ⟨rfl, hx2⟩
  have hx02 := hx1.trans hx2
  have hkr := topN_right (k := k)
  refine (lMade (hl.ext hx02) h8 (hc.ext hx02) h16 hkr.1 (by omega)).mono ?_
  rintro _ w3 _ ⟨hx3, g, gc, sv, gx, xs, xc, gs, rfl, hT, hxs, hxc, _, _, _, _⟩
  obtain ⟨hsz, hs3, hs4⟩ := smallN_sizes (l := l)
  have hple : prodN (smallN l) ≤ 64 := (prod_small hs3 hs4).2
  have hcl : (makeC (smallN l) (topN k) c).length = (prodN (smallN l)).toNat := makeC_length _ _ _
  generalize makeC (smallN l) (topN k) c = cs at *
  generalize smallN l = szs at *
  generalize topN k = K at *
  have hsv := hxs.ls.cells
  have hcvv := hxc.ls.cells
  have hx03 := hx02.trans hx3
  rw [extract_tuple (v := .pointer (some ⟨g, 0, none⟩)) rfl, extract_tuple (v := .agg #[xs, .int .i64 K, xc]) rfl]
  refine alloc_c T.t_ref04_Table.i fun gb w4 hgb hx4 hb4 => ?_
  refine store_whole (vs := [xs, .int .i64 K, xc]) T.t_ref04_Table.i rfl rfl (by intro u hu; simp at hu; rcases hu with rfl | rfl | rfl; exact hsv.2; rfl; exact hcvv.2) hb4 fun w5 hc5 hs5 hb5 => ?_
  have hx35 : Ext w3 w5 := hx4.then hc5 (by rintro r hr rfl; omega)
  have hx05 := hx03.trans hx35
  have hxs5 := (hxs.ext hx35).ls
  have hxc5 := (hxc.ext hx35).ls
  have hT5 := hT.ext hx35
  have hL5 := hlaid.ext hx05
  have hpb := prod_bound hsz
  refine join1 (fun v w6 => w5 = w6 ∧ ∃ n : Int, v = .int .i64 n) ?_ ?_
  · rintro _ _ ⟨rfl, n, rfl⟩
    refine dNew.mono ?_
    rintro dv w7 _ ⟨hx7, hdv⟩
    obtain ⟨nd, e, hnd, rfl⟩ : ∃ (nd : Nat) (e : Int), nd ≤ 32 ∧ dv = .tuple #[domV (2 ^ nd - 1) nd, .int .i64 e] := by
      by_cases h : 1 ≤ n ∧ n ≤ 32
      · rw [if_pos h] at hdv; exact ⟨n.toNat, 0, by omega, hdv⟩
      · rw [if_neg h] at hdv; exact ⟨0, 1, by omega, hdv⟩
    rw [extract_tuple (v := domV (2 ^ nd - 1) nd) rfl, extract_tuple (v := .int .i64 e) rfl]
    refine alloc_c T.t_dom_Set.i fun gd w8 hgd hx8 hbd => ?_
    refine store_whole (vs := [.int .u64 ((2 ^ nd - 1 : Nat) : Int), .int .i64 (nd : Int)]) T.t_dom_Set.i rfl rfl (by intro u hu; simp at hu; rcases hu with rfl | rfl <;> rfl) hbd fun w9 hc9 hs9 hb9 => ?_
    have s7 := hx7.size
    have s8 := hx8.size
    have hx59 : Ext w5 w9 := (hx7.trans hx8).then hc9 (by rintro r hr rfl; omega)
    have ld := hb9.lt
    rw [load_struct T.t_dom_Set.p T.t_dom_Set.i rfl hb9.range]
    refine (dSize (b := 2 ^ nd - 1) (n := nd)).mono ?_
    rintro _ w10 _ ⟨rfl, hx10⟩
    have s10 := hx10.size
    refine Loop2.range nd (fun i values w11 => Ext w5 w11 ∧ ∃ b gv, Blk w11 gd T.t_dom_Set [.int .u64 ((b : Nat) : Int), .int .i64 (nd : Int)] ∧ (∀ j, b.testBit j = (decide (j < nd) && (decide (i ≤ j) || bn.testBit j))) ∧ gd < gv ∧
      LM .i64 T.t_int w11 gv values (((List.range i).filter fun j => bn.testBit j).map fun (x : Nat) => (x : Int))) (by omega)
      ⟨hx59.trans hx10, 2 ^ nd - 1, w10.heap.size, hb9.ext hx10, fun j => by rw [pow_mask]; simp, by omega, LM.nil _ _ _ _⟩ ?_ ?_
    · rintro i values w11 kk hi ⟨hx11, b, gv, hbd11, hbit, hgv, hvals⟩ hkk
      simp only [binS_lss, split_dec]
      refine ⟨fun _ => ?_, fun h => by omega⟩
      have hb64 : Dom b nd := ⟨hnd, lt_pow_of_bits fun j hj => by rw [hbit]; simp [show ¬ j < nd by omega]⟩
      refine join1 (fun values' w12 => Ext w5 w12 ∧ ∃ b gv, Blk w12 gd T.t_dom_Set [.int .u64 ((b : Nat) : Int), .int .i64 (nd : Int)] ∧ (∀ j, b.testBit j = (decide (j < nd) && (decide (i + 1 ≤ j) || bn.testBit j))) ∧ gd < gv ∧
        LM .i64 T.t_int w12 gv values' (((List.range (i + 1)).filter fun j => bn.testBit j).map fun (x : Nat) => (x : Int))) ?_ ?_
      · intro v w12 hI
        simp only [binS_add]
        exact hkk _ _ hI
      · intro J hJ
        have hdl : bn / 2 ^ i < 2 ^ 32 := Nat.lt_of_le_of_lt (Nat.div_le_self _ _) (by omega)
        rw [u32_shr (by omega), u32_and1 hdl]
        simp only [binS_eql, split_dec]
        have hbi : (((bn / 2 ^ i % 2 : Nat) : Int) = 1) ↔ bn.testBit i = true := by
          rw [Nat.testBit_eq_decide_div_mod_eq]
          generalize bn / 2 ^ i % 2 = z
          simp only [decide_eq_true_eq]; omega
        refine ⟨fun h1 => ?_, fun h1 => ?_⟩
        · have h1 := hbi.1 h1
          refine one_c T.t_sl_int.u T.t_int.i rfl fun a ga w13 hga hx13 ha => ?_
          have hfl : (((List.range i).filter fun j => bn.testBit j).map fun (x : Nat) => (x : Int)).length ≤ i := by
            rw [List.length_map]; exact Nat.le_trans (List.length_filter_le _ _) (by simp)
          refine push_lm T.t_sl_int.u T.t_int.i rfl (hvals.ext hx13) ha.ls (by simp only [List.length_cons, List.length_nil]; omega) (by simp only [List.length_cons, List.length_nil]; omega) fun v' g' w14 hg' hv' hc14 => ?_
          have s11 := hx11.size
          have s13 := hx13.size
          have ld11 := hbd11.lt
          refine hJ _ _ ⟨(hx11.trans hx13).then hc14 (by rintro r hr rfl; omega), b, g', (hbd11.ext hx13).chg hc14 (by omega), fun j => ?_, by omega, ?_⟩
          · rw [hbit]
            by_cases hj : j = i
            · subst hj; simp [h1]
            · have : decide (i ≤ j) = decide (i + 1 ≤ j) := by simp; omega
              rw [this]
          · rw [List.range_succ, List.filter_append, List.map_append]
            simpa [h1] using hv'
        · have h1 : bn.testBit i = false := by
            cases hq : bn.testBit i with
            | false => rfl
            | true => exact absurd (hbi.2 hq) h1
          rw [load_struct T.t_dom_Set.p T.t_dom_Set.i rfl hbd11.range]
          refine (dDrop (v := (i : Int)) hb64).mono ?_
          rintro _ w15 _ ⟨rfl, hx15⟩
          rw [if_pos (by omega), Int.toNat_natCast]
          refine store_whole (vs := [.int .u64 ((clrN b (2 ^ i) : Nat) : Int), .int .i64 (nd : Int)]) T.t_dom_Set.i rfl rfl (by intro u hu; simp at hu; rcases hu with rfl | rfl <;> rfl) (hbd11.ext hx15) fun w16 hc16 hs16 hb16 => ?_
          refine hJ _ _ ⟨(hx11.trans hx15).then hc16 (by rintro r hr rfl; omega), _, gv, hb16, fun j => ?_, hgv, ?_⟩
          · rw [clrN_bit, hbit, Nat.testBit_two_pow]
            by_cases hj : j = i
            · subst hj; simp [h1]
            · have : decide (i ≤ j) = decide (i + 1 ≤ j) := by simp; omega
              rw [this]
              by_cases hjn : j < nd
              · simp [hjn, show j < 64 by omega, show ¬ i = j by omega]
              · simp [hjn]
          · rw [List.range_succ, List.filter_append, List.map_append]
            have := (hvals.ext hx15).chg hc16 (fun _ => by omega)
            simpa [h1] using this
    · rintro values w11 kk ⟨hx11, b, gv, hbd11, hbit, hgv, hvals⟩
      simp only [binS_lss, split_dec]
      refine ⟨fun h => by omega, fun _ => ?_⟩
      have hbit' : ∀ j, b.testBit j = (decide (j < nd) && bn.testBit j) := fun j => by
        rw [hbit]
        by_cases hj : j < nd
        · simp [hj, show ¬ nd ≤ j by omega]
        · simp [hj]
      have hdom : Dom b nd := ⟨hnd, lt_pow_of_bits fun j hj => by rw [hbit']; simp [show ¬ j < nd by omega]⟩
      have hve : ((List.range nd).filter fun j => bn.testBit j).map (fun (x : Nat) => (x : Int)) = valsI b nd := by
        unfold valsI valsN
        congr 1
        apply List.filter_congr
        intro j hj
        rw [hbit']
        have : j < nd := by simpa using hj
        simp [this]
      rw [hve] at hvals
      have hx011 := hx05.trans hx11
      rw [load_struct T.t_dom_Set.p T.t_dom_Set.i rfl hbd11.range]
      refine (tOut (pos := pos) (b := b) (n := nd) (hT5.ext hx11) hkr.1 hdom (hL5.ext hx11)).mono ?_
      rintro ov w17 _ ⟨hx17, hbad, hgood⟩
      have hx517 := hx11.trans hx17
      have hx017 := hx05.trans hx517
      obtain ⟨uv, bv, e2, rfl⟩ : ∃ uv bv e2, ov = .tuple #[uv, bv, .int .i64 e2] := by
        by_cases h : 0 ≤ pos ∧ pos < szs.length ∧ (nd : Int) = sizeAt szs pos
        · obtain ⟨i, rfl⟩ : ∃ i : Nat, pos = i := ⟨pos.toNat, by omega⟩
          obtain ⟨gu, guc, su, gb, bv, h1, _⟩ := hgood i rfl (by omega) h.2.2
          exact ⟨_, _, _, h1⟩
        · exact ⟨_, _, _, hbad h⟩
      rw [extract_tuple (v := uv) rfl, extract_tuple (v := bv) rfl, extract_tuple (v := .int .i64 e2) rfl]
      refine join1 (fun v w18 => Ext w17 w18 ∧ v = .bool (decide (¬ (0 ≤ pos ∧ pos < szs.length ∧ (nd : Int) = sizeAt szs pos)))) ?_ ?_
      · rintro _ w18 ⟨hx18, rfl⟩
        have hx018 := hx017.trans hx18
        simp only [split_dec]
        refine ⟨fun hn => ?_, fun hy => ?_⟩
        · have h := hbad hn
          simp only [Value.tuple.injEq, Array.mk.injEq, List.cons.injEq, Value.int.injEq, true_and, and_true] at h
          obtain ⟨rfl, rfl, rfl⟩ := h
          refine join1 (fun v w19 => v = .bool true ∧ w18 = w19) (fun _ _ h => by obtain ⟨rfl, rfl⟩ := h; exact ⟨rfl, hx018⟩) fun J hJ => ?_
          simp only [binS_eql, decide_true, split_true]
          rw [eq_ptr_nil T.t_p_table_Table.u]
          simp only [Option.isNone_none, split_true]
          rw [len_slice T.t_sl_int.u]
          simp only [binS_eql]
          exact hJ _ _ ⟨by simp, rfl⟩
        · have hy := Decidable.not_not.1 hy
          obtain ⟨i, rfl⟩ : ∃ i : Nat, pos = i := ⟨pos.toNat, by omega⟩
          have hi : i < szs.length := by omega
          obtain ⟨gu, guc, su, gb2, bv', h, hU, hB, _⟩ := hgood i rfl hi hy.2.2
          simp only [Value.tuple.injEq, Array.mk.injEq, List.cons.injEq, Value.int.injEq, true_and, and_true] at h
          obtain ⟨rfl, rfl, rfl⟩ := h
          have hx518 := hx517.trans hx18
          have hx1118 := hx17.trans hx18
          rw [load_struct T.t_ref04_Table.p T.t_ref04_Table.i rfl (hb5.ext hx518).range]
          have hvr : ∀ v ∈ valsI b nd, 0 ≤ v ∧ v < sizeAt szs i := fun v hv => by
            obtain ⟨u, hu, rfl⟩ := List.mem_map.1 hv
            have := (valsN_mem.1 hu).1
            rw [← hy.2.2]; omega
          have hpo := prod_erase_le hsz hi
          refine (rOut (k := K) (hxs5.ext hx518) hsz (hxc5.ext hx518) hcl (hvals.ls.ext hx1118) hi hvr (by unfold outS; omega)).mono ?_
          rintro _ w20 _ ⟨hx20, ys, yc, yb, rfl, hys, hyc, hyb⟩
          have hx520 := hx518.trans hx20
          rw [extract_tuple (v := .agg #[ys, .int .i64 K, yc]) rfl, extract_tuple (v := yb) rfl]
          have h1 := hys.cells
          have h2 := hyc.cells
          refine alloc_c T.t_ref04_Table.i fun gy w21 hgy hx21 hby => ?_
          refine store_whole (vs := [ys, .int .i64 K, yc]) T.t_ref04_Table.i rfl rfl (by intro u hu; simp at hu; rcases hu with rfl | rfl | rfl; exact h1.2; rfl; exact h2.2) hby fun w22 hc22 hs22 hb22 => ?_
          have hx2022 : Ext w20 w22 := hx21.then hc22 (by rintro r hr rfl; omega)
          have hx022 := (hx05.trans hx520).trans hx2022
          have hx1822 := hx20.trans hx2022
          refine join1 (fun v w23 => v = .bool true ∧ Ext w22 w23) (fun _ _ h => ⟨h.1, hx022.trans h.2⟩) fun J hJ => ?_
          simp only [binS_eql, decide_true, split_true]
          rw [load_struct T.t_ref04_Table.p T.t_ref04_Table.i rfl hb22.range]
          have hU22 := (hU.ext hx18).ext hx1822
          rw [outC_def] at hU22
          refine (lLike hU22 (hys.ext hx2022) (hyc.ext hx2022)).mono ?_
          rintro _ w24 _ ⟨rfl, hx24⟩
          simp only [and_self, decide_true, split_true]
          refine (sEqual_ints (((hB.ls.ext hx18).ext hx1822).ext hx24) ((hyb.ext hx2022).ext hx24)).mono ?_
          rintro _ w25 _ ⟨rfl, hx25⟩
          simp only [decide_true, split_true]
          have hx525 := ((hx520.trans hx2022).trans hx24).trans hx25
          rw [load_struct T.t_ref04_Table.p T.t_ref04_Table.i rfl (hb5.ext hx525).range]
          refine (lLike (hT5.ext hx525) (hxs5.ext hx525) (hxc5.ext hx525)).mono ?_
          rintro _ w26 _ ⟨rfl, hx26⟩
          exact hJ _ _ ⟨by simp, (hx24.trans hx25).trans hx26⟩
      · intro J hJ
        intro w27 hx27 _ _
        have hb527 := (hb5.ext hx517).ext hx27
        have hxs27 := (hxs5.ext hx517).ext hx27
        have hbd27 := (hbd11.ext hx17).ext hx27
        refine ⟨fun h => ⟨.inl (Ext.refl _), hJ _ _ ⟨hx27, by rw [decide_eq_true]; omega⟩⟩, fun h0 => ?_⟩
        rw [field_at T.t_ref04_Table.p rfl, load_cell (by kernel_rfl) (hb527.cell (o := 0 + 0) rfl), len_ls T.t_sl_int.u hxs27]
        simp only [binS_geq, split_dec]
        refine ⟨fun h => ⟨.inl (Ext.refl _), hJ _ _ ⟨hx27, by rw [decide_eq_true]; omega⟩⟩, fun h1 => ?_⟩
        obtain ⟨i, rfl⟩ : ∃ i : Nat, pos = i := ⟨pos.toNat, by omega⟩
        have hi : i < szs.length := by omega
        rw [load_struct T.t_dom_Set.p T.t_dom_Set.i rfl hbd27.range, field_at T.t_ref04_Table.p rfl, load_cell (by kernel_rfl) (hb527.cell (o := 0 + 0) rfl)]
        refine at_ls rfl T.t_sl_int.u T.t_int.i hxs27 (List.getElem?_eq_getElem hi) fun bi oi hci => ?_
        rw [load_cell (by kernel_rfl) hci]
        refine (dSize (b := b) (n := nd)).mono ?_
        rintro _ w28 _ ⟨rfl, hx28⟩
        refine ⟨.inl hx28, ?_⟩
        simp only [binS_neq]
        refine hJ _ _ ⟨hx27.trans hx28, ?_⟩
        have hai : sizeAt szs i = szs[i] := by unfold sizeAt; rw [if_pos (by omega), List.getD_eq_getElem?_getD, Int.toNat_natCast, List.getElem?_eq_getElem hi]; rfl
        congr 1
        rw [hai]
        have e1 : (0 ≤ (i : Int) ∧ (i : Int) < (szs.length : Int) ∧ (nd : Int) = szs[i]) ↔ (nd : Int) = szs[i] := ⟨fun h => h.2.2, fun h => ⟨by omega, by omega, h⟩⟩
        simp only [e1]
  · intro J hJ
    refine join1 (fun v w29 => w5 = w29 ∧ ∃ c, v = .bool c ∧ (c = true → 0 ≤ pos ∧ pos < szs.length)) ?_ ?_
    · rintro _ _ ⟨rfl, c, rfl, hcp⟩
      rw [split_bool]
      refine ⟨fun hct => ?_, fun _ => hJ _ _ ⟨rfl, _, rfl⟩⟩
      obtain ⟨h0, h1⟩ := hcp hct
      obtain ⟨i, rfl⟩ : ∃ i : Nat, pos = i := ⟨pos.toNat, by omega⟩
      have hi : i < szs.length := by omega
      rw [field_at T.t_ref04_Table.p rfl, load_cell (by kernel_rfl) (hb5.cell (o := 0 + 0) rfl), get_ls T.t_sl_int.u T.t_int.i (by kernel_rfl) hxs5 (List.getElem?_eq_getElem hi)]
      exact hJ _ _ ⟨rfl, _, rfl⟩
    · intro J5 hJ5
      simp only [binS_geq, split_dec]
      refine ⟨fun h0 => ?_, fun _ => hJ5 _ _ ⟨rfl, false, rfl, fun h => by cases h⟩⟩
      rw [field_at T.t_ref04_Table.p rfl, load_cell (by kernel_rfl) (hb5.cell (o := 0 + 0) rfl), len_ls T.t_sl_int.u hxs5]
      simp only [binS_lss, split_dec]
      refine ⟨fun h1 => ?_, fun _ => hJ5 _ _ ⟨rfl, false, rfl, fun h => by cases h⟩⟩
      rw [binS_rem (by decide)]
      simp only [binS_neq]
      exact hJ5 _ _ ⟨rfl, _, rfl, fun _ => ⟨h0, h1⟩⟩
end Go.Proofs.YtahhkeljejfgfaaDoor
