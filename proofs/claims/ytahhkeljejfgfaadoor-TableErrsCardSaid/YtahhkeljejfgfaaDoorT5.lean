/- TableSums: sums of tables over one scope are the document's, and their order does not matter. -/
import Derived.Test.YtahhkeljejfgfaaDoorL25
import Derived.Test.YtahhkeljejfgfaaDoorT1
namespace Go.Proofs.YtahhkeljejfgfaaDoor
open Go Go.Vc Go.RowKit Go.Proofs Go.Proofs.Tryd
set_option maxRecDepth 100000

theorem tJoinRng {w : World} {g gc ga gac : Nat} {sv sv2 rv : Value} {s : List Int} {k : Int} {c1 c2 : List Int} (h1 : Tab w g gc sv s k c1) (h2 : Tab w ga gac sv2 s k c2) (hr : LS .i64 w rv (rng s.length)) (hk : right k) (hin1 : ∀ x ∈ c1, inK x k) (hin2 : ∀ x ∈ c2, inK x k) :
    Cal prog F.table_Join [.pointer (some ⟨g, 0, none⟩), rv, .pointer (some ⟨ga, 0, none⟩), rv] w fun v w' => Ext w w' ∧ ∃ gu guc su vx, v = .tuple #[.pointer (some ⟨gu, 0, none⟩), vx, .int .i64 0] ∧ Tab w' gu guc su s k (addC s c1 c2 k) := by
  have hf : Fits s (rng s.length) := ⟨rng_length _, rng_rise _⟩
  have hp := h1.2.1.2.2
  have hz := h1.2.2.1
  refine (tJoin h1 h2 hr hr hk hin1 hin2).mono ?_
  rintro v w' _ ⟨hx, _, h3⟩
  obtain ⟨vars, hJV, _, h4⟩ := h3 ⟨hf, hf⟩
  have hvr := joinVars_same hJV (rng_up _)
  subst hvr
  obtain ⟨_, _, _, h5⟩ := h4 fun p _ _ _ => rfl
  rw [joinS_rng, joinC_rng] at h5
  obtain ⟨gu, guc, su, vx, h6, h7, _⟩ := h5 rfl hz hp
  exact ⟨hx, gu, guc, su, vx, h6, h7⟩
theorem makeC_in {s l : List Int} {k : Int} (hk : right k) : ∀ x ∈ makeC s k l, inK x k := fun x hx => by
  obtain ⟨q, _, rfl⟩ := List.mem_map.1 hx
  have h := costN_in (k := k) (by have := hk.1; omega) l[q]?
  exact ⟨hk, h.1, h.2⟩

set_option maxHeartbeats 2000000 in
theorem lSums {lv av bv cv : Value} {l a b c : List Int} {k : Int} {w : World} (hl : LS .u8 w lv l) (h8 : ∀ x ∈ l, 0 ≤ x ∧ x < 256) (hk : 0 ≤ k ∧ k < 65536) (ha : LS .u16 w av a) (ha16 : ∀ x ∈ a, 0 ≤ x ∧ x < 65536) (hb : LS .u16 w bv b) (hb16 : ∀ x ∈ b, 0 ≤ x ∧ x < 65536) (hc : LS .u16 w cv c) (hc16 : ∀ x ∈ c, 0 ≤ x ∧ x < 65536) (hlaid : Laid w) :
    Cal prog F.law04_TableSums [lv, .int .u16 k, av, bv, cv] w fun v w' => v = .bool true ∧ Ext w w' := by
  apply law04_TableSums.enter
  unfold law04_TableSums.body
  have hkr := topN_right (k := k)
  refine (lAwake hlaid).mono ?_
  rintro _ w1 _ ⟨rfl, hx1⟩
  simp only [un_not, Bool.not_true, split_false]
  refine (lTop hk).mono ?_
  rintro _ w2 _ ⟨rfl, hx2⟩
  have hx02 := hx1.trans hx2
  refine (lMade (hl.ext hx02) h8 (ha.ext hx02) ha16 hkr.1 (by omega)).mono ?_
  rintro _ w3 _ ⟨hx3, g, gc, sv, gx, xs, xc, gs, rfl, hT, hxs, hxc, _⟩
  have hx03 := hx02.trans hx3
  have hsv := hxs.ls.cells
  have hcvv := hxc.ls.cells
  rw [extract_tuple (v := .pointer (some ⟨g, 0, none⟩)) rfl, extract_tuple (v := .agg #[xs, .int .i64 (topN k), xc]) rfl]
  refine alloc_c T.t_ref04_Table.i fun gb w4 hgb hx4 hb4 => ?_
  refine store_whole (vs := [xs, .int .i64 (topN k), xc]) T.t_ref04_Table.i rfl rfl (by intro u hu; simp at hu; rcases hu with rfl | rfl | rfl; exact hsv.2; rfl; exact hcvv.2) hb4 fun w5 hc5 hs5 hb5 => ?_
  have hx35 : Ext w3 w5 := hx4.then hc5 (by rintro r hr rfl; omega)
  have hx05 := hx03.trans hx35
  refine (lTop hk).mono ?_
  rintro _ w6 _ ⟨rfl, hx6⟩
  have hx06 := hx05.trans hx6
  refine (lMade (hl.ext hx06) h8 (hb.ext hx06) hb16 hkr.1 (by omega)).mono ?_
  rintro _ w7 _ ⟨hx7, g2, gc2, sv2, gx2, xs2, xc2, gs2, rfl, hT2, hxs2, hxc2, _⟩
  have hsv2 := hxs2.ls.cells
  have hcvv2 := hxc2.ls.cells
  rw [extract_tuple (v := .pointer (some ⟨g2, 0, none⟩)) rfl, extract_tuple (v := .agg #[xs2, .int .i64 (topN k), xc2]) rfl]
  refine alloc_c T.t_ref04_Table.i fun gb2 w8 hgb2 hx8 hb8 => ?_
  refine store_whole (vs := [xs2, .int .i64 (topN k), xc2]) T.t_ref04_Table.i rfl rfl (by intro u hu; simp at hu; rcases hu with rfl | rfl | rfl; exact hsv2.2; rfl; exact hcvv2.2) hb8 fun w9 hc9 hs9 hb9 => ?_
  have hx79 : Ext w7 w9 := hx8.then hc9 (by rintro r hr rfl; omega)
  have hx09 := (hx06.trans hx7).trans hx79
  refine (lTop hk).mono ?_
  rintro _ w10 _ ⟨rfl, hx10⟩
  have hx010 := hx09.trans hx10
  refine (lMade (hl.ext hx010) h8 (hc.ext hx010) hc16 hkr.1 (by omega)).mono ?_
  rintro _ w11 _ ⟨hx11, g3, gc3, sv3, gx3, xs3, xc3, gs3, rfl, hT3, hxs3, hxc3, _⟩
  have hsv3 := hxs3.ls.cells
  have hcvv3 := hxc3.ls.cells
  rw [extract_tuple (v := .pointer (some ⟨g3, 0, none⟩)) rfl, extract_tuple (v := .agg #[xs3, .int .i64 (topN k), xc3]) rfl]
  refine alloc_c T.t_ref04_Table.i fun gb3 w12 hgb3 hx12 hb12 => ?_
  refine store_whole (vs := [xs3, .int .i64 (topN k), xc3]) T.t_ref04_Table.i rfl rfl (by intro u hu; simp at hu; rcases hu with rfl | rfl | rfl; exact hsv3.2; rfl; exact hcvv3.2) hb12 fun w13 hc13 hs13 hb13 => ?_
  have hx1113 : Ext w11 w13 := hx12.then hc13 (by rintro r hr rfl; omega)
  have hx713 := hx79.trans (hx10.trans (hx11.trans hx1113))
  have hx513 := hx6.trans (hx7.trans hx713)
  have hx313 := hx35.trans hx513
  have hx013 := hx03.trans hx313
  obtain ⟨hsz, hs3, hs4⟩ := smallN_sizes (l := l)
  have hple : prodN (smallN l) ≤ 64 := (prod_small hs3 hs4).2
  have hpb := prod_bound hsz
  have hkk := hkr.1
  have hi1 := makeC_in (s := smallN l) (l := a) hkr.1
  have hi2 := makeC_in (s := smallN l) (l := b) hkr.1
  have hi3 := makeC_in (s := smallN l) (l := c) hkr.1
  have hcl : (makeC (smallN l) (topN k) a).length = (prodN (smallN l)).toNat := makeC_length _ _ _
  have hK2 := hkr.2
  have T1 := hT.ext hx313
  have T2 := hT2.ext hx713
  have T3 := hT3.ext hx1113
  have hb5 := hb5.ext hx513
  have hxs5 := hxs.ls.ext hx313
  have hxc5 := hxc.ls.ext hx313
  generalize makeC (smallN l) (topN k) a = ca at *
  generalize makeC (smallN l) (topN k) b = cb at *
  generalize makeC (smallN l) (topN k) c = cc at *
  generalize smallN l = szs at *
  generalize topN k = K at *
  rw [field_at T.t_ref04_Table.p rfl, load_cell (by kernel_rfl) (hb5.cell (o := 0 + 0) rfl), len_ls T.t_sl_int.u hxs5]
  refine (lScopeNil (n := szs.length) (by omega)).mono ?_
  rintro rv w14 _ ⟨hx14, gr, hgr, hR⟩
  refine (tJoinRng (T1.ext hx14) (T1.ext hx14) hR.ls hkk hi1 hi1).mono ?_
  rintro _ w15 _ ⟨hx15, gu, guc, su, vx, rfl, hU⟩
  rw [extract_tuple (v := .pointer (some ⟨gu, 0, none⟩)) rfl, extract_tuple (v := vx) rfl, extract_tuple (v := .int .i64 0) rfl]
  have hx1315 := hx14.trans hx15
  simp only [binS_neq, ne_eq, not_true_eq_false, decide_false, split_false]
  refine (tEntries hU).mono ?_
  rintro ev w16 _ ⟨hx16, ge, hge, hE⟩
  have hal := addC_length szs ca ca K
  have hx1316 := hx1315.trans hx16
  rw [len_ls T.t_sl_int64.u hE.ls]
  refine Loop2.range (addC szs ca ca K).length (fun i _ w17 => Ext w16 w17) (by omega) (Ext.refl _) ?_ ?_
  · rintro i _ w17 kk hi hx17 hkk2
    simp only [binS_lss, split_dec]
    refine ⟨fun _ => ?_, fun h => by omega⟩
    have hx1317 := hx1316.trans hx17
    obtain ⟨x, hx⟩ : ∃ x, ca[i]? = some x := ⟨_, List.getElem?_eq_getElem (by omega)⟩
    have hxi := (hi1 x (List.mem_of_getElem? hx)).2
    have hg : getC szs ca (tupN szs i) = x := by
      have h1 : idxN szs (tupN szs i) 0 = some (i : Int) := idx_tup hsz.2 (by omega) (by omega)
      unfold getC
      rw [h1]
      simp only [Int.toNat_natCast]
      rw [List.getD_eq_getElem?_getD, hx]; rfl
    have he : (addC szs ca ca K)[i]? = some (min (x + x) K) := by
      unfold addC
      rw [List.getElem?_map, List.getElem?_range (by omega), Option.map_some, hg]
    rw [get_ls T.t_sl_int64.u T.t_int64.i (by kernel_rfl) (hE.ls.ext hx17) he]
    intro w18 hx18 _ _
    have hb18 := (hb5.ext hx1317).ext hx18
    have hc18 := (hxc5.ext hx1317).ext hx18
    rw [field_at T.t_ref04_Table.p rfl, load_cell (by kernel_rfl) (hb18.cell (o := 0 + 2) rfl), get_ls T.t_sl_int64.u T.t_int64.i (by kernel_rfl) hc18 hx, field_at T.t_ref04_Table.p rfl, load_cell (by kernel_rfl) (hb18.cell (o := 0 + 2) rfl), get_ls T.t_sl_int64.u T.t_int64.i (by kernel_rfl) hc18 hx, field_at T.t_ref04_Table.p rfl, load_cell (by kernel_rfl) (hb18.cell (o := 0 + 1) rfl)]
    refine (rAdd (by omega) (by omega)).mono ?_
    rintro _ w19 _ ⟨rfl, hx19⟩
    simp only [binS_neq, ne_eq, not_true_eq_false, decide_false, split_false, binS_add]
    exact hkk2 _ _ ((hx17.trans hx18).trans hx19)
  · rintro _ w17 kk hx17
    simp only [binS_lss, split_dec]
    refine ⟨fun h => by omega, fun _ => ?_⟩
    have hx1317 := hx1316.trans hx17
    have hx1417 := (hx15.trans hx16).trans hx17
    refine (tJoinRng (T1.ext hx1317) (T2.ext hx1317) (hR.ls.ext hx1417) hkk hi1 hi2).mono ?_
    rintro _ w20 _ ⟨hx20, gu1, guc1, su1, vx1, rfl, hU1⟩
    rw [extract_tuple (v := .pointer (some ⟨gu1, 0, none⟩)) rfl, extract_tuple (v := vx1) rfl, extract_tuple (v := .int .i64 0) rfl]
    have hx1320 := hx1317.trans hx20
    have hx1420 := hx1417.trans hx20
    refine (tJoinRng hU1 (T3.ext hx1320) (hR.ls.ext hx1420) hkk (addC_in hkk hi1 hi2) hi3).mono ?_
    rintro _ w21 _ ⟨hx21, gu2, guc2, su2, vx2, rfl, hU2⟩
    rw [extract_tuple (v := .pointer (some ⟨gu2, 0, none⟩)) rfl, extract_tuple (v := vx2) rfl, extract_tuple (v := .int .i64 0) rfl]
    have hx1321 := hx1320.trans hx21
    have hx1421 := hx1420.trans hx21
    refine (tJoinRng (T3.ext hx1321) (T2.ext hx1321) (hR.ls.ext hx1421) hkk hi3 hi2).mono ?_
    rintro _ w22 _ ⟨hx22, gu3, guc3, su3, vx3, rfl, hU3⟩
    rw [extract_tuple (v := .pointer (some ⟨gu3, 0, none⟩)) rfl, extract_tuple (v := vx3) rfl, extract_tuple (v := .int .i64 0) rfl]
    have hx1322 := hx1321.trans hx22
    have hx1422 := hx1421.trans hx22
    refine (tJoinRng hU3 (T1.ext hx1322) (hR.ls.ext hx1422) hkk (addC_in hkk hi3 hi2) hi1).mono ?_
    rintro _ w23 _ ⟨hx23, gu4, guc4, su4, vx4, rfl, hU4⟩
    rw [extract_tuple (v := .pointer (some ⟨gu4, 0, none⟩)) rfl, extract_tuple (v := vx4) rfl, extract_tuple (v := .int .i64 0) rfl]
    refine (tSame ((hU2.ext hx22).ext hx23) hU4).mono ?_
    rintro _ w24 _ ⟨rfl, hx24⟩
    refine ⟨?_, (hx013.trans (hx1322.trans hx23)).trans hx24⟩
    simp [addC_turn hsz.2 hkk hi1 hi2 hi3]
end Go.Proofs.YtahhkeljejfgfaaDoor
