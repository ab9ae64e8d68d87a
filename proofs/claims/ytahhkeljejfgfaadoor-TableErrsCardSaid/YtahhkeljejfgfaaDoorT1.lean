/- TableTwice: two places go in whichever order: the least is the same; the least of all is the least entry. -/
import Derived.Test.YtahhkeljejfgfaaDoorL14
namespace Go.Proofs.YtahhkeljejfgfaaDoor
open Go Go.Vc Go.RowKit Go.Proofs Go.Proofs.Tryd
set_option maxRecDepth 100000

theorem full_dom {a : Int} (h : 1 ≤ a ∧ a ≤ 32) : Dom (2 ^ a.toNat - 1) a.toNat := ⟨by omega, by have := Nat.two_pow_pos a.toNat; omega⟩
theorem valsI_full (a : Int) : valsI (2 ^ a.toNat - 1) a.toNat = fullV a := rfl

theorem outC_def (s cs : List Int) (k : Int) (i : Nat) (v : List Int) : (outL s cs k i v).map (·.2) = outC s cs k i v := rfl
set_option maxHeartbeats 1000000 in
theorem lTwice {lv cv : Value} {l c : List Int} {k : Int} {w : World} (hl : LS .u8 w lv l) (h8 : ∀ x ∈ l, 0 ≤ x ∧ x < 256) (hk : 0 ≤ k ∧ k < 65536) (hc : LS .u16 w cv c) (h16 : ∀ x ∈ c, 0 ≤ x ∧ x < 65536) (hlaid : Laid w) :
    Cal prog F.law04_TableTwice [lv, .int .u16 k, cv] w fun v w' => v = .bool true ∧ Ext w w' := by
  apply law04_TableTwice.enter
  unfold law04_TableTwice.body
  refine (lAwake hlaid).mono ?_
  rintro _ w1 _ ⟨rfl, hx1⟩
  simp only [un_not, Bool.not_true, split_false]
  refine (lTop hk).mono ?_
  rintro _ w2 _ ⟨rfl, hx2⟩
  have hx02 := hx1.trans hx2
  have hkr := topN_right (k := k)
  refine (lMade (hl.ext hx02) h8 (hc.ext hx02) h16 hkr.1 (by omega)).mono ?_
  rintro _ w3 _ ⟨hx3, g, gc, sv, gx, xs, xc, gs, rfl, hT, hxs, hxc, _, _, _, _⟩
  obtain ⟨hsz, hs3, hs4⟩ := smallN_sizes (l := l)
  have hple : prodN (smallN l) ≤ 64 := (prod_small hs3 hs4).2
  have hcl : (makeC (smallN l) (topN k) c).length = (prodN (smallN l)).toNat := makeC_length _ _ _
  generalize makeC (smallN l) (topN k) c = cs at *
  generalize smallN l = szs at *
  generalize topN k = K at *
  have hsv := hxs.ls.cells
  have hcvv := hxc.ls.cells
  have hx03 := hx02.trans hx3
  rw [extract_tuple (v := .pointer (some ⟨g, 0, none⟩)) rfl, extract_tuple (v := .agg #[xs, .int .i64 K, xc]) rfl]
  refine alloc_c T.t_ref04_Table.i fun gb w4 hgb hx4 hb4 => ?_
  refine store_whole (vs := [xs, .int .i64 K, xc]) T.t_ref04_Table.i rfl rfl (by intro u hu; simp at hu; rcases hu with rfl | rfl | rfl; exact hsv.2; rfl; exact hcvv.2) hb4 fun w5 hc5 hs5 hb5 => ?_
  have hx35 : Ext w3 w5 := hx4.then hc5 (by rintro r hr rfl; omega)
  have hx05 := hx03.trans hx35
  have hxs5 := (hxs.ext hx35).ls
  have hxc5 := (hxc.ext hx35).ls
  have hT5 := hT.ext hx35
  have hL5 := hlaid.ext hx05
  have hpb := prod_bound hsz
  rw [field_at T.t_ref04_Table.p rfl, load_cell (by kernel_rfl) (hb5.cell (o := 0 + 0) rfl), len_ls T.t_sl_int.u hxs5]
  simp only [binS_lss, split_dec]
  refine ⟨fun hlt => ?_, fun hge => ?_⟩
  · rw [field_at T.t_ref04_Table.p rfl, load_cell (by kernel_rfl) (hb5.cell (o := 0 + 2) rfl), len_ls T.t_sl_int64.u hxc5]
    simp only [binS_gtr]
    exact ⟨by rw [decide_eq_true]; omega, hx05⟩
  · obtain ⟨a, b, r, rfl, hr⟩ : ∃ a b r, szs = a :: b :: r ∧ r.length ≤ 1 := by
      match szs, hge, hs3 with
      | a :: b :: r, _, h3 => exact ⟨a, b, r, rfl, by simpa using h3⟩
      | [_], h, _ => simp at h
      | [], h, _ => simp at h
    have hSZ : SZ (a :: b :: r) := hsz.2
    have ha := hSZ a (.head _)
    have hb := hSZ b (.tail _ (.head _))
    have pt : ∀ {P : Prop}, P → P := id
    rw [field_at T.t_ref04_Table.p rfl, load_cell (by kernel_rfl) (hb5.cell (o := 0 + 0) rfl), get_ls_at (y := 0) (i := 0) rfl T.t_sl_int.u T.t_int.i (by kernel_rfl) hxs5 (by rfl)]
    refine dNew.mono ?_
    rintro _ w6 _ ⟨hx6, rfl⟩
    rw [if_pos ha, extract_tuple (v := domV (2 ^ a.toNat - 1) a.toNat) rfl, extract_tuple (v := .int .i64 0) rfl]
    refine alloc_c T.t_dom_Set.i fun ga w7 hga hx7 hba => ?_
    refine store_whole (vs := [.int .u64 ((2 ^ a.toNat - 1 : Nat) : Int), .int .i64 (a.toNat : Int)]) T.t_dom_Set.i rfl rfl (by intro u hu; simp at hu; rcases hu with rfl | rfl <;> rfl) hba fun w8 hc8 hs8 hb8 => ?_
    have s6 := hx6.size
    have hx58 : Ext w5 w8 := (hx6.trans hx7).then hc8 (by rintro r hr rfl; omega)
    rw [field_at T.t_ref04_Table.p rfl, load_cell (by kernel_rfl) ((hb5.ext hx58).cell (o := 0 + 0) rfl), get_ls_at (y := 1) (i := 1) rfl T.t_sl_int.u T.t_int.i (by kernel_rfl) (hxs5.ext hx58) (by rfl)]
    refine dNew.mono ?_
    rintro _ w9 _ ⟨hx9, rfl⟩
    rw [if_pos hb, extract_tuple (v := domV (2 ^ b.toNat - 1) b.toNat) rfl, extract_tuple (v := .int .i64 0) rfl]
    refine alloc_c T.t_dom_Set.i fun gb2 w10 hgb2 hx10 hbb2 => ?_
    refine store_whole (vs := [.int .u64 ((2 ^ b.toNat - 1 : Nat) : Int), .int .i64 (b.toNat : Int)]) T.t_dom_Set.i rfl rfl (by intro u hu; simp at hu; rcases hu with rfl | rfl <;> rfl) hbb2 fun w11 hc11 hs11 hb11 => ?_
    have s9 := hx9.size
    have hx811 : Ext w8 w11 := (hx9.trans hx10).then hc11 (by rintro r hr rfl; omega)
    have hx511 := hx58.trans hx811
    have hba11 := hb8.ext hx811
    rw [load_struct T.t_dom_Set.p T.t_dom_Set.i rfl hba11.range]
    -- Out, by a whole set
    refine (tOut (pos := 0) (b := 2 ^ a.toNat - 1) (n := a.toNat) (hT5.ext hx511) hkr.1 (full_dom ha) (hL5.ext hx511)).mono ?_
    rintro _ w12 _ ⟨hx12, _, h⟩
    obtain ⟨gu, guc, su, gbu, bu, rfl, hU, _⟩ := h 0 rfl (by simp) (by simp [sizeAt]; omega)
    rw [valsI_full, outC_def, outS_zero] at hU
    rw [extract_tuple (v := .pointer (some ⟨gu, 0, none⟩)) rfl, extract_tuple (v := bu) rfl, extract_tuple (v := .int .i64 0) rfl, load_struct T.t_dom_Set.p T.t_dom_Set.i rfl (hb11.ext hx12).range]
    refine (tOut (pos := 0) (b := 2 ^ b.toNat - 1) (n := b.toNat) hU hkr.1 (full_dom hb) (hL5.ext (hx511.trans hx12))).mono ?_
    rintro _ w13 _ ⟨hx13, _, h⟩
    obtain ⟨gu2, guc2, su2, gbu2, bu2, rfl, hU2, _⟩ := h 0 rfl (by simp) (by simp [sizeAt]; omega)
    rw [valsI_full, outC_def, outS_zero] at hU2
    have hx1113 := hx12.trans hx13
    rw [extract_tuple (v := .pointer (some ⟨gu2, 0, none⟩)) rfl, extract_tuple (v := bu2) rfl, extract_tuple (v := .int .i64 0) rfl, load_struct T.t_dom_Set.p T.t_dom_Set.i rfl (hb11.ext hx1113).range]
    refine (tOut (pos := 1) (b := 2 ^ b.toNat - 1) (n := b.toNat) (hT5.ext (hx511.trans hx1113)) hkr.1 (full_dom hb) (hL5.ext (hx511.trans hx1113))).mono ?_
    rintro _ w14 _ ⟨hx14, _, h⟩
    obtain ⟨gv, gvc, vv, gbv, bv, rfl, hV, _⟩ := h 1 rfl (by simp) (by simp [sizeAt]; omega)
    rw [valsI_full, outC_def, outS_one] at hV
    have hx1114 := hx1113.trans hx14
    rw [extract_tuple (v := .pointer (some ⟨gv, 0, none⟩)) rfl, extract_tuple (v := bv) rfl, extract_tuple (v := .int .i64 0) rfl, load_struct T.t_dom_Set.p T.t_dom_Set.i rfl (hba11.ext hx1114).range]
    refine (tOut (pos := 0) (b := 2 ^ a.toNat - 1) (n := a.toNat) hV hkr.1 (full_dom ha) (hL5.ext (hx511.trans hx1114))).mono ?_
    rintro _ w15 _ ⟨hx15, _, h⟩
    obtain ⟨gv2, gvc2, vv2, gbv2, bv2, rfl, hV2, _⟩ := h 0 rfl (by simp) (by simp [sizeAt]; omega)
    rw [valsI_full, outC_def, outS_zero] at hV2
    have hx1115 := hx1114.trans hx15
    have hx515 := hx511.trans hx1115
    have hU215 := (hU2.ext hx14).ext hx15
    rw [extract_tuple (v := .pointer (some ⟨gv2, 0, none⟩)) rfl, extract_tuple (v := bv2) rfl, extract_tuple (v := .int .i64 0) rfl, field_at T.t_ref04_Table.p rfl, load_cell (by kernel_rfl) ((hb5.ext hx515).cell (o := 0 + 2) rfl)]
    refine (sMin (hxc5.ext hx515) (by intro h; rw [h] at hcl; simp at hcl; omega)).mono ?_
    rintro _ w16 _ ⟨rfl, hx16⟩
    have hx516 := hx515.trans hx16
    have hx016 := hx05.trans hx516
    refine join1 (fun v w17 => Ext w16 w17 ∧ ∃ g gc sv cs0, v = .pointer (some ⟨g, 0, none⟩) ∧ Tab w17 g gc sv [] K cs0 ∧ getC [] cs0 [] = minL cs) ?_ ?_
    · rintro _ w17 ⟨hx17, g, gc, sv, cs0, rfl, hW, hmin⟩
      refine (tGet hW (LS.nil .i64 w17)).mono ?_
      rintro _ w18 _ ⟨rfl, hx18⟩
      have e : getV [] [] cs0 = .tuple #[.int .i64 (minL cs), .int .i64 0] := by rw [← hmin]; rfl
      rw [e, extract_tuple (v := .int .i64 (minL cs)) rfl, extract_tuple (v := .int .i64 0) rfl]
      have hx1618 := hx17.trans hx18
      refine join1 (fun v w => v = .bool true ∧ Ext w18 w) (fun _ _ h => ⟨h.1, (hx016.trans hx1618).trans h.2⟩) fun J hJ => ?_
      simp only [binS_eql, decide_true, split_true]
      refine (tSame ((hU215.ext hx16).ext hx1618) ((hV2.ext hx16).ext hx1618)).mono ?_
      rintro _ w20 _ ⟨rfl, hx20⟩
      have hsw := out_swap (cs := cs) (k := K) hSZ
      simp only [hsw, and_self, decide_true, split_true]
      exact hJ _ _ ⟨rfl, hx20⟩
    · intro J hJ
      rw [field_at T.t_ref04_Table.p rfl, load_cell (by kernel_rfl) ((hb5.ext hx516).cell (o := 0 + 0) rfl), len_ls T.t_sl_int.u (hxs5.ext hx516)]
      simp only [binS_eql, split_dec]
      refine ⟨fun h3 => ?_, fun h3 => ?_⟩
      · obtain ⟨q, rfl⟩ : ∃ q, r = [q] := List.length_eq_one_iff.1 (by simp only [List.length_cons] at h3; omega)
        have hq := hSZ q (.tail _ (.tail _ (.head _)))
        rw [field_at T.t_ref04_Table.p rfl, load_cell (by kernel_rfl) ((hb5.ext hx516).cell (o := 0 + 0) rfl), get_ls_at (y := 2) (i := 2) rfl T.t_sl_int.u T.t_int.i (by kernel_rfl) (hxs5.ext hx516) (by rfl)]
        refine dNew.mono ?_
        rintro _ w21 _ ⟨hx21, rfl⟩
        rw [if_pos hq, extract_tuple (v := domV (2 ^ q.toNat - 1) q.toNat) rfl, extract_tuple (v := .int .i64 0) rfl]
        refine alloc_c T.t_dom_Set.i fun gd w22 hgd hx22 hbd => ?_
        refine store_whole (vs := [.int .u64 ((2 ^ q.toNat - 1 : Nat) : Int), .int .i64 (q.toNat : Int)]) T.t_dom_Set.i rfl rfl (by intro u hu; simp at hu; rcases hu with rfl | rfl <;> rfl) hbd fun w23 hc23 hs23 hb23 => ?_
        have s21 := hx21.size
        have hx1623 : Ext w16 w23 := (hx21.trans hx22).then hc23 (by rintro r hr rfl; omega)
        rw [load_struct T.t_dom_Set.p T.t_dom_Set.i rfl hb23.range]
        refine (tOut (pos := 0) (b := 2 ^ q.toNat - 1) (n := q.toNat) ((hU215.ext hx16).ext hx1623) hkr.1 (full_dom hq) (hL5.ext (hx516.trans hx1623))).mono ?_
        rintro _ w24 _ ⟨hx24, _, h⟩
        obtain ⟨gw, gwc, wv, gbw, bw, rfl, hW, _⟩ := h 0 rfl (by simp) (by simp [sizeAt]; omega)
        rw [valsI_full, outC_def, outS_zero] at hW
        rw [extract_tuple (v := .pointer (some ⟨gw, 0, none⟩)) rfl, extract_tuple (v := bw) rfl, extract_tuple (v := .int .i64 0) rfl]
        have e3 := least3 (k := K) hSZ hcl
        refine hJ _ _ ⟨hx1623.trans hx24, gw, gwc, wv, _, rfl, hW, ?_⟩
        exact e3
      · have hr0 : r = [] := List.eq_nil_of_length_eq_zero (by simp only [List.length_cons] at h3; omega)
        subst hr0
        refine hJ _ _ ⟨Ext.refl _, gu2, guc2, su2, _, rfl, hU215.ext hx16, ?_⟩
        exact least2 (k := K) hSZ hcl
end Go.Proofs.YtahhkeljejfgfaaDoor
