/- TableJoins: two tables of any variables, joined, are the document's; variables that have two sizes are refused. -/
import Derived.Test.YtahhkeljejfgfaaDoorL28
import Derived.Test.YtahhkeljejfgfaaDoorT5
import Derived.Test.YtahhkeljejfgfaaDoorL15
namespace Go.Proofs.YtahhkeljejfgfaaDoor
open Go Go.Vc Go.RowKit Go.Proofs Go.Proofs.Tryd
set_option maxRecDepth 100000

set_option maxHeartbeats 2000000 in
theorem lJoins {lv mv cv dv pv qv : Value} {l m c d p q : List Int} {k : Int} {w : World} (hl : LS .u8 w lv l) (h8 : ∀ x ∈ l, 0 ≤ x ∧ x < 256) (hm : LS .u8 w mv m) (hm8 : ∀ x ∈ m, 0 ≤ x ∧ x < 256) (hk : 0 ≤ k ∧ k < 65536) (hc : LS .u16 w cv c) (hc16 : ∀ x ∈ c, 0 ≤ x ∧ x < 65536) (hd : LS .u16 w dv d) (hd16 : ∀ x ∈ d, 0 ≤ x ∧ x < 65536)
    (hp : LS .u8 w pv p) (hp8 : ∀ x ∈ p, 0 ≤ x ∧ x < 256) (hq : LS .u8 w qv q) (hq8 : ∀ x ∈ q, 0 ≤ x ∧ x < 256) (hlaid : Laid w) :
    Cal prog F.law04_TableJoins [lv, mv, .int .u16 k, cv, dv, pv, qv] w fun v w' => v = .bool true ∧ Ext w w' := by
  apply law04_TableJoins.enter
  unfold law04_TableJoins.body
  have hkr := topN_right (k := k)
  refine (lAwake hlaid).mono ?_
  rintro _ w1 _ ⟨rfl, hx1⟩
  simp only [un_not, Bool.not_true, split_false]
  refine (lTop hk).mono ?_
  rintro _ w2 _ ⟨rfl, hx2⟩
  have hx02 := hx1.trans hx2
  refine (lMade (hl.ext hx02) h8 (hc.ext hx02) hc16 hkr.1 (by omega)).mono ?_
  rintro _ w3 _ ⟨hx3, g, gc, sv, gx, xs, xc, gs, rfl, hT, hxs, hxc, _⟩
  have hx03 := hx02.trans hx3
  have hsv := hxs.ls.cells
  have hcvv := hxc.ls.cells
  rw [extract_tuple (v := .pointer (some ⟨g, 0, none⟩)) rfl, extract_tuple (v := .agg #[xs, .int .i64 (topN k), xc]) rfl]
  refine alloc_c T.t_ref04_Table.i fun gb w4 hgb hx4 hb4 => ?_
  refine store_whole (vs := [xs, .int .i64 (topN k), xc]) T.t_ref04_Table.i rfl rfl (by intro u hu; simp at hu; rcases hu with rfl | rfl | rfl; exact hsv.2; rfl; exact hcvv.2) hb4 fun w5 hc5 hs5 hb5 => ?_
  have hx35 : Ext w3 w5 := hx4.then hc5 (by rintro r hr rfl; omega)
  have hx05 := hx03.trans hx35
  refine (lTop hk).mono ?_
  rintro _ w6 _ ⟨rfl, hx6⟩
  have hx06 := hx05.trans hx6
  refine (lMade (hm.ext hx06) hm8 (hd.ext hx06) hd16 hkr.1 (by omega)).mono ?_
  rintro _ w7 _ ⟨hx7, g2, gc2, sv2, gx2, xs2, xc2, gs2, rfl, hT2, hxs2, hxc2, _⟩
  have hsv2 := hxs2.ls.cells
  have hcvv2 := hxc2.ls.cells
  rw [extract_tuple (v := .pointer (some ⟨g2, 0, none⟩)) rfl, extract_tuple (v := .agg #[xs2, .int .i64 (topN k), xc2]) rfl]
  refine alloc_c T.t_ref04_Table.i fun gb2 w8 hgb2 hx8 hb8 => ?_
  refine store_whole (vs := [xs2, .int .i64 (topN k), xc2]) T.t_ref04_Table.i rfl rfl (by intro u hu; simp at hu; rcases hu with rfl | rfl | rfl; exact hsv2.2; rfl; exact hcvv2.2) hb8 fun w9 hc9 hs9 hb9 => ?_
  have hx79 : Ext w7 w9 := hx8.then hc9 (by rintro r hr rfl; omega)
  have hx59 := hx6.trans (hx7.trans hx79)
  have hx39 := hx35.trans hx59
  have hx09 := hx03.trans hx39
  obtain ⟨z1, n1, s14⟩ := smallN_sizes (l := l)
  obtain ⟨z2, n2, s24⟩ := smallN_sizes (l := m)
  have hi1 := makeC_in (s := smallN l) (l := c) hkr.1
  have hi2 := makeC_in (s := smallN m) (l := d) hkr.1
  have hcl : (makeC (smallN l) (topN k) c).length = (prodN (smallN l)).toNat := makeC_length _ _ _
  have hdl : (makeC (smallN m) (topN k) d).length = (prodN (smallN m)).toNat := makeC_length _ _ _
  have hkk := hkr.1
  have T1 := hT.ext hx39
  have T2 := hT2.ext hx79
  have B1 := hb5.ext hx59
  have xs1 := hxs.ls.ext hx39
  have xc1 := hxc.ls.ext hx39
  have xs2' := hxs2.ls.ext hx79
  have xc2' := hxc2.ls.ext hx79
  clear hT hT2 hxs hxc hxs2 hxc2 hb5
  generalize makeC (smallN l) (topN k) c = ca at *
  generalize makeC (smallN m) (topN k) d = cb at *
  generalize smallN l = sa at *
  generalize smallN m = sb at *
  generalize topN k = K at *
  intro w10 hx10 _ _
  have hx910 := hx10
  rw [field_at T.t_ref04_Table.p rfl, load_cell (by kernel_rfl) ((B1.ext hx10).cell (o := 0 + 0) rfl), len_ls T.t_sl_int.u (xs1.ext hx10), field_at T.t_ref04_Table.p rfl, load_cell (by kernel_rfl) ((hb9.ext hx10).cell (o := 0 + 0) rfl), len_ls T.t_sl_int.u (xs2'.ext hx10)]
  refine (lScope (n := sa.length) (hp.ext (hx09.trans hx10)) hp8 (by omega)).mono ?_
  rintro av w11 _ ⟨hx11, ga, hga, hA⟩
  refine ⟨.inl hx11, ?_⟩
  refine (lScope (n := sb.length) (hq.ext ((hx09.trans hx10).trans hx11)) hq8 (by omega)).mono ?_
  rintro bv w12 _ ⟨hx12, gb', hgb', hB⟩
  obtain ⟨fa, _, fa3, fa4, hua⟩ := scp_facts p sa.length
  obtain ⟨fb, _, fb3, fb4, hub⟩ := scp_facts q sb.length
  have ra : ∀ x ∈ (scp p sa.length).1, 0 ≤ x ∧ x < 12 := fun x hx => by have := fa4 x hx; omega
  have rb : ∀ x ∈ (scp q sb.length).1, 0 ≤ x ∧ x < 12 := fun x hx => by have := fb4 x hx; omega
  have hA12 := hA.ls.ext hx12
  have hB12 := hB.ls
  generalize (scp p sa.length).1 = va at *
  generalize (scp q sb.length).1 = vb at *
  have hx912 := (hx910.trans hx11).trans hx12
  have hja : JoinVars va vb (upV va vb 12) := upV_join (n := 12) ra rb
  obtain ⟨hjz, hjp⟩ := join_sizes s14 s24 n1 n2 fa fb hua hub hja
  have hfit : Fits sa va ∧ Fits sb vb := ⟨⟨fa, up_rise hua fun x hx => (ra x hx).1⟩, fb, up_rise hub fun x hx => (rb x hx).1⟩
  refine (tJoin (T1.ext hx912) (T2.ext hx912) hA12 hB12 hkk hi1 hi2).mono ?_
  rintro jv w13 _ ⟨hx13, _, hj⟩
  obtain ⟨vars, hJV, hbad, hgood⟩ := hj hfit
  have hvars := joinVars_eq hJV hja
  subst hvars
  have hx913 := hx912.trans hx13
  have z13 := hx913.size
  have join := rJoin (k := K) (xs1.ext hx913) z1 (xc1.ext hx913) hcl (xs2'.ext hx913) z2 (xc2'.ext hx913) hdl (hA12.ext hx13) (hB12.ext hx13) hua hub fa fb ra rb hkk hi1 hi2 hjz
  by_cases hjo : JoinOk sa va sb vb (upV va vb 12)
  rotate_left
  · obtain rfl := hbad hjo
    rw [noTab, extract_tuple (v := .pointer none) rfl, extract_tuple (v := .slice none 0 0) rfl, extract_tuple (v := .int .i64 1) rfl, load_struct T.t_ref04_Table.p T.t_ref04_Table.i rfl (B1.ext hx913).range, load_struct T.t_ref04_Table.p T.t_ref04_Table.i rfl (hb9.ext hx913).range]
    refine join.mono ?_
    rintro _ w14 _ ⟨hx14, zs, zc, vv, b, ls, lc, rfl, hzs, hzc, hb, _⟩
    have hbf : b = false := by
      cases b with
      | false => rfl
      | true => exact absurd (hb.1 rfl) hjo
    subst hbf
    rw [extract_tuple (v := .agg #[zs, .int .i64 K, zc]) rfl, extract_tuple (v := vv) rfl, extract_tuple (v := .bool false) rfl]
    have hzv := hzs.cells
    have hzcv := hzc.cells
    refine alloc_c T.t_ref04_Table.i fun gz w15 hgz hx15 hb15 => ?_
    refine store_whole (vs := [zs, .int .i64 K, zc]) T.t_ref04_Table.i rfl rfl (by intro u hu; simp at hu; rcases hu with rfl | rfl | rfl; exact hzv.2; rfl; exact hzcv.2) hb15 fun w16 hc16 hs16 hb16 => ?_
    have hx1416 : Ext w14 w16 := hx15.then hc16 (by rintro r hr rfl; omega)
    simp only [un_not, Bool.not_false, split_true]
    refine join1 (fun v w17 => w16 = w17 ∧ v = .bool true) ?_ ?_
    · rintro _ _ ⟨rfl, rfl⟩
      exact ⟨rfl, ((hx09.trans hx913).trans hx14).trans hx1416⟩
    · intro J hJ
      simp only [binS_eql, split_dec]
      refine ⟨fun _ => ?_, fun h => absurd trivial h⟩
      rw [eq_ptr_nil T.t_p_table_Table.u]
      exact hJ _ _ ⟨rfl, rfl⟩
  · obtain ⟨_, _, _, h5⟩ := hgood hjo
    obtain ⟨gu, guc, su, vx, rfl, hU, hvx⟩ := h5 rfl hjz hjp
    rw [extract_tuple (v := .pointer (some ⟨gu, 0, none⟩)) rfl, extract_tuple (v := vx) rfl, extract_tuple (v := .int .i64 0) rfl, load_struct T.t_ref04_Table.p T.t_ref04_Table.i rfl (B1.ext hx913).range, load_struct T.t_ref04_Table.p T.t_ref04_Table.i rfl (hb9.ext hx913).range]
    refine join.mono ?_
    rintro _ w14 _ ⟨hx14, zs, zc, vv, b, ls, lc, rfl, hzs, hzc, hb, hbt⟩
    have hbf : b = true := hb.2 hjo
    subst hbf
    obtain ⟨rfl, rfl, hvv⟩ := hbt rfl
    rw [extract_tuple (v := .agg #[zs, .int .i64 K, zc]) rfl, extract_tuple (v := vv) rfl, extract_tuple (v := .bool true) rfl]
    have hzv := hzs.cells
    have hzcv := hzc.cells
    refine alloc_c T.t_ref04_Table.i fun gz w15 hgz hx15 hb15 => ?_
    refine store_whole (vs := [zs, .int .i64 K, zc]) T.t_ref04_Table.i rfl rfl (by intro u hu; simp at hu; rcases hu with rfl | rfl | rfl; exact hzv.2; rfl; exact hzcv.2) hb15 fun w16 hc16 hs16 hb16 => ?_
    have hx1416 : Ext w14 w16 := hx15.then hc16 (by rintro r hr rfl; omega)
    have hx1316 := hx14.trans hx1416
    have hx916 := hx913.trans hx1316
    simp only [un_not, Bool.not_true, split_false]
    refine (tJoin (T2.ext hx916) (T1.ext hx916) (hB12.ext (hx13.trans hx1316)) (hA12.ext (hx13.trans hx1316)) hkk hi2 hi1).mono ?_
    rintro jv2 w18 _ ⟨hx18, _, hj2⟩
    obtain ⟨vars2, hJV2, _, hgood2⟩ := hj2 ⟨hfit.2, hfit.1⟩
    have hvars2 := joinVars_eq (joinVars_turn hJV2) hja
    subst hvars2
    obtain ⟨_, _, _, h52⟩ := hgood2 (joinOk_turn hjo)
    rw [← joinS_turn, ← joinC_turn] at h52
    obtain ⟨gu2, guc2, su2, vx2, rfl, hU2, hvx2⟩ := h52 rfl hjz hjp
    rw [extract_tuple (v := .pointer (some ⟨gu2, 0, none⟩)) rfl, extract_tuple (v := vx2) rfl, extract_tuple (v := .int .i64 0) rfl]
    have hx918 := hx916.trans hx18
    have hx1418 := hx1416.trans hx18
    have hx1318 := hx1316.trans hx18
    refine join1 (fun v w19 => Ext w18 w19 ∧ v = .bool true) ?_ ?_
    · rintro _ w19 ⟨hx19, rfl⟩
      exact ⟨rfl, (hx09.trans hx918).trans hx19⟩
    intro J hJ
    simp only [binS_eql, decide_true, split_true]
    refine (sEqual_ints (hvx.ext hx1318) (hvv.ext hx1418)).mono ?_
    rintro _ w20 _ ⟨rfl, hx20⟩
    simp only [decide_true, split_true]
    rw [load_struct T.t_ref04_Table.p T.t_ref04_Table.i rfl ((hb16.ext hx18).ext hx20).range]
    have hx1820 := hx20
    refine (lLike (hU.ext (hx1318.trans hx20)) (hzs.ext (hx1418.trans hx20)) (hzc.ext (hx1418.trans hx20))).mono ?_
    rintro _ w21 _ ⟨rfl, hx21⟩
    simp only [and_self, decide_true, split_true]
    have hx1821 := hx1820.trans hx21
    refine (tSame (hU.ext (hx1318.trans hx1821)) (hU2.ext hx1821)).mono ?_
    rintro _ w22 _ ⟨rfl, hx22⟩
    simp only [and_self, decide_true, split_true]
    have hx1822 := hx1821.trans hx22
    have hx922 := hx918.trans hx1822
    rw [load_struct T.t_ref04_Table.p T.t_ref04_Table.i rfl (B1.ext hx922).range]
    refine (lLike (T1.ext hx922) (xs1.ext hx922) (xc1.ext hx922)).mono ?_
    rintro _ w23 _ ⟨rfl, hx23⟩
    simp only [and_self, decide_true, split_true]
    have hx923 := hx922.trans hx23
    rw [load_struct T.t_ref04_Table.p T.t_ref04_Table.i rfl (hb9.ext hx923).range]
    refine (lLike (T2.ext hx923) (xs2'.ext hx923) (xc2'.ext hx923)).mono ?_
    rintro _ w24 _ ⟨rfl, hx24⟩
    exact hJ _ _ ⟨(hx1822.trans hx23).trans hx24, by simp⟩
end Go.Proofs.YtahhkeljejfgfaaDoor
