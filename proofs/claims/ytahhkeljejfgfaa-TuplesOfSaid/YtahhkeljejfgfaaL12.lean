/- Slices: an element taken out; the least; tables: what they tell; their tuples, one by one. -/
import Derived.Test.YtahhkeljejfgfaaL11
import Derived.Test.YtahhkeljejfgfaaM2
namespace Go.Proofs.Ytahhkeljejfgfaa
open Go Go.Vc Go.RowKit Go.Proofs Go.Proofs.Try
set_option maxRecDepth 100000

theorem sMin {sv : Value} {l : List Int} {w : World} (h : LS .i64 w sv l) (h0 : l ≠ []) :
    Cal prog F.slices_Min_int64_int64 [sv] w fun v w' => v = .int .i64 (minL l) ∧ Ext w w' := by
  obtain ⟨x, l, rfl⟩ : ∃ x r, l = x :: r := by cases l with
    | nil => exact absurd rfl h0
    | cons x r => exact ⟨x, r, rfl⟩
  have hle := h.le
  apply slices_Min_int64_int64.enter
  unfold slices_Min_int64_int64.body
  refine join0 (fun w1 => w = w1) ?_ ?_
  · rintro _ rfl
    rw [get_ls_at (y := 0) (i := 0) rfl T.t_sl_int64.u T.t_int64.i (by kernel_rfl) h (by rfl)]
    refine ⟨fun m i w2 => Ext w w2 ∧ ∃ k : Nat, i = .int .i64 (k + 1 : Nat) ∧ k ≤ l.length ∧ m = .int .i64 ((l.take k).foldl min x), fun _ i _ => l.length + 1 - (ival i).toNat, ⟨Ext.refl _, 0, rfl, Nat.zero_le _, rfl⟩, ?_⟩
    rintro _ _ w2 ⟨hx2, k, rfl, hk, rfl⟩
    rw [len_ls T.t_sl_int64.u (h.ext hx2)]
    simp only [List.length_cons, binS_lss, split_dec] at hle ⊢
    refine ⟨fun hlt => ?_, fun hge => ⟨?_, hx2⟩⟩
    · obtain ⟨y, hy⟩ : ∃ y, l[k]? = some y := ⟨_, List.getElem?_eq_getElem (by omega)⟩
      rw [get_ls T.t_sl_int64.u T.t_int64.i (by kernel_rfl) (h.ext hx2) (show (x :: l)[k + 1]? = some y from hy), min_int]
      simp only [binS_add]
      rw [wrap_i64 (by omega) (by omega)]
      refine ⟨⟨hx2, k + 1, by congr 1, by omega, ?_⟩, ?_⟩
      · rw [List.take_add_one, hy, List.foldl_append]; rfl
      · simp only [ival]; omega
    · have : k = l.length := by omega
      subst this
      rw [List.take_length]; rfl
  · intro J hJ
    rw [len_ls T.t_sl_int64.u h]
    simp only [binS_lss, split_dec]
    exact ⟨fun h => by simp at h; omega, fun _ => hJ _ rfl⟩

/-! ### tables: what they tell -/
theorem tK {w : World} {g gc : Nat} {sv : Value} {szs : List Int} {k : Int} {cs : List Int} (h : Tab w g gc sv szs k cs) : Cal prog F.P_table_Table_K [.pointer (some ⟨g, 0, none⟩)] w fun v w' => v = .int .i64 k ∧ Ext w w' := by
  obtain ⟨⟨cv, gs, hb, hm, hc⟩, _⟩ := h
  apply P_table_Table_K.enter
  unfold P_table_Table_K.body
  rw [eq_ptr_nil T.t_p_table_Table.u]
  simp only [Option.isNone_some, split_false]
  rw [nil_check, field_at T.t_table_Table.p rfl, load_cell (by kernel_rfl) (hb.cell (o := 0 + 1) rfl)]
  exact ⟨rfl, Ext.refl _⟩
theorem tEntries {w : World} {g gc : Nat} {sv : Value} {szs : List Int} {k : Int} {cs : List Int} (h : Tab w g gc sv szs k cs) :
    Cal prog F.P_table_Table_Entries [.pointer (some ⟨g, 0, none⟩)] w fun v w' => Ext w w' ∧ ∃ g', w.heap.size ≤ g' ∧ LM .i64 T.t_int64 w' g' v cs := by
  obtain ⟨⟨cv, gs, hb, hm, hc⟩, ⟨_, _, hp⟩, hs, hl⟩ := h
  apply P_table_Table_Entries.enter
  unfold P_table_Table_Entries.body
  rw [eq_ptr_nil T.t_p_table_Table.u]
  simp only [Option.isNone_some, split_false]
  rw [nil_check, field_at T.t_table_Table.p rfl, load_cell (by kernel_rfl) (hb.cell (o := 0 + 2) rfl)]
  exact sClone_longs hc.ls (by omega)
theorem tShape {w : World} {g gc : Nat} {sv : Value} {szs : List Int} {k : Int} {cs : List Int} (h : Tab w g gc sv szs k cs) :
    Cal prog F.P_table_Table_Shape [.pointer (some ⟨g, 0, none⟩)] w fun v w' => v = .agg #[sv] ∧ Ext w w' := by
  obtain ⟨⟨cv, gs, hb, hm, hc⟩, _⟩ := h
  have hsv := hm.ls.cells
  apply P_table_Table_Shape.enter
  unfold P_table_Table_Shape.body
  refine alloc_c T.t_shape_Shape.i fun g2 w1 hg2 hx1 hb2 => ?_
  rw [eq_ptr_nil T.t_p_table_Table.u]
  simp only [Option.isNone_some, split_false]
  rw [nil_check, field_at T.t_table_Table.p rfl, load_struct (cs := [sv]) T.t_shape_Shape.p T.t_shape_Shape.i rfl (Blk_sub (hb.ext hx1) (by
    intro j v hv
    match j, hv with
    | 0, hv => exact hv))]
  refine store_whole (vs := [sv]) T.t_shape_Shape.i rfl rfl (by intro u hu; simp at hu; subst hu; exact hsv.2) hb2 fun w3 hc3 hs3 hb3 => ?_
  rw [res_struct T.t_shape_Shape.p T.t_shape_Shape.i rfl hb3.range]
  exact ⟨rfl, hx1.then hc3 (by rintro r hr rfl; omega)⟩
theorem sSizes {w : World} {sv : Value} {szs : List Int} (h : LS .i64 w sv szs) (hl : szs.length ≤ 1000) : Cal prog F.shape_Shape_Sizes [.agg #[sv]] w fun v w' => Ext w w' ∧ ∃ g', w.heap.size ≤ g' ∧ LM .i64 T.t_int w' g' v szs := by
  apply shape_Shape_Sizes.enter
  unfold shape_Shape_Sizes.body
  refine box_c fun g w1 hg hx1 hb => ?_
  rw [field_at T.t_shape_Shape.p rfl, load_cell (by kernel_rfl) (hb.cell (o := 0 + 0) rfl)]
  refine (sClone_ints (h.ext hx1) (by omega)).mono ?_
  rintro v w2 _ ⟨hx2, g', hg', hm⟩
  have s1 := hx1.size
  exact ⟨hx1.trans hx2, g', by omega, hm⟩
/-- a place's size; 0: there is none -/
def sizeAt (szs : List Int) (i : Int) : Int := if 0 ≤ i then szs.getD i.toNat 0 else 0
theorem sSame {w : World} {av bv : Value} {a b : List Int} (ha : LS .i64 w av a) (hb : LS .i64 w bv b) : Cal prog F.shape_Same [.agg #[av], .agg #[bv]] w fun v w' => v = .bool (decide (a = b)) ∧ Ext w w' := by
  apply shape_Same.enter
  unfold shape_Same.body
  refine box_c fun g1 w1 hg1 hx1 hb1 => ?_
  refine box_c fun g2 w2 hg2 hx2 hb2 => ?_
  rw [field_at T.t_shape_Shape.p rfl, load_cell (by kernel_rfl) ((hb1.ext hx2).cell (o := 0 + 0) rfl), field_at T.t_shape_Shape.p rfl, load_cell (by kernel_rfl) (hb2.cell (o := 0 + 0) rfl)]
  refine (sEqual_ints (ha.ext (hx1.trans hx2)) (hb.ext (hx1.trans hx2))).mono ?_
  rintro _ w3 _ ⟨rfl, hx3⟩
  exact ⟨rfl, (hx1.trans hx2).trans hx3⟩
theorem tSame {w : World} {g gc g2 gc2 : Nat} {sv sv2 : Value} {szs szs2 : List Int} {k k2 : Int} {cs cs2 : List Int} (h : Tab w g gc sv szs k cs) (h2 : Tab w g2 gc2 sv2 szs2 k2 cs2) :
    Cal prog F.table_Same [.pointer (some ⟨g, 0, none⟩), .pointer (some ⟨g2, 0, none⟩)] w fun v w' => v = .bool (decide (szs = szs2 ∧ k = k2 ∧ cs = cs2)) ∧ Ext w w' := by
  apply table_Same.enter
  unfold table_Same.body
  refine join1 (fun v w1 => v = .bool false ∧ w = w1) ?_ ?_
  · rintro _ _ ⟨rfl, rfl⟩
    rw [split_false]
    refine join1 (fun v w1 => v = .bool (decide (szs = szs2 ∧ k = k2 ∧ cs = cs2)) ∧ Ext w w1) (fun _ _ h => h) ?_
    intro J hJ w3 hx3 _ _
    obtain ⟨⟨cv, gs, hb, hm, hc⟩, _⟩ := h.ext hx3
    obtain ⟨⟨cv2, gs2, hb2, hm2, hc2⟩, _⟩ := h2.ext hx3
    have sub : ∀ {g : Nat} {sv : Value} {k : Int} {cv : Value}, Blk w3 g T.t_table_Table [sv, .int .i64 k, cv] → w3.rangeAt g (0 + 0) [sv] := fun hb => Blk_sub hb (by
      intro j v hv
      match j, hv with
      | 0, hv => exact hv)
    rw [nil_check, field_at T.t_table_Table.p rfl, load_struct (cs := [sv]) T.t_shape_Shape.p T.t_shape_Shape.i rfl (sub hb), nil_check, field_at T.t_table_Table.p rfl, load_struct (cs := [sv2]) T.t_shape_Shape.p T.t_shape_Shape.i rfl (sub hb2)]
    refine (sSame hm.ls hm2.ls).mono ?_
    rintro _ w4 _ ⟨rfl, hx4⟩
    simp only [split_dec]
    refine ⟨fun he => ?_, fun hne => hJ _ _ ⟨by rw [decide_eq_false fun h => hne h.1], hx3.trans hx4⟩⟩
    rw [nil_check, field_at T.t_table_Table.p rfl, load_cell (by kernel_rfl) ((hb.ext hx4).cell (o := 0 + 1) rfl), nil_check, field_at T.t_table_Table.p rfl, load_cell (by kernel_rfl) ((hb2.ext hx4).cell (o := 0 + 1) rfl)]
    simp only [binS_eql, split_dec]
    refine ⟨fun he2 => ?_, fun hne => hJ _ _ ⟨by rw [decide_eq_false fun h => hne h.2.1], hx3.trans hx4⟩⟩
    rw [nil_check, field_at T.t_table_Table.p rfl, load_cell (by kernel_rfl) ((hb.ext hx4).cell (o := 0 + 2) rfl), nil_check, field_at T.t_table_Table.p rfl, load_cell (by kernel_rfl) ((hb2.ext hx4).cell (o := 0 + 2) rfl)]
    refine (sEqual_longs (hc.ls.ext hx4) (hc2.ls.ext hx4)).mono ?_
    rintro _ w5 _ ⟨rfl, hx5⟩
    exact hJ _ _ ⟨by simp [he, he2], (hx3.trans hx4).trans hx5⟩
  · intro J hJ
    rw [eq_ptr_nil T.t_p_table_Table.u]
    simp only [Option.isNone_some, split_false]
    rw [eq_ptr_nil T.t_p_table_Table.u]
    exact hJ _ _ ⟨rfl, rfl⟩

/-- what the loop over all tuples is handed -/
theorem allIter {g B0 : Nat} {sv : Value} {szs : List Int} (hs : Sizes szs) :
    IterOk prog F.shape_Shape_All_c1 [.pointer (some ⟨g, 0, none⟩)] (prodN szs).toNat (fun k vs w => ∃ tv gt, vs = [.int .i64 (k : Int), tv] ∧ B0 ≤ gt ∧ LM .i64 T.t_int w gt tv (tupN szs k))
      (fun w => Blk w g T.t_shape_Shape [sv] ∧ LS .i64 w sv szs ∧ B0 ≤ w.heap.size) := by
  refine ⟨shape_Shape_All_c1.enters, fun l J Jx w hJ _ hround ⟨hb, hl, hB⟩ h0 => ?_⟩
  have hp := prod_bound hs
  apply shape_Shape_All_c1.enter
  unfold shape_Shape_All_c1.body
  rw [load_struct T.t_shape_Shape.p T.t_shape_Shape.i rfl hb.range]
  refine (sCount hl hs).free.mono ?_
  rintro _ w1 ⟨hns, rfl, hx⟩
  refine Loop1.range (prodN szs).toNat (fun i w2 => J i w2 ∧ Blk w2 g T.t_shape_Shape [sv] ∧ LS .i64 w2 sv szs ∧ B0 ≤ w2.heap.size) (by omega) ⟨hJ 0 _ _ hx hns.b h0, hb.ext hx, hl.ext hx, Nat.le_trans hB hx.size⟩ ?_ ?_
  · rintro i w2 k hi ⟨hj, hb2, hl2, hB2⟩ hk
    simp only [binS_lss, split_dec]
    refine ⟨fun _ => ?_, fun h => by omega⟩
    rw [load_struct T.t_shape_Shape.p T.t_shape_Shape.i rfl hb2.range]
    refine (sTuple hl2 hs (by omega) (by omega)).free.mono ?_
    rintro _ w3 ⟨hns3, hx3, tv, gt, rfl, hgt, htv⟩
    rw [extract_tuple (v := tv) rfl, extract_tuple (v := .int .i64 0) rfl]
    refine ⟨rfl, (hround i _ w3 hi ⟨hb2.ext hx3, hl2.ext hx3, Nat.le_trans hB2 hx3.size⟩ ⟨tv, gt, rfl, Nat.le_trans hB2 hgt, htv⟩ (hJ _ _ _ hx3 hns3.b hj)).mono ?_⟩
    rintro _ w4 (⟨rfl, ⟨hb4, hl4, hB4⟩, hj4⟩ | ⟨rfl, hjx⟩)
    · simp only [un_not, Bool.not_true, split_false, binS_add]
      exact hk _ ⟨hj4.1, hb4, hl4, hB4⟩
    · simp only [un_not, Bool.not_false, split_true]
      exact .inr ⟨i, hi, hjx⟩
  · rintro w2 k ⟨hj, hb2, hl2, _⟩
    simp only [binS_lss, split_dec]
    exact ⟨fun h => by omega, fun _ => .inl hj⟩
theorem sAll {sv : Value} {w : World} : Cal prog F.shape_Shape_All [.agg #[sv]] w fun r w' => Ext w w' ∧ ∃ g, r = .func (.func F.shape_Shape_All_c1) #[] #[.pointer (some ⟨g, 0, none⟩)] ∧ w.heap.size ≤ g ∧ Blk w' g T.t_shape_Shape [sv] := by
  apply shape_Shape_All.enter
  unfold shape_Shape_All.body
  refine box_c fun g w1 hg hx1 hb => ?_
  rw [makeFunc_eq]
  exact ⟨hx1, g, rfl, by omega, hb⟩
end Go.Proofs.Ytahhkeljejfgfaa

