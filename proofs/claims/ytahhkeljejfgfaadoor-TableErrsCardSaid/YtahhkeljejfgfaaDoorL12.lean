/- Slices: an element taken out; the least; tables: what they tell; their tuples, one by one. -/
import Derived.Test.YtahhkeljejfgfaaDoorL11
import Derived.Test.YtahhkeljejfgfaaDoorM2
namespace Go.Proofs.YtahhkeljejfgfaaDoor
open Go Go.Vc Go.RowKit Go.Proofs Go.Proofs.Tryd
set_option maxRecDepth 100000

theorem sRepeatInt {xv : Value} {w : World} {c : Int} {n : Nat} (h : LS .i64 w xv [c]) (hn : n < 65536) :
    Cal prog F.slices_Repeat_int_int [xv, .int .i64 n] w fun v w' => Ext w w' ∧ ∃ g, w.heap.size ≤ g ∧ LM .i64 T.t_int w' g v (List.replicate n c) := by
  apply slices_Repeat_int_int.enter
  unfold slices_Repeat_int_int.body
  refine join0 (fun w1 => w = w1) ?_ ?_
  · rintro _ rfl
    rw [len_ls T.t_sl_int.u h, conv_int T.t_int.u T.t_uint.u, conv_int T.t_int.u T.t_uint.u, wrap_u64 (by simp) (by simp), wrap_u64 (by omega) (by omega)]
    refine (bMul (x := ([c].length : Int)) (by simp) (by omega)).mono ?_
    rintro _ w2 _ ⟨rfl, hx2⟩
    rw [extract_tuple (v := .int .u64 0) rfl, extract_tuple (v := .int .u64 (([c].length : Int) * n)) rfl]
    have e1 : (([c].length : Int) * n) = (n : Int) := by simp
    rw [e1]
    refine join0 (fun w3 => w2 = w3) ?_ ?_
    · rintro _ rfl
      rw [conv_int T.t_uint.u T.t_int.u, wrap_i64 (by omega) (by omega)]
      refine make_ints T.t_sl_int.u T.t_int.i (by omega) (by omega) ?_
      intro g w4 hg hx4 hb4
      have hx := hx2.trans hx4
      have hs2 := hx2.size
      refine copy_blk T.t_sl_int.u T.t_int.i hb4 (o := 0) (fun _ => rfl) (by simp) (h.ext hx) (one_ints _ _) ?_
      intro w5 hc5 hs5 hb5
      have hx5 := hx.then hc5 (by rintro r hr rfl; omega)
      have st : over (ints .i64 (List.replicate n 0)) 0 ((ints .i64 [c]).take n) = ints .i64 (List.replicate (min 1 n) c ++ List.replicate (n - min 1 n) 0) := by
        rcases Nat.eq_zero_or_pos n with rfl | hp
        · simp [over]
        · rw [List.take_of_length_le (by simp; omega), over_eq (by simp; omega)]
          have : min 1 n = 1 := by omega
          simp [this, ints]
      rw [st] at hb5
      refine ⟨fun t w6 => Ext w w6 ∧ ∃ i : Nat, t = .int .i64 i ∧ i ≤ n ∧ (0 < n → 0 < i) ∧ Blk w6 g T.t_int (ints .i64 (List.replicate i c ++ List.replicate (n - i) 0)), fun t _ => n - (ival t).toNat,
        ⟨hx5, min 1 n, by simp, by omega, by omega, hb5⟩, ?_⟩
      rintro _ w6 ⟨hx6, i, rfl, hi, hi0, hb6⟩
      simp only [len_slice T.t_sl_int.u, binS_lss, split_dec, Drew]
      refine ⟨fun hlt w7 hx7 _ _ => ?_, fun hge => ?_⟩
      · have hlt : i < n := by omega
        have hb7 := hb6.ext hx7
        rw [slice_slice T.t_sl_int.u T.t_int.i (l := i) (h := n) (m := n) lo_at hi_no mx_no (by omega) (by omega) (by omega),
          slice_slice T.t_sl_int.u T.t_int.i (l := 0) (h := i) (m := n) lo_no hi_at mx_no (by omega) (by omega) (by omega)]
        have hsl : Sl w7 1 (.slice (some ⟨g, 0, none⟩) n n) n (ints .i64 (List.replicate i c ++ List.replicate (n - i) 0)) := (Mine.full hb7 (by simp <;> omega) (by simp [maxLen] <;> omega)).sl
        have hp := hsl.part (l := 0) (h := i) (m := n) (by omega) (by omega) (by omega) (by omega)
        have e3 : ((ints .i64 (List.replicate i c ++ List.replicate (n - i) 0)).drop (0 * 1)).take ((i - 0) * 1) = ints .i64 (List.replicate i c) := by
          simp [ints]
        rw [e3] at hp
        refine copy_blk T.t_sl_int.u T.t_int.i hb7 (o := i) (fun _ => ?_) (by simp <;> omega) hp (one_ints _ _) ?_
        · rw [if_neg (by omega)]; simp [Addr.add_mid]
        · intro w8 hc8 hs8 hb8
          have s6 := hx6.size
          have s7 := hx7.size
          have e4 : over (ints .i64 (List.replicate i c ++ List.replicate (n - i) 0)) i ((ints .i64 (List.replicate i c)).take (n - i)) = ints .i64 (List.replicate (i + min i (n - i)) c ++ List.replicate (n - (i + min i (n - i))) 0) := by
            apply List.ext_getElem?
            intro j
            rw [over_get _ _ _ (by simp [ints] <;> omega)]
            simp only [ints, List.map_append, List.map_replicate, List.getElem?_append, List.getElem?_take, List.getElem?_replicate, List.length_take, List.length_replicate]
            repeat' split
            all_goals first | rfl | omega
          rw [e4] at hb8
          have e5 : min (i - 0) (n - i) = min i (n - i) := by omega
          simp only [binS_add, e5]
          have e6 : IntKind.i64.wrap ((i : Int) + ((min i (n - i) : Nat) : Int)) = ((i + min i (n - i) : Nat) : Int) := by rw [wrap_i64 (by omega) (by omega)]; omega
          rw [e6]
          refine ⟨⟨(hx6.trans hx7).then hc8 (by rintro r hr rfl; omega), _, rfl, by omega, by omega, hb8⟩, ?_⟩
          simp only [ival, Int.toNat_natCast]; omega
      · have : i = n := by omega
        subst this
        rw [Nat.sub_self, List.replicate_zero, List.append_nil] at hb6
        exact ⟨hx6, g, by omega, LM.of (n := i) (Mine.full hb6 (by simp) (by simp [maxLen]; omega))⟩
    · intro J hJ
      refine join1 (fun v w3 => v = .bool false ∧ w2 = w3) ?_ ?_
      · rintro _ _ ⟨rfl, rfl⟩
        rw [split_false]; exact hJ _ rfl
      · intro J2 hJ2
        simp only [binS_gtr, split_dec]
        refine ⟨fun h => by omega, fun _ => hJ2 _ _ ⟨?_, rfl⟩⟩
        rw [decide_eq_false]; omega
  · intro J hJ
    simp only [binS_lss, split_dec]
    exact ⟨fun h => by omega, fun _ => hJ _ rfl⟩

theorem sDelete {sv : Value} {l : List Int} {i g : Nat} {w : World} (h : LM .i64 T.t_int w g sv l) (hi : i < l.length) (hl : l.length ≤ 1000) :
    Cal prog F.slices_Delete_int_int [sv, .int .i64 i, .int .i64 ((i : Int) + 1)] w fun v w' => Chg (fun r => r = g) w w' ∧ LM .i64 T.t_int w' g v (l.take i ++ l.drop (i + 1)) := by
  apply slices_Delete_int_int.enter
  unfold slices_Delete_int_int.body
  have hls := h.ls
  obtain ⟨hlen, ⟨rfl, h0⟩ | ⟨cap, cs, rfl, hb, hnc, hcm, hcl, htake⟩⟩ := id h
  · omega
  simp only [Nat.mul_one] at hcl htake hlen
  simp only [maxLen] at hcm
  rw [len_ls T.t_sl_int.u hls, slice_slice T.t_sl_int.u T.t_int.i (l := i) (h := i + 1) (m := l.length) lo_at (hi_lit (i + 1) _ (by omega)) mx_at (by omega) (by omega) (by omega)]
  simp only [binS_eql, split_dec]
  refine ⟨fun h => by omega, fun _ => ?_⟩
  rw [len_ls T.t_sl_int.u hls]
  intro w1 hx1 _ _
  have hb1 := hb.ext hx1
  rw [slice_slice T.t_sl_int.u T.t_int.i (l := 0) (h := i) (m := cap) lo_no hi_at mx_no (by omega) (by omega) (by omega), if_neg (by omega)]
  refine drop_ls (i := i + 1) (by omega) T.t_sl_int.u T.t_int.i (hls.ext hx1) (by omega) fun v2 h2 => ?_
  have e0 : Option.map (fun x : Addr => x.add (0 * 1)) (some ⟨g, 0, none⟩) = some ⟨g, 0, none⟩ := by simp [Addr.add_mid]
  rw [e0]
  refine append_room_c (m := (l.drop (i + 1)).length) (news := ints .i64 (l.drop (i + 1))) T.t_sl_int.u T.t_sl_int.u T.t_int.i hb1 h2 (one_ints _ _) (by simp; omega) (by omega) fun w2 hc2 hs2 hb2 => ?_
  have hd : i - 0 + (l.drop (i + 1)).length = l.length - 1 := by simp; omega
  rw [hd, len_slice T.t_sl_int.u, slice_slice T.t_sl_int.u T.t_int.i (l := l.length - 1) (h := l.length) (m := cap - 0) lo_at hi_at mx_no (by omega) (by omega) (by omega), if_neg (by omega)]
  have e1 : Option.map (fun x : Addr => x.add ((l.length - 1) * 1)) (some ⟨g, 0, none⟩) = some ⟨g, l.length - 1, none⟩ := by simp [Addr.add_mid]
  rw [e1]
  refine clear_c T.t_sl_int.u T.t_int.i rfl rfl hb2 (by omega) (by rw [over_length]; omega) fun w3 hc3 hs3 hb3 => ?_
  refine ⟨((hx1.chg _).trans hc2).trans hc3, LM.of (n := l.length - 1) ⟨by simp; omega, .inr ⟨cap, _, rfl, hb3, by omega, by simp only [maxLen]; omega, by rw [over_length, over_length]; simpa using hcl, ?_⟩⟩⟩
  rw [Nat.mul_one]
  apply List.ext_getElem?
  intro j
  by_cases hj : j < l.length - 1
  · rw [List.getElem?_take_of_lt hj, over_get _ _ _ (by rw [over_length]; simp; omega), if_neg (by omega), over_get _ _ _ (by simp; omega)]
    by_cases h1 : j < i
    · rw [cells_of_take htake (by omega), if_neg (by omega)]
      simp only [ints, List.map_append, List.map_take, List.getElem?_append, List.getElem?_take, List.length_take, List.length_map]
      rw [if_pos (by omega), if_pos h1]
    · simp only [ints, List.map_append, List.map_drop, List.map_take, List.getElem?_append, List.getElem?_drop, List.getElem?_take, List.length_take, List.length_map, List.length_drop]
      repeat' split
      all_goals first | rfl | omega | (congr 1; omega) | (exfalso; omega)
  · rw [List.getElem?_eq_none (by simp; omega), List.getElem?_eq_none (by simp; omega)]

theorem sMin {sv : Value} {l : List Int} {w : World} (h : LS .i64 w sv l) (h0 : l ≠ []) :
    Cal prog F.slices_Min_int64_int64 [sv] w fun v w' => v = .int .i64 (minL l) ∧ Ext w w' := by
  obtain ⟨x, l, rfl⟩ : ∃ x r, l = x :: r := by cases l with
    | nil => exact absurd rfl h0
    | cons x r => exact ⟨x, r, rfl⟩
  have hle := h.le
  apply slices_Min_int64_int64.enter
  unfold slices_Min_int64_int64.body
  refine join0 (fun w1 => w = w1) ?_ ?_
  · rintro _ rfl
    rw [get_ls_at (y := 0) (i := 0) rfl T.t_sl_int64.u T.t_int64.i (by kernel_rfl) h (by rfl)]
    refine ⟨fun m i w2 => Ext w w2 ∧ ∃ k : Nat, i = .int .i64 (k + 1 : Nat) ∧ k ≤ l.length ∧ m = .int .i64 ((l.take k).foldl min x), fun _ i _ => l.length + 1 - (ival i).toNat, ⟨Ext.refl _, 0, rfl, Nat.zero_le _, rfl⟩, ?_⟩
    rintro _ _ w2 ⟨hx2, k, rfl, hk, rfl⟩
    rw [len_ls T.t_sl_int64.u (h.ext hx2)]
    simp only [List.length_cons, binS_lss, split_dec] at hle ⊢
    refine ⟨fun hlt => ?_, fun hge => ⟨?_, hx2⟩⟩
    · obtain ⟨y, hy⟩ : ∃ y, l[k]? = some y := ⟨_, List.getElem?_eq_getElem (by omega)⟩
      rw [get_ls T.t_sl_int64.u T.t_int64.i (by kernel_rfl) (h.ext hx2) (show (x :: l)[k + 1]? = some y from hy), min_int]
      simp only [binS_add]
      rw [wrap_i64 (by omega) (by omega)]
      refine ⟨⟨hx2, k + 1, by congr 1, by omega, ?_⟩, ?_⟩
      · rw [List.take_add_one, hy, List.foldl_append]; rfl
      · simp only [ival]; omega
    · have : k = l.length := by omega
      subst this
      rw [List.take_length]; rfl
  · intro J hJ
    rw [len_ls T.t_sl_int64.u h]
    simp only [binS_lss, split_dec]
    exact ⟨fun h => by simp at h; omega, fun _ => hJ _ rfl⟩

/-! ### tables: what they tell -/
theorem tK {w : World} {g gc : Nat} {sv : Value} {szs : List Int} {k : Int} {cs : List Int} (h : Tab w g gc sv szs k cs) : Cal prog F.P_table_Table_K [.pointer (some ⟨g, 0, none⟩)] w fun v w' => v = .int .i64 k ∧ Ext w w' := by
  obtain ⟨⟨cv, gs, hb, hm, hc⟩, _⟩ := h
  apply P_table_Table_K.enter
  unfold P_table_Table_K.body
  rw [eq_ptr_nil T.t_p_table_Table.u]
  simp only [Option.isNone_some, split_false]
  rw [nil_check, field_at T.t_table_Table.p rfl, load_cell (by kernel_rfl) (hb.cell (o := 0 + 1) rfl)]
  exact ⟨rfl, Ext.refl _⟩
theorem tEntries {w : World} {g gc : Nat} {sv : Value} {szs : List Int} {k : Int} {cs : List Int} (h : Tab w g gc sv szs k cs) :
    Cal prog F.P_table_Table_Entries [.pointer (some ⟨g, 0, none⟩)] w fun v w' => Ext w w' ∧ ∃ g', w.heap.size ≤ g' ∧ LM .i64 T.t_int64 w' g' v cs := by
  obtain ⟨⟨cv, gs, hb, hm, hc⟩, ⟨_, _, hp⟩, hs, hl⟩ := h
  apply P_table_Table_Entries.enter
  unfold P_table_Table_Entries.body
  rw [eq_ptr_nil T.t_p_table_Table.u]
  simp only [Option.isNone_some, split_false]
  rw [nil_check, field_at T.t_table_Table.p rfl, load_cell (by kernel_rfl) (hb.cell (o := 0 + 2) rfl)]
  exact sClone_longs hc.ls (by omega)
theorem tShape {w : World} {g gc : Nat} {sv : Value} {szs : List Int} {k : Int} {cs : List Int} (h : Tab w g gc sv szs k cs) :
    Cal prog F.P_table_Table_Shape [.pointer (some ⟨g, 0, none⟩)] w fun v w' => v = .agg #[sv] ∧ Ext w w' := by
  obtain ⟨⟨cv, gs, hb, hm, hc⟩, _⟩ := h
  have hsv := hm.ls.cells
  apply P_table_Table_Shape.enter
  unfold P_table_Table_Shape.body
  refine alloc_c T.t_shape_Shape.i fun g2 w1 hg2 hx1 hb2 => ?_
  rw [eq_ptr_nil T.t_p_table_Table.u]
  simp only [Option.isNone_some, split_false]
  rw [nil_check, field_at T.t_table_Table.p rfl, load_struct (cs := [sv]) T.t_shape_Shape.p T.t_shape_Shape.i rfl (Blk_sub (hb.ext hx1) (by
    intro j v hv
    match j, hv with
    | 0, hv => exact hv))]
  refine store_whole (vs := [sv]) T.t_shape_Shape.i rfl rfl (by intro u hu; simp at hu; subst hu; exact hsv.2) hb2 fun w3 hc3 hs3 hb3 => ?_
  rw [res_struct T.t_shape_Shape.p T.t_shape_Shape.i rfl hb3.range]
  exact ⟨rfl, hx1.then hc3 (by rintro r hr rfl; omega)⟩
theorem sSizes {w : World} {sv : Value} {szs : List Int} (h : LS .i64 w sv szs) (hl : szs.length ≤ 1000) : Cal prog F.shape_Shape_Sizes [.agg #[sv]] w fun v w' => Ext w w' ∧ ∃ g', w.heap.size ≤ g' ∧ LM .i64 T.t_int w' g' v szs := by
  apply shape_Shape_Sizes.enter
  unfold shape_Shape_Sizes.body
  refine box_c fun g w1 hg hx1 hb => ?_
  rw [field_at T.t_shape_Shape.p rfl, load_cell (by kernel_rfl) (hb.cell (o := 0 + 0) rfl)]
  refine (sClone_ints (h.ext hx1) (by omega)).mono ?_
  rintro v w2 _ ⟨hx2, g', hg', hm⟩
  have s1 := hx1.size
  exact ⟨hx1.trans hx2, g', by omega, hm⟩
theorem sArity {w : World} {sv : Value} {szs : List Int} (h : LS .i64 w sv szs) : Cal prog F.shape_Shape_Arity [.agg #[sv]] w fun v w' => v = .int .i64 szs.length ∧ Ext w w' := by
  apply shape_Shape_Arity.enter
  unfold shape_Shape_Arity.body
  refine box_c fun g w1 hg hx1 hb => ?_
  rw [field_at T.t_shape_Shape.p rfl, load_cell (by kernel_rfl) (hb.cell (o := 0 + 0) rfl), len_ls T.t_sl_int.u (h.ext hx1)]
  exact ⟨rfl, hx1⟩
/-- a place's size; 0: there is none -/
def sizeAt (szs : List Int) (i : Int) : Int := if 0 ≤ i then szs.getD i.toNat 0 else 0
theorem sSize {w : World} {sv : Value} {szs : List Int} {i : Int} (h : LS .i64 w sv szs) : Cal prog F.shape_Shape_Size [.agg #[sv], .int .i64 i] w fun v w' => v = .int .i64 (sizeAt szs i) ∧ Ext w w' := by
  apply shape_Shape_Size.enter
  unfold shape_Shape_Size.body
  refine box_c fun g w1 hg hx1 hb => ?_
  refine join1 (fun v w2 => v = .bool (decide (i < 0 ∨ (szs.length : Int) ≤ i)) ∧ w1 = w2) ?_ ?_
  · rintro _ _ ⟨rfl, rfl⟩
    simp only [split_dec]
    refine ⟨fun h => ⟨?_, hx1⟩, fun hn => ?_⟩
    · unfold sizeAt; split
      · rw [List.getD_eq_getElem?_getD, List.getElem?_eq_none (by omega)]; rfl
      · rfl
    · rw [field_at T.t_shape_Shape.p rfl, load_cell (by kernel_rfl) (hb.cell (o := 0 + 0) rfl)]
      obtain ⟨n, rfl⟩ : ∃ n : Nat, i = n := ⟨i.toNat, by omega⟩
      have hlt : n < szs.length := by omega
      rw [get_ls T.t_sl_int.u T.t_int.i (by kernel_rfl) (h.ext hx1) (List.getElem?_eq_getElem hlt)]
      refine ⟨?_, hx1⟩
      unfold sizeAt
      rw [if_pos (by omega), List.getD_eq_getElem?_getD, Int.toNat_natCast, List.getElem?_eq_getElem hlt]; rfl
  · intro J hJ
    simp only [binS_lss, split_dec]
    refine ⟨fun h => hJ _ _ ⟨by rw [decide_eq_true]; omega, rfl⟩, fun hn => ?_⟩
    rw [field_at T.t_shape_Shape.p rfl, load_cell (by kernel_rfl) (hb.cell (o := 0 + 0) rfl), len_ls T.t_sl_int.u (h.ext hx1)]
    simp only [binS_geq]
    exact hJ _ _ ⟨by congr 1; simp; omega, rfl⟩
theorem sSame {w : World} {av bv : Value} {a b : List Int} (ha : LS .i64 w av a) (hb : LS .i64 w bv b) : Cal prog F.shape_Same [.agg #[av], .agg #[bv]] w fun v w' => v = .bool (decide (a = b)) ∧ Ext w w' := by
  apply shape_Same.enter
  unfold shape_Same.body
  refine box_c fun g1 w1 hg1 hx1 hb1 => ?_
  refine box_c fun g2 w2 hg2 hx2 hb2 => ?_
  rw [field_at T.t_shape_Shape.p rfl, load_cell (by kernel_rfl) ((hb1.ext hx2).cell (o := 0 + 0) rfl), field_at T.t_shape_Shape.p rfl, load_cell (by kernel_rfl) (hb2.cell (o := 0 + 0) rfl)]
  refine (sEqual_ints (ha.ext (hx1.trans hx2)) (hb.ext (hx1.trans hx2))).mono ?_
  rintro _ w3 _ ⟨rfl, hx3⟩
  exact ⟨rfl, (hx1.trans hx2).trans hx3⟩
theorem tSame {w : World} {g gc g2 gc2 : Nat} {sv sv2 : Value} {szs szs2 : List Int} {k k2 : Int} {cs cs2 : List Int} (h : Tab w g gc sv szs k cs) (h2 : Tab w g2 gc2 sv2 szs2 k2 cs2) :
    Cal prog F.table_Same [.pointer (some ⟨g, 0, none⟩), .pointer (some ⟨g2, 0, none⟩)] w fun v w' => v = .bool (decide (szs = szs2 ∧ k = k2 ∧ cs = cs2)) ∧ Ext w w' := by
  apply table_Same.enter
  unfold table_Same.body
  refine join1 (fun v w1 => v = .bool false ∧ w = w1) ?_ ?_
  · rintro _ _ ⟨rfl, rfl⟩
    rw [split_false]
    refine join1 (fun v w1 => v = .bool (decide (szs = szs2 ∧ k = k2 ∧ cs = cs2)) ∧ Ext w w1) (fun _ _ h => h) ?_
    intro J hJ w3 hx3 _ _
    obtain ⟨⟨cv, gs, hb, hm, hc⟩, _⟩ := h.ext hx3
    obtain ⟨⟨cv2, gs2, hb2, hm2, hc2⟩, _⟩ := h2.ext hx3
    have sub : ∀ {g : Nat} {sv : Value} {k : Int} {cv : Value}, Blk w3 g T.t_table_Table [sv, .int .i64 k, cv] → w3.rangeAt g (0 + 0) [sv] := fun hb => Blk_sub hb (by
      intro j v hv
      match j, hv with
      | 0, hv => exact hv)
    rw [nil_check, field_at T.t_table_Table.p rfl, load_struct (cs := [sv]) T.t_shape_Shape.p T.t_shape_Shape.i rfl (sub hb), nil_check, field_at T.t_table_Table.p rfl, load_struct (cs := [sv2]) T.t_shape_Shape.p T.t_shape_Shape.i rfl (sub hb2)]
    refine (sSame hm.ls hm2.ls).mono ?_
    rintro _ w4 _ ⟨rfl, hx4⟩
    simp only [split_dec]
    refine ⟨fun he => ?_, fun hne => hJ _ _ ⟨by rw [decide_eq_false fun h => hne h.1], hx3.trans hx4⟩⟩
    rw [nil_check, field_at T.t_table_Table.p rfl, load_cell (by kernel_rfl) ((hb.ext hx4).cell (o := 0 + 1) rfl), nil_check, field_at T.t_table_Table.p rfl, load_cell (by kernel_rfl) ((hb2.ext hx4).cell (o := 0 + 1) rfl)]
    simp only [binS_eql, split_dec]
    refine ⟨fun he2 => ?_, fun hne => hJ _ _ ⟨by rw [decide_eq_false fun h => hne h.2.1], hx3.trans hx4⟩⟩
    rw [nil_check, field_at T.t_table_Table.p rfl, load_cell (by kernel_rfl) ((hb.ext hx4).cell (o := 0 + 2) rfl), nil_check, field_at T.t_table_Table.p rfl, load_cell (by kernel_rfl) ((hb2.ext hx4).cell (o := 0 + 2) rfl)]
    refine (sEqual_longs (hc.ls.ext hx4) (hc2.ls.ext hx4)).mono ?_
    rintro _ w5 _ ⟨rfl, hx5⟩
    exact hJ _ _ ⟨by simp [he, he2], (hx3.trans hx4).trans hx5⟩
  · intro J hJ
    rw [eq_ptr_nil T.t_p_table_Table.u]
    simp only [Option.isNone_some, split_false]
    rw [eq_ptr_nil T.t_p_table_Table.u]
    exact hJ _ _ ⟨rfl, rfl⟩

/-- what the loop over all tuples is handed -/
theorem allIter {g B0 : Nat} {sv : Value} {szs : List Int} (hs : Sizes szs) :
    IterOk prog F.shape_Shape_All_c1 [.pointer (some ⟨g, 0, none⟩)] (prodN szs).toNat (fun k vs w => ∃ tv gt, vs = [.int .i64 (k : Int), tv] ∧ B0 ≤ gt ∧ LM .i64 T.t_int w gt tv (tupN szs k))
      (fun w => Blk w g T.t_shape_Shape [sv] ∧ LS .i64 w sv szs ∧ B0 ≤ w.heap.size) := by
  refine ⟨shape_Shape_All_c1.enters, fun l J Jx w hJ _ hround ⟨hb, hl, hB⟩ h0 => ?_⟩
  have hp := prod_bound hs
  apply shape_Shape_All_c1.enter
  unfold shape_Shape_All_c1.body
  rw [load_struct T.t_shape_Shape.p T.t_shape_Shape.i rfl hb.range]
  refine (sCount hl hs).free.mono ?_
  rintro _ w1 ⟨hns, rfl, hx⟩
  refine Loop1.range (prodN szs).toNat (fun i w2 => J i w2 ∧ Blk w2 g T.t_shape_Shape [sv] ∧ LS .i64 w2 sv szs ∧ B0 ≤ w2.heap.size) (by omega) ⟨hJ 0 _ _ hx hns h0, hb.ext hx, hl.ext hx, Nat.le_trans hB hx.size⟩ ?_ ?_
  · rintro i w2 k hi ⟨hj, hb2, hl2, hB2⟩ hk
    simp only [binS_lss, split_dec]
    refine ⟨fun _ => ?_, fun h => by omega⟩
    rw [load_struct T.t_shape_Shape.p T.t_shape_Shape.i rfl hb2.range]
    refine (sTuple hl2 hs (by omega) (by omega)).free.mono ?_
    rintro _ w3 ⟨hns3, hx3, tv, gt, rfl, hgt, htv⟩
    rw [extract_tuple (v := tv) rfl, extract_tuple (v := .int .i64 0) rfl]
    refine ⟨rfl, (hround i _ w3 hi ⟨hb2.ext hx3, hl2.ext hx3, Nat.le_trans hB2 hx3.size⟩ ⟨tv, gt, rfl, Nat.le_trans hB2 hgt, htv⟩ (hJ _ _ _ hx3 hns3 hj)).mono ?_⟩
    rintro _ w4 (⟨rfl, ⟨hb4, hl4, hB4⟩, hj4⟩ | ⟨rfl, hjx⟩)
    · simp only [un_not, Bool.not_true, split_false, binS_add]
      exact hk _ ⟨hj4, hb4, hl4, hB4⟩
    · simp only [un_not, Bool.not_false, split_true]
      exact .inr ⟨i, hi, hjx⟩
  · rintro w2 k ⟨hj, hb2, hl2, _⟩
    simp only [binS_lss, split_dec]
    exact ⟨fun h => by omega, fun _ => .inl hj⟩
theorem sAll {sv : Value} {w : World} : Cal prog F.shape_Shape_All [.agg #[sv]] w fun r w' => Ext w w' ∧ ∃ g, r = .func (.func F.shape_Shape_All_c1) #[] #[.pointer (some ⟨g, 0, none⟩)] ∧ w.heap.size ≤ g ∧ Blk w' g T.t_shape_Shape [sv] := by
  apply shape_Shape_All.enter
  unfold shape_Shape_All.body
  refine box_c fun g w1 hg hx1 hb => ?_
  rw [makeFunc_eq]
  exact ⟨hx1, g, rfl, by omega, hb⟩
end Go.Proofs.YtahhkeljejfgfaaDoor
