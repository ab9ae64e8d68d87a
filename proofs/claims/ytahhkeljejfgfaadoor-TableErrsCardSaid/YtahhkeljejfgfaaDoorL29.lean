/- A table's copy; what a nil table answers. -/
import Derived.Test.YtahhkeljejfgfaaDoorL24
import Derived.Test.YtahhkeljejfgfaaDoorL15
namespace Go.Proofs.YtahhkeljejfgfaaDoor
open Go Go.Vc Go.RowKit Go.Proofs Go.Proofs.Tryd
set_option maxRecDepth 100000

theorem tCopy {w : World} {g gc : Nat} {sv : Value} {szs : List Int} {k : Int} {cs : List Int} (h : Tab w g gc sv szs k cs) :
    Cal prog F.P_table_Table_Copy [.pointer (some ⟨g, 0, none⟩)] w fun v w' => Ext w w' ∧ ∃ g' gc', v = .pointer (some ⟨g', 0, none⟩) ∧ w.heap.size ≤ g' ∧ w.heap.size ≤ gc' ∧ Tab w' g' gc' sv szs k cs := by
  apply P_table_Table_Copy.enter
  unfold P_table_Table_Copy.body
  rw [eq_ptr_nil T.t_p_table_Table.u]
  simp only [Option.isNone_some, split_false]
  intro w1 hx1 _ _
  have h1 := h.ext hx1
  obtain ⟨⟨cv, gs, hb, hm, hc⟩, ⟨_, _, hp⟩, hs, hl⟩ := h1
  have hpb := prod_bound hs
  have sub : w1.rangeAt g (0 + 0) [sv] := Blk_sub hb (by
    intro j v hv
    match j, hv with
    | 0, hv => exact hv)
  rw [nil_check, field_at T.t_table_Table.p rfl, load_struct (cs := [sv]) T.t_shape_Shape.p T.t_shape_Shape.i rfl sub, nil_check, field_at T.t_table_Table.p rfl, load_cell (by kernel_rfl) (hb.cell (o := 0 + 1) rfl), nil_check, field_at T.t_table_Table.p rfl, load_cell (by kernel_rfl) (hb.cell (o := 0 + 2) rfl)]
  refine (sClone_longs hc.ls (by omega)).mono ?_
  rintro rv w2 _ ⟨hx2, gc', hgc', hr⟩
  refine ⟨.inl hx2, ?_⟩
  rw [build_eq (cs := #[sv, .int .i64 k, rv]) (by
    obtain ⟨_, _, _, _, _, rfl, _⟩ := hr.ls
    obtain ⟨_, _, _, _, _, rfl, _⟩ := hm.ls
    kernel_rfl)]
  refine box_c fun g' w3 hg' hx3 hb3 => ?_
  have s1 := hx1.size
  have s2 := hx2.size
  have hcell : leads rv gc' := by
    obtain ⟨hlen, ⟨_, h0⟩ | ⟨cap, cs', rfl, _⟩⟩ := hr
    · omega
    · exact ⟨_, _, _, rfl, rfl⟩
  have hgl := (LM_leads hr hcell).2
  refine ⟨(hx1.trans hx2).trans hx3, g', gc', rfl, by omega, by omega, ⟨rv, gs, hb3, (hm.ext hx2).ext hx3, hr.ext hx3⟩, ⟨by omega, fun hl => ?_, hp⟩, hs, hl⟩
  have := LM_leads hm hl
  omega

theorem nAt {tv : Value} {w : World} : Cal prog F.P_table_Table_at [.pointer none, tv] w fun v w' => v = .tuple #[.int .i64 0, .int .i64 2] ∧ Ext w w' := by
  apply P_table_Table_at.enter
  unfold P_table_Table_at.body
  rw [eq_ptr_nil T.t_p_table_Table.u]
  simp only [Option.isNone_none, split_true]
  exact ⟨trivial, Ext.refl _⟩
theorem nGet {tv : Value} {w : World} : Cal prog F.P_table_Table_Get [.pointer none, tv] w fun v w' => v = .tuple #[.int .i64 0, .int .i64 2] ∧ Ext w w' := by
  apply P_table_Table_Get.enter
  unfold P_table_Table_Get.body
  refine nAt.mono ?_
  rintro _ w1 _ ⟨rfl, hx⟩
  rw [extract_tuple (v := .int .i64 0) rfl, extract_tuple (v := .int .i64 2) rfl]
  simp only [binS_neq, split_dec]
  exact ⟨fun _ => ⟨trivial, hx⟩, fun h => by simp at h⟩
theorem nPut {tv cv : Value} {w : World} : Cal prog F.P_table_Table_Put [.pointer none, tv, cv] w fun v w' => v = .int .i64 2 ∧ Ext w w' := by
  apply P_table_Table_Put.enter
  unfold P_table_Table_Put.body
  refine nAt.mono ?_
  rintro _ w1 _ ⟨rfl, hx⟩
  rw [extract_tuple (v := .int .i64 0) rfl, extract_tuple (v := .int .i64 2) rfl]
  simp only [binS_neq, split_dec]
  exact ⟨fun _ => ⟨trivial, hx⟩, fun h => by simp at h⟩
theorem nMore {tv cv : Value} {w : World} : Cal prog F.P_table_Table_More [.pointer none, tv, cv] w fun v w' => v = .int .i64 2 ∧ Ext w w' := by
  apply P_table_Table_More.enter
  unfold P_table_Table_More.body
  refine nAt.mono ?_
  rintro _ w1 _ ⟨rfl, hx⟩
  rw [extract_tuple (v := .int .i64 0) rfl, extract_tuple (v := .int .i64 2) rfl]
  simp only [binS_neq, split_dec]
  exact ⟨fun _ => ⟨trivial, hx⟩, fun h => by simp at h⟩
theorem nTurn {w : World} : Cal prog F.P_table_Table_Turn [.pointer none, .slice none 0 0] w fun v w' => v = .tuple #[.pointer none, .int .i64 2] ∧ Ext w w' := by
  apply P_table_Table_Turn.enter
  unfold P_table_Table_Turn.body
  refine box_c fun g1 w1 hg1 hx1 hb1 => ?_
  refine box_c fun g2 w2 hg2 hx2 hb2 => ?_
  rw [load_cell (by kernel_rfl) ((hb1.ext hx2).cell (o := 0) rfl), eq_ptr_nil T.t_p_table_Table.u]
  simp only [Option.isNone_none, split_true]
  intro w3 hx3 _
  exact ⟨trivial, (hx1.trans hx2).trans hx3⟩
theorem nOut {pv dv : Value} {w : World} : Cal prog F.P_table_Table_Out [.pointer none, pv, dv] w fun v w' => v = .tuple #[.pointer none, .slice none 0 0, .int .i64 2] ∧ Ext w w' := by
  apply P_table_Table_Out.enter
  unfold P_table_Table_Out.body
  refine box_c fun g1 w1 hg1 hx1 hb1 => ?_
  refine box_c fun g2 w2 hg2 hx2 hb2 => ?_
  refine box_c fun g3 w3 hg3 hx3 hb3 => ?_
  rw [load_cell (by kernel_rfl) (((hb1.ext hx2).ext hx3).cell (o := 0) rfl), eq_ptr_nil T.t_p_table_Table.u]
  simp only [Option.isNone_none, split_true]
  intro w4 hx4 _
  exact ⟨trivial, ((hx1.trans hx2).trans hx3).trans hx4⟩
theorem nJoin {av bv cv : Value} {w : World} : Cal prog F.table_Join [.pointer none, av, bv, cv] w fun v w' => v = noTab 2 ∧ Ext w w' := by
  apply table_Join.enter
  unfold table_Join.body
  refine box_c fun g1 w1 hg1 hx1 hb1 => ?_
  refine box_c fun g2 w2 hg2 hx2 hb2 => ?_
  refine box_c fun g3 w3 hg3 hx3 hb3 => ?_
  refine box_c fun g4 w4 hg4 hx4 hb4 => ?_
  have hx04 := ((hx1.trans hx2).trans hx3).trans hx4
  refine join1 (fun v w5 => v = .bool true ∧ w4 = w5) ?_ ?_
  · rintro _ _ ⟨rfl, rfl⟩
    simp only [split_true]
    intro w6 hx6 _
    exact ⟨rfl, hx04.trans hx6⟩
  · intro J hJ
    rw [load_cell (by kernel_rfl) ((((hb1.ext hx2).ext hx3).ext hx4).cell (o := 0) rfl), eq_ptr_nil T.t_p_table_Table.u]
    simp only [Option.isNone_none, split_true]
    exact hJ _ _ ⟨rfl, rfl⟩
theorem nK {w : World} : Cal prog F.P_table_Table_K [.pointer none] w fun v w' => v = .int .i64 0 ∧ Ext w w' := by
  apply P_table_Table_K.enter
  unfold P_table_Table_K.body
  rw [eq_ptr_nil T.t_p_table_Table.u]
  simp only [Option.isNone_none, split_true]
  exact ⟨trivial, Ext.refl _⟩
theorem nEntries {w : World} : Cal prog F.P_table_Table_Entries [.pointer none] w fun v w' => v = .slice none 0 0 ∧ Ext w w' := by
  apply P_table_Table_Entries.enter
  unfold P_table_Table_Entries.body
  rw [eq_ptr_nil T.t_p_table_Table.u]
  simp only [Option.isNone_none, split_true]
  exact ⟨trivial, Ext.refl _⟩
theorem nCopy {w : World} : Cal prog F.P_table_Table_Copy [.pointer none] w fun v w' => v = .pointer none ∧ Ext w w' := by
  apply P_table_Table_Copy.enter
  unfold P_table_Table_Copy.body
  rw [eq_ptr_nil T.t_p_table_Table.u]
  simp only [Option.isNone_none, split_true]
  exact ⟨trivial, Ext.refl _⟩
theorem nShape {w : World} : Cal prog F.P_table_Table_Shape [.pointer none] w fun v w' => v = .agg #[.slice none 0 0] ∧ Ext w w' := by
  apply P_table_Table_Shape.enter
  unfold P_table_Table_Shape.body
  refine alloc_c T.t_shape_Shape.i fun g2 w1 hg2 hx1 hb2 => ?_
  rw [eq_ptr_nil T.t_p_table_Table.u]
  simp only [Option.isNone_none, split_true]
  rw [build_eq (cs := #[.slice none 0 0]) (by kernel_rfl)]
  refine store_whole (vs := [.slice none 0 0]) T.t_shape_Shape.i rfl rfl (by intro u hu; simp at hu; subst hu; rfl) hb2 fun w3 hc3 hs3 hb3 => ?_
  rw [res_struct T.t_shape_Shape.p T.t_shape_Shape.i rfl hb3.range]
  exact ⟨rfl, hx1.then hc3 (by rintro r hr rfl; omega)⟩
/-- compared with nil -/
theorem nSame {p : Option Addr} {w : World} : Cal prog F.table_Same [.pointer p, .pointer none] w fun v w' => v = .bool p.isNone ∧ Ext w w' := by
  apply table_Same.enter
  unfold table_Same.body
  refine join1 (fun v w1 => v = .bool true ∧ w = w1) ?_ ?_
  · rintro _ _ ⟨rfl, rfl⟩
    simp only [split_true]
    rw [eq_ptr_nil T.t_p_table_Table.u]
    exact ⟨rfl, Ext.refl _⟩
  · intro J hJ
    rw [eq_ptr_nil T.t_p_table_Table.u]
    simp only [split_bool]
    refine ⟨fun _ => hJ _ _ ⟨rfl, rfl⟩, fun _ => ?_⟩
    rw [eq_ptr_nil T.t_p_table_Table.u]
    exact hJ _ _ ⟨rfl, rfl⟩
end Go.Proofs.YtahhkeljejfgfaaDoor
