/- Tables joined: the sizes of what is joined; the laws' scopes. -/
import Derived.Test.YtahhkeljejfgfaaDoorL22
namespace Go.Proofs.YtahhkeljejfgfaaDoor
open Go Go.Vc Go.RowKit Go.Proofs Go.Proofs.Tryd
set_option maxRecDepth 100000

/-- the sizes agree where both tables have the variable -/
def JoinOk (s1 va s2 vb vars : List Int) : Prop := ∀ p ∈ vars, p ∈ va → p ∈ vb → sizeAt s1 (idxI va p) = sizeAt s2 (idxI vb p)
def joinS (s1 va s2 vb vars : List Int) : List Int := vars.map fun p => max (sizeAt s1 (idxI va p)) (sizeAt s2 (idxI vb p))
theorem joinS_length (s1 va s2 vb vars : List Int) : (joinS s1 va s2 vb vars).length = vars.length := by simp [joinS]
theorem idxI_mem {l : List Int} {x : Int} : 0 ≤ idxI l x ↔ x ∈ l := by
  unfold idxI
  by_cases h : x ∈ l
  · rw [if_pos h]; exact ⟨fun _ => h, fun _ => by omega⟩
  · rw [if_neg h]; exact ⟨fun h => by omega, fun h2 => absurd h2 h⟩

set_option maxHeartbeats 1000000 in
theorem tSizes {w : World} {g gc g2 gc2 : Nat} {sv sv2 vv av bv : Value} {s1 s2 vars va vb : List Int} {k k2 : Int} {c1 c2 : List Int} (h1 : Tab w g gc sv s1 k c1) (h2 : Tab w g2 gc2 sv2 s2 k2 c2) (hv : LS .i64 w vv vars) (ha : LS .i64 w av va) (hb : LS .i64 w bv vb) (hua : Up va) (hub : Up vb) (hvl : vars.length ≤ 1000) :
    Cal prog F.table_sizes [vv, .pointer (some ⟨g, 0, none⟩), av, .pointer (some ⟨g2, 0, none⟩), bv] w fun v w' => Ext w w' ∧
      (¬ JoinOk s1 va s2 vb vars → v = .tuple #[.slice none 0 0, .bool false]) ∧
      (JoinOk s1 va s2 vb vars → ∃ x gx, v = .tuple #[x, .bool true] ∧ w.heap.size ≤ gx ∧ LM .i64 T.t_int w' gx x (joinS s1 va s2 vb vars)) := by
  have sub : ∀ {w : World} {g : Nat} {sv : Value} {k : Int} {cv : Value}, Blk w g T.t_table_Table [sv, .int .i64 k, cv] → w.rangeAt g (0 + 0) [sv] := fun hb => Blk_sub hb (by
    intro j v hv
    match j, hv with
    | 0, hv => exact hv)
  apply table_sizes.enter
  unfold table_sizes.body
  rw [len_ls T.t_sl_int.u hv]
  refine make_ints T.t_sl_int.u T.t_int.i (by omega) (by omega) fun gz w1 hgz hx1 hbz => ?_
  have hz : LM .i64 T.t_int w1 gz (.slice (some ⟨gz, 0, none⟩) vars.length vars.length) (List.replicate vars.length 0) := LM.of (n := vars.length) (Mine.full hbz (by simp) (by simp [maxLen]; omega))
  generalize (Value.slice (some ⟨gz, 0, none⟩) vars.length vars.length) = zv at *
  rw [len_ls T.t_sl_int.u (hv.ext hx1)]
  have hjl := joinS_length s1 va s2 vb vars
  refine Loop3.range vars.length (fun i _ _ w2 => Ext w w2 ∧ LM .i64 T.t_int w2 gz zv (upto (joinS s1 va s2 vb vars) 0 i) ∧ ∀ (j : Nat) (p : Int), j < i → vars[j]? = some p → p ∈ va → p ∈ vb → sizeAt s1 (idxI va p) = sizeAt s2 (idxI vb p)) (by omega)
    ⟨hx1, by rw [upto_zero, hjl]; exact hz, fun j p hj => by omega⟩ ?_ ?_
  · rintro i _ _ w2 kk hi ⟨hx2, hm, hok⟩ hkk
    simp only [binS_lss, split_dec]
    refine ⟨fun _ => ?_, fun h => by omega⟩
    obtain ⟨p, hp⟩ : ∃ p, vars[i]? = some p := ⟨_, List.getElem?_eq_getElem hi⟩
    rw [get_ls T.t_sl_int.u T.t_int.i (by kernel_rfl) (hv.ext hx2) hp]
    refine (sIdxU (ha.ext hx2) hua).mono ?_
    rintro _ w3 _ ⟨rfl, hx3⟩
    refine (sIdxU (hb.ext (hx2.trans hx3)) hub).mono ?_
    rintro _ w4 _ ⟨rfl, hx4⟩
    have hx04 := (hx2.trans hx3).trans hx4
    refine join1 (fun v w5 => Ext w4 w5 ∧ ∃ c, v = .bool c ∧ (c = true ↔ p ∈ va ∧ p ∈ vb ∧ sizeAt s1 (idxI va p) ≠ sizeAt s2 (idxI vb p))) ?_ ?_
    · rintro _ w5 ⟨hx5, c, rfl, hc⟩
      have hx05 := hx04.trans hx5
      rw [split_bool]
      refine ⟨fun ht => ⟨hx05, fun _ => by first | rfl | trivial, fun hj => ?_⟩, fun hf => ?_⟩
      · obtain ⟨h3, h4, h5⟩ := hc.1 ht
        exact absurd (hj p (List.mem_of_getElem? hp) h3 h4) h5
      · simp only [Drew]
        intro w6 hx6 _ _
        have hx06 := hx05.trans hx6
        obtain ⟨⟨cv, gs, hbk, hms, _⟩, _⟩ := h1.ext hx06
        obtain ⟨⟨cv2, gs2, hbk2, hms2, _⟩, _⟩ := h2.ext hx06
        rw [nil_check, field_at T.t_table_Table.p rfl, load_struct (cs := [sv]) T.t_shape_Shape.p T.t_shape_Shape.i rfl (sub hbk), nil_check, field_at T.t_table_Table.p rfl, load_struct (cs := [sv2]) T.t_shape_Shape.p T.t_shape_Shape.i rfl (sub hbk2)]
        refine (sSize hms.ls).mono ?_
        rintro _ w7 _ ⟨rfl, hx7⟩
        refine ⟨.inl hx7, ?_⟩
        refine (sSize (hms2.ls.ext hx7)).mono ?_
        rintro _ w8 _ ⟨rfl, hx8⟩
        have hx08 := (hx06.trans hx7).trans hx8
        have hm8 := hm.ext ((((hx3.trans hx4).trans hx5).trans hx6).trans (hx7.trans hx8))
        have hul : (upto (joinS s1 va s2 vb vars) 0 i).length = vars.length := by rw [upto_length, hjl]
        rw [max_int, idx_lm rfl T.t_sl_int.u T.t_int.i hm8 (by omega)]
        refine store_lm T.t_int.i hm8 (by omega) fun w9 hc9 _ hm9 => ?_
        simp only [binS_add]
        have hq : (joinS s1 va s2 vb vars)[i]? = some (max (sizeAt s1 (idxI va p)) (sizeAt s2 (idxI vb p))) := by
          unfold joinS
          rw [List.getElem?_map, hp]; rfl
        rw [upto_set hq] at hm9
        refine hkk _ _ _ ⟨hx08.then hc9 (by rintro r hr rfl; omega), hm9, fun j p' hj hp' h3 h4 => ?_⟩
        by_cases hji : j = i
        · subst hji
          rw [hp] at hp'; cases hp'
          refine Decidable.byContradiction fun hne => ?_
          have := hc.2 ⟨h3, h4, hne⟩
          rw [hf] at this; cases this
        · exact hok j p' (by omega) hp' h3 h4
    · intro J hJ
      simp only [Drew, binS_geq, split_dec]
      intro w10 hx10 _ _
      refine ⟨fun hia => ⟨fun hib => ?_, fun hib => ⟨.inl (Ext.refl _), hJ _ _ ⟨hx10, false, rfl, ⟨(fun h => by cases h), fun h => absurd (idxI_mem.2 h.2.1) hib⟩⟩⟩⟩, fun hia => ⟨.inl (Ext.refl _), hJ _ _ ⟨hx10, false, rfl, ⟨(fun h => by cases h), fun h => absurd (idxI_mem.2 h.1) hia⟩⟩⟩⟩
      have hx010 := hx04.trans hx10
      obtain ⟨⟨cv, gs, hbk, hms, _⟩, _⟩ := h1.ext hx010
      obtain ⟨⟨cv2, gs2, hbk2, hms2, _⟩, _⟩ := h2.ext hx010
      rw [nil_check, field_at T.t_table_Table.p rfl, load_struct (cs := [sv]) T.t_shape_Shape.p T.t_shape_Shape.i rfl (sub hbk), nil_check, field_at T.t_table_Table.p rfl, load_struct (cs := [sv2]) T.t_shape_Shape.p T.t_shape_Shape.i rfl (sub hbk2)]
      refine (sSize hms.ls).mono ?_
      rintro _ w11 _ ⟨rfl, hx11⟩
      refine ⟨.inl hx11, ?_⟩
      refine (sSize (hms2.ls.ext hx11)).mono ?_
      rintro _ w12 _ ⟨rfl, hx12⟩
      simp only [binS_neq]
      refine hJ _ _ ⟨(hx10.trans hx11).trans hx12, _, rfl, ?_⟩
      rw [decide_eq_true_iff]
      exact ⟨fun h => ⟨idxI_mem.1 hia, idxI_mem.1 hib, h⟩, fun h => h.2.2⟩
  · rintro _ _ w2 kk ⟨hx2, hm, hok⟩
    simp only [binS_lss, split_dec]
    refine ⟨fun h => by omega, fun _ => ?_⟩
    have hj : JoinOk s1 va s2 vb vars := fun p hp h3 h4 => by
      obtain ⟨i, hi, he⟩ := List.getElem_of_mem hp
      exact hok i p hi (by rw [List.getElem?_eq_getElem hi, he]) h3 h4
    rw [← hjl, upto_all] at hm
    exact ⟨hx2, fun h => absurd hj h, fun _ => ⟨_, gz, rfl, by omega, hm⟩⟩
end Go.Proofs.YtahhkeljejfgfaaDoor
