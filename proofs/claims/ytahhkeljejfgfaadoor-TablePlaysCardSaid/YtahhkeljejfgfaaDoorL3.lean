/- Slices of numbers: compared, cloned. -/
import Derived.Test.YtahhkeljejfgfaaDoorL1
namespace Go.Proofs.YtahhkeljejfgfaaDoor
open Go Go.Vc Go.RowKit Go.Proofs Go.Proofs.Tryd
set_option maxRecDepth 100000

theorem sEqual_ints0 {s1 s2 : Value} {w : World} {n1 n2 : Nat} {a b : List Int} (h1 : Sl w 1 s1 n1 (ints .i64 a)) (h2 : Sl w 1 s2 n2 (ints .i64 b)) :
    Cal prog F.slices_Equal_int_int [s1, s2] w fun v w' => v = .bool (decide (a = b)) ∧ Ext w w' := by
  have hl1 : a.length = n1 := by simpa using h1.1
  have hl2 : b.length = n2 := by simpa using h2.1
  have hmax := h1.le
  obtain ⟨_, b1, o1, base1, c1, rfl, hc1, hm1, hb1, hr1⟩ := h1
  obtain ⟨_, b2, o2, base2, c2, rfl, hc2, hm2, hb2, hr2⟩ := h2
  apply slices_Equal_int_int.enter
  unfold slices_Equal_int_int.body
  simp only [len_slice T.t_sl_int.u, binS_neq, split_dec]
  refine ⟨fun hne => ⟨?_, Ext.refl _⟩, fun heq => ?_⟩
  · rw [decide_eq_false]
    rintro rfl; omega
  · have heq : n1 = n2 := by omega
    refine ⟨fun t4 t13 w1 => Ext w w1 ∧ ∃ i : Nat, t13 = .int .i64 i ∧ i ≤ n1 ∧ a.take i = b.take i, fun _ t13 _ => n1 - (ival t13).toNat, ⟨Ext.refl _, 0, rfl, Nat.zero_le _, rfl⟩, ?_⟩
    rintro t4 _ w1 ⟨hx, i, rfl, hi, htake⟩
    simp only [binS_lss, split_dec, Drew]
    refine ⟨fun hlt w2 hx2 _ _ => ?_, fun hge => ⟨?_, hx⟩⟩
    · have hlt : i < n1 := by omega
      have hx := hx.trans hx2
      obtain ⟨x, hxa⟩ : ∃ x, a[i]? = some x := ⟨_, List.getElem?_eq_getElem (by omega)⟩
      obtain ⟨y, hyb⟩ : ∃ y, b[i]? = some y := ⟨_, List.getElem?_eq_getElem (by omega)⟩
      have ca := cell?_ext hx (hr1 i _ (ints_get hxa))
      have cb := cell?_ext hx (hr2 i _ (ints_get hyb))
      rw [index_nat T.t_sl_int.u T.t_int.i hlt hb1, Nat.mul_one, load_cell (by kernel_rfl) ca, index_nat T.t_sl_int.u T.t_int.i (heq ▸ hlt) hb2, Nat.mul_one, load_cell (by kernel_rfl) cb]
      simp only [binS_neq, split_dec, binS_add]
      refine ⟨fun hne => ⟨?_, hx⟩, fun hxy => ⟨⟨hx, i + 1, ?_, by omega, take_succ_eq htake hxa hyb (by omega)⟩, ?_⟩⟩
      · rw [decide_eq_false]
        rintro rfl
        rw [hxa] at hyb; cases hyb; exact hne rfl
      · rw [wrap_i64 (by omega) (by simp only [maxLen] at hmax; omega)]; rfl
      · rw [wrap_i64 (by omega) (by simp only [maxLen] at hmax; omega)]; simp only [ival]; omega
    · have hi' : i = n1 := by omega
      subst hi'
      rw [decide_eq_true]
      rw [List.take_of_length_le (by omega), List.take_of_length_le (by omega)] at htake
      exact htake

theorem sClone_ints0 {s : Value} {w : World} {n : Nat} {a : List Int} (h1 : Sl w 1 s n (ints .i64 a)) (hn : n ≤ 1000000) :
    Cal prog F.slices_Clone_int_int [s] w fun v w' => Ext w w' ∧ ∃ g, w.heap.size ≤ g ∧ Mine w' g T.t_int 1 v n (ints .i64 a) := by
  have h0 := h1
  obtain ⟨hl, b1, o1, base1, c1, rfl, hc1, hm1, hb1, hr1⟩ := h1
  apply slices_Clone_int_int.enter
  unfold slices_Clone_int_int.body
  simp only [eq_slice_nil T.t_sl_int.u, split_bool]
  refine ⟨fun hnil => ⟨Ext.refl _, w.heap.size, Nat.le_refl _, ?_⟩, fun _ => ?_⟩
  · have : n = 0 := by
      rcases Nat.eq_zero_or_pos n with h | h
      · exact h
      · rw [hb1 h] at hnil; cases hnil
    subst this
    have : ints .i64 a = [] := List.eq_nil_of_length_eq_zero (by simpa using hl)
    rw [this]; exact Mine.nil _ _ _ _
  · refine buildSlice_c T.t_sl_int.u T.t_int.i (by omega) (cs := #[]) (by kernel_rfl) ?_
    intro g w1 hg hx hb
    refine append_own (g := g) T.t_sl_int.u T.t_sl_int.u T.t_int.i rfl (Mine.full hb rfl (by omega)) (h0.ext hx) (one_ints _ _) (by omega) (by simp only [maxLen]; omega) ?_
    intro v' g' w2 hg' hown hchg
    refine ⟨hx.then hchg (by rintro r hr rfl; omega), g', ?_, ?_⟩
    · have := hx.size; omega
    · simpa using hown
theorem sEqual_longs0 {s1 s2 : Value} {w : World} {n1 n2 : Nat} {a b : List Int} (h1 : Sl w 1 s1 n1 (ints .i64 a)) (h2 : Sl w 1 s2 n2 (ints .i64 b)) :
    Cal prog F.slices_Equal_int64_int64 [s1, s2] w fun v w' => v = .bool (decide (a = b)) ∧ Ext w w' := by
  have hl1 : a.length = n1 := by simpa using h1.1
  have hl2 : b.length = n2 := by simpa using h2.1
  have hmax := h1.le
  obtain ⟨_, b1, o1, base1, c1, rfl, hc1, hm1, hb1, hr1⟩ := h1
  obtain ⟨_, b2, o2, base2, c2, rfl, hc2, hm2, hb2, hr2⟩ := h2
  apply slices_Equal_int64_int64.enter
  unfold slices_Equal_int64_int64.body
  simp only [len_slice T.t_sl_int64.u, binS_neq, split_dec]
  refine ⟨fun hne => ⟨?_, Ext.refl _⟩, fun heq => ?_⟩
  · rw [decide_eq_false]
    rintro rfl; omega
  · have heq : n1 = n2 := by omega
    refine ⟨fun t4 t13 w1 => Ext w w1 ∧ ∃ i : Nat, t13 = .int .i64 i ∧ i ≤ n1 ∧ a.take i = b.take i, fun _ t13 _ => n1 - (ival t13).toNat, ⟨Ext.refl _, 0, rfl, Nat.zero_le _, rfl⟩, ?_⟩
    rintro t4 _ w1 ⟨hx, i, rfl, hi, htake⟩
    simp only [binS_lss, split_dec, Drew]
    refine ⟨fun hlt w2 hx2 _ _ => ?_, fun hge => ⟨?_, hx⟩⟩
    · have hlt : i < n1 := by omega
      have hx := hx.trans hx2
      obtain ⟨x, hxa⟩ : ∃ x, a[i]? = some x := ⟨_, List.getElem?_eq_getElem (by omega)⟩
      obtain ⟨y, hyb⟩ : ∃ y, b[i]? = some y := ⟨_, List.getElem?_eq_getElem (by omega)⟩
      have ca := cell?_ext hx (hr1 i _ (ints_get hxa))
      have cb := cell?_ext hx (hr2 i _ (ints_get hyb))
      rw [index_nat T.t_sl_int64.u T.t_int64.i hlt hb1, Nat.mul_one, load_cell (by kernel_rfl) ca, index_nat T.t_sl_int64.u T.t_int64.i (heq ▸ hlt) hb2, Nat.mul_one, load_cell (by kernel_rfl) cb]
      simp only [binS_neq, split_dec, binS_add]
      refine ⟨fun hne => ⟨?_, hx⟩, fun hxy => ⟨⟨hx, i + 1, ?_, by omega, take_succ_eq htake hxa hyb (by omega)⟩, ?_⟩⟩
      · rw [decide_eq_false]
        rintro rfl
        rw [hxa] at hyb; cases hyb; exact hne rfl
      · rw [wrap_i64 (by omega) (by simp only [maxLen] at hmax; omega)]; rfl
      · rw [wrap_i64 (by omega) (by simp only [maxLen] at hmax; omega)]; simp only [ival]; omega
    · have hi' : i = n1 := by omega
      subst hi'
      rw [decide_eq_true]
      rw [List.take_of_length_le (by omega), List.take_of_length_le (by omega)] at htake
      exact htake

theorem sClone_longs0 {s : Value} {w : World} {n : Nat} {a : List Int} (h1 : Sl w 1 s n (ints .i64 a)) (hn : n ≤ 1000000) :
    Cal prog F.slices_Clone_int64_int64 [s] w fun v w' => Ext w w' ∧ ∃ g, w.heap.size ≤ g ∧ Mine w' g T.t_int64 1 v n (ints .i64 a) := by
  have h0 := h1
  obtain ⟨hl, b1, o1, base1, c1, rfl, hc1, hm1, hb1, hr1⟩ := h1
  apply slices_Clone_int64_int64.enter
  unfold slices_Clone_int64_int64.body
  simp only [eq_slice_nil T.t_sl_int64.u, split_bool]
  refine ⟨fun hnil => ⟨Ext.refl _, w.heap.size, Nat.le_refl _, ?_⟩, fun _ => ?_⟩
  · have : n = 0 := by
      rcases Nat.eq_zero_or_pos n with h | h
      · exact h
      · rw [hb1 h] at hnil; cases hnil
    subst this
    have : ints .i64 a = [] := List.eq_nil_of_length_eq_zero (by simpa using hl)
    rw [this]; exact Mine.nil _ _ _ _
  · refine buildSlice_c T.t_sl_int64.u T.t_int64.i (by omega) (cs := #[]) (by kernel_rfl) ?_
    intro g w1 hg hx hb
    refine append_own (g := g) T.t_sl_int64.u T.t_sl_int64.u T.t_int64.i rfl (Mine.full hb rfl (by omega)) (h0.ext hx) (one_ints _ _) (by omega) (by simp only [maxLen]; omega) ?_
    intro v' g' w2 hg' hown hchg
    refine ⟨hx.then hchg (by rintro r hr rfl; omega), g', ?_, ?_⟩
    · have := hx.size; omega
    · simpa using hown
theorem sEqual_ints {s1 s2 : Value} {w : World} {a b : List Int} (h1 : LS .i64 w s1 a) (h2 : LS .i64 w s2 b) :
    Cal prog F.slices_Equal_int_int [s1, s2] w fun v w' => v = .bool (decide (a = b)) ∧ Ext w w' := sEqual_ints0 h1 h2
theorem sClone_ints {s : Value} {w : World} {a : List Int} (h1 : LS .i64 w s a) (hn : a.length ≤ 1000000) :
    Cal prog F.slices_Clone_int_int [s] w fun v w' => Ext w w' ∧ ∃ g, w.heap.size ≤ g ∧ LM .i64 T.t_int w' g v a := sClone_ints0 h1 hn
theorem sEqual_longs {s1 s2 : Value} {w : World} {a b : List Int} (h1 : LS .i64 w s1 a) (h2 : LS .i64 w s2 b) :
    Cal prog F.slices_Equal_int64_int64 [s1, s2] w fun v w' => v = .bool (decide (a = b)) ∧ Ext w w' := sEqual_longs0 h1 h2
theorem sClone_longs {s : Value} {w : World} {a : List Int} (h1 : LS .i64 w s a) (hn : a.length ≤ 1000000) :
    Cal prog F.slices_Clone_int64_int64 [s] w fun v w' => Ext w w' ∧ ∃ g, w.heap.size ≤ g ∧ LM .i64 T.t_int64 w' g v a := sClone_longs0 h1 hn
end Go.Proofs.YtahhkeljejfgfaaDoor
