/- Shapes: made. -/
import Derived.Test.YtahhkeljejfgfaaDoorL4
namespace Go.Proofs.YtahhkeljejfgfaaDoor
open Go Go.Vc Go.RowKit Go.Proofs Go.Proofs.Tryd
set_option maxRecDepth 100000

def okSize (x : Int) : Prop := 1 ≤ x ∧ x ≤ 32
instance (x : Int) : Decidable (okSize x) := by unfold okSize; infer_instance

theorem nBad {x : Int} {w : World} : Cal prog F.shape_New_c1 [.int .i64 x] w fun v w' => v = .bool (decide (¬ okSize x)) ∧ Ext w w' := by
  apply shape_New_c1.enter
  unfold shape_New_c1.body
  simp only [JoinC, binS_lss, binS_gtr, split_dec]
  refine ⟨fun h => ⟨?_, Ext.refl _⟩, fun h => ⟨?_, Ext.refl _⟩⟩
  · rw [decide_eq_true]; intro hn; have := hn.1; omega
  · congr 1
    have : (32 < x) = (¬ okSize x) := propext ⟨fun h2 hn => by have := hn.2; omega, fun h2 => by
      by_cases h3 : 32 < x
      · exact h3
      · exact absurd ⟨by omega, by omega⟩ h2⟩
    simp only [this]

theorem nIndexBad {sv : Value} {l : List Int} {w : World} (h : LS .i64 w sv l) :
    Cal prog F.slices_IndexFunc_int_int [sv, .func (.func F.shape_New_c1) #[] #[]] w fun v w' => Ext w w' ∧ ∃ n : Int, v = .int .i64 n ∧ ((0 ≤ n) = ¬ ∀ x ∈ l, okSize x) := by
  have hle := h.le
  apply slices_IndexFunc_int_int.enter
  unfold slices_IndexFunc_int_int.body
  rw [len_ls T.t_sl_int.u h]
  refine ⟨fun _ t w1 => Ext w w1 ∧ ∃ i : Nat, t = .int .i64 i ∧ i ≤ l.length ∧ ∀ x ∈ l.take i, okSize x, fun _ t _ => l.length - (ival t).toNat, ⟨Ext.refl _, 0, rfl, Nat.zero_le _, by simp⟩, ?_⟩
  rintro _ _ w1 ⟨hx, i, rfl, hi, hall⟩
  simp only [binS_lss, split_dec]
  refine ⟨fun hlt => ?_, fun hge => ⟨hx, -1, rfl, ?_⟩⟩
  · obtain ⟨x, hxi⟩ : ∃ x, l[i]? = some x := ⟨_, List.getElem?_eq_getElem (by omega)⟩
    rw [get_ls T.t_sl_int.u T.t_int.i (by kernel_rfl) (h.ext hx) hxi]
    show Cal prog F.shape_New_c1 [.int .i64 x] w1 _
    refine nBad.mono ?_
    rintro _ w2 _ ⟨rfl, hx2⟩
    simp only [split_dec, binS_add]
    refine ⟨fun hbad => ⟨hx.trans hx2, i, rfl, ?_⟩, fun hok => ?_⟩
    · exact propext ⟨fun _ ha => hbad (ha x (List.mem_of_getElem? hxi)), fun _ => by omega⟩
    · rw [wrap_i64 (by omega) (by omega)]
      refine ⟨⟨hx.trans hx2, i + 1, rfl, by omega, fun y hy => ?_⟩, ?_⟩
      · rw [List.take_add_one, hxi] at hy
        rcases List.mem_append.1 hy with hy | hy
        · exact hall y hy
        · simp at hy; subst hy; exact Decidable.not_not.1 hok
      · simp only [ival]; omega
  · have : i = l.length := by omega
    rw [this, List.take_length] at hall
    exact propext ⟨fun h => by omega, fun h => absurd hall h⟩

theorem nContains {sv : Value} {l : List Int} {w : World} (h : LS .i64 w sv l) :
    Cal prog F.slices_ContainsFunc_int_int [sv, .func (.func F.shape_New_c1) #[] #[]] w fun v w' => v = .bool (decide (¬ ∀ x ∈ l, okSize x)) ∧ Ext w w' := by
  apply slices_ContainsFunc_int_int.enter
  unfold slices_ContainsFunc_int_int.body
  refine (nIndexBad h).mono ?_
  rintro _ w1 _ ⟨hx, n, rfl, hn⟩
  simp only [binS_geq]
  exact ⟨by congr 1; simp only [hn], hx⟩

/-- what New answers -/
def NewShape (w : World) (l : List Int) (v : Value) (w' : World) : Prop :=
  Ext w w' ∧
      (¬ Sizes l → v = .tuple #[.agg #[.slice none 0 0], .int .i64 1]) ∧
      (Sizes l → 4096 < prodN l → v = .tuple #[.agg #[.slice none 0 0], .int .i64 5]) ∧
      (Sizes l → prodN l ≤ 4096 → ∃ g tv, v = .tuple #[.agg #[tv], .int .i64 0] ∧ w.heap.size ≤ g ∧ LM .i64 T.t_int w' g tv l)

theorem sNew {sv : Value} {l : List Int} {w : World} (h : LS .i64 w sv l) : Cal prog F.shape_New [sv] w (NewShape w l) := by
  apply shape_New.enter
  unfold shape_New.body
  refine alloc_c T.t_shape_Shape.i fun g0 w1 hg0 hx1 hb0 => ?_
  have l0 := hb0.lt
  refine join1 (fun v w2 => Ext w w2 ∧ Ext w1 w2 ∧ ∃ c : Bool, v = .bool c ∧ ((c = true) = ¬ Sizes l)) ?_ ?_
  · rintro _ w2 ⟨hx, hx12, c, rfl, hc⟩
    simp only [split_bool]
    refine ⟨fun ht => ?_, fun hf => ?_⟩
    · have hn : ¬ Sizes l := by rw [← hc]; exact ht
      rw [build_eq (cs := #[.slice none 0 0]) (by kernel_rfl)]
      refine store_whole (vs := [.slice none 0 0]) T.t_shape_Shape.i rfl rfl (by simp; rfl) (hb0.ext hx12) ?_
      intro w3 hc3 hs3 hb3
      rw [res_struct T.t_shape_Shape.p T.t_shape_Shape.i rfl hb3.range]
      exact ⟨hx.then hc3 (by rintro r hr rfl; omega), fun _ => rfl, fun h => absurd h hn, fun h => absurd h hn⟩
    · have hsz : Sizes l := by
        have h0 : ¬ (c = true) := by simp [hf]
        rw [hc] at h0; exact Classical.not_not.1 h0
      have hl := hsz.1
      refine (sClone_ints (h.ext hx) (by omega)).mono ?_
      rintro tv w4 _ ⟨hx4, gc, hgc, hm⟩
      have htv := hm.ls.cells
      rw [build_eq (cs := #[tv]) (by obtain ⟨_, _, _, _, _, rfl, _⟩ := hm.ls; kernel_rfl)]
      refine alloc_c T.t_shape_Shape.i fun gs w5 hgs hx5 hb5 => ?_
      refine store_whole (vs := [tv]) T.t_shape_Shape.i rfl rfl (by intro u hu; simp at hu; subst hu; exact htv.2) hb5 ?_
      intro w6 hc6 hs6 hb6
      rw [load_struct T.t_shape_Shape.p T.t_shape_Shape.i rfl hb6.range]
      have hs4 := hx4.size
      have hs5 := hx5.size
      have hs2 := hx12.size
      have c46 : Chg (fun r => r = gs) w4 w6 := (hx5.chg _).trans hc6
      have hx46 : Ext w4 w6 := hx5.then hc6 (by rintro r hr rfl; omega)
      have hx06 := (hx.trans hx4).trans hx46
      have hm6 : LM .i64 T.t_int w6 gc tv l := hm.ext hx46
      refine (sCount hm6.ls hsz).mono ?_
      rintro _ w7 _ ⟨rfl, hx7⟩
      have hx07 := hx06.trans hx7
      have hb07 : Blk w7 g0 T.t_shape_Shape [.slice none 0 0] := hb0.ext (((hx12.trans hx4).trans hx46).trans hx7)
      simp only [binS_gtr, split_dec]
      refine ⟨fun hbig => ?_, fun hsm => ?_⟩
      · rw [build_eq (cs := #[.slice none 0 0]) (by kernel_rfl)]
        refine store_whole (vs := [.slice none 0 0]) T.t_shape_Shape.i rfl rfl (by simp; rfl) hb07 ?_
        intro w8 hc8 hs8 hb8
        rw [res_struct T.t_shape_Shape.p T.t_shape_Shape.i rfl hb8.range]
        exact ⟨hx07.then hc8 (by rintro r hr rfl; omega), fun h => absurd hsz h, fun _ _ => rfl, fun _ h => by omega⟩
      · rw [load_struct T.t_shape_Shape.p T.t_shape_Shape.i rfl (hb6.ext hx7).range]
        refine store_whole (vs := [tv]) T.t_shape_Shape.i rfl rfl (by intro u hu; simp at hu; subst hu; exact htv.2) hb07 ?_
        intro w8 hc8 hs8 hb8
        rw [res_struct T.t_shape_Shape.p T.t_shape_Shape.i rfl hb8.range]
        have hs1 := hx1.size
        exact ⟨hx07.then hc8 (by rintro r hr rfl; omega), fun h => absurd hsz h, fun _ h => by omega, fun _ _ => ⟨gc, tv, rfl, by omega, (hm6.ext hx7).chg hc8 (by omega)⟩⟩
  · intro J hJ
    rw [len_ls T.t_sl_int.u (h.ext hx1)]
    simp only [binS_gtr, split_dec]
    refine ⟨fun hbig => hJ _ _ ⟨hx1, Ext.refl _, true, rfl, ?_⟩, fun hsm => ?_⟩
    · exact propext ⟨fun _ hs => by have := hs.1; omega, fun _ => rfl⟩
    · refine (nContains (h.ext hx1)).mono ?_
      rintro _ w2 _ ⟨rfl, hx2⟩
      refine hJ _ _ ⟨hx1.trans hx2, hx2, _, rfl, ?_⟩
      rw [decide_eq_true_eq]
      exact propext ⟨fun hb hs => hb hs.2, fun hb hs => hb ⟨by omega, hs⟩⟩
end Go.Proofs.YtahhkeljejfgfaaDoor
