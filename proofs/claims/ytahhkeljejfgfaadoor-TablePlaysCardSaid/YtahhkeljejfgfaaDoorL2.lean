/- Shapes: what they answer. -/
import Derived.Test.YtahhkeljejfgfaaDoorL1
import Derived.Test.YtahhkeljejfgfaaDoorP1
namespace Go.Proofs.YtahhkeljejfgfaaDoor
open Go Go.Vc Go.RowKit Go.Proofs Go.Proofs.Tryd
set_option maxRecDepth 100000

theorem rCount {sv : Value} {l : List Int} {w : World} (h : LS .i64 w sv l) (hs : Sizes l) :
    Cal prog F.ref03_Count [sv] w fun v w' => v = .int .i64 (prodN l) ∧ Ext w w' := by
  apply ref03_Count.enter
  unfold ref03_Count.body
  rw [len_ls T.t_sl_int.u h]
  refine ⟨fun n t w1 => Ext w w1 ∧ ∃ i : Nat, t = .int .i64 i ∧ i ≤ l.length ∧ n = .int .i64 (prodN (l.take i)), fun _ t _ => l.length - (ival t).toNat, ⟨Ext.refl _, 0, rfl, Nat.zero_le _, rfl⟩, ?_⟩
  rintro _ _ w1 ⟨hx, i, rfl, hi, rfl⟩
  have hl := hs.1
  simp only [binS_lss, split_dec]
  refine ⟨fun hlt => ?_, fun hge => ⟨?_, hx⟩⟩
  · obtain ⟨x, hxi⟩ : ∃ x, l[i]? = some x := ⟨_, List.getElem?_eq_getElem (by omega)⟩
    rw [get_ls T.t_sl_int.u T.t_int.i (by kernel_rfl) (h.ext hx) hxi]
    have hp := prod_bound (hs.take (i + 1))
    rw [prodN_take hxi] at hp
    simp only [binS_mul, binS_add]
    rw [wrap_i64 (by omega) (by omega), wrap_i64 (by omega) (by omega), ← prodN_take hxi]
    refine ⟨⟨hx, i + 1, rfl, by omega, rfl⟩, ?_⟩
    simp only [ival]; omega
  · have : i = l.length := by omega
    rw [this, List.take_length]

theorem sCount {sv : Value} {l : List Int} {w : World} (h : LS .i64 w sv l) (hs : Sizes l) :
    Cal prog F.shape_Shape_Count [.agg #[sv]] w fun v w' => v = .int .i64 (prodN l) ∧ Ext w w' := by
  apply shape_Shape_Count.enter
  unfold shape_Shape_Count.body
  refine box_c fun g w0 hg hx0 hb => ?_
  rw [field_at T.t_shape_Shape.p rfl, load_cell (by kernel_rfl) (hb.cell (o := 0 + 0) rfl), len_ls T.t_sl_int.u (h.ext hx0)]
  refine ⟨fun n t w1 => Ext w w1 ∧ ∃ i : Nat, t = .int .i64 i ∧ i ≤ l.length ∧ n = .int .i64 (prodN (l.take i)), fun _ t _ => l.length - (ival t).toNat, ⟨hx0, 0, rfl, Nat.zero_le _, rfl⟩, ?_⟩
  rintro _ _ w1 ⟨hx, i, rfl, hi, rfl⟩
  have hl := hs.1
  simp only [binS_lss, split_dec]
  refine ⟨fun hlt => ?_, fun hge => ⟨?_, hx⟩⟩
  · obtain ⟨x, hxi⟩ : ∃ x, l[i]? = some x := ⟨_, List.getElem?_eq_getElem (by omega)⟩
    rw [get_ls T.t_sl_int.u T.t_int.i (by kernel_rfl) (h.ext hx) hxi]
    have hp := prod_bound (hs.take (i + 1))
    rw [prodN_take hxi] at hp
    simp only [binS_mul, binS_add]
    rw [wrap_i64 (by omega) (by omega), wrap_i64 (by omega) (by omega), ← prodN_take hxi]
    refine ⟨⟨hx, i + 1, rfl, by omega, rfl⟩, ?_⟩
    simp only [ival]; omega
  · have : i = l.length := by omega
    rw [this, List.take_length]

theorem sStep {sv : Value} {l : List Int} {w : World} {i : Nat} (h : LS .i64 w sv l) (hs : Sizes l) (hi : i < l.length) :
    Cal prog F.shape_Shape_Step [.agg #[sv], .int .i64 i] w fun v w' => v = .int .i64 (prodN (l.drop (i + 1))) ∧ Ext w w' := by
  have hl := hs.1
  apply shape_Shape_Step.enter
  unfold shape_Shape_Step.body
  refine box_c fun g w0 hg hx0 hb => ?_
  have h0 := h.ext hx0
  simp only [JoinC, binS_lss, split_dec]
  refine ⟨fun hlt => by omega, fun _ => ?_⟩
  rw [field_at T.t_shape_Shape.p rfl, load_cell (by kernel_rfl) (hb.cell (o := 0 + 0) rfl), len_ls T.t_sl_int.u h0]
  simp only [binS_geq, split_dec]
  refine ⟨fun hge => by omega, fun _ => ?_⟩
  rw [field_at T.t_shape_Shape.p rfl, load_cell (by kernel_rfl) (hb.cell (o := 0 + 0) rfl)]
  simp only [binS_add]
  have e1 : IntKind.i64.wrap ((i : Int) + 1) = ((i + 1 : Nat) : Int) := by rw [wrap_i64 (by omega) (by omega)]; omega
  rw [e1]
  have h0' := h0
  obtain ⟨_, b, o, base, cap, rfl, hcap, hmax, hbb, hr⟩ := id h0
  rw [slice_slice T.t_sl_int.u T.t_int.i (l := i + 1) (h := l.length) (m := cap) lo_at hi_no mx_no (by omega) (by omega) (by omega)]
  have hp := Sl.part (l := i + 1) (h := l.length) (m := cap) h0' (by omega) (by omega) (by omega) (by omega)
  generalize hq : (Value.slice (if cap = i + 1 then base else Option.map (fun x => x.add ((i + 1) * 1)) base) (l.length - (i + 1)) (cap - (i + 1))) = q at hp ⊢
  have e2 : ((ints .i64 l).drop ((i + 1) * 1)).take ((l.length - (i + 1)) * 1) = ints .i64 (l.drop (i + 1)) := by
    rw [List.take_of_length_le (by simp), Nat.mul_one, ints, ← List.map_drop]
  rw [e2] at hp
  rw [build_eq (cs := #[q]) (by subst hq; kernel_rfl)]
  refine (sCount (LS.of hp) (hs.drop (i + 1))).mono ?_
  rintro _ w2 _ ⟨rfl, hx2⟩
  exact ⟨rfl, hx0.trans hx2⟩

def idxV (s t : List Int) : Value := match idxN s t 0 with
  | some n => .tuple #[.int .i64 n, .int .i64 0]
  | none => .tuple #[.int .i64 0, .int .i64 3]

theorem sIndex {sv tv : Value} {s t : List Int} {w : World} (h : LS .i64 w sv s) (ht : LS .i64 w tv t) (hs : Sizes s) :
    Cal prog F.shape_Shape_Index [.agg #[sv], tv] w fun v w' => v = idxV s t ∧ Ext w w' := by
  have hl := hs.1
  apply shape_Shape_Index.enter
  unfold shape_Shape_Index.body
  refine box_c fun g w0 hg hx0 hb => ?_
  rw [len_ls T.t_sl_int.u (ht.ext hx0), field_at T.t_shape_Shape.p rfl, load_cell (by kernel_rfl) (hb.cell (o := 0 + 0) rfl), len_ls T.t_sl_int.u (h.ext hx0)]
  simp only [binS_neq, split_dec]
  refine ⟨fun hne => ⟨?_, hx0⟩, fun heq => ?_⟩
  · unfold idxV; rw [idxN_len _ _ _ (by omega)]
  · have heq : s.length = t.length := by omega
    rw [len_ls T.t_sl_int.u (ht.ext hx0)]
    refine ⟨fun _ _ n c w1 => Ext w0 w1 ∧ ∃ (i : Nat) (m : Int), c = .int .i64 i ∧ i ≤ t.length ∧ n = .int .i64 m ∧ 0 ≤ m ∧ m < prodN (s.take i) ∧ idxN s t 0 = idxN (s.drop i) (t.drop i) m, fun _ _ _ c _ => t.length - (ival c).toNat,
      ⟨Ext.refl _, 0, 0, rfl, Nat.zero_le _, rfl, Int.le_refl _, by simp [prodN], rfl⟩, ?_⟩
    rintro _ _ _ _ w1 ⟨hx1, i, m, rfl, hi, rfl, hm0, hm1, hid⟩
    have hx := hx0.trans hx1
    simp only [binS_lss, split_dec]
    refine ⟨fun hlt => ?_, fun hge => ⟨?_, hx⟩⟩
    · obtain ⟨v, hv, hdt⟩ : ∃ v, t[i]? = some v ∧ t.drop i = v :: t.drop (i + 1) := ⟨t[i], List.getElem?_eq_getElem (by omega), List.drop_eq_getElem_cons (by omega)⟩
      obtain ⟨k, hk, hds⟩ : ∃ k, s[i]? = some k ∧ s.drop i = k :: s.drop (i + 1) := ⟨s[i], List.getElem?_eq_getElem (by omega), List.drop_eq_getElem_cons (by omega)⟩
      rw [hdt, hds] at hid
      have hp := prod_bound (hs.take (i + 1))
      have hp0 := prod_bound (hs.take i)
      have hkb := hs.2 k (List.mem_of_getElem? hk)
      rw [prodN_take hk] at hp
      have hfail : ¬ (0 ≤ v ∧ v < k) → idxV s t = .tuple #[.int .i64 0, .int .i64 3] := fun hn => by unfold idxV; rw [hid]; simp [idxN, hn]
      rw [get_ls T.t_sl_int.u T.t_int.i (by kernel_rfl) (ht.ext hx) hv]
      simp only [JoinC, binS_lss, split_dec, split_true]
      refine ⟨fun hneg => ⟨(hfail (by omega)).symm, hx⟩, fun hpos => ?_⟩
      rw [field_at T.t_shape_Shape.p rfl, load_cell (by kernel_rfl) ((hb.ext hx1).cell (o := 0 + 0) rfl), get_ls T.t_sl_int.u T.t_int.i (by kernel_rfl) (h.ext hx) hk]
      simp only [binS_geq, split_dec]
      refine ⟨fun hbig => ⟨(hfail (by omega)).symm, hx⟩, fun hsm => ?_⟩
      rw [field_at T.t_shape_Shape.p rfl, load_cell (by kernel_rfl) ((hb.ext hx1).cell (o := 0 + 0) rfl), get_ls T.t_sl_int.u T.t_int.i (by kernel_rfl) (h.ext hx) hk]
      have hmk : 0 ≤ m * k ∧ m * k + k ≤ prodN (s.take i) * k := by
        constructor
        · exact Int.mul_nonneg hm0 (by omega)
        · have := Int.mul_le_mul_of_nonneg_right (show m + 1 ≤ prodN (s.take i) by omega) (show 0 ≤ k by omega)
          rw [Int.add_mul, Int.one_mul] at this; exact this
      simp only [binS_mul, binS_add]
      rw [wrap_i64 (x := m * k) (by omega) (by omega), wrap_i64 (x := m * k + v) (by omega) (by omega), wrap_i64 (x := (i : Int) + 1) (by omega) (by omega)]
      refine ⟨⟨hx1, i + 1, m * k + v, rfl, by omega, rfl, by omega, by rw [prodN_take hk]; omega, ?_⟩, ?_⟩
      · rw [hid]; simp [idxN, show 0 ≤ v ∧ v < k from ⟨by omega, by omega⟩]
      · simp only [ival]; omega
    · have : i = t.length := by omega
      rw [this, List.drop_of_length_le (by omega), List.drop_of_length_le (by omega)] at hid
      unfold idxV; rw [hid]; rfl
end Go.Proofs.YtahhkeljejfgfaaDoor
