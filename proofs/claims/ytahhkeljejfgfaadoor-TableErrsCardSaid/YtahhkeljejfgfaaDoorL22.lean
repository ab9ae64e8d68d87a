/- Two lists, one behind the other; scopes; sizes of what is joined. -/
import Derived.Test.YtahhkeljejfgfaaDoorL21
import Derived.Test.YtahhkeljejfgfaaDoorKl
namespace Go.Proofs.YtahhkeljejfgfaaDoor
open Go Go.Vc Go.RowKit Go.Proofs Go.Proofs.Tryd
set_option maxRecDepth 100000

theorem sGrowNil {n : Nat} {w : World} (hn : n ≤ 1000000) : Cal prog F.slices_Grow_int_int [.slice none 0 0, .int .i64 (n : Int)] w fun v w' => Ext w w' ∧ ∃ g, w.heap.size ≤ g ∧ LM .i64 T.t_int w' g v [] := by
  apply slices_Grow_int_int.enter
  unfold slices_Grow_int_int.body
  refine join0 (fun w1 => w = w1) ?_ ?_
  · rintro _ rfl
    refine join1 (fun v w' => Ext w w' ∧ ∃ g, w.heap.size ≤ g ∧ LM .i64 T.t_int w' g v []) (fun _ _ h => h) fun J hJ => ?_
    rw [cap_slice T.t_sl_int.u, len_slice T.t_sl_int.u]
    simp only [binS_sub]
    have e0 : IntKind.i64.wrap (((0 : Nat) : Int) - ((0 : Nat) : Int)) = 0 := by decide
    have e1 : IntKind.i64.wrap ((n : Int) - 0) = n := by rw [wrap_i64 (by omega) (by omega)]; omega
    rw [e0, e1]
    simp only [binS_gtr, split_dec]
    refine ⟨fun h => ?_, fun h => hJ _ _ ⟨Ext.refl _, w.heap.size, Nat.le_refl _, LM.nil _ _ _ _⟩⟩
    rw [cap_slice T.t_sl_int.u, slice_slice T.t_sl_int.u T.t_int.i (l := 0) (h := 0) (m := 0) lo_no hi_at mx_no (by omega) (by omega) (by omega), if_pos rfl]
    refine append_zeros_c (k := n) (xs := []) rfl T.t_sl_int.u T.t_int.u T.t_int.i rfl ⟨rfl, 0, 0, none, 0, rfl, Nat.le_refl _, Nat.zero_le _, fun h => absurd h (Nat.lt_irrefl _), fun j v h => by simp at h⟩ (by omega) (by omega) (by omega) (by omega) fun v g w' hg hx hm => ?_
    obtain ⟨_, ⟨_, h0⟩ | ⟨cap, cs, rfl, hb, h1, h2, h3, h4⟩⟩ := hm
    · omega
    rw [len_slice T.t_sl_int.u, slice_slice T.t_sl_int.u T.t_int.i (l := 0) (h := 0) (m := cap) lo_no hi_at mx_no (by omega) (by omega) (by omega), if_neg (by omega)]
    have e2 : Option.map (fun x : Addr => x.add (0 * 1)) (some ⟨g, 0, none⟩) = some ⟨g, 0, none⟩ := by simp [Addr.add_mid]
    rw [e2]
    refine hJ _ _ ⟨hx, g, by omega, LM.of (n := 0) ⟨by simp, .inr ⟨cap, cs, by simp, hb, by omega, h2, h3, by simp⟩⟩⟩
  · intro J hJ
    simp only [binS_lss, split_dec]
    exact ⟨fun h => by omega, fun _ => hJ _ rfl⟩

set_option maxHeartbeats 1000000 in
theorem sConcat2 {av bv : Value} {a b : List Int} {w : World} {K : Value → World → Prop} (ha : LS .i64 w av a) (hb : LS .i64 w bv b) (hal : a.length ≤ 1000) (hbl : b.length ≤ 1000)
    (hK : ∀ v w' g, Ext w w' → w.heap.size ≤ g → LM .i64 T.t_int w' g v (a ++ b) → K v w') :
    RunC prog (Instr.buildSlice T.t_sl_sl_int 2 #[(0, av), (1, bv)]) w fun t w1 => Cal prog F.slices_Concat_int_int [t] w1 K := by
  obtain ⟨⟨xa, na, ca, hav⟩, ⟨xb, nb, cb, hbv⟩⟩ : (∃ x n c, av = .slice x n c) ∧ (∃ x n c, bv = .slice x n c) := by
    obtain ⟨_, _, _, x, c, h1, _⟩ := id ha
    obtain ⟨_, _, _, y, d, h2, _⟩ := id hb
    exact ⟨⟨x, _, c, h1⟩, ⟨y, _, d, h2⟩⟩
  subst hav
  subst hbv
  refine buildSlice_c T.t_sl_sl_int.u T.t_sl_int.i (by omega) (cs := #[.slice xa na ca, .slice xb nb cb]) (by kernel_rfl) fun g w1 hg hx1 hb1 => ?_
  have hb1 : Blk w1 g T.t_sl_int [.slice xa na ca, .slice xb nb cb] := hb1
  have key : ∀ i : Nat, i < 2 → ∃ v l, [Value.slice xa na ca, .slice xb nb cb][i]? = some v ∧ [a, b][i]? = some l ∧ LS .i64 w v l ∧ l.length ≤ 1000 := fun i hi => by
    match i, hi with
    | 0, _ => exact ⟨_, _, rfl, rfl, ha, hal⟩
    | 1, _ => exact ⟨_, _, rfl, rfl, hb, hbl⟩
  apply slices_Concat_int_int.enter
  unfold slices_Concat_int_int.body
  rw [len_slice T.t_sl_sl_int.u]
  refine Loop2.range 2 (fun i size w2 => Ext w1 w2 ∧ ∃ n : Nat, n ≤ 1000 * i ∧ size = .int .i64 (n : Int)) (by omega) ⟨Ext.refl _, 0, by omega, rfl⟩ ?_ ?_
  · rintro i _ w2 kk hi ⟨hx2, n, hn, rfl⟩ hkk
    simp only [binS_lss, split_dec]
    refine ⟨fun _ => ?_, fun h => by omega⟩
    obtain ⟨v, l, hv, hl, hls, hll⟩ := key i hi
    refine join1 (fun v w3 => w2 = w3 ∧ v = .int .i64 ((n + l.length : Nat) : Int)) ?_ ?_
    · rintro _ _ ⟨rfl, rfl⟩
      simp only [binS_add]
      exact hkk _ _ ⟨hx2, _, by omega, rfl⟩
    · intro J hJ
      rw [index_nat (b := g) (o := 0) T.t_sl_sl_int.u T.t_sl_int.i hi (fun _ => rfl), load_cell (by kernel_rfl) ((hb1.ext hx2).cell (o := 0 + i * 1) (by rw [← hv]; congr 1; omega)), len_ls T.t_sl_int.u (hls.ext (hx1.trans hx2))]
      simp only [binS_add, binS_lss, split_dec]
      rw [wrap_i64 (by omega) (by omega)]
      exact ⟨fun h => by omega, fun _ => hJ _ _ ⟨rfl, by congr 1⟩⟩
  · rintro _ w2 kk ⟨hx2, n, hn, rfl⟩
    simp only [binS_lss, split_dec]
    refine ⟨fun h => by omega, fun _ => ?_⟩
    refine (sGrowNil (n := n) (by omega)).mono ?_
    rintro v0 w3 _ ⟨hx3, g3, hg3, hm3⟩
    have s1 := hx1.size
    have s2 := hx2.size
    have s3 := hx3.size
    have hx13 := hx2.trans hx3
    rw [len_slice T.t_sl_sl_int.u]
    refine Loop2.range 2 (fun i v w4 => Ext w1 w4 ∧ ∃ g4, w1.heap.size ≤ g4 ∧ LM .i64 T.t_int w4 g4 v (([a, b].take i).flatten) ∧ (([a, b].take i).flatten).length ≤ 1000 * i) (by omega) ⟨hx13, g3, by omega, hm3, by simp⟩ ?_ ?_
    · rintro i v4 w4 k2 hi ⟨hx4, g4, hg4, hm4, hle⟩ hk2
      simp only [binS_lss, split_dec]
      refine ⟨fun _ => ?_, fun h => by omega⟩
      obtain ⟨v, l, hv, hl, hls, hll⟩ := key i hi
      rw [index_nat (b := g) (o := 0) T.t_sl_sl_int.u T.t_sl_int.i hi (fun _ => rfl), load_cell (by kernel_rfl) ((hb1.ext hx4).cell (o := 0 + i * 1) (by rw [← hv]; congr 1; omega))]
      refine push_lm T.t_sl_int.u T.t_int.i rfl hm4 (hls.ext (hx1.trans hx4)) (by omega) (by omega) fun v' g' w5 hg' hv' hc5 => ?_
      simp only [binS_add]
      have s4 := hx4.size
      have e : ([a, b].take (i + 1)).flatten = ([a, b].take i).flatten ++ l := by rw [List.take_add_one, hl]; simp
      refine hk2 _ _ ⟨hx4.then hc5 (by rintro r hr rfl; omega), g', by omega, by rw [e]; exact hv', by rw [e, List.length_append]; omega⟩
    · rintro v4 w4 k2 ⟨hx4, g4, hg4, hm4, _⟩
      simp only [binS_lss, split_dec]
      refine ⟨fun h => by omega, fun _ => hK _ _ g4 (hx1.trans hx4) (by omega) ?_⟩
      have e : ([a, b].take 2).flatten = a ++ b := by simp
      rw [e] at hm4
      exact hm4
end Go.Proofs.YtahhkeljejfgfaaDoor
