/- Shapes: tuples, and all of them. -/
import Derived.Test.YtahhkeljejfgfaaDoorL2
import Derived.Test.YtahhkeljejfgfaaDoorL3
namespace Go.Proofs.YtahhkeljejfgfaaDoor
open Go Go.Vc Go.RowKit Go.Proofs Go.Proofs.Tryd
set_option maxRecDepth 100000

theorem sTuple {sv : Value} {l : List Int} {w : World} {n : Int} (h : LS .i64 w sv l) (hs : Sizes l) (h0 : 0 ≤ n) (hn : n < prodN l) :
    Cal prog F.shape_Shape_Tuple [.agg #[sv], .int .i64 n] w fun v w' => Ext w w' ∧ ∃ tv g, v = .tuple #[tv, .int .i64 0] ∧ w.heap.size ≤ g ∧ LM .i64 T.t_int w' g tv (tupN l n) := by
  have hl := hs.1
  have hpb := prod_bound hs
  apply shape_Shape_Tuple.enter
  unfold shape_Shape_Tuple.body
  refine box_c fun g w0 hg hx0 hb => ?_
  have hcell := h.cells
  simp only [JoinC, binS_lss, split_dec]
  refine ⟨fun hneg => by omega, fun _ => ?_⟩
  rw [load_struct T.t_shape_Shape.p T.t_shape_Shape.i rfl hb.range]
  refine (sCount (h.ext hx0) hs).mono ?_
  rintro _ w1 _ ⟨rfl, hx1⟩
  simp only [binS_geq, split_dec]
  refine ⟨fun hbig => by omega, fun _ => ?_⟩
  have hx01 := hx0.trans hx1
  rw [field_at T.t_shape_Shape.p rfl, load_cell (by kernel_rfl) ((hb.ext hx1).cell (o := 0 + 0) rfl), len_ls T.t_sl_int.u (h.ext hx01)]
  refine make_ints T.t_sl_int.u T.t_int.i (by omega) (by omega) ?_
  intro g2 w2 hg2 hx2 hb2
  simp only [len_slice T.t_sl_int.u]
  have hx02 := hx01.trans hx2
  have s0 := hx0.size
  have s1 := hx1.size
  have hgl := hb.lt
  refine ⟨fun t w3 => Ext w w3 ∧ Ext w0 w3 ∧ ∃ i : Nat, t = .int .i64 i ∧ i ≤ l.length ∧ Blk w3 g2 T.t_int (ints .i64 ((tupN l n).take i ++ List.replicate (l.length - i) 0)), fun t _ => l.length - (ival t).toNat,
    ⟨hx02, hx1.trans hx2, 0, rfl, Nat.zero_le _, by simpa using hb2⟩, ?_⟩
  rintro _ w3 ⟨hx3, hx03, i, rfl, hi, hb3⟩
  simp only [binS_lss, split_dec]
  refine ⟨fun hlt => ?_, fun hge => ?_⟩
  · have hlt : i < l.length := by omega
    rw [load_struct T.t_shape_Shape.p T.t_shape_Shape.i rfl (hb.ext hx03).range]
    refine (sStep (h.ext hx3) hs hlt).mono ?_
    rintro _ w4 _ ⟨rfl, hx4⟩
    simp only [Drew]
    intro w5 hx5 _ _
    have hx45 := hx4.trans hx5
    have hx5' := hx3.trans hx45
    obtain ⟨k, hk⟩ : ∃ k, l[i]? = some k := ⟨l[i], List.getElem?_eq_getElem (by omega)⟩
    have hkb := hs.2 k (List.mem_of_getElem? hk)
    have hp1 := prod_bound (hs.drop (i + 1))
    have hd0 : 0 ≤ n / prodN (l.drop (i + 1)) := Int.ediv_nonneg h0 (by omega)
    have hd1 : n / prodN (l.drop (i + 1)) ≤ n := Int.ediv_le_self _ h0
    rw [binS_quo (by omega), Int.tdiv_eq_ediv_of_nonneg h0, wrap_i64 (by omega) (by omega),
      field_at T.t_shape_Shape.p rfl, load_cell (by kernel_rfl) (((hb.ext hx03).ext hx45).cell (o := 0 + 0) rfl), get_ls T.t_sl_int.u T.t_int.i (by kernel_rfl) (h.ext hx5') hk,
      binS_rem (by omega), Int.tmod_eq_emod_of_nonneg hd0, index_nat T.t_sl_int.u T.t_int.i hlt (fun _ => rfl), Nat.mul_one]
    refine store_cell T.t_int.i rfl rfl (hb3.ext hx45) (by simp [tupN_length]; omega) ?_
    intro w6 hc6 hs6 hb6
    simp only [binS_add]
    rw [wrap_i64 (by omega) (by omega)]
    have hs2 := hx2.size
    have hs01 := hx01.size
    refine ⟨⟨hx5'.then hc6 (by rintro r hr rfl; omega), (hx03.trans hx45).then hc6 (by rintro r hr rfl; omega), i + 1, rfl, by omega, ?_⟩, ?_⟩
    · have hget := tupN_get (n := n) hk
      have e : (ints .i64 ((tupN l n).take i ++ List.replicate (l.length - i) 0)).set (0 + i) (.int .i64 (n / prodN (l.drop (i + 1)) % k)) = ints .i64 ((tupN l n).take (i + 1) ++ List.replicate (l.length - (i + 1)) 0) := by
        have hlen : ((tupN l n).take i).length = i := by rw [List.length_take, tupN_length]; omega
        rw [Nat.zero_add, ints, ← List.map_set]
        congr 1
        rw [List.set_append, if_neg (by omega), hlen, Nat.sub_self, show l.length - i = (l.length - (i + 1)) + 1 by omega, List.replicate_succ, List.set_cons_zero, List.take_add_one, hget]
        simp
      rw [← e]; exact hb6
    · simp only [ival]; omega
  · have hi' : i = l.length := by omega
    subst hi'
    refine ⟨hx3, _, g2, rfl, by have := hx01.size; omega, LM.of (n := l.length) (Mine.full ?_ (by simp [ints, tupN_length]) (by simp [maxLen]; omega))⟩
    have e : (tupN l n).take l.length ++ List.replicate (l.length - l.length) 0 = tupN l n := by rw [Nat.sub_self, List.take_of_length_le (by rw [tupN_length]; omega)]; simp
    rw [← e]; exact hb3
end Go.Proofs.YtahhkeljejfgfaaDoor
