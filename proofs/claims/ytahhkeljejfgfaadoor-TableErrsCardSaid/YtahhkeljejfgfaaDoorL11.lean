/- Slices: an element put in, an element taken out; the least. -/
import Derived.Test.YtahhkeljejfgfaaDoorL10
import Derived.Test.YtahhkeljejfgfaaDoorM2
import Derived.Test.YtahhkeljejfgfaaDoorKl
namespace Go.Proofs.YtahhkeljejfgfaaDoor
open Go Go.Vc Go.RowKit Go.Proofs Go.Proofs.Tryd
set_option maxRecDepth 100000

theorem cells_of_take {k : IntKind} {cs : List Value} {l : List Int} (h : cs.take l.length = ints k l) {j : Nat} (hj : j < l.length) : cs[j]? = (ints k l)[j]? := by
  rw [← h, List.getElem?_take_of_lt hj]

theorem size_int (w : World) : (Go.sizeOf T.t_int).run prog w = .ok 1 w := by
  obtain ⟨i, hi, hs, _⟩ := T.t_int.i
  simp [sizeOf, typeInfo, hi, hs]
theorem ov_no {gx g o cx lb cb e1 e2 : Nat} {csx cs : List Value} {w : World} (hx : Blk w gx e1 csx) (hb : Blk w g e2 cs) (hne : gx ≠ g) (hc : cs.length ≠ 0) :
    Cal prog F.slices_overlaps_int [.slice (some ⟨gx, 0, none⟩) 1 cx, .slice (some ⟨g, o, none⟩) lb cb] w fun v w' => v = .bool false ∧ w' = w := by
  have hlt : F.slices_overlaps_int < prog.funcs.size := of_decide_eq_true (by kernel_rfl)
  refine .ext (.bool false) w ?_ (Ns.refl _) ⟨rfl, rfl⟩
  rw [run_callFunc_extern (fn := prog.funcs[F.slices_overlaps_int]) (Array.getElem?_eq_getElem hlt) (by kernel_rfl) (by kernel_rfl) (by kernel_rfl) (e := Extern.SlicesOverlaps.overlaps #[T.t_sl_int, T.t_sl_int] #[T.t_bool]) (by kernel_rfl)]
  have := Lib.run_overlaps_apart (P := prog) w T.t_sl_int T.t_bool T.t_int T.t_sl_int.u 1 size_int ⟨gx, 0, none⟩ ⟨g, o, none⟩ 1 cx lb cb hne e1 e2 csx.length cs.length (blk_shape hx) (blk_shape hb) hc (hx.frozen _ _) (hx.frozen _ _)
  show (Sem.run prog (Extern.SlicesOverlaps.overlaps #[T.t_sl_int, T.t_sl_int] #[T.t_bool] #[.slice (some ⟨gx, 0, none⟩) 1 cx, .slice (some ⟨g, o, none⟩) lb cb]) w).andThen _ = _
  rw [this]; rfl

theorem sInsert {sv xv : Value} {l : List Int} {x : Int} {i g gx : Nat} {w : World} (h : LM .i64 T.t_int w g sv l) (hx : LM .i64 T.t_int w gx xv [x]) (hg : g ≠ gx) (hi : i ≤ l.length) (hl : l.length ≤ 1000) :
    Cal prog F.slices_Insert_int_int [sv, .int .i64 i, xv] w fun v w' => Chg (fun r => r = g) w w' ∧ ∃ g', (g' = g ∨ w.heap.size ≤ g') ∧ LM .i64 T.t_int w' g' v (l.take i ++ [x] ++ l.drop i) := by
  apply slices_Insert_int_int.enter
  unfold slices_Insert_int_int.body
  refine drop_ls rfl T.t_sl_int.u T.t_int.i h.ls hi fun _ _ => ?_
  rw [len_ls T.t_sl_int.u hx.ls]
  simp only [binS_eql, split_dec]
  refine ⟨fun h0 => by simp at h0, fun _ => ?_⟩
  rw [len_ls T.t_sl_int.u h.ls]
  simp only [binS_eql, split_dec]
  refine ⟨fun he => ?_, fun hne => ?_⟩
  · have he : i = l.length := by omega
    subst he
    refine push_lm T.t_sl_int.u T.t_int.i rfl h hx.ls (by simp; omega) (by simp; omega) fun v' g' w' hg' hv' hc => ⟨hc, g', hg', ?_⟩
    simpa using hv'
  · have hin : i < l.length := by omega
    obtain ⟨hlen, ⟨rfl, h0⟩ | ⟨cap, cs, rfl, hb, hnc, hcm, hcl, htake⟩⟩ := id h
    · omega
    simp only [Nat.mul_one] at hcl htake hlen
    simp only [maxLen] at hcm
    have hones : ([x].length : Int) = 1 := rfl
    simp only [binS_add, hones]
    rw [wrap_i64 (by omega) (by omega), cap_slice T.t_sl_int.u]
    simp only [binS_gtr, split_dec]
    refine ⟨fun hroom => ?_, fun hroom => ?_⟩
    · have hroom : cap < l.length + 1 := by omega
      rw [slice_slice T.t_sl_int.u T.t_int.i (l := 0) (h := i) (m := cap) lo_no hi_at mx_no (by omega) (by omega) (by omega)]
      simp only [binS_add, binS_sub]
      rw [wrap_i64 (x := (l.length : Int) + 1 - i) (by omega) (by omega)]
      have hp := Sl.part (l := 0) (h := i) (m := cap) h.ls (by omega) (by omega) (by omega) (by omega)
      have e1 : ((ints .i64 l).drop (0 * 1)).take ((i - 0) * 1) = ints .i64 (l.take i) := by simp [ints, List.map_take]
      rw [e1] at hp
      refine append_zeros_c (k := l.length + 1 - i) (by omega) T.t_sl_int.u T.t_int.u T.t_int.i rfl hp (by omega) (by omega) (by omega) (by omega) fun v2 g2 w2 hg2 hx2 hm2 => ?_
      obtain ⟨hlen2, ⟨rfl, h0⟩ | ⟨cap2, cs2, rfl, hb2, hnc2, hcm2, hcl2, htake2⟩⟩ := id hm2
      · omega
      simp only [maxLen] at hcm2
      have hn2 : i - 0 + (l.length + 1 - i) = l.length + 1 := by omega
      rw [hn2] at hm2 hlen2 hnc2 htake2 ⊢
      simp only [Nat.mul_one] at hcl2 htake2
      rw [slice_slice T.t_sl_int.u T.t_int.i (l := i) (h := l.length + 1) (m := cap2) lo_at hi_no mx_no (by omega) (by omega) (by omega), if_neg (by omega)]
      refine copy_blk T.t_sl_int.u T.t_int.i hb2 (o := i) (fun _ => by simp [Addr.add_mid]) (by omega) (hx.ls.ext hx2) (one_ints _ _) fun w3 hc3 hs3 hb3 => ?_
      intro w4 hx4 _ _
      have hb4 := hb3.ext hx4
      rw [List.take_of_length_le (by simp; omega)] at hb4
      rw [wrap_i64 (by omega) (by omega), slice_slice T.t_sl_int.u T.t_int.i (l := i + 1) (h := l.length + 1) (m := cap2) (lo_lit (i + 1) _ (by omega)) hi_no mx_no (by omega) (by omega) (by omega), if_neg (by omega)]
      have glt := hb.lt
      have hx04 : Ext w w4 := (hx2.then hc3 (by rintro r hr rfl; omega)).trans hx4
      have s2 := hx2.size
      refine drop_ls rfl T.t_sl_int.u T.t_int.i (h.ls.ext hx04) hi fun v4 h4 => ?_
      refine copy_blk T.t_sl_int.u T.t_int.i hb4 (o := i + 1) (fun _ => by simp [Addr.add_mid]) (by rw [over_length]; omega) h4 (one_ints _ _) fun w5 hc5 hs5 hb5 => ?_
      refine ⟨(hx04.then hc5 (by rintro r hr rfl; omega)).chg _, g2, .inr (by omega), LM.of (n := l.length + 1) ⟨by simp; omega, .inr ⟨cap2, _, rfl, hb5, hnc2, hcm2, by rw [over_length, over_length]; simpa using hcl2, ?_⟩⟩⟩
      have e2 : (ints .i64 (l.drop i)).take (l.length + 1 - (i + 1)) = ints .i64 (l.drop i) := List.take_of_length_le (by simp <;> omega)
      rw [e2, Nat.mul_one]
      have hg2' : ∀ j, j < l.length + 1 → cs2[j]? = (ints .i64 (l.take i) ++ List.replicate (l.length + 1 - i) (Value.int .i64 0))[j]? := fun j hj => by
        rw [← htake2, List.getElem?_take_of_lt hj]
      apply List.ext_getElem?
      intro j
      by_cases hj : j < l.length + 1
      · rw [List.getElem?_take_of_lt hj, over_get _ _ _ (by rw [over_length]; simp; omega), over_get _ _ _ (by simp; omega), hg2' j hj]
        simp only [ints, List.map_append, List.map_drop, List.map_take, List.getElem?_append, List.getElem?_drop, List.getElem?_take, List.length_append, List.length_take, List.length_map, List.length_drop, List.length_cons, List.length_nil, List.map_cons, List.map_nil]
        repeat' split
        all_goals first | rfl | omega | (congr 1; omega) | (exfalso; omega) | skip
      · rw [List.getElem?_eq_none (by simp; omega), List.getElem?_eq_none (by simp; omega)]
    · have hroom : l.length + 1 ≤ cap := by omega
      rw [slice_slice T.t_sl_int.u T.t_int.i (l := 0) (h := l.length + 1) (m := cap) lo_no (hi_lit _ _ (by omega)) mx_no (by omega) (by omega) (by omega), if_neg (by omega)]
      rw [wrap_i64 (x := (i : Int) + 1) (by omega) (by omega), slice_slice T.t_sl_int.u T.t_int.i (l := i + 1) (h := l.length + 1 - 0) (m := cap - 0) (lo_lit (i + 1) _ (by omega)) hi_no mx_no (by omega) (by omega) (by omega), if_neg (by omega)]
      have glt := hb.lt
      obtain ⟨hlenx, ⟨rfl, hx0⟩ | ⟨capx, csx, rfl, hbx, hncx, hcmx, hclx, htakex⟩⟩ := id hx
      · simp at hx0
      refine (ov_no hbx hb (Ne.symm hg) (by omega)).mono ?_
      rintro _ _ _ ⟨rfl, rfl⟩
      simp only [un_not, Bool.not_false, split_true]
      intro w7 hx7 _ _
      have hb7 := hb.ext hx7
      rw [slice_slice T.t_sl_int.u T.t_int.i (l := i + 1) (h := l.length + 1 - 0) (m := cap - 0) (lo_lit (i + 1) _ (by omega)) hi_no mx_no (by omega) (by omega) (by omega), if_neg (by omega),
        slice_slice T.t_sl_int.u T.t_int.i (l := i) (h := l.length + 1 - 0) (m := cap - 0) lo_at hi_no mx_no (by omega) (by omega) (by omega), if_neg (by omega)]
      have hsrc : Sl w7 1 (.slice (some ⟨g, i, none⟩) (l.length + 1 - 0 - i) (cap - 0 - i)) (l.length + 1 - 0 - i) ((cs.drop i).take (l.length + 1 - 0 - i)) := blk_sl hb7 (by omega) (by omega) (by simp only [maxLen]; omega)
      have e3 : Option.map (fun x : Addr => x.add (i * 1)) (Option.map (fun x : Addr => x.add (0 * 1)) (some ⟨g, 0, none⟩)) = some ⟨g, i, none⟩ := by simp [Addr.add_mid]
      have e4 : Option.map (fun x : Addr => x.add ((i + 1) * 1)) (Option.map (fun x : Addr => x.add (0 * 1)) (some ⟨g, 0, none⟩)) = some ⟨g, i + 1, none⟩ := by simp [Addr.add_mid]
      rw [e3, e4]
      have e5 : ((cs.drop i).take (l.length + 1 - 0 - i)).take (l.length + 1 - 0 - (i + 1)) = ints .i64 (l.drop i) := by
        have : cs.drop i = (cs.take l.length).drop i ++ cs.drop l.length := by
          conv => lhs; rw [← List.take_append_drop l.length cs]
          rw [List.drop_append_of_le_length (by simp; omega)]
        rw [List.take_take, this, htake, List.take_append_of_le_length (by simp; omega), List.take_of_length_le (by simp; omega), ints, ints, List.map_drop]
      have hone : ∀ u ∈ ((cs.drop i).take (l.length + 1 - 0 - i)).take (l.length + 1 - 0 - (i + 1)), u.oneCell' = true := by rw [e5]; exact one_ints _ _
      refine copy_some T.t_sl_int.u T.t_int.i hb7 (o := i + 1) (fun _ => rfl) (by omega) hsrc hone fun w8 hc8 hs8 hb8 => ?_
      rw [slice_slice T.t_sl_int.u T.t_int.i (l := i) (h := l.length + 1 - 0) (m := cap - 0) lo_at hi_no mx_no (by omega) (by omega) (by omega), if_neg (by omega), e3]
      refine copy_blk T.t_sl_int.u T.t_int.i hb8 (o := i) (fun _ => rfl) (by rw [over_length]; omega) ((hx.chg ((hx7.chg (fun r => r = g)).trans hc8) (fun _ => Ne.symm hg)).ls) (one_ints _ _) fun w9 hc9 hs9 hb9 => ?_
      refine ⟨((hx7.chg _).trans hc8).trans hc9, g, .inl rfl, LM.of (n := l.length + 1) ⟨by simp; omega, .inr ⟨cap, _, by simp [Addr.add_mid], hb9, hroom, by simp only [maxLen]; omega, by rw [over_length, over_length]; simpa using hcl, ?_⟩⟩⟩
      rw [Nat.mul_one, e5]
      apply List.ext_getElem?
      intro j
      by_cases hj : j < l.length + 1
      · rw [List.getElem?_take_of_lt hj, over_get _ _ _ (by rw [over_length]; simp; omega), over_get _ _ _ (by simp; omega)]
        have hcj : j < i → cs[j]? = (ints .i64 l)[j]? := fun hq => cells_of_take htake (by omega)
        by_cases h1 : j < i
        · rw [hcj h1, if_neg (by omega), if_neg (by omega)]
          simp only [ints, List.map_append, List.map_take, List.getElem?_append, List.getElem?_take, List.length_append, List.length_take, List.length_map, List.map_cons, List.map_nil, List.length_cons, List.length_nil]
          rw [if_pos (by omega), if_pos (by omega), if_pos h1]
        · simp only [ints, List.map_append, List.map_drop, List.map_take, List.getElem?_append, List.getElem?_drop, List.getElem?_take, List.length_append, List.length_take, List.length_map, List.length_drop, List.length_cons, List.length_nil, List.map_cons, List.map_nil]
          repeat' split
          all_goals first | rfl | omega | (congr 1; omega) | (exfalso; omega)
      · rw [List.getElem?_eq_none (by simp; omega), List.getElem?_eq_none (by simp; omega)]
end Go.Proofs.YtahhkeljejfgfaaDoor
