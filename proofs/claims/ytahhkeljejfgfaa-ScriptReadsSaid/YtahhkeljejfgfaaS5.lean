/- ScriptReads, part 5: the law. -/
import Derived.Test.YtahhkeljejfgfaaS4
namespace Go.Proofs.Ytahhkeljejfgfaa
open Go Go.Vc Go.RowKit Go.Proofs Go.Proofs.Try
set_option maxRecDepth 100000

theorem awake24 {w : World} : Cal prog F.law24_awake [] w fun v w' => v = .bool true ∧ Ext w w' := by
  apply law24_awake.enter
  unfold law24_awake.body
  refine buildSlice_c T.t_sl_uint8.u T.t_uint8.i (by omega) (cs := #[.int .u8 6, .int .u8 4]) (by kernel_rfl) ?_
  intro g1 w1 hg1 hx1 hb1
  refine (sRead (p := .slice (some ⟨g1, 0, none⟩) 2 2) (n := 2) (a := [6, 4]) (Mine.full (n := 2) hb1 rfl (by simp only [maxLen]; omega)).sl (by omega) (by intro x hx; simp at hx; omega)).mono ?_
  rintro v w2 _ ⟨hx2, g, hg, hm⟩
  have hsl := hm.sl
  have e : ops [6, 4] ((2 + 5) / 6) = [6, 4, 0, 0, 0] := by decide
  rw [e] at hsl
  obtain ⟨_, b, o, base, cap, rfl, hcap, hmax, hb, hr⟩ := hsl
  have hx := hx1.trans hx2
  have c0 : w2.cell? ⟨b, o + 0 * 5 + 0, none⟩ = some (.int .i64 6) := by simpa using hr 0 _ rfl
  have c1 : w2.cell? ⟨b, o + 0 * 5 + 1, none⟩ = some (.int .i64 4) := by simpa using hr 1 _ rfl
  simp only [len_slice T.t_sl_script_Op.u, binS_eql, split_dec]
  refine ⟨fun _ => ?_, fun h => absurd rfl h⟩
  rw [index_lit 0 0 T.t_sl_script_Op.u T.t_script_Op.i rfl (by omega) hb, field_at T.t_script_Op.p rfl, load_cell (by kernel_rfl) c0]
  simp only [binS_eql, split_dec]
  refine ⟨fun _ => ?_, fun h => absurd trivial h⟩
  rw [index_lit 0 0 T.t_sl_script_Op.u T.t_script_Op.i rfl (by omega) hb, field_at T.t_script_Op.p rfl, load_cell (by kernel_rfl) c1]
  simp only [binS_eql]
  exact ⟨rfl, hx⟩

theorem ScriptReads_law {p : Value} {w : World} {n : Nat} {a : List Int} (h1 : Sl w 1 p n (ints .u8 a)) (hby : Bytes a) :
    Cal prog F.law24_ScriptReads [p] w fun v w' => v = .bool true ∧ Ext w w' := by
  have hal : a.length = n := by simpa using h1.1
  apply law24_ScriptReads.enter
  unfold law24_ScriptReads.body
  refine awake24.mono ?_
  rintro _ w1 _ ⟨rfl, hx1⟩
  simp only [un_not, Bool.not_true, split_false]
  have h1' := h1.ext hx1
  obtain ⟨_, b, o, base, cap, rfl, hcap, hmax, hb, hr⟩ := id h1'
  have hmin : min (n : Int) 200 = ((min n 200 : Nat) : Int) := by omega
  simp only [len_slice T.t_sl_uint8.u, min_int, hmin]
  rw [slice_slice T.t_sl_uint8.u T.t_uint8.i (l := 0) (h := min n 200) (m := cap) lo_no hi_at mx_no (by omega) (by omega) (by omega)]
  have hp := h1'.part (l := 0) (h := min n 200) (m := cap) (by omega) (by omega) (by omega) (by omega)
  generalize hq : (Value.slice (if cap = 0 then base else Option.map (fun x => x.add (0 * 1)) base) (min n 200 - 0) (cap - 0)) = q at hp ⊢
  have e2 : ((ints .u8 a).drop (0 * 1)).take ((min n 200 - 0) * 1) = ints .u8 (a.take (min n 200)) := by simp [ints, List.map_take]
  rw [e2] at hp
  have hby' : Bytes (a.take (min n 200)) := fun x hx => hby x (List.mem_of_mem_take hx)
  generalize a.take (min n 200) = a' at hp hby'
  obtain ⟨m, hm, hm200⟩ : ∃ m, min n 200 - 0 = m ∧ m ≤ 200 := ⟨_, rfl, by omega⟩
  rw [hm] at hp
  refine (sClone_bytes hp (by omega)).mono ?_
  rintro v2 w2 _ ⟨hx2, g2, hg2, hm2⟩
  refine (sClone_bytes hm2.sl (by omega)).mono ?_
  rintro v3 w3 _ ⟨hx3, g3, hg3, hm3⟩
  refine (sRead hm3.sl (by omega) hby').mono ?_
  rintro v4 w4 _ ⟨hx4, g4, hg4, hm4⟩
  refine (rRead ((hm2.ext hx3).ext hx4).sl (by omega) hby').mono ?_
  rintro v5 w5 _ ⟨hx5, g5, hg5, hm5⟩
  have hs4 := (hm4.ext hx5).sl
  have hs5 := hm5.sl
  obtain ⟨_, b4, o4, base4, cap4, rfl, hcap4, hmax4, hb4, hr4⟩ := hs4
  obtain ⟨_, b5, o5, base5, cap5, rfl, hcap5, hmax5, hb5, hr5⟩ := hs5
  simp only [len_slice T.t_sl_script_Op.u, len_slice T.t_sl_ref24_Op.u, binS_neq, split_dec]
  refine ⟨fun h => absurd rfl h, fun _ => ?_⟩
  refine (sEqual_bytes ((hm3.ext hx4).ext hx5).sl (((hm2.ext hx3).ext hx4).ext hx5).sl).mono ?_
  rintro _ w6 _ ⟨rfl, hx6⟩
  simp only [decide_true, un_not, Bool.not_true, split_false]
  have hx06 := ((((hx1.trans hx2).trans hx3).trans hx4).trans hx5).trans hx6
  refine ⟨fun _ t w7 => Ext w6 w7 ∧ ∃ i : Nat, t = .int .i64 i ∧ i ≤ (m + 5) / 6, fun _ t _ => (m + 5) / 6 - (ival t).toNat, ⟨Ext.refl _, 0, rfl, Nat.zero_le _⟩, ?_⟩
  rintro _ _ w7 ⟨hx7, i, rfl, hi⟩
  simp only [binS_lss, split_dec, Drew]
  refine ⟨fun hlt w8 hx8 _ _ => ?_, fun _ => ⟨trivial, hx06.trans hx7⟩⟩
  have hlt : i < (m + 5) / 6 := by omega
  have hx68 := hx7.trans hx8
  have hol := ops_len a' ((m + 5) / 6)
  have rg : ∀ (b o : Nat) (w' : World), w'.rangeAt b o (ints .i64 (ops a' ((m + 5) / 6))) → w'.rangeAt b (o + i * 5) (ints .i64 (((ops a' ((m + 5) / 6)).drop (i * 5)).take 5)) := fun b o w' h j v hv => by
    have hj := (List.getElem?_eq_some_iff.1 hv).1
    rw [List.length_map, List.length_take] at hj
    rw [Nat.add_assoc]
    refine h _ v ?_
    rw [ints, List.map_take, List.map_drop, List.getElem?_take_of_lt (by omega), List.getElem?_drop] at hv
    exact hv
  have l5 : (((ops a' ((m + 5) / 6)).drop (i * 5)).take 5).length = 5 := by simp [hol]; omega
  rw [index_nat T.t_sl_script_Op.u T.t_script_Op.i hlt hb4, load_struct T.t_script_Op.p T.t_script_Op.i (by rw [List.length_map]; exact l5) (range_ext (hx6.trans hx68) (rg _ _ _ hr4)),
    index_nat T.t_sl_ref24_Op.u T.t_ref24_Op.i hlt hb5, load_struct T.t_ref24_Op.p T.t_ref24_Op.i (by rw [List.length_map]; exact l5) (range_ext (hx6.trans hx68) (rg _ _ _ hr5)),
    ne_ints (n := 5) (by kernel_rfl) l5 l5]
  simp only [decide_true, Bool.not_true, split_false, binS_add]
  rw [wrap_i64 (by omega) (by omega)]
  refine ⟨⟨hx68, i + 1, rfl, by omega⟩, ?_⟩
  simp only [ival]; omega
end Go.Proofs.Ytahhkeljejfgfaa
