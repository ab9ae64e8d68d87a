/- Tables: More; the statements' comparison; the document's table without a place. -/
import Derived.Test.YtahhkeljejfgfaaDoorL14
namespace Go.Proofs.YtahhkeljejfgfaaDoor
open Go Go.Vc Go.RowKit Go.Proofs Go.Proofs.Tryd
set_option maxRecDepth 100000

/-- what a table comes to hold when a cost is added -/
def moreC (szs t : List Int) (k c : Int) (cs : List Int) : List Int := match idxN szs t 0 with
  | some n => if inK c k then cs.set n.toNat (min (cs.getD n.toNat 0 + c) k) else cs
  | none => cs
theorem tMore {w : World} {g gc : Nat} {sv tv : Value} {szs t : List Int} {k c : Int} {cs : List Int} (h : Tab w g gc sv szs k cs) (ht : LS .i64 w tv t) (hin : ∀ x ∈ cs, inK x k) :
    Cal prog F.P_table_Table_More [.pointer (some ⟨g, 0, none⟩), tv, .int .i64 c] w fun v w' => v = .int .i64 (putE szs t k c) ∧ Chg (fun r => r = gc) w w' ∧ Tab w' g gc sv szs k (moreC szs t k c cs) := by
  apply P_table_Table_More.enter
  unfold P_table_Table_More.body
  refine (tAt h ht).mono ?_
  rintro _ w1 _ ⟨rfl, hx⟩
  unfold idxV putE moreC
  have h1 := h.ext hx
  cases hi : idxN szs t 0 with
  | none =>
    rw [extract_tuple (v := .int .i64 0) rfl, extract_tuple (v := .int .i64 3) rfl]
    simp only [binS_neq, split_dec]
    exact ⟨fun _ => ⟨trivial, hx.chg _, h1⟩, fun h => by simp at h⟩
  | some n =>
    obtain ⟨_, _, hs, hl⟩ := id h1
    obtain ⟨hn, hlt⟩ := idx_lt hs hl hi
    rw [extract_tuple (v := .int .i64 n) rfl, extract_tuple (v := .int .i64 0) rfl]
    simp only [binS_neq, split_dec]
    refine ⟨fun h => absurd rfl h, fun _ => ?_⟩
    intro w2 hx2 _ _
    have h2 := h1.ext hx2
    obtain ⟨⟨cv, gs, hb, hm, hc⟩, _⟩ := id h2
    have hcn : cs[n.toNat]? = some (cs.getD n.toNat 0) := by rw [List.getD_eq_getElem?_getD, List.getElem?_eq_getElem hlt]; rfl
    have hcin : inK (cs.getD n.toNat 0) k := hin _ (List.mem_of_getElem? hcn)
    rw [nil_check, field_at T.t_table_Table.p rfl, load_cell (by kernel_rfl) (hb.cell (o := 0 + 2) rfl), get_ls_at hn T.t_sl_int64.u T.t_int64.i (by kernel_rfl) hc.ls hcn,
      nil_check, field_at T.t_table_Table.p rfl, load_cell (by kernel_rfl) (hb.cell (o := 0 + 1) rfl)]
    refine cAdd.mono ?_
    rintro _ w3 _ ⟨rfl, hx3⟩
    have h3 := h2.ext hx3
    have hx03 := (hx.trans hx2).trans hx3
    obtain ⟨⟨cv, gs, hb, hm, hc⟩, ⟨hd1, hd2, hd3⟩, hs, hl⟩ := id h3
    unfold addE
    by_cases hck : inK c k
    · rw [if_pos ⟨hcin, hck⟩, extract_tuple (v := .int .i64 (min (cs.getD n.toNat 0 + c) k)) rfl, extract_tuple (v := .int .i64 0) rfl]
      refine join0 (fun w4 => Chg (fun r => r = gc) w w4 ∧ Tab w4 g gc sv szs k (cs.set n.toNat (min (cs.getD n.toNat 0 + c) k))) ?_ ?_
      · rintro w4 ⟨hc4, hT4⟩
        simp only [if_pos hck]
        exact ⟨trivial, hc4, hT4⟩
      · intro J hJ
        simp only [binS_eql, decide_true, split_true]
        rw [nil_check, field_at T.t_table_Table.p rfl, load_cell (by kernel_rfl) (hb.cell (o := 0 + 2) rfl), idx_lm hn T.t_sl_int64.u T.t_int64.i hc hlt]
        refine store_lm T.t_int64.i hc hlt fun w5 hc5 hs5 hm5 => hJ _ ⟨(hx03.chg _).trans hc5, ⟨⟨cv, gs, hb.chg hc5 (by omega), LM_chg hm hc5 (fun r hr hrg => hd2 (hrg ▸ hr)), hm5⟩, ⟨hd1, hd2, hd3⟩, hs, by simpa using hl⟩⟩
    · rw [if_neg (fun h => hck h.2), extract_tuple (v := .int .i64 0) rfl, extract_tuple (v := .int .i64 3) rfl]
      refine join0 (fun w4 => w4 = w3) ?_ ?_
      · rintro _ rfl
        simp only [if_neg hck]
        exact ⟨trivial, hx03.chg _, h3⟩
      · intro J hJ
        simp only [binS_eql, split_dec]
        exact ⟨fun h => by simp at h, fun _ => hJ _ rfl⟩

theorem lLike {w : World} {g gc : Nat} {sv xs xc : Value} {szs szs2 : List Int} {k k2 : Int} {cs cs2 : List Int} (h : Tab w g gc sv szs k cs) (hs : LS .i64 w xs szs2) (hc : LS .i64 w xc cs2) :
    Cal prog F.law04_like [.pointer (some ⟨g, 0, none⟩), .agg #[xs, .int .i64 k2, xc]] w fun v w' => v = .bool (decide (k = k2 ∧ szs = szs2 ∧ cs = cs2)) ∧ Ext w w' := by
  apply law04_like.enter
  unfold law04_like.body
  refine box_c fun gx w1 hgx hx1 hb => ?_
  refine join1 (fun v w2 => v = .bool (decide (k = k2 ∧ szs = szs2 ∧ cs = cs2)) ∧ Ext w w2) (fun _ _ h => h) fun J hJ => ?_
  intro w3 hx3 _ _
  have hx03 := hx1.trans hx3
  have hb3 := hb.ext hx3
  rw [ne_ptr_nil T.t_p_table_Table.u]
  simp only [Option.isNone_some, Bool.not_false, split_true]
  rw [field_at T.t_ref04_Table.p rfl, load_cell (by kernel_rfl) (hb3.cell (o := 0 + 1) rfl)]
  refine (tK (h.ext hx03)).mono ?_
  rintro _ w4 _ ⟨rfl, hx4⟩
  have hx04 := hx03.trans hx4
  refine ⟨.inl hx4, ?_⟩
  simp only [binS_eql, split_dec]
  refine ⟨fun he => ?_, fun hne => ⟨.inl (Ext.refl _), .inl (Ext.refl _), .inl (Ext.refl _), hJ _ _ ⟨by rw [decide_eq_false fun h => hne h.1], hx04⟩⟩⟩
  have hb4 := hb3.ext hx4
  rw [field_at T.t_ref04_Table.p rfl, load_cell (by kernel_rfl) (hb4.cell (o := 0 + 0) rfl)]
  refine (tShape (h.ext hx04)).mono ?_
  rintro _ w5 _ ⟨rfl, hx5⟩
  refine ⟨.inl hx5, ?_⟩
  have hsz := h.2.2.1
  obtain ⟨⟨cv, gs, hbt, hmt, hct⟩, _⟩ := h.ext (hx04.trans hx5)
  refine (sSizes hmt.ls (by have := hsz.1; omega)).mono ?_
  rintro v6 w6 _ ⟨hx6, g6, _, hm6⟩
  have hx46 := hx5.trans hx6
  refine ⟨.inl hx46, ?_⟩
  have hx06 := hx04.trans hx46
  refine (sEqual_ints hm6.ls (hs.ext hx06)).mono ?_
  rintro _ w7 _ ⟨rfl, hx7⟩
  have hx07 := hx06.trans hx7
  have hb7 := (hb4.ext hx46).ext hx7
  simp only [split_dec]
  refine ⟨fun he2 => ?_, fun hne => ⟨.inl (Ext.refl _), hJ _ _ ⟨by rw [decide_eq_false fun h => hne h.2.1], hx07⟩⟩⟩
  rw [field_at T.t_ref04_Table.p rfl, load_cell (by kernel_rfl) (hb7.cell (o := 0 + 2) rfl)]
  refine (tEntries (h.ext hx07)).mono ?_
  rintro v8 w8 _ ⟨hx8, g8, _, hm8⟩
  refine ⟨.inl hx8, ?_⟩
  refine (sEqual_longs hm8.ls (hc.ext (hx07.trans hx8))).mono ?_
  rintro _ w9 _ ⟨rfl, hx9⟩
  exact hJ _ _ ⟨by simp [he, he2], (hx07.trans hx8).trans hx9⟩

/-- an empty list of one's own -/
theorem empty_c {w : World} {K : Value → World → Prop} (hK : ∀ v g w', g = w.heap.size → Ext w w' → LM .i64 T.t_int w' g v [] → K v w') : RunC prog (Instr.buildSlice T.t_sl_int 0 #[]) w K :=
  lits_own (l := []) T.t_sl_int.u T.t_int.i (by omega) rfl (by kernel_rfl) hK
theorem val_ins : ∀ {s x : List Int} {i : Nat} {v a : Int}, s[i]? = some a → 0 ≤ v ∧ v < a → Val (outS s i) x → Val s (insT x i v)
  | y :: s, x, 0, v, a, h, hv, hx => by
    simp at h; subst h
    rw [outS_zero] at hx
    rw [insT_zero]
    exact val_cons.2 ⟨hv, hx⟩
  | y :: s, x, i + 1, v, a, h, hv, hx => by
    simp only [List.getElem?_cons_succ] at h
    have e : outS (y :: s) (i + 1) = y :: outS s i := by simp [outS]
    rw [e] at hx
    match x, val_len hx with
    | u :: x, _ =>
      obtain ⟨hu, hx⟩ := val_cons.1 hx
      have e2 : insT (u :: x) (i + 1) v = u :: insT x i v := by simp [insT]
      rw [e2]
      exact val_cons.2 ⟨hu, val_ins h hv hx⟩
end Go.Proofs.YtahhkeljejfgfaaDoor
