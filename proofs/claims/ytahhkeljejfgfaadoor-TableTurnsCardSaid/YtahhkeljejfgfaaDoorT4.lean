/- TableTurns: with its places in another order a table is the document's, and it can be turned back. -/
import Derived.Test.YtahhkeljejfgfaaDoorL18
import Derived.Test.YtahhkeljejfgfaaDoorL19
import Derived.Test.YtahhkeljejfgfaaDoorT1
namespace Go.Proofs.YtahhkeljejfgfaaDoor
open Go Go.Vc Go.RowKit Go.Proofs Go.Proofs.Tryd
set_option maxRecDepth 100000

/-- what the law looks for, place by place -/
def Chk (o : List Int) (i : Nat) (p : Int) : Prop := (0 ≤ p ∧ p < o.length) ∧ ∀ q, q < i → o[q]? ≠ some p

set_option maxHeartbeats 2000000 in
theorem lTurns {lv cv ov : Value} {l c order : List Int} {k : Int} {w : World} (hl : LS .u8 w lv l) (h8 : ∀ x ∈ l, 0 ≤ x ∧ x < 256) (hk : 0 ≤ k ∧ k < 65536) (hc : LS .u16 w cv c) (h16 : ∀ x ∈ c, 0 ≤ x ∧ x < 65536)
    (ho : LS .i64 w ov order) (hlaid : Laid w) :
    Cal prog F.law04_TableTurns [lv, .int .u16 k, cv, ov] w fun v w' => v = .bool true ∧ Ext w w' := by
  apply law04_TableTurns.enter
  unfold law04_TableTurns.body
  refine (lAwake hlaid).mono ?_
  rintro _ w1 _ ⟨rfl, hx1⟩
  simp only [un_not, Bool.not_true, split_false]
  refine (lTop hk).mono ?_
  rintro _ w2 _ ⟨rfl, hx2⟩
  have hx02 := hx1.trans hx2
  have hkr := topN_right (k := k)
  refine (lMade (hl.ext hx02) h8 (hc.ext hx02) h16 hkr.1 (by omega)).mono ?_
  rintro _ w3 _ ⟨hx3, g, gc, sv, gx, xs, xc, gs, rfl, hT, hxs, hxc, _, _, _, _⟩
  obtain ⟨hsz, hs3, hs4⟩ := smallN_sizes (l := l)
  have hple : prodN (smallN l) ≤ 64 := (prod_small hs3 hs4).2
  have hcl : (makeC (smallN l) (topN k) c).length = (prodN (smallN l)).toNat := makeC_length _ _ _
  generalize makeC (smallN l) (topN k) c = cs at *
  generalize smallN l = szs at *
  generalize topN k = K at *
  have hsv := hxs.ls.cells
  have hcvv := hxc.ls.cells
  have hx03 := hx02.trans hx3
  rw [extract_tuple (v := .pointer (some ⟨g, 0, none⟩)) rfl, extract_tuple (v := .agg #[xs, .int .i64 K, xc]) rfl]
  refine alloc_c T.t_ref04_Table.i fun gb w4 hgb hx4 hb4 => ?_
  refine store_whole (vs := [xs, .int .i64 K, xc]) T.t_ref04_Table.i rfl rfl (by intro u hu; simp at hu; rcases hu with rfl | rfl | rfl; exact hsv.2; rfl; exact hcvv.2) hb4 fun w5 hc5 hs5 hb5 => ?_
  have hx35 : Ext w3 w5 := hx4.then hc5 (by rintro r hr rfl; omega)
  have hx05 := hx03.trans hx35
  have hxs5 := (hxs.ext hx35).ls
  have hxc5 := (hxc.ext hx35).ls
  have hT5 := hT.ext hx35
  have hpb := prod_bound hsz
  have ho5 := ho.ext hx05
  rw [len_ls T.t_sl_int.u ho5, min_int]
  refine take_ls (i := min order.length 5) (by omega) T.t_sl_int.u T.t_int.i ho5 (by omega) fun v33 h33 => ?_
  obtain ⟨o, he⟩ : ∃ o, order.take (min order.length 5) = o := ⟨_, rfl⟩
  rw [he] at h33
  have hol : o.length ≤ 5 := by rw [← he, List.length_take]; omega
  refine (sClone_ints h33 (by omega)).mono ?_
  rintro v34 w6 _ ⟨hx6, g34, hg34, h34⟩
  have s6 := hx6.size
  rw [len_ls T.t_sl_int.u h34.ls, field_at T.t_ref04_Table.p rfl, load_cell (by kernel_rfl) ((hb5.ext hx6).cell (o := 0 + 0) rfl), len_ls T.t_sl_int.u (hxs5.ext hx6)]
  simp only [binS_eql]
  rw [len_ls T.t_sl_int.u h34.ls]
  refine make_ints T.t_sl_int.u T.t_int.i (by omega) (by omega) fun gz w7 hgz hx7 hbz => ?_
  have hz : LM .i64 T.t_int w7 gz (.slice (some ⟨gz, 0, none⟩) o.length o.length) (List.replicate o.length 0) := LM.of (n := o.length) (Mine.full hbz (by simp) (by simp [maxLen]; omega))
  generalize (Value.slice (some ⟨gz, 0, none⟩) o.length o.length) = zv at *
  have lz := hbz.lt
  have s7 := hx7.size
  have hx57 := hx6.trans hx7
  rw [len_ls T.t_sl_int.u (h34.ls.ext hx7)]
  have l34 : 0 < o.length → g34 < w6.heap.size := fun h => LM_lt h34 h
  refine Loop2.range o.length (fun i okv w8 => Ext w6 w8 ∧ ∃ bk : List Int, bk.length = o.length ∧ LM .i64 T.t_int w8 gz zv bk ∧ ∃ c, okv = .bool c ∧
      (c = true ↔ (o.length : Int) = szs.length ∧ ∀ (j : Nat) (p : Int), j < i → o[j]? = some p → Chk o j p) ∧
      (c = true → ∀ (j : Nat) (p : Int), j < i → o[j]? = some p → bk[p.toNat]? = some (j : Int))) (by omega)
    ⟨hx7, _, by simp, hz, _, rfl, by simp, fun _ j p hj => by omega⟩ ?_ ?_
  · rintro i okv w8 kk hi ⟨hx8, bk, hbl, hbk, c, rfl, hciff, hcbk⟩ hkk
    simp only [binS_lss, split_dec]
    refine ⟨fun _ => ?_, fun h => by omega⟩
    obtain ⟨p, hpi⟩ : ∃ p, o[i]? = some p := ⟨_, List.getElem?_eq_getElem hi⟩
    refine join1 (fun v w9 => Ext w6 w9 ∧ ∃ bk : List Int, bk.length = o.length ∧ LM .i64 T.t_int w9 gz zv bk ∧ ∃ c, v = .bool c ∧
      (c = true ↔ (o.length : Int) = szs.length ∧ ∀ (j : Nat) (p : Int), j < i + 1 → o[j]? = some p → Chk o j p) ∧
      (c = true → ∀ (j : Nat) (p : Int), j < i + 1 → o[j]? = some p → bk[p.toNat]? = some (j : Int))) ?_ ?_
    · intro v w9 hI
      simp only [binS_add]
      exact hkk _ _ hI
    · intro J hJ
      have ho8 := h34.ls.ext hx8
      rw [get_ls T.t_sl_int.u T.t_int.i (by kernel_rfl) ho8 hpi]
      refine join1 (fun v w10 => Ext w8 w10 ∧ ∃ c2, v = .bool c2 ∧ (c2 = true ↔ c = true ∧ Chk o i p)) ?_ ?_
      · rintro _ w10 ⟨hx10, c2, rfl, hc2⟩
        have hbk10 := hbk.ext hx10
        have hiff : c2 = true ↔ (o.length : Int) = szs.length ∧ ∀ (j : Nat) (p : Int), j < i + 1 → o[j]? = some p → Chk o j p := by
          rw [hc2, hciff]
          refine ⟨fun ⟨⟨h1, h2⟩, h3⟩ => ⟨h1, fun j p' hj hp' => ?_⟩, fun ⟨h1, h2⟩ => ⟨⟨h1, fun j p' hj hp' => h2 j p' (by omega) hp'⟩, h2 i p (by omega) hpi⟩⟩
          by_cases hji : j = i
          · subst hji; rw [hpi] at hp'; cases hp'; exact h3
          · exact h2 j p' (by omega) hp'
        rw [split_bool]
        refine ⟨fun ht => ?_, fun hf => hJ _ _ ⟨hx8.trans hx10, bk, hbl, hbk10, c2, rfl, hiff, fun ht => by rw [hf] at ht; cases ht⟩⟩
        obtain ⟨hct, hchk⟩ := hc2.1 ht
        have hpr := hchk.1
        rw [idx_lm (i := p.toNat) (by omega) T.t_sl_int.u T.t_int.i hbk10 (by omega)]
        refine store_lm T.t_int.i hbk10 (by omega) fun w11 hc11 hs11 hm11 => ?_
        refine hJ _ _ ⟨(hx8.trans hx10).then hc11 (by rintro r hr rfl; omega), _, by simpa using hbl, hm11, c2, rfl, hiff, fun _ j p' hj hp' => ?_⟩
        by_cases hji : j = i
        · subst hji
          rw [hpi] at hp'
          cases hp'
          rw [List.getElem?_set_self (by omega)]
        · have hj2 := (hiff.1 ht).2 j p' hj hp'
          have hne : p.toNat ≠ p'.toNat := fun he => by
            have : p = p' := by have := hj2.1; omega
            subst this
            exact hchk.2 j (by omega) hp'
          rw [List.getElem?_set_ne hne]
          exact hcbk hct j p' (by omega) hp'
      · intro J1 hJ1
        rw [split_bool]
        refine ⟨fun hct => ?_, fun hcf => hJ1 _ _ ⟨Ext.refl _, false, rfl, by rw [hcf]; simp⟩⟩
        simp only [binS_geq, split_dec]
        refine ⟨fun h0 => ?_, fun h0 => hJ1 _ _ ⟨Ext.refl _, false, rfl, ⟨(fun h => by cases h), fun h => absurd h.2.1.1 (by omega)⟩⟩⟩
        rw [len_ls T.t_sl_int.u ho8]
        simp only [binS_lss, split_dec]
        refine ⟨fun h1 => ?_, fun h1 => hJ1 _ _ ⟨Ext.refl _, false, rfl, ⟨(fun h => by cases h), fun h => absurd h.2.1.2 (by omega)⟩⟩⟩
        refine (sIdx ho8).mono ?_
        rintro _ w12 _ ⟨hx12, r, rfl, hr⟩
        simp only [binS_eql]
        refine hJ1 _ _ ⟨hx12, _, rfl, ?_⟩
        rw [decide_eq_true_iff, hr i hpi]
        exact ⟨fun h => ⟨hct, ⟨by omega, by omega⟩, h⟩, fun h => h.2.2⟩
  · rintro okv w8 kk ⟨hx8, bk, hbl, hbk, c, rfl, hciff, hcbk⟩
    simp only [binS_lss, split_dec]
    refine ⟨fun h => by omega, fun _ => ?_⟩
    have hgood : c = true ↔ Good o szs.length := by
      rw [hciff]
      refine ⟨fun ⟨h1, h2⟩ => ⟨by omega, fun i p hip => ?_⟩, fun h => ⟨by rw [h.1], fun j p hj hp => ?_⟩⟩
      · have h3 := h2 i p (List.getElem?_eq_some_iff.1 hip).1 hip
        exact ⟨⟨h3.1.1, by have := h3.1.2; omega⟩, h3.2⟩
      · have h3 := h.2 j p hp
        exact ⟨⟨h3.1.1, by have := h3.1.2; have := h.1; omega⟩, h3.2⟩
    have hback : c = true → Back o bk szs.length := fun h => by
      have hg := hgood.1 h
      exact ⟨by rw [hbl, hg.1], fun j p hp => hcbk h j p (List.getElem?_eq_some_iff.1 hp).1 hp⟩
    have hx58 := hx6.trans hx8
    have hx08 := hx05.trans hx58
    have hprod : Good o szs.length → prodN (turnS szs o) ≤ 4096 := fun hg => by
      have := (prod_small (l := turnS szs o) (by rw [turnS_length, hg.1]; exact hs3) (fun x hx => hs4 x (turnS_mem hg rfl hx))).2
      omega
    refine (tTurn (hT5.ext hx58) hkr.1 (h34.ls.ext hx8) (by omega) hprod).mono ?_
    rintro tv w13 _ ⟨hx13, hbad, hok⟩
    have hx513 := hx58.trans hx13
    have hx013 := hx08.trans hx13
    by_cases hct : c = true
    · have hg := hgood.1 hct
      have hbk' := hback hct
      subst hct
      obtain ⟨gu, guc, su, rfl, hU⟩ := hok hg
      rw [extract_tuple (v := .pointer (some ⟨gu, 0, none⟩)) rfl, extract_tuple (v := .int .i64 0) rfl]
      simp only [un_not, Bool.not_true, split_false]
      have ebs := back_sizes hg hbk' (s := szs) rfl
      have ebc := back_costs hg hbk' (s := szs) (cs := cs) rfl hsz.2 hcl
      have hgb : Good bk (turnS szs o).length := by rw [turnS_length, hg.1]; exact hbk'.good hg
      refine (tTurn hU hkr.1 ((hbk.ls).ext hx13) (by omega) (fun _ => by rw [ebs]; omega)).mono ?_
      rintro tv2 w16 _ ⟨hx16, _, hok2⟩
      obtain ⟨gu2, guc2, su2, rfl, hU2⟩ := hok2 hgb
      rw [ebs, ebc] at hU2
      rw [extract_tuple (v := .pointer (some ⟨gu2, 0, none⟩)) rfl, extract_tuple (v := .int .i64 0) rfl]
      have hx516 := hx513.trans hx16
      have hx016 := hx013.trans hx16
      refine join1 (fun v w17 => v = .bool true ∧ Ext w16 w17) (fun _ _ h => ⟨h.1, hx016.trans h.2⟩) fun J hJ => ?_
      simp only [binS_eql, decide_true, split_true]
      rw [load_struct T.t_ref04_Table.p T.t_ref04_Table.i rfl (hb5.ext hx516).range]
      refine (rTurn (k := K) (hxs5.ext hx516) hsz (hxc5.ext hx516) hcl (((h34.ls.ext hx8).ext hx13).ext hx16) hg).mono ?_
      rintro _ w18 _ ⟨hx18, ys, yc, rfl, hys, hyc⟩
      refine (lLike ((hU.ext hx16).ext hx18) hys hyc).mono ?_
      rintro _ w19 _ ⟨rfl, hx19⟩
      simp only [and_self, decide_true, split_true]
      refine (tSame ((hU2.ext hx18).ext hx19) (((hT5.ext hx516).ext hx18).ext hx19)).mono ?_
      rintro _ w20 _ ⟨rfl, hx20⟩
      exact hJ _ _ ⟨by simp, (hx18.trans hx19).trans hx20⟩
    · have hng : ¬ Good o szs.length := fun h => hct (hgood.2 h)
      have hcf : c = false := by cases c <;> simp_all
      subst hcf
      rw [hbad hng]
      rw [extract_tuple (v := .pointer none) rfl, extract_tuple (v := .int .i64 1) rfl]
      simp only [un_not, Bool.not_false, split_true]
      refine join1 (fun v w17 => v = .bool true ∧ Ext w13 w17) (fun _ _ h => ⟨h.1, hx013.trans h.2⟩) fun J hJ => ?_
      simp only [binS_eql, decide_true, split_true]
      rw [eq_ptr_nil T.t_p_table_Table.u]
      simp only [Option.isNone_none, split_true]
      rw [load_struct T.t_ref04_Table.p T.t_ref04_Table.i rfl (hb5.ext hx513).range]
      refine (lLike (hT5.ext hx513) (hxs5.ext hx513) (hxc5.ext hx513)).mono ?_
      rintro _ w26 _ ⟨rfl, hx26⟩
      exact hJ _ _ ⟨by simp, hx26⟩
end Go.Proofs.YtahhkeljejfgfaaDoor
