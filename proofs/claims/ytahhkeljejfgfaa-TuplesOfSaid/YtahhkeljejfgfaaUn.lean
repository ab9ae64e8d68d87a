/- TuplesOf: of any table the tuples are it. -/
import Derived.Test.YtahhkeljejfgfaaUm
namespace Go.Proofs.Ytahhkeljejfgfaa
open Go Go.Vc Go.RowKit Go.Proofs Go.Proofs.Try
set_option maxRecDepth 100000

set_option maxHeartbeats 3200000 in
theorem lOf5 {lv cv : Value} {l c : List Int} {k : Int} {w : World} (hl : LS .u8 w lv l) (h8 : ∀ x ∈ l, 0 ≤ x ∧ x < 256) (hk : 0 ≤ k ∧ k < 65536) (hc : LS .u16 w cv c) (h16 : ∀ x ∈ c, 0 ≤ x ∧ x < 65536) :
    Cal prog F.law05_TuplesOf [lv, .int .u16 k, cv] w fun v w' => v = .bool true ∧ Ext w w' := by
  apply law05_TuplesOf.enter
  unfold law05_TuplesOf.body
  refine uAwake.mono ?_
  rintro _ w1 _ ⟨rfl, hx1⟩
  rw [un_not, Bool.not_true, split_false]
  refine (rSmall (hl.ext hx1) h8).mono ?_
  rintro xs w2 _ ⟨hx2, gxs, hgxs, hxs⟩
  obtain ⟨hsz, hs3, hs4⟩ := smallN_sizes (l := l)
  have hple := prod_small hs3 hs4
  generalize smallN l = szs at *
  have hx02 := hx1.trans hx2
  rw [binS_rem (by decide), conv_int T.t_uint16.u T.t_int64.u, Int.tmod_eq_emod_of_nonneg hk.1, wrap_i64 (by omega) (by omega), binS_add, wrap_i64 (x := 1 + k % 50) (by omega) (by omega)]
  obtain ⟨K, hK⟩ : ∃ K, K = 1 + k % 50 := ⟨_, rfl⟩
  have hKr : right K ∧ K ≤ 50 := by unfold right; omega
  rw [← hK]
  refine (rMake hxs.ls hsz (hc.ext hx02) h16 (by omega)).mono ?_
  rintro _ w3 _ ⟨hx3, gx, xc, rfl, hgx, hxc⟩
  have hcl : (makeC szs K c).length = (prodN szs).toNat := makeC_length _ _ _
  have hcin : ∀ x ∈ makeC szs K c, inK x K := fun x hx => by
    obtain ⟨q, _, rfl⟩ := List.mem_map.1 hx
    exact ⟨hKr.1, costN_in (by omega) _⟩
  generalize makeC szs K c = cs at *
  have h0 : cs ≠ [] := fun he => by rw [he] at hcl; simp at hcl; omega
  have hxs3 := hxs.ext hx3
  refine alloc_c T.t_ref04_Table.i fun gb w4 hgb hx4 hb4 => ?_
  have lgb := hb4.lt
  refine store_ref hb4 rfl (hxs3.ext hx4).ls (hxc.ext hx4).ls fun w5 hc5 hs5 hb5 => ?_
  have s4 := hx4.size
  have hx35 : Ext w3 w5 := hx4.then hc5 (by rintro r hr rfl; omega)
  have hx05 := (hx02.trans hx3).trans hx35
  have h0K : inK 0 K := ⟨hKr.1, by omega, by omega⟩
  have hxs5 := hxs3.ext hx35
  have hxc5 := hxc.ext hx35
  rw [field_at T.t_ref04_Table.p rfl, load_cell (by kernel_rfl) (hb5.cell (o := 0 + 0) rfl), field_at T.t_ref04_Table.p rfl, load_cell (by kernel_rfl) (hb5.cell (o := 0 + 1) rfl)]
  refine (tNew hxs5.ls).mono ?_
  rintro _ w6 _ ⟨hx6, _, _, _, hgood⟩
  obtain ⟨g, gc, sv, rfl, hg, hgc, hsv, hT⟩ := hgood hsz (by omega) h0K
  rw [extract_tuple (v := .pointer (some ⟨g, 0, none⟩)) rfl, extract_tuple (v := .int .i64 0) rfl, field_at T.t_ref04_Table.p rfl, load_cell (by kernel_rfl) ((hb5.ext hx6).cell (o := 0 + 0) rfl)]
  refine (rAll szs (hxs5.ext hx6).ls hsz).mono ?_
  rintro av w7 _ ⟨hx7, hav⟩
  have hx57 := hx6.trans hx7
  have hal := allT_length hsz.2
  have s5 := hx05.size
  have s6 := hx6.size
  have s7 := hx7.size
  have lgx : gx < w3.heap.size := LM_lt hxc (by omega)
  have s35 := hx35.size
  have lgc : gc < w6.heap.size := by
    obtain ⟨⟨cv', gs', _, _, h3⟩, _, _, hl'⟩ := id hT
    exact LM_lt h3 (by rw [hl']; omega)
  have hxsr : ∀ r, leads xs r → r < w3.heap.size := fun r hr => by have := LM_leads hxs3 hr; omega
  rw [len_dat T.t_sl_sl_int.u hav]
  have hb7 := hb5.ext hx57
  have hxs7 := hxs5.ext hx57
  have hxc7 := hxc5.ext hx57
  have lgb5 : gb < w5.heap.size := hb5.lt
  refine Loop1.range (allT szs).length (fun i w8 => Chg (fun r => r = gc) w7 w8 ∧ ∃ cs', Tab w8 g gc sv szs K cs' ∧ ∃ f : List Int → Int, IsC szs f cs' ∧ ∀ (j : Nat) t, j < i → (allT szs)[j]? = some t → f t = getC szs cs t) (by omega)
    ⟨Chg.refl _ _, _, hT.ext hx7, _, isC_const hsz.2 0, fun j t hj => by omega⟩ ?_ ?_
  · rintro i w8 kk hi ⟨hc8, cs', hT8, f, hC8, hf⟩ hkk
    obtain ⟨t, hti⟩ : ∃ t, (allT szs)[i]? = some t := ⟨_, List.getElem?_eq_getElem hi⟩
    have hval : Val szs t := ⟨_, all_idx hsz.2 hti⟩
    have hci := getC_at hsz.2 hcl hti
    have hcin' := hcin _ (List.mem_of_getElem? hci)
    rw [binS_lss, split_dec]
    refine ⟨fun _ => ?_, fun h => by omega⟩
    refine get_dat rfl rfl T.t_sl_sl_int.u T.t_sl_int.i (by kernel_rfl) (Dat.chg hav hc8 fun r _ h he => by
      have he : r = gc := he
      rcases h with h | h
      · have h : w6.heap.size ≤ r := h; omega
      · exact h) hti fun u hu => ?_
    rw [field_at T.t_ref04_Table.p rfl, load_cell (by kernel_rfl) ((hb7.chg hc8 (fun he => by have he : gb = gc := he; omega)).cell (o := 0 + 2) rfl), get_ls T.t_sl_int64.u T.t_int64.i (by kernel_rfl) (hxc7.chg hc8 (fun _ he => by have he : gx = gc := he; omega)).ls hci]
    refine (tPut hT8 (see_ls hu)).mono ?_
    rintro _ w9 _ ⟨rfl, hc9, hT9⟩
    rw [binS_add]
    refine hkk _ ⟨hc8.trans hc9, _, hT9, _, hC8.put hsz.2 hval hcin', fun j s hj hs => ?_⟩
    by_cases hst : s = t
    · rw [if_pos hst, hst]
    · rw [if_neg hst]
      refine hf j s ?_ hs
      rcases Nat.lt_or_ge j i with h | h
      · exact h
      · have hji : j = i := by omega
        subst hji
        rw [hti] at hs
        exact absurd (Option.some.inj hs).symm hst
  rintro w8 kk ⟨hc8, cs', hT8, f, hC8, hf⟩
  have hcs : cs' = cs := lists_eq hsz.2 hC8.1 hcl fun t ht => by
    obtain ⟨j, hj⟩ := val_ex hsz.2 ht
    rw [hC8.2 t ht, hf j t (List.getElem?_eq_some_iff.1 hj).1 hj]
  subst hcs
  rw [binS_lss, split_dec]
  refine ⟨fun h => by omega, fun _ => ?_⟩
  have hb8 := hb7.chg hc8 (fun he => by have he : gb = gc := he; omega)
  have hxc8 := hxc7.chg hc8 (fun _ he => by have he : gx = gc := he; omega)
  have hxs8 := LM_chg hxs7 hc8 (fun r hr he => by have := hxsr r hr; have he : r = gc := he; omega)
  have hx08 : Ext w w8 := (hx05.trans hx57).then hc8 (fun r hr he => by have he : r = gc := he; omega)
  refine (uOfT hT8 hcin).mono ?_
  rintro _ w10 _ ⟨hx10, gu, mu, o, D, rfl, hU, hD, hCU, hmost⟩
  refine (uTable hU (by omega)).mono ?_
  rintro _ w11 _ ⟨hx11, _, hfit⟩
  obtain ⟨gt, gtc, tsv, cs2, rfl, _, _, hT2, hC2⟩ := hfit (by omega)
  have hcs2 := hC2.eq hsz.2 hCU
  subst hcs2
  rw [extract_tuple (v := .pointer (some ⟨gt, 0, none⟩)) rfl, extract_tuple (v := .int .i64 0) rfl]
  have hx811 := hx10.trans hx11
  refine join1 (fun v w12 => v = .bool true ∧ Ext w w12) (fun _ _ h => h) fun J hJ => ?_
  intro w13 hx13 _ _
  have hx813 := hx811.trans hx13
  have hb13 := hb8.ext hx813
  rw [load_struct T.t_ref04_Table.p T.t_ref04_Table.i rfl hb13.range, load_struct T.t_ref04_Table.p T.t_ref04_Table.i rfl hb13.range]
  refine (rMost (hxc8.ext hx813).ls h0).mono ?_
  rintro _ w14 _ ⟨hx14, o2, rfl, hmost2⟩
  have ho := hmost2.uniq hmost
  subst ho
  refine ⟨.inl hx14, ?_⟩
  have hx814 := hx813.trans hx14
  have hx1114 := hx13.trans hx14
  refine (uLike (hU.ext (hx11.trans hx1114)) (by omega) (by omega) (hxs8.ext hx814).ls (hxc8.ext hx814).ls hCU).mono ?_
  rintro _ w15 _ ⟨rfl, hx15⟩
  rw [split_true, binS_eql, decide_eq_true rfl, split_true]
  refine (tSame (hT2.ext (hx1114.trans hx15)) (hT8.ext (hx814.trans hx15))).mono ?_
  rintro _ w16 _ ⟨rfl, hx16⟩
  exact hJ _ _ ⟨by simp, ((hx08.trans hx814).trans hx15).trans hx16⟩
end Go.Proofs.Ytahhkeljejfgfaa

