/- Tuples: all tuples are put; TuplesOrder. -/
import Derived.Test.YtahhkeljejfgfaaUi
namespace Go.Proofs.Ytahhkeljejfgfaa
open Go Go.Vc Go.RowKit Go.Proofs Go.Proofs.Try
set_option maxRecDepth 100000

theorem allT_inj {s t : List Int} {i j : Nat} (hs : SZ s) (hi : (allT s)[i]? = some t) (hj : (allT s)[j]? = some t) : i = j := nodup_inj (allT_nodup hs) hi hj
theorem val_ex {s t : List Int} (hs : SZ s) (h : Val s t) : ∃ j : Nat, (allT s)[j]? = some t := List.mem_iff_getElem?.1 ((allT_val hs).2 h)

/-- all tuples' costs are put -/
theorem putLoop {w : World} {g m gs gb gx : Nat} {sv av xs xc : Value} {szs cs : List Int} {K o : Int} {REST : World → Prop} (hT : TupAt w g m sv gs szs K o []) (hav : Seen (fun r => r ≠ m) w [av] (allT szs))
    (hb : Blk w gb T.t_ref04_Table [xs, .int .i64 K, xc]) (hxc : LM .i64 T.t_int64 w gx xc cs) (hl : cs.length = (prodN szs).toNat) (hin : ∀ c ∈ cs, inK c K)
    (hR : ∀ w' D', Chg (fun r => r = m) w w' → TupAt w' g m sv gs szs K o D' → D'.length ≤ (prodN szs).toNat → IsC szs (costT D' o) cs → REST w') :
    RunQ prog (Builtin.len_ #[T.t_sl_sl_int] T.t_int #[av]) w fun t75 =>
    Loop1 (.int .i64 0) w fun t76 w16 k_1 =>
      RunQ prog (binS .lss T.t_int false false t76 t75) w16 fun t77 =>
      Split t77 (RunQ prog (Instr.indexAt T.t_sl_sl_int av t76) w16 fun t79 =>
      RunQ prog (Instr.loadAt T.t_sl_int t79) w16 fun t80 =>
      RunQ prog (Instr.fieldAt T.t_ref04_Table (.pointer (some ⟨gb, 0, none⟩)) 2) w16 fun t83 =>
      RunQ prog (Instr.loadAt T.t_sl_int64 t83) w16 fun t84 =>
      RunQ prog (Instr.indexAt T.t_sl_int64 t84 t76) w16 fun t86 =>
      RunQ prog (Instr.loadAt T.t_int64 t86) w16 fun t87 =>
      Cal prog F.P_tuples_Tuples_Put [.pointer (some ⟨g, 0, none⟩), t80, t87] w16 fun _ w17 =>
      RunQ prog (binS .add T.t_int false true t76 (.int .i64 1)) w17 fun t89 =>
      k_1 t89 w17)
       (REST w16) := by
  have hs := hT.2.2.2.1
  have hal := allT_length hs.2
  have hp := prod_bound hs
  rw [len_dat T.t_sl_sl_int.u hav]
  refine Loop1.range (allT szs).length (fun i w1 => Chg (fun r => r = m) w w1 ∧ ∃ D, D.length ≤ i ∧ TupAt w1 g m sv gs szs K o D ∧ ∀ (j : Nat) t, (allT szs)[j]? = some t → costT D o t = if j < i then getC szs cs t else o) (by omega)
    ⟨Chg.refl _ _, [], Nat.le_refl _, hT, fun j t _ => by rw [if_neg (by omega)]; rfl⟩ ?_ ?_
  · rintro i w1 kk hi ⟨hc1, D, hD, hT1, hcost⟩ hkk
    obtain ⟨t, hti⟩ : ∃ t, (allT szs)[i]? = some t := ⟨_, List.getElem?_eq_getElem hi⟩
    have hval : Val szs t := ⟨_, all_idx hs.2 hti⟩
    have hci := getC_at hs.2 hl hti
    have hcin := hin _ (List.mem_of_getElem? hci)
    simp only [binS_lss, split_dec]
    refine ⟨fun _ => ?_, fun h => by omega⟩
    refine get_dat rfl rfl T.t_sl_sl_int.u T.t_sl_int.i (by kernel_rfl) (Dat.chg hav hc1 fun r _ h he => by rcases h with h | h; exact h; exact h he) hti fun u hu => ?_
    have hb1 := hb.chg hc1 (fun he => blk_map hb hT.2.2.1 he)
    have hxc1 := LM_chg hxc hc1 (fun r hr he => lm_map hxc hT.2.2.1 hr he)
    rw [field_at T.t_ref04_Table.p rfl, load_cell (by kernel_rfl) (hb1.cell (o := 0 + 2) rfl), get_ls T.t_sl_int64.u T.t_int64.i (by kernel_rfl) hxc1.ls hci]
    refine (uPut hT1.is (see_ls hu) (c := getC szs cs t)).mono ?_
    rintro _ w2 _ ⟨_, hok⟩
    obtain ⟨rfl, hc2, D', hU, hT2⟩ := hok ⟨hval, hcin⟩
    simp only [binS_add]
    have hU2 := hU.2
    refine hkk _ ⟨hc1.trans hc2, D', by omega, hT1.put hc2 hT2, fun j s hj => ?_⟩
    rw [hU.cost hT1.is.nodup hT2.nodup]
    by_cases hji : j = i
    · subst hji
      rw [hti] at hj
      cases hj
      rw [if_pos rfl, if_pos (by omega)]
    · rw [if_neg (fun (he : s = t) => hji (allT_inj hs.2 (by rw [← he]; exact hj) hti)), hcost j s hj]
      by_cases h1 : j < i
      · rw [if_pos h1, if_pos (by omega)]
      · rw [if_neg h1, if_neg (by omega)]
  · rintro w1 kk ⟨hc1, D, hD, hT1, hcost⟩
    simp only [binS_lss, split_dec]
    refine ⟨fun h => by omega, fun _ => hR w1 D hc1 hT1 (by omega) ⟨hl, fun t ht => ?_⟩⟩
    obtain ⟨j, hj⟩ := val_ex hs.2 ht
    rw [hcost j t hj, if_pos (List.getElem?_eq_some_iff.1 hj).1]

/-! ### TuplesOrder -/
def cntL (n : Nat) : List Int := (List.range n).map fun (i : Nat) => (i : Int)
theorem cntL_length (n : Nat) : (cntL n).length = n := by simp [cntL]
theorem cntL_mem {n : Nat} {x : Int} : x ∈ cntL n ↔ ∃ i : Nat, i < n ∧ x = i := by
  simp only [cntL, List.mem_map, List.mem_range]
  exact ⟨fun ⟨i, h1, h2⟩ => ⟨i, h1, h2.symm⟩, fun ⟨i, h1, h2⟩ => ⟨i, h1, h2.symm⟩⟩
theorem cntL_get {n i : Nat} (h : i < n) : (cntL n)[i]? = some (i : Int) := by simp [cntL, h]

set_option maxHeartbeats 3200000 in
theorem lOrder {lv cv ov : Value} {l c ord : List Int} {k : Int} {w : World} (hl : LS .u8 w lv l) (h8 : ∀ x ∈ l, 0 ≤ x ∧ x < 256) (hk : 0 ≤ k ∧ k < 65536) (hc : LS .u16 w cv c) (h16 : ∀ x ∈ c, 0 ≤ x ∧ x < 65536)
    (ho : LS .u8 w ov ord) (ho8 : ∀ x ∈ ord, 0 ≤ x ∧ x < 256) :
    Cal prog F.law05_TuplesOrder [lv, .int .u16 k, cv, ov] w fun v w' => v = .bool true ∧ Ext w w' := by
  apply law05_TuplesOrder.enter
  unfold law05_TuplesOrder.body
  refine uAwake.mono ?_
  rintro _ w1 _ ⟨rfl, hx1⟩
  simp only [un_not, Bool.not_true, split_false]
  refine (rSmall (hl.ext hx1) h8).mono ?_
  rintro xs w2 _ ⟨hx2, gxs, hgxs, hxs⟩
  obtain ⟨hsz, hs3, hs4⟩ := smallN_sizes (l := l)
  have hple := prod_small hs3 hs4
  generalize smallN l = szs at *
  have hx02 := hx1.trans hx2
  rw [binS_rem (by decide), conv_int T.t_uint16.u T.t_int64.u, Int.tmod_eq_emod_of_nonneg hk.1, wrap_i64 (by omega) (by omega)]
  simp only [binS_add]
  rw [wrap_i64 (x := 1 + k % 30) (by omega) (by omega)]
  obtain ⟨K, hK⟩ : ∃ K, K = 1 + k % 30 := ⟨_, rfl⟩
  have hKr : right K ∧ K ≤ 30 := by unfold right; omega
  rw [← hK]
  refine (rMake hxs.ls hsz (hc.ext hx02) h16 (by omega)).mono ?_
  rintro _ w3 _ ⟨hx3, gx, xc, rfl, hgx, hxc⟩
  have hcl : (makeC szs K c).length = (prodN szs).toNat := makeC_length _ _ _
  have hcin : ∀ x ∈ makeC szs K c, inK x K := fun x hx => by
    obtain ⟨q, _, rfl⟩ := List.mem_map.1 hx
    exact ⟨hKr.1, costN_in (by omega) _⟩
  generalize makeC szs K c = cs at *
  have hxs3 := hxs.ext hx3
  have hxv := hxs3.ls.cells
  have hxcv := hxc.ls.cells
  refine alloc_c T.t_ref04_Table.i fun gb w4 hgb hx4 hb4 => ?_
  have lgb := hb4.lt
  refine store_whole (vs := [xs, .int .i64 K, xc]) T.t_ref04_Table.i rfl rfl (by intro u hu; simp at hu; rcases hu with rfl | rfl | rfl; exact hxv.2; rfl; exact hxcv.2) hb4 fun w5 hc5 hs5 hb5 => ?_
  have s4 := hx4.size
  have hx35 : Ext w3 w5 := hx4.then hc5 (by rintro r hr rfl; omega)
  have hx05 := (hx02.trans hx3).trans hx35
  have h0K : inK 0 K := ⟨hKr.1, by omega, by omega⟩
  have hKK : inK K K := ⟨hKr.1, by omega, by omega⟩
  rw [field_at T.t_ref04_Table.p rfl, load_cell (by kernel_rfl) (hb5.cell (o := 0 + 0) rfl), field_at T.t_ref04_Table.p rfl, load_cell (by kernel_rfl) (hb5.cell (o := 0 + 1) rfl)]
  refine (uNew (hxs3.ext hx35).ls).mono ?_
  rintro _ w6 _ ⟨hx6, _, _, hgood⟩
  obtain ⟨ga, ma, rfl, hga, hma, hA⟩ := hgood hsz h0K
  obtain ⟨sva, gsa, hA⟩ := hA.at
  rw [extract_tuple (v := .pointer (some ⟨ga, 0, none⟩)) rfl, extract_tuple (v := .int .i64 0) rfl]
  have hb6 := hb5.ext hx6
  rw [field_at T.t_ref04_Table.p rfl, load_cell (by kernel_rfl) (hb6.cell (o := 0 + 0) rfl), field_at T.t_ref04_Table.p rfl, load_cell (by kernel_rfl) (hb6.cell (o := 0 + 1) rfl), field_at T.t_ref04_Table.p rfl, load_cell (by kernel_rfl) (hb6.cell (o := 0 + 1) rfl)]
  refine (uNew ((hxs3.ext hx35).ext hx6).ls).mono ?_
  rintro _ w7 _ ⟨hx7, _, _, hgood⟩
  obtain ⟨gb2, mb, rfl, hgb2, hmb, hB⟩ := hgood hsz hKK
  obtain ⟨svb, gsb, hB⟩ := hB.at
  rw [extract_tuple (v := .pointer (some ⟨gb2, 0, none⟩)) rfl, extract_tuple (v := .int .i64 0) rfl]
  have hA7 := hA.ext hx7
  have hx57 := hx6.trans hx7
  have hx37 := hx35.trans hx57
  rw [field_at T.t_ref04_Table.p rfl, load_cell (by kernel_rfl) ((hb5.ext hx57).cell (o := 0 + 0) rfl)]
  refine (rAll szs (hxs3.ext hx37).ls hsz).mono ?_
  rintro av w8 _ ⟨hx8, hav⟩
  have hal := allT_length hsz.2
  rw [len_dat T.t_sl_sl_int.u hav]
  obtain ⟨n, hn⟩ : ∃ n, n = (allT szs).length := ⟨_, rfl⟩
  rw [← hn]
  refine make_ints T.t_sl_int.u T.t_int.i (by omega) (by omega) fun gat w9 hgat hx9 hbat => ?_
  have hx79 := hx8.trans hx9
  have hx59 := hx57.trans hx79
  have hx09 := hx05.trans hx59
  obtain ⟨la1, la2, la3⟩ := hA.lts
  obtain ⟨lb1, lb2, lb3⟩ := hB.lts
  have s6 := hx6.size
  have s7 := hx7.size
  have s8 := hx8.size
  have s9 := hx9.size
  have s02 := hx02.size
  have s3 := hx3.size
  have lgat := hbat.lt
  have hat0 : LM .i64 T.t_int w9 gat (.slice (some ⟨gat, 0, none⟩) n n) (List.replicate n 0) := LM.of (n := n) (Mine.full (by simpa using hbat) (by simp) (by simp [maxLen]; omega))
  obtain ⟨atv, hatv⟩ : ∃ atv : Value, atv = .slice (some ⟨gat, 0, none⟩) n n := ⟨_, rfl⟩
  rw [← hatv] at hat0 ⊢
  rw [len_ls T.t_sl_int.u hat0.ls, List.length_replicate]
  have hav9 : Seen (fun r => w7.heap.size ≤ r ∧ r < w8.heap.size) w9 [av] (allT szs) := rep_ext (rep_sees hav fun r hr h => by
    rcases h with h | h
    · exact ⟨h, hr⟩
    · exact h.elim) hx9
  -- at counts
  refine Loop1.range n (fun i w10 => Chg (fun r => r = gat) w9 w10 ∧ LM .i64 T.t_int w10 gat atv (upto (cntL n) 0 i)) (by omega) ⟨Chg.refl _ _, by rw [upto_zero, cntL_length]; exact hat0⟩ ?_ ?_
  · rintro i w10 kk hi ⟨hc10, hat⟩ hkk
    simp only [binS_lss, split_dec]
    refine ⟨fun _ => ?_, fun h => by omega⟩
    have hul : (upto (cntL n) 0 i).length = n := by rw [upto_length, cntL_length]
    rw [idx_lm rfl T.t_sl_int.u T.t_int.i hat (by omega)]
    refine store_lm T.t_int.i hat (by omega) fun w11 hc11 hs11 hm11 => ?_
    simp only [binS_add]
    refine hkk _ ⟨hc10.trans hc11, ?_⟩
    rw [upto_set (cntL_get hi)] at hm11
    exact hm11
  rintro w10 kk ⟨hc10, hat⟩
  have e0 : upto (cntL n) 0 n = cntL n := by
    have := upto_all (cntL n) (0 : Int)
    rw [cntL_length] at this; exact this
  rw [e0] at hat
  simp only [binS_lss, split_dec]
  refine ⟨fun h => by omega, fun _ => ?_⟩
  rw [len_ls T.t_sl_int.u hat.ls, cntL_length]
  -- the places are swapped
  refine Loop1.range n (fun i w11 => Chg (fun r => r = gat) w9 w11 ∧ ∃ PL : List Int, PL.Perm (cntL n) ∧ LM .i64 T.t_int w11 gat atv PL) (by omega) ⟨hc10, _, List.Perm.refl _, hat⟩ ?_ ?_
  · rintro i w11 kk hi ⟨hc11, PL, hP, hatP⟩ hkk
    have hPl : PL.length = n := by rw [hP.length_eq, cntL_length]
    have hx011 : Ext w w11 := hx09.then hc11 (fun r hr he => by have he : r = gat := he; omega)
    simp only [binS_lss, split_dec]
    refine ⟨fun _ => ?_, fun h => by omega⟩
    refine join0 (fun w12 => Chg (fun r => r = gat) w9 w12 ∧ ∃ PL : List Int, PL.Perm (cntL n) ∧ LM .i64 T.t_int w12 gat atv PL) ?_ ?_
    · rintro w12 hI
      simp only [binS_add]
      exact hkk _ hI
    intro J hJ
    rw [len_ls T.t_sl_uint8.u (ho.ext hx011)]
    simp only [binS_lss, split_dec]
    refine ⟨fun hlt => ?_, fun _ => hJ _ ⟨hc11, PL, hP, hatP⟩⟩
    obtain ⟨y, hyi⟩ : ∃ y, ord[i]? = some y := ⟨_, List.getElem?_eq_getElem (by omega)⟩
    have hy := ho8 y (List.mem_of_getElem? hyi)
    rw [get_ls T.t_sl_uint8.u T.t_uint8.i (by kernel_rfl) (ho.ext hx011) hyi, conv_int T.t_uint8.u T.t_int.u, wrap_i64 (x := y) (by omega) (by omega), len_ls T.t_sl_int.u hatP.ls, hPl]
    simp only [binS_sub]
    rw [wrap_i64 (x := (n : Int) - i) (by omega) (by omega), binS_rem (by omega), Int.tmod_eq_emod_of_nonneg hy.1]
    have hm1 := Int.emod_nonneg y (show (n : Int) - i ≠ 0 by omega)
    have hm2 := Int.emod_lt_of_pos y (show 0 < (n : Int) - i by omega)
    simp only [binS_add]
    rw [wrap_i64 (x := (i : Int) + y % ((n : Int) - i)) (by omega) (by omega)]
    obtain ⟨j, hj⟩ : ∃ j : Nat, (i : Int) + y % ((n : Int) - i) = j := ⟨((i : Int) + y % ((n : Int) - i)).toNat, by omega⟩
    rw [hj]
    have hjn : j < n := by omega
    intro w12 hx12 _ _
    have hat12 := hatP.ext hx12
    obtain ⟨u, hui⟩ : ∃ u, PL[i]? = some u := ⟨_, List.getElem?_eq_getElem (by omega)⟩
    obtain ⟨v, hvj⟩ : ∃ v, PL[j]? = some v := ⟨_, List.getElem?_eq_getElem (by omega)⟩
    rw [get_ls T.t_sl_int.u T.t_int.i (by kernel_rfl) hat12.ls hvj, get_ls T.t_sl_int.u T.t_int.i (by kernel_rfl) hat12.ls hui, idx_lm rfl T.t_sl_int.u T.t_int.i hat12 (by omega)]
    refine store_lm T.t_int.i hat12 (by omega) fun w13 hc13 hs13 hm13 => ?_
    rw [idx_lm rfl T.t_sl_int.u T.t_int.i hm13 (by rw [List.length_set]; omega)]
    refine store_lm T.t_int.i hm13 (by rw [List.length_set]; omega) fun w14 hc14 hs14 hm14 => ?_
    exact hJ _ ⟨((hc11.trans (hx12.chg _)).trans hc13).trans hc14, _, (swap_perm2 hui hvj).trans hP, hm14⟩
  rintro w11 kk ⟨hc11, PL, hP, hatP⟩
  have hPl : PL.length = n := by rw [hP.length_eq, cntL_length]
  have hx911 : ∀ {r : Nat}, r < w9.heap.size → r ≠ gat → ¬ (fun r => r = gat) r := fun _ h he => h he
  simp only [binS_lss, split_dec]
  refine ⟨fun h => by omega, fun _ => ?_⟩
  -- all there is, behind these changes
  have hA11 := (hA7.ext hx79).chg hc11 (fun he => by have he : ga = gat := he; omega) (fun he => by have he : ma = gat := he; omega) (fun r hr he => by have := la3 r hr; have he : r = gat := he; omega)
  have hB11 := (hB.ext hx79).chg hc11 (fun he => by have he : gb2 = gat := he; omega) (fun he => by have he : mb = gat := he; omega) (fun r hr he => by have := lb3 r hr; have he : r = gat := he; omega)
  have hb11 := (hb5.ext hx59).chg hc11 (fun he => by have he : gb = gat := he; omega)
  have lgx : gx < w3.heap.size := LM_lt hxc (by omega)
  have hxc11 := ((hxc.ext hx37).ext hx79).chg hc11 (fun _ he => by have he : gx = gat := he; omega)
  have hxs11 := LM_chg ((hxs3.ext hx37).ext hx79) hc11 (fun r hr he => by
    have := LM_leads hxs3 hr
    have he : r = gat := he; omega)
  have hav11 := Dat.chg hav9 hc11 fun r _ h he => by
    rcases h with h | h
    · exact h
    · have he : r = gat := he; omega
  have hx011 : Ext w w11 := hx09.then hc11 (fun r hr he => by have he : r = gat := he; omega)
  have hxv11 : ∀ r, leads xs r → r < w3.heap.size := fun r hr => by have := LM_leads hxs3 hr; omega
  refine putLoop hA11 (rep_sees hav11 fun r _ h => by
    rcases h with h | h
    · exact h.elim
    · show r ≠ ma; omega) hb11 hxc11 hcl hcin fun w12 DA hc12 hA12 hDA hCA => ?_
  have hB12 := hB11.chg hc12 (fun he => by have he : gb2 = ma := he; omega) (fun he => by have he : mb = ma := he; omega) (fun r hr he => lm_map hB11.2.1 hA11.2.2.1 hr he)
  have hb12 := hb11.chg hc12 (fun he => by have he : gb = ma := he; omega)
  have hxc12 := hxc11.chg hc12 (fun _ he => by have he : gx = ma := he; omega)
  have hxs12 := LM_chg hxs11 hc12 (fun r hr he => by have := hxv11 r hr; have he : r = ma := he; omega)
  have hav12 := Dat.chg hav11 hc12 fun r _ h he => by
    rcases h with h | h
    · exact h
    · have he : r = ma := he; omega
  have hat12 := hatP.chg hc12 (fun _ he => by have he : gat = ma := he; omega)
  have hx012 : Ext w w12 := hx011.then hc12 (fun r hr he => by have he : r = ma := he; omega)
  rw [len_ls T.t_sl_int.u hat12.ls, hPl]
  have s11 := hc11.size
  have s12 := hc12.size
  refine Loop1.range n (fun i w13 => Chg (fun r => r = mb) w12 w13 ∧ ∃ D, D.length ≤ 2 * i ∧ TupAt w13 gb2 mb svb gsb szs K K D ∧ ∀ (j : Nat) t, (allT szs)[j]? = some t → costT D K t = if (j : Int) ∈ PL.take i then getC szs cs t else K) (by omega)
    ⟨Chg.refl _ _, [], Nat.le_refl _, hB12, fun j t _ => by simp [costT_nil]⟩ ?_ ?_
  · rintro i w13 kk hi ⟨hc13, D, hD, hB13, hcost⟩ hkk
    simp only [binS_lss, split_dec]
    refine ⟨fun _ => ?_, fun h => by omega⟩
    obtain ⟨p, hpi⟩ : ∃ p, PL[i]? = some p := ⟨_, List.getElem?_eq_getElem (by omega)⟩
    obtain ⟨q, hqn, rfl⟩ := cntL_mem.1 (hP.mem_iff.1 (List.mem_of_getElem? hpi))
    obtain ⟨t, htq⟩ : ∃ t, (allT szs)[q]? = some t := ⟨_, List.getElem?_eq_getElem (by omega)⟩
    have hval : Val szs t := ⟨_, all_idx hsz.2 htq⟩
    have hci := getC_at hsz.2 hcl htq
    have hcq := hcin _ (List.mem_of_getElem? hci)
    have hat13 := hat12.chg hc13 (fun _ he => by have he : gat = mb := he; omega)
    have hav13 := Dat.chg hav12 hc13 fun r _ h he => by
      rcases h with h | h
      · exact h
      · have he : r = mb := he; omega
    have hb13 := hb12.chg hc13 (fun he => by have he : gb = mb := he; omega)
    have hxc13 := hxc12.chg hc13 (fun _ he => by have he : gx = mb := he; omega)
    rw [get_ls T.t_sl_int.u T.t_int.i (by kernel_rfl) hat13.ls hpi]
    refine get_dat (i := q) rfl rfl T.t_sl_sl_int.u T.t_sl_int.i (by kernel_rfl) hav13 htq fun u hu => ?_
    refine (uPut hB13.is (see_ls hu) (c := 0)).mono ?_
    rintro _ w14 _ ⟨_, hok⟩
    obtain ⟨rfl, hc14, D1, hU1, hT14⟩ := hok ⟨hval, h0K⟩
    have hB14 := hB13.put hc14 hT14
    intro w15 hx15 _ _
    have hc1415 : Chg (fun r => r = mb) w13 w15 := hc14.trans (hx15.chg _)
    have hav15 := Dat.chg hav13 hc1415 fun r _ h he => by
      rcases h with h | h
      · exact h
      · have he : r = mb := he; omega
    refine get_dat (i := q) rfl rfl T.t_sl_sl_int.u T.t_sl_int.i (by kernel_rfl) hav15 htq fun u2 hu2 => ?_
    rw [field_at T.t_ref04_Table.p rfl, load_cell (by kernel_rfl) ((hb13.chg hc1415 (fun he => by have he : gb = mb := he; omega)).cell (o := 0 + 2) rfl), get_ls T.t_sl_int64.u T.t_int64.i (by kernel_rfl) (hxc13.chg hc1415 (fun _ he => by have he : gx = mb := he; omega)).ls hci]
    have hB15 := hB14.ext hx15
    refine (uPut hB15.is (see_ls hu2) (c := getC szs cs t)).mono ?_
    rintro _ w16 _ ⟨_, hok⟩
    obtain ⟨rfl, hc16, D2, hU2, hT16⟩ := hok ⟨hval, hcq⟩
    simp only [binS_add]
    have l1 := hU1.2
    have l2 := hU2.2
    refine hkk _ ⟨(hc13.trans hc1415).trans hc16, D2, by omega, hB15.put hc16 hT16, fun j s hj => ?_⟩
    rw [hU2.cost hB15.is.nodup hT16.nodup, hU1.cost hB13.is.nodup hT14.nodup, List.take_add_one, hpi]
    by_cases hjq : j = q
    · subst hjq
      rw [htq] at hj
      cases hj
      rw [if_pos rfl, if_pos (by simp)]
    · have hst : s ≠ t := fun he => hjq (allT_inj hsz.2 (by rw [← he]; exact hj) htq)
      rw [if_neg hst, if_neg hst, hcost j s hj]
      have e : ((j : Int) ∈ PL.take i ++ (some (q : Int)).toList) ↔ (j : Int) ∈ PL.take i := by
        simp only [Option.toList_some, List.mem_append, List.mem_singleton]
        exact ⟨fun h => h.elim id (fun h => absurd (by omega) hjq), .inl⟩
      simp only [e]
  rintro w13 kk ⟨hc13, D, hD, hB13, hcost⟩
  simp only [binS_lss, split_dec]
  refine ⟨fun h => by omega, fun _ => ?_⟩
  have hCB : IsC szs (costT D K) cs := ⟨hcl, fun t ht => by
    obtain ⟨j, hj⟩ := val_ex hsz.2 ht
    have hjn := (List.getElem?_eq_some_iff.1 hj).1
    rw [hcost j t hj, if_pos]
    rw [← hPl, List.take_length]
    exact hP.mem_iff.2 (cntL_mem.2 ⟨j, by omega, rfl⟩)⟩
  have hA13 := hA12.chg hc13 (fun he => by have he : ga = mb := he; omega) (fun he => by have he : ma = mb := he; omega) (fun r hr he => by have := la3 r hr; have he : r = mb := he; omega)
  have hb13 := hb12.chg hc13 (fun he => by have he : gb = mb := he; omega)
  have hxc13 := hxc12.chg hc13 (fun _ he => by have he : gx = mb := he; omega)
  have hxs13 := LM_chg hxs12 hc13 (fun r hr he => by have := hxv11 r hr; have he : r = mb := he; omega)
  have hx013 : Ext w w13 := hx012.then hc13 (fun r hr he => by have he : r = mb := he; omega)
  refine join1 (fun v w14 => v = .bool true ∧ Ext w w14) (fun _ _ h => h) fun J hJ => ?_
  refine (uSame hA13.is hB13.is).mono ?_
  rintro _ w14 _ ⟨hx14, r, rfl, hr⟩
  have hrt : r = true := hr.2 ⟨rfl, rfl, fun t ht => by rw [← hCA.2 t ht, ← hCB.2 t ht]⟩
  subst hrt
  rw [split_true, load_struct T.t_ref04_Table.p T.t_ref04_Table.i rfl (hb13.ext hx14).range]
  refine (uLike (hA13.ext hx14).is (by omega) (by omega) (hxs13.ext hx14).ls (hxc13.ext hx14).ls hCA).mono ?_
  rintro _ w15 _ ⟨rfl, hx15⟩
  have hx1315 := hx14.trans hx15
  rw [split_true, load_struct T.t_ref04_Table.p T.t_ref04_Table.i rfl (hb13.ext hx1315).range, field_at T.t_ref04_Table.p rfl, load_cell (by kernel_rfl) ((hb13.ext hx1315).cell (o := 0 + 1) rfl)]
  refine (uLike (hB13.ext hx1315).is (by omega) (by omega) (hxs13.ext hx1315).ls (hxc13.ext hx1315).ls hCB).mono ?_
  rintro _ w16 _ ⟨rfl, hx16⟩
  exact hJ _ _ ⟨rfl, (hx013.trans hx1315).trans hx16⟩
end Go.Proofs.Ytahhkeljejfgfaa

