/- The statements' own small functions: a top, a table made, the document's example, are they alike. -/
import Derived.Test.YtahhkeljejfgfaaDoorL13
namespace Go.Proofs.YtahhkeljejfgfaaDoor
open Go Go.Vc Go.RowKit Go.Proofs Go.Proofs.Tryd
set_option maxRecDepth 100000

def topN (k : Int) : Int := 1 + k % 200
theorem lTop {k : Int} {w : World} (h : 0 ≤ k ∧ k < 65536) : Cal prog F.law04_top [.int .u16 k] w fun v w' => v = .int .i64 (topN k) ∧ Ext w w' := by
  apply law04_top.enter
  unfold law04_top.body
  rw [binS_rem (by decide), conv_int T.t_uint16.u T.t_int64.u, Int.tmod_eq_emod_of_nonneg h.1, wrap_i64 (by omega) (by omega)]
  simp only [binS_add]
  rw [wrap_i64 (by omega) (by omega)]
  exact ⟨rfl, Ext.refl _⟩
theorem topN_right {k : Int} : right (topN k) ∧ topN k ≤ 200 := by unfold topN right; omega

/-- the document's table, in a variable of its own; its costs in block gx -/
def Ref (w : World) (gx : Nat) (xs xc : Value) (szs : List Int) (cs : List Int) : Prop := LS .i64 w xs szs ∧ LM .i64 T.t_int64 w gx xc cs

theorem makeC_get {szs l : List Int} {k : Int} {i : Nat} (h : i < (prodN szs).toNat) : (makeC szs k l)[i]? = some (costN k l[i]?) := by
  simp [makeC, h]

set_option maxHeartbeats 1000000 in
theorem lMade {lv cv : Value} {l c : List Int} {k : Int} {w : World} (hl : LS .u8 w lv l) (h8 : ∀ x ∈ l, 0 ≤ x ∧ x < 256) (hc : LS .u16 w cv c) (h16 : ∀ x ∈ c, 0 ≤ x ∧ x < 65536) (hk : right k) (hk9 : k ≤ 1000000000) :
    Cal prog F.law04_made [lv, .int .i64 k, cv] w fun v w' => Ext w w' ∧ ∃ g gc sv gx xs xc gs, v = .tuple #[.pointer (some ⟨g, 0, none⟩), .agg #[xs, .int .i64 k, xc]] ∧
      Tab w' g gc sv (smallN l) k (makeC (smallN l) k c) ∧ LM .i64 T.t_int w' gs xs (smallN l) ∧ LM .i64 T.t_int64 w' gx xc (makeC (smallN l) k c) ∧
      w.heap.size ≤ g ∧ w.heap.size ≤ gc ∧ w.heap.size ≤ gx ∧ gx ≠ gc ∧ gx ≠ g ∧ ¬ leads sv gx ∧ ¬ leads xs gx ∧ ¬ leads xs gc ∧ ¬ leads xs g := by
  obtain ⟨hsz, hs3, hs4⟩ := smallN_sizes (l := l)
  have hple : prodN (smallN l) ≤ 4096 := by
    have := prod_small hs3 hs4
    omega
  have hpb := prod_bound hsz
  have hk1 := hk.1
  apply law04_made.enter
  unfold law04_made.body
  refine alloc_c T.t_ref04_Table.i fun g7 w1 hg7 hx1 hb7 => ?_
  have s1 := hx1.size
  refine (rSmall (hl.ext hx1) h8).mono ?_
  rintro xs w2 _ ⟨hx2, gs, hgs, hxs⟩
  have s2 := hx2.size
  refine (rMake hxs.ls hsz (hc.ext (hx1.trans hx2)) h16 (by omega)).mono ?_
  rintro _ w3 _ ⟨hx3, gx, xc, rfl, hgx, hxc⟩
  have s3 := hx3.size
  have l7 := hb7.lt
  refine alloc_c T.t_ref04_Table.i fun gb w4 hgb hx4 hbb => ?_
  have s4 := hx4.size
  have hxsv := hxs.ls.cells
  have hxcv := hxc.ls.cells
  have lx : gx < w3.heap.size := LM_lt hxc (by rw [makeC_length]; omega)
  refine store_whole (vs := [xs, .int .i64 k, xc]) T.t_ref04_Table.i rfl rfl (by intro u hu; simp at hu; rcases hu with rfl | rfl | rfl; exact hxsv.2; rfl; exact hxcv.2) hbb fun w5 hc5 hs5 hb5 => ?_
  have hx35 : Ext w3 w5 := hx4.then hc5 (by rintro r hr rfl; omega)
  have hxs5 := (hxs.ext hx3).ext hx35
  have hxc5 := hxc.ext hx35
  rw [field_at T.t_ref04_Table.p rfl, load_cell (by kernel_rfl) (hb5.cell (o := 0 + 0) rfl)]
  have lb5 := hb5.lt
  refine (tNew hxs5.ls).mono ?_
  rintro v w6 _ ⟨hx6, _, _, _, h4⟩
  obtain ⟨g, gc, sv, rfl, hg, hgc, hsv, hT⟩ := h4 hsz hple ⟨hk, by omega, by omega⟩
  rw [extract_tuple (v := .pointer (some ⟨g, 0, none⟩)) rfl, extract_tuple (v := .int .i64 0) rfl]
  have hb6 := hb5.ext hx6
  rw [field_at T.t_ref04_Table.p rfl, load_cell (by kernel_rfl) (hb6.cell (o := 0 + 0) rfl)]
  refine (rAll _ ((hxs5.ext hx6).ls) hsz).mono ?_
  rintro av w7 _ ⟨hx7, hall⟩
  rw [len_dat T.t_sl_sl_int.u hall]
  have s5 := hx35.size
  have s6 := hx6.size
  have hall := rep_old hall
  have hlen := allT_length hsz.2
  -- tables are filled
  have hTl := hT.2.2.2
  have hgcl : gc < w6.heap.size := by obtain ⟨⟨_, _, _, _, hq⟩, _⟩ := hT; exact LM_lt hq (by simp; omega)
  have h07 : Ext w w7 := ((((hx1.trans hx2).trans hx3).trans hx35).trans hx6).trans hx7
  have nl : gx ≠ gc := by omega
  refine Loop1.range (allT (smallN l)).length (fun i w8 => Chg (fun r => r = gc) w7 w8 ∧ Tab w8 g gc sv (smallN l) k (upto (makeC (smallN l) k c) 0 i)) (by omega)
    ⟨Chg.refl _ _, by rw [upto_zero, makeC_length]; exact hT.ext hx7⟩ ?_ ?_
  · rintro i w8 kk hi ⟨hc8, hT8⟩ hkk
    simp only [binS_lss, split_dec]
    refine ⟨fun _ => ?_, fun h => by omega⟩
    have hip : (i : Int) < prodN (smallN l) := by omega
    have hall8 := Dat.chg hall hc8 fun r hr h he => by
      rcases h with h | h
      · have := h.1; have : w6.heap.size ≤ r := this; omega
      · exact h
    refine get_dat rfl rfl T.t_sl_sl_int.u T.t_sl_int.i (by kernel_rfl) hall8 (all_tup hsz.2 hip) fun tv htv => ?_
    have hb8 := (hb6.ext hx7).chg hc8 (by omega)
    have hmi := makeC_get (szs := smallN l) (l := c) (k := k) (i := i) (by omega)
    have hxc8 := ((hxc5.ext hx6).ext hx7).chg hc8 (fun _ => nl)
    rw [field_at T.t_ref04_Table.p rfl, load_cell (by kernel_rfl) (hb8.cell (o := 0 + 2) rfl), get_ls T.t_sl_int64.u T.t_int64.i (by kernel_rfl) hxc8.ls hmi]
    refine (tPut (k := k) hT8 (see_ls htv)).mono ?_
    rintro _ w9 _ ⟨rfl, hc9, hT9⟩
    simp only [binS_add]
    refine hkk _ ⟨hc8.trans hc9, ?_⟩
    have e : putC (smallN l) (tupN (smallN l) i) k (costN k c[i]?) (upto (makeC (smallN l) k c) 0 i) = upto (makeC (smallN l) k c) 0 (i + 1) := by
      unfold putC
      rw [idx_tup hsz.2 (by omega) hip]
      simp only
      rw [if_pos ⟨hk, costN_in (by omega) _⟩, Int.toNat_natCast, upto_set hmi]
    rw [← e]; exact hT9
  · rintro w8 kk ⟨hc8, hT8⟩
    simp only [binS_lss, split_dec, Drew]
    refine ⟨fun h => by omega, fun _ w10 hx10 _ _ => ?_⟩
    have hb10 := ((hb6.ext hx7).chg hc8 (by omega)).ext hx10
    have hb710 := ((((hb7.ext hx2).ext hx3).ext hx35).ext hx6).ext hx7
    rw [load_struct T.t_ref04_Table.p T.t_ref04_Table.i rfl hb10.range]
    refine store_whole (vs := [xs, .int .i64 k, xc]) T.t_ref04_Table.i rfl rfl (by intro u hu; simp at hu; rcases hu with rfl | rfl | rfl; exact hxsv.2; rfl; exact hxcv.2) ((hb710.chg hc8 (by omega)).ext hx10) fun w11 hc11 hs11 hb11 => ?_
    rw [res_struct T.t_ref04_Table.p T.t_ref04_Table.i rfl hb11.range]
    have hxall : Ext w w11 := ((h07.then hc8 (by rintro r hr rfl; omega)).trans hx10).then hc11 (by rintro r hr rfl; omega)
    have lxs : ∀ r, leads xs r → w1.heap.size ≤ r ∧ r < w2.heap.size := fun r hr => by have := LM_leads hxs hr; omega
    have hxs11 := LM_chg ((LM_chg ((hxs5.ext hx6).ext hx7) hc8 (fun r hr he => by have := lxs r hr; omega)).ext hx10) hc11 (fun r hr he => by have := lxs r hr; omega)
    have hxc11 := ((((hxc5.ext hx6).ext hx7).chg hc8 (fun _ => nl)).ext hx10).chg hc11 (fun _ => by omega)
    have e : upto (makeC (smallN l) k c) 0 (allT (smallN l)).length = makeC (smallN l) k c := by
      rw [hlen, ← makeC_length (smallN l) k c, upto_all]
    rw [e] at hT8
    exact ⟨hxall, g, gc, sv, gx, xs, xc, gs, rfl, (hT8.ext hx10).chg hc11 (by omega) (fun _ => by omega) (fun r hr => by have := hsv r hr; omega), hxs11, hxc11, by omega, by omega, by omega, nl, by omega, fun hl => by have := hsv _ hl; omega, fun hl => by have := lxs _ hl; omega, fun hl => by have := lxs _ hl; omega, fun hl => by have := lxs _ hl; omega⟩

/-! ### the document's example -/
def awL : List Int := [3, 5, 4, 1]
theorem aw_facts : ∀ i : Nat, i < 4 → idxN [2, 2] [(i : Int) / 2, (i : Int) % 2] 0 = some (i : Int) ∧ ∃ x, awL[i]? = some x ∧ 0 ≤ x ∧ x ≤ 10 := by
  intro i hi
  rcases i with _ | _ | _ | _ | i
  · exact ⟨by decide, 3, rfl, by decide, by decide⟩
  · exact ⟨by decide, 5, rfl, by decide, by decide⟩
  · exact ⟨by decide, 4, rfl, by decide, by decide⟩
  · exact ⟨by decide, 1, rfl, by decide, by decide⟩
  · omega
theorem aw_out : outL [2, 2] awL 10 1 (valsI 3 2) = [(0, 3), (1, 1)] := by decide

theorem lAwake {w : World} (hl : Laid w) : Cal prog F.law04_awake [] w fun v w' => v = .bool true ∧ Ext w w' := by
  have hsz : Sizes [2, 2] := ⟨by decide, by intro x hx; simp at hx; omega⟩
  have hk : right 10 := by unfold right; omega
  apply law04_awake.enter
  unfold law04_awake.body
  refine lits_own (l := [2, 2]) T.t_sl_int.u T.t_int.i (by omega) rfl (by kernel_rfl) fun v10 g10 w1 hg10 hx1 h10 => ?_
  refine (tNew h10.ls).mono ?_
  rintro v w2 _ ⟨hx2, _, _, _, h4⟩
  obtain ⟨g, gc, sv, rfl, hg, hgc, hsv, hT⟩ := h4 hsz (by decide) ⟨hk, by omega, by omega⟩
  rw [extract_tuple (v := .pointer (some ⟨g, 0, none⟩)) rfl, extract_tuple (v := .int .i64 0) rfl]
  have s1 := hx1.size
  have s2 := hx2.size
  have hx02 := hx1.trans hx2
  have lgc : gc < w2.heap.size := by obtain ⟨⟨_, _, _, _, hq⟩, _⟩ := hT; exact LM_lt hq (by decide)
  refine join1 (fun v w3 => v = .bool false ∧ w2 = w3) ?_ ?_
  · rintro _ _ ⟨rfl, rfl⟩
    rw [split_false]
    refine lits_own (l := awL) T.t_sl_int64.u T.t_int64.i (by omega) rfl (by kernel_rfl) fun v20 g20 w4 hg20 hx4 h20 => ?_
    rw [len_ls T.t_sl_int64.u h20.ls]
    refine Loop2.range 4 (fun i _ w5 => Chg (fun r => r = gc) w4 w5 ∧ Tab w5 g gc sv [2, 2] 10 (upto awL 0 i)) (by omega) ⟨Chg.refl _ _, by rw [upto_zero]; exact hT.ext hx4⟩ ?_ ?_
    · rintro i _ w5 k hi ⟨hc5, hT5⟩ hkk
      obtain ⟨hidx, x, hxi, hx0, hx1⟩ := aw_facts i hi
      simp only [binS_lss, split_dec]
      refine ⟨fun _ => ?_, fun h => by simp [awL] at h; omega⟩
      rw [get_ls T.t_sl_int64.u T.t_int64.i (by kernel_rfl) (h20.chg hc5 (fun _ => by omega)).ls hxi, binS_quo (by decide), binS_rem (by decide), Int.tdiv_eq_ediv_of_nonneg (by omega), Int.tmod_eq_emod_of_nonneg (by omega), wrap_i64 (by omega) (by omega)]
      refine lits_own (l := [(i : Int) / 2, (i : Int) % 2]) T.t_sl_int.u T.t_int.i (by omega) rfl (by kernel_rfl) fun v32 g32 w6 hg32 hx6 h32 => ?_
      refine (tPut (hT5.ext hx6) h32.ls (c := x)).mono ?_
      rintro _ w7 _ ⟨rfl, hc7, hT7⟩
      have e1 : putE [2, 2] [(i : Int) / 2, (i : Int) % 2] 10 x = 0 := by unfold putE; rw [hidx]; simp only; rw [if_pos ⟨hk, hx0, hx1⟩]
      have e2 : putC [2, 2] [(i : Int) / 2, (i : Int) % 2] 10 x (upto awL 0 i) = upto awL 0 (i + 1) := by
        unfold putC; rw [hidx]; simp only; rw [if_pos ⟨hk, hx0, hx1⟩, Int.toNat_natCast, upto_set hxi]
      rw [e1]
      rw [e2] at hT7
      simp only [binS_neq, split_dec, binS_add]
      exact ⟨fun h => absurd rfl h, fun _ => hkk _ _ ⟨(hc5.trans (hx6.chg _)).trans hc7, hT7⟩⟩
    · rintro _ w5 k ⟨hc5, hT5⟩
      have hT5 : Tab w5 g gc sv [2, 2] 10 awL := hT5
      simp only [binS_lss, split_dec]
      refine ⟨fun h => by simp [awL] at h, fun _ => ?_⟩
      have hx05 : Ext w w5 := (hx02.trans hx4).then hc5 (by rintro r hr rfl; omega)
      refine dNew.mono ?_
      rintro _ w8 _ ⟨hx8, rfl⟩
      rw [if_pos (by decide), extract_tuple (v := domV 3 2) rfl, extract_tuple (v := .int .i64 0) rfl]
      refine alloc_c T.t_dom_Set.i fun gd w9 hgd hx9 hbd => ?_
      refine store_whole (vs := [.int .u64 ((3 : Nat) : Int), .int .i64 ((2 : Nat) : Int)]) T.t_dom_Set.i rfl rfl (by intro u hu; simp at hu; rcases hu with rfl | rfl <;> rfl) hbd fun w10 hc10 hs10 hb10 => ?_
      have s8 := hx8.size
      have hx510 : Ext w5 w10 := (hx8.trans hx9).then hc10 (by rintro r hr rfl; omega)
      rw [load_struct T.t_dom_Set.p T.t_dom_Set.i rfl hb10.range]
      refine (tOut (pos := 1) (b := 3) (n := 2) (hT5.ext hx510) hk ⟨by decide, by decide⟩ (hl.ext (hx05.trans hx510))).mono ?_
      rintro v w11 _ ⟨hx11, _, h3⟩
      obtain ⟨gu, guc, su, gb, bv, rfl, hU, hB, _⟩ := h3 1 rfl (by decide) (by decide)
      rw [aw_out] at hU hB
      rw [extract_tuple (v := .pointer (some ⟨gu, 0, none⟩)) rfl, extract_tuple (v := bv) rfl, extract_tuple (v := .int .i64 0) rfl]
      have hx011 := (hx05.trans hx510).trans hx11
      refine join1 (fun v w12 => v = .bool true ∧ Ext w w12) (fun _ _ h => h) fun J hJ => ?_
      simp only [binS_eql, decide_true, split_true]
      refine (tEntries hU).mono ?_
      rintro ev w13 _ ⟨hx13, ge, _, hE⟩
      refine lits_own (l := [3, 1]) T.t_sl_int64.u T.t_int64.i (by omega) rfl (by kernel_rfl) fun v53 g53 w14 _ hx14 h53 => ?_
      refine (sEqual_longs (hE.ls.ext hx14) h53.ls).mono ?_
      rintro _ w15 _ ⟨rfl, hx15⟩
      simp only [List.map, decide_true, split_true]
      refine lits_own (l := [0, 1]) T.t_sl_int.u T.t_int.i (by omega) rfl (by kernel_rfl) fun v58 g58 w16 _ hx16 h58 => ?_
      refine (sEqual_ints ((((hB.ls.ext hx13).ext hx14).ext hx15).ext hx16) h58.ls).mono ?_
      rintro _ w17 _ ⟨rfl, hx17⟩
      exact hJ _ _ ⟨by simp, ((((hx011.trans hx13).trans hx14).trans hx15).trans hx16).trans hx17⟩
  · intro J hJ
    simp only [binS_neq, split_dec]
    refine ⟨fun h => absurd rfl h, fun _ => ?_⟩
    rw [eq_ptr_nil T.t_p_table_Table.u]
    exact hJ _ _ ⟨rfl, rfl⟩
end Go.Proofs.YtahhkeljejfgfaaDoor
