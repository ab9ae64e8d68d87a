/- The document's table with its places in another order. -/
import Derived.Test.YtahhkeljejfgfaaDoorL16
import Derived.Test.YtahhkeljejfgfaaDoorM2
namespace Go.Proofs.YtahhkeljejfgfaaDoor
open Go Go.Vc Go.RowKit Go.Proofs Go.Proofs.Tryd
set_option maxRecDepth 100000

set_option maxHeartbeats 1000000 in
theorem rTurn {w : World} {sv cv ov : Value} {s cs order : List Int} {k : Int} (h : LS .i64 w sv s) (hs : Sizes s) (hc : LS .i64 w cv cs) (hl : cs.length = (prodN s).toNat) (ho : LS .i64 w ov order) (hgo : Good order s.length) :
    Cal prog F.ref04_Turn [.agg #[sv, .int .i64 k, cv], ov] w fun v w' => Ext w w' ∧ ∃ xs xc, v = .agg #[xs, .int .i64 k, xc] ∧ LS .i64 w' xs (turnS s order) ∧ LS .i64 w' xc (turnC s cs order) := by
  have hsv := h.cells
  have hcv := hc.cells
  have hs6 := hs.1
  have hn := hgo.1
  have hsz' : Sizes (turnS s order) := hs.turn hgo rfl
  have htl : (turnS s order).length = order.length := turnS_length _ _
  have hpb := prod_bound hsz'
  apply ref04_Turn.enter
  unfold ref04_Turn.body
  refine box_c fun g1 w1 hg1 hx1 hb1 => ?_
  refine alloc_c T.t_ref04_Table.i fun g6 w2 hg6 hx2 hb6 => ?_
  rw [field_at T.t_ref04_Table.p rfl, load_cell (by kernel_rfl) ((hb1.ext hx2).cell (o := 0 + 1) rfl), build_eq (cs := #[.slice none 0 0, .int .i64 k, .slice none 0 0]) (by kernel_rfl)]
  refine alloc_c T.t_ref04_Table.i fun g2 w3 hg2 hx3 hb2 => ?_
  refine store_whole (vs := [.slice none 0 0, .int .i64 k, .slice none 0 0]) T.t_ref04_Table.i rfl rfl (by intro u hu; simp at hu; rcases hu with rfl | rfl | rfl <;> rfl) hb2 fun w4 hc4 hs4 hb4 => ?_
  have s1 := hx1.size
  have s2 := hx2.size
  have s3 := hx3.size
  have l1 := hb1.lt
  have l6 := hb6.lt
  have l2 := hb2.lt
  have hx04 : Ext w w4 := ((hx1.trans hx2).trans hx3).then hc4 (by rintro r hr rfl; omega)
  have hb1 : Blk w4 g1 T.t_ref04_Table [sv, .int .i64 k, cv] := ((hb1.ext hx2).ext hx3).chg hc4 (by omega)
  have hb6 : Blk w4 g6 T.t_ref04_Table [.slice none 0 0, .int .i64 0, .slice none 0 0] := (hb6.ext hx3).chg hc4 (by omega)
  rw [len_ls T.t_sl_int.u (ho.ext hx04)]
  have l24 := hb4.lt
  refine Loop1.range order.length (fun i w5 => Chg (fun r => r = g2 ∨ w4.heap.size ≤ r) w4 w5 ∧ ∃ xs gx, g2 < gx ∧ Blk w5 g2 T.t_ref04_Table [xs, .int .i64 k, .slice none 0 0] ∧ LM .i64 T.t_int w5 gx xs ((turnS s order).take i) ∧ w4.heap.size ≤ gx) (by omega)
    ⟨Chg.refl _ _, _, w4.heap.size, by omega, hb4, LM.nil _ _ _ _, Nat.le_refl _⟩ ?_ ?_
  · rintro i w5 kk hi ⟨hc5, xs, gx, hgx, hbu, hmx, hgx4⟩ hkk
    simp only [binS_lss, split_dec, Drew]
    refine ⟨fun _ => ?_, fun h => by omega⟩
    have hx05 : Ext w w5 := hx04.then hc5 (by rintro r hr (rfl | h) <;> omega)
    obtain ⟨p, hpi⟩ : ∃ p, order[i]? = some p := ⟨_, List.getElem?_eq_getElem hi⟩
    have hpr := (hgo.2 i p hpi).1
    rw [get_ls T.t_sl_int.u T.t_int.i (by kernel_rfl) (ho.ext hx05) hpi]
    intro w6 hx6 _ _
    have hx06 := hx05.trans hx6
    have hc6 := hc5.trans (hx6.chg (fun r => r = g2 ∨ w4.heap.size ≤ r))
    have hb1' := hb1.chg hc6 (by show ¬ (g1 = g2 ∨ _); omega)
    have hbu6 := hbu.ext hx6
    have s5 := hc5.size
    have s6 := hx6.size
    obtain ⟨a, ha⟩ : ∃ a, s[p.toNat]? = some a := ⟨_, List.getElem?_eq_getElem (by omega)⟩
    have hta : (turnS s order)[i]? = some a := by rw [turnS_get hgo rfl hpi, ha]
    rw [field_at T.t_ref04_Table.p rfl, load_cell (by kernel_rfl) (hbu6.cell (o := 0 + 0) rfl), field_at T.t_ref04_Table.p rfl, load_cell (by kernel_rfl) (hb1'.cell (o := 0 + 0) rfl), get_ls_at (i := p.toNat) (by omega) T.t_sl_int.u T.t_int.i (by kernel_rfl) (h.ext hx06) ha]
    refine one_c T.t_sl_int.u T.t_int.i rfl fun av ga w7 hga hx7 hav => ⟨.inl hx7, ?_⟩
    have htk : ((turnS s order).take i).length ≤ 1000 := by rw [List.length_take]; omega
    refine push_lm T.t_sl_int.u T.t_int.i rfl ((hmx.ext hx6).ext hx7) hav.ls (by simp only [List.length_cons, List.length_nil]; omega) (by simp only [List.length_cons, List.length_nil]; omega) fun v' g' w8 hg' hv' hc8 => ?_
    have s7 := hx7.size
    have hbu8 := (hbu6.ext hx7).chg hc8 (by omega)
    rw [field_at T.t_ref04_Table.p rfl]
    refine store_cell T.t_sl_int.i hv'.ls.cells.1 hv'.ls.cells.2 hbu8 (by simp) fun w9 hc9 hs9 hb9 => ?_
    simp only [binS_add]
    refine hkk _ ⟨((hc6.trans (hx7.chg _)).trans (hc8.mono fun r hr h => by omega)).trans (hc9.mono fun r hr h => .inl h), v', g', by omega, hb9, ?_, by omega⟩
    rw [List.take_add_one, hta]
    exact hv'.chg hc9 (fun _ => by omega)
  · rintro w5 kk ⟨hc5, xs, gx, hgx, hbu, hmx, hgx4⟩
    simp only [binS_lss, split_dec]
    refine ⟨fun h => by omega, fun _ => ?_⟩
    rw [← htl, List.take_length] at hmx
    have hx05 : Ext w w5 := hx04.then hc5 (by rintro r hr (rfl | h) <;> omega)
    have hb1 := hb1.chg hc5 (by show ¬ (g1 = g2 ∨ _); omega)
    have hb6 := hb6.chg hc5 (by show ¬ (g6 = g2 ∨ _); omega)
    have s5 := hc5.size
    have hxv := hmx.ls.cells
    rw [field_at T.t_ref04_Table.p rfl, load_cell (by kernel_rfl) (hbu.cell (o := 0 + 0) rfl)]
    refine (rAll _ hmx.ls hsz').mono ?_
    rintro av w10 _ ⟨hx10, hall⟩
    have s10 := hx10.size
    have hall := rep_old hall
    have hlen := allT_length hsz'.2
    have hx010 := hx05.trans hx10
    rw [len_dat T.t_sl_sl_int.u hall]
    let Lc := turnC s cs order
    have hLc : Lc.length = (prodN (turnS s order)).toNat := turnC_length _ _ _
    have lx : ∀ r, leads xs r → r < w5.heap.size ∧ r ≠ g2 := fun r hr => by have := LM_leads hmx hr; omega
    let S : Nat → Prop := fun r => r = g2 ∨ w10.heap.size ≤ r
    have hS : ∀ {r : Nat}, r ≠ g2 → r < w10.heap.size → ¬ S r := fun h1 h2 h => h.elim h1 (fun h => by omega)
    refine Loop1.range (allT (turnS s order)).length (fun q w11 => Chg S w10 w11 ∧ ∃ ucv gC, w10.heap.size ≤ gC ∧ Blk w11 g2 T.t_ref04_Table [xs, .int .i64 k, ucv] ∧ LM .i64 T.t_int64 w11 gC ucv (Lc.take q)) (by omega)
      ⟨Chg.refl _ _, _, w10.heap.size, Nat.le_refl _, hbu.ext hx10, LM.nil _ _ _ _⟩ ?_ ?_
    · rintro q w11 kk hq ⟨hc11, ucv, gC, hgC, hbu11, hC⟩ hkk
      simp only [binS_lss, split_dec]
      refine ⟨fun _ => ?_, fun h => by omega⟩
      have hx011 : Ext w w11 := hx010.then hc11 (by rintro r hr (h | h) <;> omega)
      have hall11 : Dat.rep true (fun r => (w5.heap.size ≤ r) ∧ r < w10.heap.size) Non w11 [av] (allT (turnS s order)) := Dat.chg hall hc11 (fun r hr h h2 => by
        rcases h with h | h
        · exact hS (by have : w5.heap.size ≤ r := h.1; omega) h.2 h2
        · exact h)
      have hqp : (q : Int) < prodN (turnS s order) := by omega
      refine get_dat rfl rfl T.t_sl_sl_int.u T.t_sl_int.i (by kernel_rfl) hall11 (all_tup hsz'.2 hqp) fun tv htv => ?_
      let x := tupN (turnS s order) (q : Int)
      have hx : LS .i64 w11 tv x := see_ls htv
      have hxl : x.length = order.length := by simp only [x]; rw [tupN_length, htl]
      have hxv : Val (turnS s order) x := tup_val hsz'.2 (by omega)
      have s11 := hc11.size
      refine empty_b fun v41 g41 w12 hg41 lt41 hx12 h41 => ?_
      refine push_lm T.t_sl_int.u T.t_int.i rfl h41 (hx.ext hx12) (by simp only [List.length_nil]; omega) (by simp only [List.length_nil]; omega) fun ov2 go w13 hgo13 hov hc13 => ?_
      have s12 := hx12.size
      have hx1113 : Ext w11 w13 := hx12.then hc13 (by rintro r hr rfl; omega)
      have hgo11 : w11.heap.size ≤ go := by omega
      have s13 := hx1113.size
      rw [len_ls T.t_sl_int.u (ho.ext (hx011.trans hx1113))]
      refine Loop1.range order.length (fun j w14 => Ext w11 w14 ∧ ∃ y : List Int, y.length = order.length ∧ LM .i64 T.t_int w14 go ov2 y ∧ ∀ (i : Nat) (p : Int), i < j → order[i]? = some p → y[p.toNat]? = x[i]?) (by omega)
        ⟨hx1113, _, by rw [List.nil_append]; exact hxl, hov, fun i p hi => by omega⟩ ?_ ?_
      · rintro j w14 k2 hj ⟨hx14, y, hyl, hmy, hyx⟩ hk2
        simp only [binS_lss, split_dec]
        refine ⟨fun _ => ?_, fun h => by omega⟩
        obtain ⟨p, hpj⟩ : ∃ p, order[j]? = some p := ⟨_, List.getElem?_eq_getElem hj⟩
        obtain ⟨u, hu⟩ : ∃ u, x[j]? = some u := ⟨_, List.getElem?_eq_getElem (by omega)⟩
        have hpr := (hgo.2 j p hpj).1
        rw [get_ls T.t_sl_int.u T.t_int.i (by kernel_rfl) (ho.ext (hx011.trans hx14)) hpj, get_ls T.t_sl_int.u T.t_int.i (by kernel_rfl) (hx.ext hx14) hu, idx_lm (i := p.toNat) (by omega) T.t_sl_int.u T.t_int.i hmy (by omega)]
        refine store_lm T.t_int.i hmy (by omega) fun w15 hc15 hs15 hm15 => ?_
        simp only [binS_add]
        refine hk2 _ ⟨hx14.then hc15 (by rintro r hr rfl; omega), _, by simpa using hyl, hm15, fun i p' hi hp' => ?_⟩
        by_cases hij : i = j
        · subst hij
          rw [hpj] at hp'
          cases hp'
          rw [List.getElem?_set_self (by omega), hu]
        · have hpr' := (hgo.2 i p' hp').1
          have hne : p.toNat ≠ p'.toNat := fun he => by
            have : p = p' := by omega
            subst this
            exact hij (hgo.inj hp' hpj)
          rw [List.getElem?_set_ne hne]
          exact hyx i p' (by omega) hp'
      · rintro w14 k2 ⟨hx14, y, hyl, hmy, hyx⟩
        simp only [binS_lss, split_dec, Drew]
        refine ⟨fun h => by omega, fun _ w16 hx16 _ _ => ?_⟩
        have hy : y = oldOf order x := old_eq hgo (by omega) (by omega) fun i p hip => hyx i p (List.getElem?_eq_some_iff.1 hip).1 hip
        have hxA := hx14.trans hx16
        have hcA : Chg S w10 w16 := hc11.trans (hxA.chg S)
        have hbu16 := hbu11.ext hxA
        have hb116 : Blk w16 g1 T.t_ref04_Table [sv, .int .i64 k, cv] := (hb1.ext hx10).chg hcA (hS (by omega) (by omega))
        rw [field_at T.t_ref04_Table.p rfl, load_cell (by kernel_rfl) (hbu16.cell (o := 0 + 2) rfl), load_struct T.t_ref04_Table.p T.t_ref04_Table.i rfl hb116.range]
        have hyv : Val s y := by rw [hy]; exact old_val hgo rfl hxv
        obtain ⟨n, hn'⟩ := hyv
        have hbn := idxN_bound hs.2 hn'
        simp only [Int.zero_mul, Int.zero_add, Int.one_mul] at hbn
        have hcn : getC s cs y = cs.getD n.toNat 0 := by unfold getC; rw [hn']
        have hx016 := hx011.trans hxA
        refine (rGet (n := n.toNat) (c := getC s cs y) (h.ext hx016) hs (hc.ext hx016) (hmy.ls.ext hx16) (by rw [hn']; congr 1; omega) (by rw [hcn, List.getD_eq_getElem?_getD, List.getElem?_eq_getElem (by omega)]; rfl)).mono ?_
        rintro _ w17 _ ⟨rfl, hx17⟩
        refine ⟨.inl hx17, ?_⟩
        refine one_c T.t_sl_int64.u T.t_int64.i rfl fun v64 g64 w18 hg64 hx18 h64 => ⟨.inl (hx17.trans hx18), ?_⟩
        have hxB := (hxA.trans hx17).trans hx18
        have htk : (Lc.take q).length ≤ 1073741824 := by rw [List.length_take]; omega
        refine push_lm T.t_sl_int64.u T.t_int64.i rfl (hC.ext hxB) h64.ls (by simp only [List.length_cons, List.length_nil]; omega) (by simp only [List.length_cons, List.length_nil]; omega) fun v' g' w19 hg' hv' hc19 => ?_
        have sB := hxB.size
        have l211 := hbu11.lt
        rw [field_at T.t_ref04_Table.p rfl]
        refine store_cell T.t_sl_int64.i hv'.ls.cells.1 hv'.ls.cells.2 ((hbu11.ext hxB).chg hc19 (by omega)) (by simp) fun w20 hc20 hs20 hb20 => ?_
        simp only [binS_add]
        have hLq : Lc[q]? = some (getC s cs y) := by
          simp only [Lc, turnC]
          rw [List.getElem?_map, List.getElem?_range (by omega), hy]; rfl
        refine hkk _ ⟨((hc11.trans (hxB.chg S)).trans (hc19.mono fun r hr h => .inr (by omega))).trans (hc20.mono fun r hr h => .inl h), v', g', by omega, hb20, ?_⟩
        rw [List.take_add_one, hLq]
        exact hv'.chg hc20 (fun _ => by omega)
    · rintro w11 kk ⟨hc11, ucv, gC, hgC, hbu11, hC⟩
      simp only [binS_lss, split_dec]
      refine ⟨fun h => by omega, fun _ => ?_⟩
      have e : Lc.take (allT (turnS s order)).length = Lc := List.take_of_length_le (by omega)
      rw [e] at hC
      have hb6' : Blk w11 g6 T.t_ref04_Table [.slice none 0 0, .int .i64 0, .slice none 0 0] := (hb6.ext hx10).chg hc11 (hS (by omega) (by omega))
      have hm11 := LM_chg (hmx.ext hx10) hc11 (fun r hr => by have := lx r hr; exact hS this.2 (by omega))
      have hx011 : Ext w w11 := hx010.then hc11 (by rintro r hr (h | h) <;> omega)
      rw [load_struct T.t_ref04_Table.p T.t_ref04_Table.i rfl hbu11.range]
      refine store_whole (vs := [xs, .int .i64 k, ucv]) T.t_ref04_Table.i rfl rfl (by intro u hu; simp at hu; rcases hu with rfl | rfl | rfl; exact hxv.2; rfl; exact hC.ls.cells.2) hb6' fun w37 hc37 hs37 hb37 => ?_
      rw [res_struct T.t_ref04_Table.p T.t_ref04_Table.i rfl hb37.range]
      refine ⟨hx011.then hc37 (by rintro r hr rfl; omega), xs, ucv, rfl, (LM_chg hm11 hc37 fun r hr h2 => ?_).ls, (hC.chg hc37 (fun _ => by omega)).ls⟩
      have h2 : r = g6 := h2
      have := LM_leads hmx hr
      omega
end Go.Proofs.YtahhkeljejfgfaaDoor
