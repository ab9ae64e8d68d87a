/- Tables: the places in another order. -/
import Derived.Test.YtahhkeljejfgfaaDoorL13
import Derived.Test.YtahhkeljejfgfaaDoorL17
import Derived.Test.YtahhkeljejfgfaaDoorM2
namespace Go.Proofs.YtahhkeljejfgfaaDoor
open Go Go.Vc Go.RowKit Go.Proofs Go.Proofs.Tryd
set_option maxRecDepth 100000

theorem sIdx {sv : Value} {l : List Int} {x : Int} {w : World} (h : LS .i64 w sv l) :
    Cal prog F.slices_Index_int_int [sv, .int .i64 x] w fun v w' => Ext w w' ∧ ∃ r : Int, v = .int .i64 r ∧ ∀ i : Nat, l[i]? = some x → (r = i ↔ ∀ j, j < i → l[j]? ≠ some x) := by
  apply slices_Index_int_int.enter
  unfold slices_Index_int_int.body
  rw [len_ls T.t_sl_int.u h]
  refine Loop2.range l.length (fun i _ w1 => Ext w w1 ∧ ∀ j, j < i → l[j]? ≠ some x) h.le ⟨Ext.refl _, fun j hj => by omega⟩ ?_ ?_
  · rintro i _ w1 k hi ⟨hx1, hno⟩ hk
    simp only [binS_lss, split_dec]
    refine ⟨fun _ => ?_, fun h => by omega⟩
    obtain ⟨y, hy⟩ : ∃ y, l[i]? = some y := ⟨_, List.getElem?_eq_getElem hi⟩
    rw [get_ls T.t_sl_int.u T.t_int.i (by kernel_rfl) (h.ext hx1) hy]
    simp only [binS_eql, split_dec, binS_add]
    refine ⟨fun he => ⟨hx1, i, rfl, fun q hq => ?_⟩, fun he => hk _ _ ⟨hx1, fun j hj => ?_⟩⟩
    · subst he
      refine ⟨fun hqi => by have : i = q := by omega
                            subst this; exact hno, fun hq2 => ?_⟩
      rcases Nat.lt_trichotomy i q with h1 | h1 | h1
      · exact absurd hy (hq2 i h1)
      · omega
      · exact absurd hq (hno q h1)
    · by_cases hj2 : j = i
      · subst hj2; rw [hy]; intro h; exact he (Option.some.inj h).symm
      · exact hno j (by omega)
  · rintro _ w1 k ⟨hx1, hno⟩
    simp only [binS_lss, split_dec]
    refine ⟨fun h => by omega, fun _ => ⟨hx1, -1, rfl, fun i hi => ?_⟩⟩
    exact absurd hi (hno i (List.getElem?_eq_some_iff.1 hi).1)

theorem valIter2 {g : Nat} {sv : Value} {l : List Int} {w0 : World} (hb0 : Blk w0 g T.t_sl_int [sv]) (hl0 : LS .i64 w0 sv l) :
    IterOk prog F.slices_Values_int_int__c1 [.pointer (some ⟨g, 0, none⟩)] l.length (fun k vs _ => ∃ x, l[k]? = some x ∧ vs = [.int .i64 x]) (fun w => Ext w0 w) := by
  refine ⟨slices_Values_int_int__c1.enters, fun y J Jx w hJ _ hround hx h0 => ?_⟩
  apply slices_Values_int_int__c1.enter
  unfold slices_Values_int_int__c1.body
  rw [load_cell (by kernel_rfl) ((hb0.ext hx).cell (o := 0) rfl), len_ls T.t_sl_int.u (hl0.ext hx)]
  refine Loop1.range l.length (fun i w2 => J i w2 ∧ Ext w0 w2) hl0.le ⟨h0, hx⟩ ?_ ?_
  · rintro i w2 k hi ⟨hj, hx2⟩ hk
    simp only [binS_lss, split_dec]
    refine ⟨fun _ => ?_, fun h => by omega⟩
    obtain ⟨x, hx⟩ : ∃ x, l[i]? = some x := ⟨_, List.getElem?_eq_getElem hi⟩
    rw [get_ls T.t_sl_int.u T.t_int.i (by kernel_rfl) (hl0.ext hx2) hx]
    refine ⟨rfl, (hround i _ w2 hi hx2 ⟨x, hx, rfl⟩ hj).mono ?_⟩
    rintro _ w3 (⟨rfl, hx3, hj3⟩ | ⟨rfl, hjx⟩)
    · simp only [un_not, Bool.not_true, split_false, binS_add]
      exact hk _ ⟨hj3, hx3⟩
    · simp only [un_not, Bool.not_false, split_true]
      exact .inr ⟨i, hi, hjx⟩
  · rintro w2 k ⟨hj, _⟩
    simp only [binS_lss, split_dec]
    exact ⟨fun h => by omega, fun _ => .inl hj⟩
/-- a list put in order -/
theorem sSortedVals {sv : Value} {l : List Int} {w : World} {K : Value → World → Prop} (h : LS .i64 w sv l) (hl : l.length ≤ 12)
    (hK : ∀ v w' g m, Ext w w' → w.heap.size ≤ g → m.Perm l → m.Pairwise (· ≤ ·) → LM .i64 T.t_int w' g v m → K v w') :
    Cal prog F.slices_Values_int_int [sv] w fun t w1 => Cal prog F.slices_Sorted_int [t] w1 K := by
  refine sValues.mono ?_
  rintro _ w1 _ ⟨hx1, g, rfl, hg, hb⟩
  have hb : Blk w1 g T.t_sl_int [sv] := by rw [h.cells.1] at hb; exact hb
  refine (sSorted (valIter2 hb (h.ext hx1)) (fun _ _ _ h => h) (fun a b hc hx => hx.then hc (fun r hr h => by omega)) (Ext.refl _) rfl hl).mono ?_
  rintro v w2 _ ⟨hx2, g2, m, hg2, h1, h2, h3⟩
  have := hx1.size
  exact hK v w2 g2 m (hx1.trans hx2) (by omega) h1 h2 h3

/-- what Turn answers -/
def TurnAns (w : World) (szs : List Int) (k : Int) (cs order : List Int) (v : Value) (w' : World) : Prop :=
  Ext w w' ∧
    (¬ Good order szs.length → v = .tuple #[.pointer none, .int .i64 1]) ∧
    (Good order szs.length → ∃ gu guc su, v = .tuple #[.pointer (some ⟨gu, 0, none⟩), .int .i64 0] ∧ Tab w' gu guc su (turnS szs order) k (turnC szs cs order))

set_option maxHeartbeats 1000000 in
theorem tTurn {w : World} {g gc : Nat} {sv ov : Value} {szs : List Int} {k : Int} {cs order : List Int} (h : Tab w g gc sv szs k cs) (hk : right k) (ho : LS .i64 w ov order) (hol : order.length ≤ 12) (hp : Good order szs.length → prodN (turnS szs order) ≤ 4096) :
    Cal prog F.P_table_Table_Turn [.pointer (some ⟨g, 0, none⟩), ov] w (TurnAns w szs k cs order) := by
  have h0 := h
  have hsz := h.2.2.1
  have hov := ho.cells
  apply P_table_Table_Turn.enter
  unfold P_table_Table_Turn.body
  refine box_c fun g1 w1 hg1 hx1 hb1 => ?_
  refine box_c fun g2 w2 hg2 hx2 hb2 => ?_
  have s1 := hx1.size
  have s2 := hx2.size
  have l1 := hb1.lt
  have l2 := hb2.lt
  have hx02 := hx1.trans hx2
  have hb1 : Blk w2 g1 T.t_p_table_Table [.pointer (some ⟨g, 0, none⟩)] := hb1.ext hx2
  have hb2 : Blk w2 g2 T.t_sl_int [ov] := by rw [hov.1] at hb2; exact hb2
  rw [load_cell (by kernel_rfl) (hb1.cell (o := 0) rfl), eq_ptr_nil T.t_p_table_Table.u]
  simp only [Option.isNone_some, split_false]
  rw [load_cell (by kernel_rfl) (hb2.cell (o := 0) rfl)]
  have ho2 := ho.ext hx02
  have sub : ∀ {w : World} {g : Nat} {sv : Value} {k : Int} {cv : Value}, Blk w g T.t_table_Table [sv, .int .i64 k, cv] → w.rangeAt g (0 + 0) [sv] := fun hb => Blk_sub hb (by
    intro j v hv
    match j, hv with
    | 0, hv => exact hv)
  refine sSortedVals ho2 hol fun mv w5 gm m hx5 hgm hperm hpair hm => ?_
  have hml := hperm.length_eq
  rw [len_ls T.t_sl_int.u hm.ls]
  have hx05 := hx02.trans hx5
  refine Loop3.range m.length (fun i _ _ w6 => Ext w5 w6 ∧ ∀ j, j < i → m[j]? = some (j : Int)) (by omega) ⟨Ext.refl _, fun j hj => by omega⟩ ?_ ?_
  · rintro i _ _ w6 kk hi ⟨hx6, hcount⟩ hkk
    simp only [binS_lss, split_dec]
    refine ⟨fun _ => ?_, fun h => by omega⟩
    obtain ⟨y, hy⟩ : ∃ y, m[i]? = some y := ⟨_, List.getElem?_eq_getElem hi⟩
    rw [get_ls T.t_sl_int.u T.t_int.i (by kernel_rfl) (hm.ls.ext hx6) hy]
    simp only [binS_neq, split_dec, binS_add]
    refine ⟨fun hne w7 hx7 _ => ⟨(hx05.trans hx6).trans hx7, fun _ => rfl, fun hg => ?_⟩, fun he => hkk _ _ _ ⟨hx6, fun j hj => ?_⟩⟩
    · have := good_counts hg hperm hpair i hi
      rw [hy] at this
      exact absurd (Option.some.inj this).symm hne
    · by_cases hj2 : j = i
      · subst hj2; rw [hy]; congr 1; omega
      · exact hcount j (by omega)
  · rintro _ _ w6 kk ⟨hx6, hcount⟩
    simp only [binS_lss, split_dec, Drew]
    refine ⟨fun h => by omega, fun _ w8 hx8 _ _ => ?_⟩
    have hgo : Good order m.length := counts_good hcount hperm
    have hx28 := (hx5.trans hx6).trans hx8
    have hx08 := hx02.trans hx28
    have hb1 := hb1.ext hx28
    have hb2 := hb2.ext hx28
    have ho8 := ho.ext hx08
    have ht := h0.ext hx08
    have s28 := hx28.size
    obtain ⟨⟨cv, gs, hb, hms, hc⟩, _⟩ := id ht
    rw [load_cell (by kernel_rfl) (hb2.cell (o := 0) rfl), len_ls T.t_sl_int.u ho8, load_cell (by kernel_rfl) (hb1.cell (o := 0) rfl), nil_check, field_at T.t_table_Table.p rfl, load_struct (cs := [sv]) T.t_shape_Shape.p T.t_shape_Shape.i rfl (sub hb)]
    refine (sArity hms.ls).mono ?_
    rintro _ w9 _ ⟨rfl, hx9⟩
    refine ⟨.inl hx9, ?_⟩
    simp only [binS_neq, split_dec]
    refine ⟨fun hne w10 hx10 _ => ⟨(hx08.trans hx9).trans hx10, fun _ => rfl, fun hg => absurd (by rw [hg.1]) hne⟩, fun heq => ?_⟩
    have hn : order.length = szs.length := by omega
    have hgo : Good order szs.length := by rw [← hn, ← hml]; exact hgo
    have hx29 := hx28.trans hx9
    have hx09 := hx08.trans hx9
    have hb1 := hb1.ext hx9
    have hb2 := hb2.ext hx9
    have ho9 := ho.ext hx09
    rw [load_cell (by kernel_rfl) (hb2.cell (o := 0) rfl), len_ls T.t_sl_int.u ho9]
    refine make_ints T.t_sl_int.u T.t_int.i (by omega) (by omega) fun gz w11 hgz hx11 hbz => ?_
    have hz : LM .i64 T.t_int w11 gz (.slice (some ⟨gz, 0, none⟩) order.length order.length) (List.replicate order.length 0) := LM.of (n := order.length) (Mine.full hbz (by simp) (by simp [maxLen]; omega))
    generalize (Value.slice (some ⟨gz, 0, none⟩) order.length order.length) = zv at *
    have s9 := hx9.size
    have s11 := hx11.size
    have lz := hbz.lt
    rw [load_cell (by kernel_rfl) ((hb2.ext hx11).cell (o := 0) rfl), len_ls T.t_sl_int.u (ho9.ext hx11)]
    have hx011 := hx09.trans hx11
    have htl : (turnS szs order).length = order.length := turnS_length _ _
    refine Loop1.range order.length (fun i w12 => Chg (fun r => r = gz) w11 w12 ∧ LM .i64 T.t_int w12 gz zv (upto (turnS szs order) 0 i)) (by omega) ⟨Chg.refl _ _, by rw [upto_zero, htl]; exact hz⟩ ?_ ?_
    · rintro i w12 kk hi ⟨hc12, hm12⟩ hkk
      simp only [binS_lss, split_dec]
      refine ⟨fun _ => ?_, fun h => by omega⟩
      have hx012 : Ext w w12 := hx011.then hc12 (by rintro r hr rfl; omega)
      have hx912 : Ext w9 w12 := hx11.then hc12 (by rintro r hr rfl; omega)
      obtain ⟨p, hpi⟩ : ∃ p, order[i]? = some p := ⟨_, List.getElem?_eq_getElem hi⟩
      obtain ⟨⟨cv, gs, hb, hms, hc⟩, _⟩ := h0.ext hx012
      rw [get_ls T.t_sl_int.u T.t_int.i (by kernel_rfl) (ho.ext hx012) hpi, load_cell (by kernel_rfl) ((hb1.ext hx912).cell (o := 0) rfl), nil_check, field_at T.t_table_Table.p rfl, load_struct (cs := [sv]) T.t_shape_Shape.p T.t_shape_Shape.i rfl (sub hb)]
      refine (sSize hms.ls).mono ?_
      rintro _ w13 _ ⟨rfl, hx13⟩
      have hm13 := hm12.ext hx13
      have hul : (upto (turnS szs order) 0 i).length = order.length := by rw [upto_length, htl]
      rw [idx_lm rfl T.t_sl_int.u T.t_int.i hm13 (by omega)]
      refine store_lm T.t_int.i hm13 (by omega) fun w14 hc14 _ hm14 => ?_
      simp only [binS_add]
      have h1 := (hgo.2 i p hpi).1
      have hq : (turnS szs order)[i]? = some (sizeAt szs p) := by
        unfold turnS sizeAt
        rw [List.getElem?_map, hpi, if_pos h1.1]; rfl
      rw [upto_set hq] at hm14
      exact hkk _ ⟨(hc12.trans (hx13.chg _)).trans hc14, hm14⟩
    · rintro w12 kk ⟨hc12, hm12⟩
      simp only [binS_lss, split_dec]
      refine ⟨fun h => by omega, fun _ => ?_⟩
      have hx012 : Ext w w12 := hx011.then hc12 (by rintro r hr rfl; omega)
      have hx912 : Ext w9 w12 := hx11.then hc12 (by rintro r hr rfl; omega)
      rw [← htl, upto_all] at hm12
      obtain ⟨⟨cv, gs, hb, hms, hc⟩, _⟩ := h0.ext hx012
      rw [load_cell (by kernel_rfl) ((hb1.ext hx912).cell (o := 0) rfl), nil_check, field_at T.t_table_Table.p rfl, load_cell (by kernel_rfl) (hb.cell (o := 0 + 1) rfl)]
      have hst : Sizes (turnS szs order) := hsz.turn hgo rfl
      have hple := hp hgo
      have hpb := prod_bound hst
      refine (tNew hm12.ls).mono ?_
      rintro _ w15 _ ⟨hx15, _, _, _, h4⟩
      obtain ⟨gu, guc, su, rfl, hgu, hguc, hsu, hT⟩ := h4 hst hple ⟨hk, by omega, by have := hk.1; omega⟩
      obtain ⟨N, hN⟩ : ∃ N : Nat, (prodN (turnS szs order)).toNat = N := ⟨_, rfl⟩
      rw [hN] at hT
      rw [extract_tuple (v := .pointer (some ⟨gu, 0, none⟩)) rfl, extract_tuple (v := .int .i64 0) rfl]
      refine alloc_c T.t_p_table_Table.i fun gB w16 hgB hx16 hbB => ?_
      refine store_cell T.t_p_table_Table.i rfl rfl hbB (by simp [Value.cells]) fun w17 hc17 hs17 hbB => ?_
      have s12 := hc12.size
      have s15 := hx15.size
      have s16 := hx16.size
      have hx1517 : Ext w15 w17 := hx16.then hc17 (by rintro r hr rfl; omega)
      have hx1217 := hx15.trans hx1517
      have hT17 := hT.ext hx1517
      have lB := hbB.lt
      obtain ⟨⟨ucv, gsu, hbT, hmT, hcT⟩, ⟨hTd1, hTd2, _⟩, _, hTl⟩ := id hT17
      have hNpos : 0 < N := by omega
      have lguT : gu < w15.heap.size := by obtain ⟨⟨_, _, q, _⟩, _⟩ := id hT; exact q.lt
      have lguc : guc < w15.heap.size := by obtain ⟨⟨_, _, _, _, q⟩, _⟩ := id hT; exact LM_lt q (by simp; omega)
      rw [load_cell (by kernel_rfl) (hbB.cell (o := 0) rfl), nil_check, field_at T.t_table_Table.p rfl, load_struct (cs := [su]) T.t_shape_Shape.p T.t_shape_Shape.i rfl (sub hbT)]
      refine sAll.mono ?_
      rintro _ w18 _ ⟨hx18, gs', rfl, hgs', hbs⟩
      have s17 := hx1517.size
      have s18 := hx18.size
      let S : Nat → Prop := fun r => r = guc
      let Lc := turnC szs cs order
      have hLc : Lc.length = N := by simp only [Lc]; rw [turnC_length, hN]
      let Facts : World → Prop := fun w' => Blk w' g1 T.t_p_table_Table [.pointer (some ⟨g, 0, none⟩)] ∧ Blk w' g2 T.t_sl_int [ov] ∧ Blk w' gB T.t_p_table_Table [.pointer (some ⟨gu, 0, none⟩)] ∧ Blk w' gu T.t_table_Table [su, .int .i64 k, ucv] ∧
        Tab w' g gc sv szs k cs ∧ LS .i64 w' ov order ∧ LM .i64 T.t_int w' gsu su (turnS szs order) ∧ Blk w' gs' T.t_shape_Shape [su] ∧ w18.heap.size ≤ w'.heap.size
      have facts : ∀ {a : World}, Chg S w18 a → Facts a := by
        intro a hx
        have hxo : Ext w9 w18 := (hx912.trans hx1217).trans hx18
        have hxa : Ext w9 a := hxo.then hx (fun r hr he => by have he : r = guc := he; omega)
        have h9a : Ext w a := hx09.trans hxa
        refine ⟨hb1.ext hxa, hb2.ext hxa, (hbB.ext hx18).chg hx (by show ¬ (gB = guc); omega), (hbT.ext hx18).chg hx (by show ¬ (gu = guc); exact hTd1), h0.ext h9a, ho.ext h9a, LM_chg (hmT.ext hx18) hx (fun r hr he => hTd2 ((show r = guc from he) ▸ hr)),
          hbs.chg hx (by show ¬ (gs' = guc); omega), hx.size⟩
      have hit := allIter (g := gs') (B0 := w18.heap.size) (sv := su) hst
      rw [hN] at hit
      refine ⟨F.shape_Shape_All_c1, #[.pointer (some ⟨gs', 0, none⟩)], N, _, _, fun q w' => Chg S w18 w' ∧ LM .i64 T.t_int64 w' guc ucv (upto Lc 0 q), fun _ _ _ => False, rfl, hit,
        ?_, fun _ _ hx h => ⟨h.1.ext hx, h.2.1.ext hx, Nat.le_trans h.2.2 hx.size⟩, fun _ _ _ hx h => ⟨h.1.trans (hx.chg S), h.2.ext hx⟩, fun _ _ _ _ _ h => h, ⟨hbs, (hmT.ext hx18).ls, Nat.le_refl _⟩, ⟨Chg.refl _ _, ?_⟩, ?_, ?_, fun _ _ _ h => h.elim, fun _ _ _ _ h => h.elim⟩
      · rintro _ _ _ ⟨_, _, rfl, _⟩; rfl
      · rw [upto_zero, hLc]; exact hcT.ext hx18
      · rintro _ tv q w19 hq ⟨_, _, hB19⟩ ⟨tv', gt, hab, hgt, htv⟩ ⟨hc19, hmC19⟩
        cases hab
        let x := tupN (turnS szs order) (q : Int)
        have hxl : x.length = order.length := by simp only [x]; rw [tupN_length, htl]
        intro w20 hx20 _
        have htv20 := htv.ext hx20
        rw [len_ls T.t_sl_int.u htv20.ls]
        refine make_ints T.t_sl_int.u T.t_int.i (by rw [tupN_length]; omega) (by rw [tupN_length]; omega) fun go w21 hgo21 hx21 hbo => ?_
        have hzo : LM .i64 T.t_int w21 go (.slice (some ⟨go, 0, none⟩) (tupN (turnS szs order) (q : Int)).length (tupN (turnS szs order) (q : Int)).length) (List.replicate (tupN (turnS szs order) (q : Int)).length 0) := LM.of (n := (tupN (turnS szs order) (q : Int)).length) (Mine.full hbo (by simp) (by rw [tupN_length]; simp [maxLen]; omega))
        generalize (Value.slice (some ⟨go, 0, none⟩) (tupN (turnS szs order) (q : Int)).length (tupN (turnS szs order) (q : Int)).length) = zo at *
        have s19 := hc19.size
        have s20 := hx20.size
        have s21 := hx21.size
        have lo := hbo.lt
        have hc1921 : Chg S w18 w21 := hc19.trans ((hx20.trans hx21).chg S)
        have f := facts hc1921
        rw [load_cell (by kernel_rfl) (f.2.1.cell (o := 0) rfl), len_ls T.t_sl_int.u f.2.2.2.2.2.1]
        refine Loop1.range order.length (fun j w22 => Ext w20 w22 ∧ ∃ y : List Int, y.length = order.length ∧ LM .i64 T.t_int w22 go zo y ∧ ∀ (i : Nat) (p : Int), i < j → order[i]? = some p → y[p.toNat]? = x[i]?) (by omega)
          ⟨hx21, _, by simp [hxl, x] , hzo, fun i p hi => by omega⟩ ?_ ?_
        · rintro j w22 kk hj ⟨hx22, y, hyl, hmy, hyx⟩ hkk
          simp only [binS_lss, split_dec]
          refine ⟨fun _ => ?_, fun h => by omega⟩
          have f := facts (hc19.trans ((hx20.trans hx22).chg S))
          obtain ⟨p, hpj⟩ : ∃ p, order[j]? = some p := ⟨_, List.getElem?_eq_getElem hj⟩
          obtain ⟨u, hu⟩ : ∃ u, x[j]? = some u := ⟨_, List.getElem?_eq_getElem (by omega)⟩
          have hpr := (hgo.2 j p hpj).1
          rw [get_ls T.t_sl_int.u T.t_int.i (by kernel_rfl) f.2.2.2.2.2.1 hpj, get_ls T.t_sl_int.u T.t_int.i (by kernel_rfl) (htv20.ext hx22).ls hu, idx_lm (i := p.toNat) (by omega) T.t_sl_int.u T.t_int.i hmy (by omega)]
          refine store_lm T.t_int.i hmy (by omega) fun w23 hc23 hs23 hm23 => ?_
          simp only [binS_add]
          refine hkk _ ⟨hx22.then hc23 (by rintro r hr rfl; omega), _, by simpa using hyl, hm23, fun i p' hi hp' => ?_⟩
          by_cases hij : i = j
          · subst hij
            rw [hpj] at hp'
            cases hp'
            rw [List.getElem?_set_self (by omega), hu]
          · have hpr' := (hgo.2 i p' hp').1
            have hne : p.toNat ≠ p'.toNat := fun he => by
              have : p = p' := by omega
              subst this
              exact hij (hgo.inj hp' hpj)
            rw [List.getElem?_set_ne hne]
            exact hyx i p' (by omega) hp'
        · rintro w22 kk ⟨hx22, y, hyl, hmy, hyx⟩
          simp only [binS_lss, split_dec]
          refine ⟨fun h => by omega, fun _ w24 hx24 _ _ => ?_⟩
          have hy : y = oldOf order x := old_eq hgo (by rw [hxl, hn]) (by rw [hyl, hn]) fun i p hip => hyx i p (List.getElem?_eq_some_iff.1 hip).1 hip
          have hx2024 := hx22.trans hx24
          have hc24 : Chg S w18 w24 := hc19.trans ((hx20.trans hx2024).chg S)
          obtain ⟨f1, f2, f3, f4, f5, f6, f7, f8, f9⟩ := facts hc24
          rw [load_cell (by kernel_rfl) (f3.cell (o := 0) rfl), nil_check, field_at T.t_table_Table.p rfl, load_cell (by kernel_rfl) (f4.cell (o := 0 + 2) rfl), load_cell (by kernel_rfl) (f1.cell (o := 0) rfl)]
          refine (tGet f5 (hmy.ls.ext hx24)).mono ?_
          rintro _ w25 _ ⟨rfl, hx25⟩
          refine ⟨.inl hx25, ?_⟩
          obtain ⟨e, he⟩ := getV_eq szs y cs
          rw [he, extract_tuple (v := .int .i64 (getC szs cs y)) rfl, extract_tuple (v := .int .i64 e) rfl]
          have hc25 := hc24.trans (hx25.chg S)
          have hmC25 := (hmC19.ext ((hx20.trans hx2024).trans hx25))
          have hul : (upto Lc 0 q).length = N := by rw [upto_length, hLc]
          rw [idx_lm rfl T.t_sl_int64.u T.t_int64.i hmC25 (by omega)]
          refine store_lm T.t_int64.i hmC25 (by omega) fun w26 hc26 hs26 hmC26 => ?_
          have hc26' : Chg S w18 w26 := hc25.trans (hc26.mono fun r _ h => h)
          obtain ⟨f1, f2, f3, f4, f5, f6, f7, f8, f9⟩ := facts hc26'
          have hLq : Lc[q]? = some (getC szs cs y) := by
            simp only [Lc, turnC]
            rw [List.getElem?_map, List.getElem?_range (by rw [hN]; exact hq), hy]; rfl
          rw [upto_set hLq] at hmC26
          exact ⟨⟨f8, f7.ls, f9⟩, hc26', hmC26⟩
      · rintro w27 ⟨hc27, hmC⟩
        have f := facts hc27
        rw [load_cell (by kernel_rfl) (f.2.2.1.cell (o := 0) rfl)]
        intro w28 hx28' _
        obtain ⟨f1, f2, f3, f4, f5, f6, f7, f8, f9⟩ := facts (hc27.trans (hx28'.chg S))
        rw [← hLc, upto_all] at hmC
        have hxo : Ext w w18 := (hx012.trans hx1217).trans hx18
        refine ⟨(hxo.then hc27 (fun r hr he => by have he : r = guc := he; omega)).trans hx28', fun hbad => absurd hgo hbad, fun _ => ⟨gu, guc, su, rfl, ⟨ucv, gsu, f4, f7, hmC.ext hx28'⟩, ⟨hTd1, hTd2, hple⟩, hst, turnC_length _ _ _⟩⟩
end Go.Proofs.YtahhkeljejfgfaaDoor
