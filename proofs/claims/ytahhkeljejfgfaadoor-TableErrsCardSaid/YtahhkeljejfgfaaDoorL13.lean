/- Tables: a place goes out. -/
import Derived.Test.YtahhkeljejfgfaaDoorL12
import Derived.Test.YtahhkeljejfgfaaDoorM2
import Derived.Test.YtahhkeljejfgfaaDoorKm
namespace Go.Proofs.YtahhkeljejfgfaaDoor
open Go Go.Vc Go.RowKit Go.Proofs Go.Proofs.Tryd
set_option maxRecDepth 100000

def valsI (b n : Nat) : List Int := (valsN b n).map fun (x : Nat) => (x : Int)
theorem getV_eq (s t cs : List Int) : ∃ e, getV s t cs = .tuple #[.int .i64 (getC s cs t), .int .i64 e] := by
  unfold getV getC
  cases idxN s t 0 with
  | none => exact ⟨3, rfl⟩
  | some n => exact ⟨0, rfl⟩

theorem LM_lt {k : IntKind} {e : TypeId} {w : World} {g : Nat} {v : Value} {l : List Int} (h : LM k e w g v l) (h0 : 0 < l.length) : g < w.heap.size := by
  obtain ⟨_, ⟨_, h1⟩ | ⟨_, _, _, hb, _⟩⟩ := h
  · omega
  · exact hb.lt
theorem Tab.chg {S : Bs} {w w' : World} {g gc : Nat} {sv : Value} {szs : List Int} {k : Int} {cs : List Int} (h : Tab w g gc sv szs k cs) (hx : Chg S w w') (h1 : ¬ S g) (h2 : gc < w.heap.size → ¬ S gc) (h3 : ∀ r, leads sv r → ¬ S r) : Tab w' g gc sv szs k cs := by
  obtain ⟨⟨cv, gs, hb, hm, hc⟩, h4⟩ := h
  exact ⟨⟨cv, gs, hb.chg hx h1, LM_chg hm hx h3, hc.chg hx h2⟩, h4⟩
theorem foldl_take_succ {α β : Type} (f : β → α → β) (z : β) {l : List α} {j : Nat} {x : α} (h : l[j]? = some x) : (l.take (j + 1)).foldl f z = f ((l.take j).foldl f z) x := by
  rw [List.take_add_one, h, List.foldl_append]; rfl

/-- what Out answers -/
def OutAns (w : World) (szs : List Int) (k : Int) (cs : List Int) (pos : Int) (b n : Nat) (v : Value) (w' : World) : Prop :=
  Ext w w' ∧
    (¬ (0 ≤ pos ∧ pos < szs.length ∧ (n : Int) = sizeAt szs pos) → v = .tuple #[.pointer none, .slice none 0 0, .int .i64 1]) ∧
    (∀ i : Nat, pos = i → i < szs.length → (n : Int) = sizeAt szs i → ∃ gu guc su gb bv, v = .tuple #[.pointer (some ⟨gu, 0, none⟩), bv, .int .i64 0] ∧
      Tab w' gu guc su (outS szs i) k ((outL szs cs k i (valsI b n)).map (·.2)) ∧ LM .i64 T.t_int w' gb bv ((outL szs cs k i (valsI b n)).map (·.1)) ∧
      w.heap.size ≤ gu ∧ w.heap.size ≤ guc ∧ w.heap.size ≤ gb)

set_option maxHeartbeats 1000000 in
theorem tOut {w : World} {g gc : Nat} {sv : Value} {szs : List Int} {k pos : Int} {cs : List Int} {b n : Nat} (h : Tab w g gc sv szs k cs) (hk : right k) (hd : Dom b n) (hl : Laid w) :
    Cal prog F.P_table_Table_Out [.pointer (some ⟨g, 0, none⟩), .int .i64 pos, domV b n] w (OutAns w szs k cs pos b n) := by
  have h0 := h
  have hsz := h.2.2.1
  apply P_table_Table_Out.enter
  unfold P_table_Table_Out.body
  refine box_c fun g1 w1 hg1 hx1 hb1 => ?_
  refine box_c fun g2 w2 hg2 hx2 hb2 => ?_
  refine box_c fun g3 w3 hg3 hx3 hb3 => ?_
  have s1 := hx1.size
  have s2 := hx2.size
  have s3 := hx3.size
  have l1 := hb1.lt
  have l2 := hb2.lt
  have l3 := hb3.lt
  have hb1 := (hb1.ext hx2).ext hx3
  have hb2 := hb2.ext hx3
  have hx03 := (hx1.trans hx2).trans hx3
  rw [load_cell (by kernel_rfl) (hb1.cell (o := 0) rfl), eq_ptr_nil T.t_p_table_Table.u]
  simp only [Option.isNone_some, split_false]
  -- a table's shape, loaded
  have sub : ∀ {w : World} {g : Nat} {sv : Value} {k : Int} {cv : Value}, Blk w g T.t_table_Table [sv, .int .i64 k, cv] → w.rangeAt g (0 + 0) [sv] := fun hb => Blk_sub hb (by
    intro j v hv
    match j, hv with
    | 0, hv => exact hv)
  refine join1 (fun v w5 => v = .bool (decide (¬ (0 ≤ pos ∧ pos < szs.length ∧ (n : Int) = sizeAt szs pos))) ∧ Ext w3 w5) ?_ ?_
  · rintro _ w5 ⟨rfl, hx5⟩
    simp only [split_dec]
    refine ⟨fun hbad w6 hx6 _ => ⟨(hx03.trans hx5).trans hx6, fun _ => rfl, fun i hi h1 h2 => absurd ⟨by omega, by omega, by rw [hi]; exact h2⟩ hbad⟩, fun hgood => ?_⟩
    obtain ⟨hp0, hp1, hpn⟩ := Decidable.not_not.1 hgood
    obtain ⟨i, rfl⟩ : ∃ i : Nat, pos = i := ⟨pos.toNat, by omega⟩
    have hi : i < szs.length := by omega
    have hsz' : Sizes (outS szs i) := hsz.erase i
    have hple : prodN (outS szs i) ≤ 4096 := by
      have := prod_erase_le hsz hi
      have := h.2.1.2.2
      unfold outS; omega
    have hpb := prod_bound hsz'
    obtain ⟨N, hN⟩ : ∃ N : Nat, prodN (outS szs i) = N := ⟨(prodN (outS szs i)).toNat, by omega⟩
    have hNt : (prodN (outS szs i)).toNat = N := by omega
    have hl7 := hsz.1
    refine join1 (fun u w7 => Ext w3 w7 ∧ ∃ gB gu guc su, u = .pointer (some ⟨gB, 0, none⟩) ∧ Blk w7 gB T.t_p_table_Table [.pointer (some ⟨gu, 0, none⟩)] ∧ Tab w7 gu guc su (outS szs i) k (List.replicate N k) ∧
      w3.heap.size ≤ gB ∧ w3.heap.size ≤ gu ∧ w3.heap.size ≤ guc ∧ (∀ r, leads su r → w3.heap.size ≤ r) ∧ gB ≠ guc) ?_ ?_
    · rintro _ w7 ⟨hx37, gB, gu, guc, su, rfl, hbB, hT, hB3, hgu3, hguc3, hsu3, hBc⟩
      refine one_c T.t_sl_int.u T.t_int.i rfl fun v64 g64 w8 hg64 hx8 hv64 => ?_
      have hT8 := hT.ext hx8
      obtain ⟨⟨ucv, gsu, hbT, hmT, hcT⟩, ⟨hTd1, hTd2, _⟩, _, hTl⟩ := id hT8
      have hNpos : 0 < N := by omega
      have s37 := hx37.size
      have s8 := hx8.size
      have lB := hbB.lt
      have lgu := hbT.lt
      have lguc : guc < w8.heap.size := LM_lt hcT (by simp; omega)
      rw [load_cell (by kernel_rfl) ((hbB.ext hx8).cell (o := 0) rfl), nil_check, field_at T.t_table_Table.p rfl, load_cell (by kernel_rfl) (hbT.cell (o := 0 + 2) rfl), len_ls T.t_sl_int64.u hcT.ls]
      have hrl : ((List.replicate N k).length : Int) = N := by simp
      rw [hrl]
      refine (sRepeatInt hv64.ls (by omega)).mono ?_
      rintro bv w9 _ ⟨hx9, gb, hgb, hmb⟩
      have lgb : gb < w9.heap.size := LM_lt hmb (by simp; omega)
      refine alloc_c T.t_sl_int.i fun gbox w10 hgbox hx10 hbbox => ?_
      refine store_cell T.t_sl_int.i hmb.ls.cells.1 hmb.ls.cells.2 hbbox (by simp [Value.cells]) fun w11 hc11 hs11 hb11 => ?_
      have s9 := hx9.size
      have s10 := hx10.size
      have hx811 : Ext w8 w11 := (hx9.trans hx10).then hc11 (by rintro r hr rfl; omega)
      have hmb11 : LM .i64 T.t_int w11 gb bv (List.replicate N (-1)) := (hmb.ext hx10).chg hc11 (by omega)
      rw [load_cell (by kernel_rfl) ((hbB.ext (hx8.trans hx811)).cell (o := 0) rfl), nil_check, field_at T.t_table_Table.p rfl, load_struct (cs := [su]) T.t_shape_Shape.p T.t_shape_Shape.i rfl (sub (hbT.ext hx811))]
      refine sAll.mono ?_
      rintro _ w12 _ ⟨hx12, gs, rfl, hgs, hbs⟩
      have s11 := hx811.size
      have s12 := hx12.size
      have hx812 := hx811.trans hx12
      have lb11 := hb11.lt
      -- what stays through the loops
      let S : Nat → Prop := fun r => r = gb ∨ r = guc
      let Facts : World → Prop := fun w' => Blk w' g1 T.t_p_table_Table [.pointer (some ⟨g, 0, none⟩)] ∧ Blk w' g2 T.t_int [.int .i64 (i : Int)] ∧ Blk w' g3 T.t_dom_Set [.int .u64 (b : Int), .int .i64 (n : Int)] ∧
        Blk w' gB T.t_p_table_Table [.pointer (some ⟨gu, 0, none⟩)] ∧ Blk w' gu T.t_table_Table [su, .int .i64 k, ucv] ∧ Blk w' gbox T.t_sl_int [bv] ∧ Tab w' g gc sv szs k cs ∧ LM .i64 T.t_int w' gsu su (outS szs i) ∧ Laid w' ∧ Blk w' gs T.t_shape_Shape [su] ∧ w12.heap.size ≤ w'.heap.size
      have lsu : ∀ r, leads su r → r < w8.heap.size := fun r hr => by have := LM_leads hmT hr; omega
      have facts0 : Facts w12 := by
        have hxx := (hx37.trans hx8).trans hx812
        exact ⟨hb1.ext hxx, hb2.ext hxx, hb3.ext hxx, hbB.ext (hx8.trans hx812), hbT.ext hx812, hb11.ext hx12, h0.ext (hx03.trans hxx), hmT.ext hx812, hl.ext (hx03.trans hxx), hbs, Nat.le_refl _⟩
      have lg : g < w.heap.size := by obtain ⟨⟨_, _, hq, _, _⟩, _⟩ := h0; exact hq.lt
      have lgc : gc < w3.heap.size → gc < w.heap.size := fun _ => by
        obtain ⟨⟨_, _, _, _, hq⟩, _, _, hql⟩ := h0
        have := prod_bound hsz
        exact LM_lt hq (by omega)
      have lsv : ∀ r, leads sv r → r < w.heap.size := fun r hr => by
        obtain ⟨⟨_, _, _, hq, _⟩, _⟩ := h0
        have := LM_leads hq hr; omega
      have lgc' : gc < w.heap.size := by
        obtain ⟨⟨_, _, _, _, hq⟩, _, _, hql⟩ := h0
        have := prod_bound hsz
        exact LM_lt hq (by omega)
      have fchg : ∀ {a b : World}, Chg S a b → Facts a → Facts b := by
        rintro a b hx ⟨f1, f2, f3, f4, f5, f6, f7, f8, f9, f10, f11⟩
        have nS : ∀ {r : Nat}, r ≠ gb → r ≠ guc → ¬ S r := fun h1 h2 h => h.elim h1 h2
        refine ⟨f1.chg hx (nS (by omega) (by omega)), f2.chg hx (nS (by omega) (by omega)), f3.chg hx (nS (by omega) (by omega)), f4.chg hx (nS (by omega) hBc), f5.chg hx (nS (by omega) hTd1), f6.chg hx (nS (by omega) (by omega)),
          f7.chg hx (nS (by omega) (by omega)) (fun _ => nS (by omega) (by omega)) (fun r hr => by have := lsv r hr; exact nS (by omega) (by omega)), LM_chg f8 hx (fun r hr => by have := lsu r hr; exact nS (by omega) (fun he => hTd2 (he ▸ hr))),
          range_chg hx (nS (by omega) (by omega)) f9, f10.chg hx (nS (by omega) (by omega)), Nat.le_trans f11 hx.size⟩
      have fext : ∀ {a b : World}, Ext a b → Facts a → Facts b := fun hx => fchg (hx.chg S)
      let L := outL szs cs k i (valsI b n)
      have hLl : L.length = N := by simp [L, outL, hNt]
      let Lb : List Int := L.map (·.1)
      let Lc : List Int := L.map (·.2)
      have hLb : Lb.length = N := by simp [Lb, hLl]
      have hLc : Lc.length = N := by simp [Lc, hLl]
      have hit := allIter (g := gs) (B0 := w12.heap.size) (sv := su) hsz'
      rw [hNt] at hit
      refine ⟨F.shape_Shape_All_c1, #[.pointer (some ⟨gs, 0, none⟩)], N, _, _, fun q w' => Chg S w12 w' ∧ LM .i64 T.t_int w' gb bv (upto Lb (-1) q) ∧ LM .i64 T.t_int64 w' guc ucv (upto Lc k q), fun _ _ _ => False, rfl, hit,
        ?_, fun _ _ hx h => ⟨h.1.ext hx, h.2.1.ext hx, Nat.le_trans h.2.2 hx.size⟩, fun _ _ _ hx h => ⟨h.1.trans (hx.chg S), h.2.1.ext hx, h.2.2.ext hx⟩, fun _ _ _ _ _ h => h, ⟨hbs, (hmT.ext hx812).ls, Nat.le_refl _⟩, ⟨Chg.refl _ _, ?_, ?_⟩, ?_, ?_, fun _ _ _ h => h.elim, fun _ _ _ _ h => h.elim⟩
      · rintro _ _ _ ⟨_, _, rfl, _⟩; rfl
      · rw [upto_zero, hLb]; exact hmb11.ext hx12
      · rw [upto_zero, hLc]; exact hcT.ext hx812
      · rintro _ tv q w13 hq ⟨_, _, hB13⟩ ⟨tv', gt, hab, hgt, htv⟩ ⟨hc13, hmB13, hmC13⟩
        cases hab
        have ltS : ∀ r, S r → r < w12.heap.size := fun r h => by rcases h with rfl | rfl <;> omega
        refine alloc_c T.t_int.i fun gi w14 hgi hx14 hbi => ?_
        refine store_cell T.t_int.i rfl rfl hbi (by simp [Value.cells]) fun w15 hc15 _ hbi15 => ?_
        refine alloc_c T.t_sl_int.i fun gx w16 hgx hx16 hbx => ?_
        refine store_cell T.t_sl_int.i htv.ls.cells.1 htv.ls.cells.2 hbx (by simp [Value.cells]) fun w17 hc17 _ hbx17 => ?_
        intro w18 hx18 _
        have s14 := hx14.size
        have s15 := hc15.size
        have s16 := hx16.size
        have hx1315 : Ext w13 w15 := hx14.then hc15 (by rintro r hr rfl; omega)
        have hx1318 : Ext w13 w18 := ((hx1315.trans hx16).then hc17 (by rintro r hr rfl; omega)).trans hx18
        have libi := hbi15.lt
        have hbi18 : Blk w18 gi T.t_int [.int .i64 (q : Int)] := ((hbi15.ext hx16).chg hc17 (by omega)).ext hx18
        have hbx18 : Blk w18 gx T.t_sl_int [tv] := hbx17.ext hx18
        have lix := hbx18.lt
        obtain ⟨f1, f2, f3, f4, f5, f6, f7, f8, f9, f10, f11⟩ := fext hx1318 (fchg hc13 facts0)
        rw [load_struct T.t_dom_Set.p T.t_dom_Set.i rfl f3.range]
        refine (dValues (b := b) (n := n)).mono ?_
        rintro _ w19 _ ⟨hx19, gv, rfl, hgv, hbv⟩
        have hx1319 := hx1318.trans hx19
        -- the facts in the inner loop
        let x := tupN (outS szs i) (q : Int)
        let f : Int → Int := fun v => getC szs cs (insT x i v)
        let st : Nat → Int × Int := fun j => ((valsI b n).take j).foldl (outF f) (-1, k)
        let Fi : World → Prop := fun w' => Facts w' ∧ Blk w' gi T.t_int [.int .i64 (q : Int)] ∧ Blk w' gx T.t_sl_int [tv] ∧ LM .i64 T.t_int w' gt tv x ∧ Blk w' gv T.t_dom_Set [.int .u64 (b : Int), .int .i64 (n : Int)]
        have s1318 := hx1318.size
        have fi0 : Fi w19 := ⟨fext hx1319 (fchg hc13 facts0), hbi18.ext hx19, hbx18.ext hx19, htv.ext hx1319, hbv⟩
        have fichg : ∀ {a b : World}, Chg S a b → Fi a → Fi b := by
          rintro a b hx ⟨h1, h2, h3, h4, h5⟩
          have nS : ∀ {r : Nat}, w12.heap.size ≤ r → ¬ S r := fun h1 h2 => by have := ltS _ h2; omega
          exact ⟨fchg hx h1, h2.chg hx (nS (by omega)), h3.chg hx (nS (by omega)), h4.chg hx (fun _ => nS hgt), h5.chg hx (nS (by omega))⟩
        have fiext : ∀ {a b : World}, Ext a b → Fi a → Fi b := fun hx => fichg (hx.chg S)
        have hVl : (valsI b n).length = (valsN b n).length := by simp [valsI]
        have hLq : L[q]? = some (st (valsN b n).length) := by
          simp only [L, outL, st]
          rw [List.getElem?_map, List.getElem?_range (by rw [hNt]; exact hq), ← hVl, List.take_length]
          rfl
        have hit2 := dIter (g := gv) hd
        refine ⟨F.dom_Set_Values_c1, #[.pointer (some ⟨gv, 0, none⟩)], (valsN b n).length, _, _, fun j w' => Chg S w19 w' ∧ LM .i64 T.t_int w' gb bv ((upto Lb (-1) q).set q (st j).1) ∧ LM .i64 T.t_int64 w' guc ucv ((upto Lc k q).set q (st j).2), fun _ _ _ => False, rfl, hit2,
          ?_, fun _ _ hx h => ⟨h.1.ext hx, h.2.ext hx⟩, fun _ _ _ hx h => ⟨h.1.trans (hx.chg S), h.2.1.ext hx, h.2.2.ext hx⟩, fun _ _ _ _ _ h => h, ⟨hbv, f9.ext hx19⟩, ⟨Chg.refl _ _, ?_, ?_⟩, ?_, ?_, fun _ _ _ h => h.elim, fun _ _ _ _ h => h.elim⟩
        · rintro _ _ _ ⟨_, _, rfl⟩; rfl
        · rw [show (st 0).1 = -1 from rfl, set_same (upto_get (by omega))]; exact hmB13.ext hx1319
        · rw [show (st 0).2 = k from rfl, set_same (upto_get (by omega))]; exact hmC13.ext hx1319
        · rintro _ j w20 hj ⟨_, _⟩ ⟨v, hv, hav⟩ ⟨hc20, hmB20, hmC20⟩
          cases hav
          intro w21 hx21 _
          have hvI : (valsI b n)[j]? = some (v : Int) := by simp [valsI, hv]
          have hstj : st (j + 1) = outF f (st j) v := foldl_take_succ _ _ hvI
          have fi20 := fichg hc20 fi0
          have hbl : ((upto Lb (-1) q).set q (st j).1).length = N := by rw [List.length_set, upto_length, hLb]
          have hcl : ((upto Lc k q).set q (st j).2).length = N := by rw [List.length_set, upto_length, hLc]
          have hbq : ((upto Lb (-1) q).set q (st j).1)[q]? = some (st j).1 := by rw [List.getElem?_set_self (by rw [upto_length]; omega)]
          have hcq : ((upto Lc k q).set q (st j).2)[q]? = some (st j).2 := by rw [List.getElem?_set_self (by rw [upto_length]; omega)]
          refine join1 (fun c w22 => Ext w21 w22 ∧ c = .int .i64 (f v)) ?_ ?_
          · rintro _ w22 ⟨hx22, rfl⟩
            refine join1 (fun t w23 => Ext w22 w23 ∧ t = .bool (decide ((st j).1 < 0 ∨ f v < (st j).2))) ?_ ?_
            · rintro _ w23 ⟨hx23, rfl⟩
              have hx2023 := (hx21.trans hx22).trans hx23
              simp only [split_dec, Drew]
              refine ⟨fun hyes w24 hx24 _ _ => ?_, fun hno => ?_⟩
              · have hx2024 := hx2023.trans hx24
                obtain ⟨⟨f1, f2, f3, f4, f5, f6, f7, f8, f9, f10, f11⟩, fi, fx, ft, fv⟩ := fiext hx2024 fi20
                rw [load_cell (by kernel_rfl) (f6.cell (o := 0) rfl), load_cell (by kernel_rfl) (fi.cell (o := 0) rfl), load_cell (by kernel_rfl) (f4.cell (o := 0) rfl), nil_check, field_at T.t_table_Table.p rfl, load_cell (by kernel_rfl) (f5.cell (o := 0 + 2) rfl),
                  load_cell (by kernel_rfl) (fi.cell (o := 0) rfl), idx_lm rfl T.t_sl_int.u T.t_int.i (hmB20.ext hx2024) (by omega)]
                refine store_lm T.t_int.i (hmB20.ext hx2024) (by omega) fun w25 hc25 hs25 hmB25 => ?_
                have hcS25 : Chg S w24 w25 := hc25.mono fun r _ h => .inl h
                have hmC25 := (hmC20.ext hx2024).chg hc25 (by omega)
                have fi25 := fichg hcS25 (fiext hx2024 fi20)
                refine ⟨.inr ⟨stays_cell (by kernel_rfl) (fi25.2.1.cell (o := 0) rfl), trivial⟩, ?_⟩
                rw [idx_lm rfl T.t_sl_int64.u T.t_int64.i hmC25 (by omega)]
                refine store_lm T.t_int64.i hmC25 (by omega) fun w26 hc26 hs26 hmC26 => ?_
                have hcS26 : Chg S w25 w26 := hc26.mono fun r _ h => .inr h
                have fi26 := fichg hcS26 fi25
                have e : st (j + 1) = ((v : Int), f v) := by rw [hstj]; unfold outF; rw [if_pos hyes]
                refine ⟨⟨fi26.2.2.2.2, fi26.1.2.2.2.2.2.2.2.2.1⟩, ((hc20.trans (hx2024.chg S)).trans hcS25).trans hcS26, ?_, ?_⟩
                · rw [e]; rw [List.set_set] at hmB25; exact hmB25.chg hc26 (by omega)
                · rw [e]; rw [List.set_set] at hmC26; exact hmC26
              · have e : st (j + 1) = st j := by rw [hstj]; unfold outF; rw [if_neg hno]
                have fi23 := fiext hx2023 fi20
                refine ⟨⟨fi23.2.2.2.2, fi23.1.2.2.2.2.2.2.2.2.1⟩, hc20.trans (hx2023.chg S), ?_, ?_⟩
                · rw [e]; exact hmB20.ext hx2023
                · rw [e]; exact hmC20.ext hx2023
            · intro J3 hJ3 w27 hx27 _ _
              have hx2027 := (hx21.trans hx22).trans hx27
              obtain ⟨⟨f1, f2, f3, f4, f5, f6, f7, f8, f9, f10, f11⟩, fi, fx, ft, fv⟩ := fiext hx2027 fi20
              rw [load_cell (by kernel_rfl) (f6.cell (o := 0) rfl), load_cell (by kernel_rfl) (fi.cell (o := 0) rfl), get_ls T.t_sl_int.u T.t_int.i (by kernel_rfl) (hmB20.ext hx2027).ls hbq]
              simp only [binS_lss, split_dec]
              refine ⟨fun h => hJ3 _ _ ⟨hx27, by simp [h]⟩, fun h => ?_⟩
              rw [load_cell (by kernel_rfl) (f4.cell (o := 0) rfl), nil_check, field_at T.t_table_Table.p rfl, load_cell (by kernel_rfl) (f5.cell (o := 0 + 2) rfl), load_cell (by kernel_rfl) (fi.cell (o := 0) rfl),
                get_ls T.t_sl_int64.u T.t_int64.i (by kernel_rfl) (hmC20.ext hx2027).ls hcq]
              simp only [binS_lss]
              exact hJ3 _ _ ⟨hx27, by simp [h]⟩
          · intro J2 hJ2 w28 hx28 _ _
            have hx2028 := hx21.trans hx28
            obtain ⟨⟨f1, f2, f3, f4, f5, f6, f7, f8, f9, f10, f11⟩, fi, fx, ft, fv⟩ := fiext hx2028 fi20
            have hxl : x.length ≤ 6 := by simp only [x]; rw [tupN_length]; exact hsz'.1
            have hin : i ≤ x.length := by simp only [x]; rw [tupN_length]; simp [outS]; omega
            rw [load_cell (by kernel_rfl) (f1.cell (o := 0) rfl), load_cell (by kernel_rfl) (fx.cell (o := 0) rfl), load_cell (by kernel_rfl) (f2.cell (o := 0) rfl)]
            have fin : ∀ {w30 : World} {v84 v87 : Value} {g84 g87 : Nat}, Ext w28 w30 → w28.heap.size ≤ g84 → LM .i64 T.t_int w30 g84 v84 x → LM .i64 T.t_int w30 g87 v87 [(v : Int)] → g84 ≠ g87 →
                Cal prog F.slices_Insert_int_int [v84, .int .i64 (i : Int), v87] w30 fun t88 w31 =>
                  (Ext w28 w31 ∨ Stays prog (Instr.loadAt T.t_p_table_Table (.pointer (some ⟨g1, 0, none⟩))) (.pointer (some ⟨g, 0, none⟩)) w31 ∧ True) ∧
                  Cal prog F.P_table_Table_Get [.pointer (some ⟨g, 0, none⟩), t88] w31 fun t89 w32 => RunQ prog (Instr.extract t89 0) w32 fun t90 => RunQ prog (Instr.extract t89 1) w32 fun _ => J2 t90 w32 := by
              intro w30 v84 v87 g84 g87 hx30 hg84 h84 h87 hne
              refine (sInsert h84 h87 hne hin (by omega)).mono ?_
              rintro v88 w31 _ ⟨hc31, g88, _, h88⟩
              have hx31 : Ext w28 w31 := hx30.then hc31 (by rintro r hr rfl; omega)
              refine ⟨.inl hx31, ?_⟩
              refine (tGet (f7.ext hx31) h88.ls).mono ?_
              rintro _ w32 _ ⟨rfl, hx32⟩
              obtain ⟨e, he⟩ := getV_eq szs (insT x i v) cs
              have he' : getV szs (x.take i ++ [(v : Int)] ++ x.drop i) cs = .tuple #[.int .i64 (f v), .int .i64 e] := he
              rw [he', extract_tuple (v := .int .i64 (f v)) rfl, extract_tuple (v := .int .i64 e) rfl]
              exact hJ2 _ _ ⟨(hx28.trans hx31).trans hx32, rfl⟩
            constructor
            · refine (sClone_ints ft.ls (by omega)).mono ?_
              rintro v84 w29 _ ⟨hx29, g84, hg84, h84⟩
              refine ⟨.inl hx29, ?_⟩
              refine one_c T.t_sl_int.u T.t_int.i rfl fun v87 g87 w30 hg87 hx30 h87 => ⟨.inl (hx29.trans hx30), ?_⟩
              by_cases hx0 : 0 < x.length
              · have l84 : g84 < w29.heap.size := LM_lt h84 hx0
                exact fin (hx29.trans hx30) hg84 (h84.ext hx30) h87 (by omega)
              · have hxe : x = [] := List.eq_nil_of_length_eq_zero (by omega)
                have e84 : v84 = .slice none 0 0 ∨ g84 < w29.heap.size := by
                  obtain ⟨_, ⟨h, _⟩ | ⟨_, _, _, hb, _⟩⟩ := h84
                  · exact .inl h
                  · exact .inr hb.lt
                rcases e84 with rfl | l84
                · refine fin (g84 := g87 + 1) (hx29.trans hx30) (by have := hx29.size; omega) ?_ h87 (by omega)
                  rw [hxe]; exact LM.nil _ _ _ _
                · exact fin (hx29.trans hx30) hg84 (h84.ext hx30) h87 (by omega)
            · refine one_c T.t_sl_int.u T.t_int.i rfl fun v87 g87 w33 hg87 hx33 h87 => ⟨.inl hx33, ?_⟩
              refine (sClone_ints (ft.ls.ext hx33) (by omega)).mono ?_
              rintro v84 w34 _ ⟨hx34, g84, hg84, h84⟩
              have s33 := hx33.size
              have l87 := LM_lt h87 (by simp)
              exact ⟨.inl (hx33.trans hx34), fin (hx33.trans hx34) (by omega) h84 (h87.ext hx34) (by omega)⟩
        · rintro w37 ⟨hc37, hmB37, hmC37⟩
          have fi37 := fichg hc37 fi0
          refine ⟨⟨fi37.1.2.2.2.2.2.2.2.2.2.1, fi37.1.2.2.2.2.2.2.2.1.ls, fi37.1.2.2.2.2.2.2.2.2.2.2⟩, (hc13.trans (hx1319.chg S)).trans hc37, ?_, ?_⟩
          · have hq' : Lb[q]? = some (st (valsN b n).length).1 := by simp only [Lb]; rw [List.getElem?_map, hLq]; rfl
            rw [← upto_set hq']; exact hmB37
          · have hq' : Lc[q]? = some (st (valsN b n).length).2 := by simp only [Lc]; rw [List.getElem?_map, hLq]; rfl
            rw [← upto_set hq']; exact hmC37
      · rintro w38 ⟨hc38, hmB, hmC⟩ w39 hx39 _ _
        obtain ⟨f1, f2, f3, f4, f5, f6, f7, f8, f9, f10, f11⟩ := fext hx39 (fchg hc38 facts0)
        rw [load_cell (by kernel_rfl) (f4.cell (o := 0) rfl), load_cell (by kernel_rfl) (f6.cell (o := 0) rfl)]
        intro w40 hx40 _
        have hxall : Ext w w40 := by
          have h12 : Ext w w12 := hx03.trans ((hx37.trans hx8).trans hx812)
          exact ((h12.then hc38 (fun r hr h => by rcases h with rfl | rfl <;> omega)).trans hx39).trans hx40
        rw [← hLb, upto_all] at hmB
        rw [← hLc, upto_all] at hmC
        refine ⟨hxall, fun hbad => absurd ⟨hp0, hp1, hpn⟩ hbad, fun i' hi' _ _ => ?_⟩
        have hii : i' = i := by omega
        subst hii
        exact ⟨gu, guc, su, gb, bv, rfl, ⟨⟨ucv, gsu, f5.ext hx40, f8.ext hx40, (hmC.ext hx39).ext hx40⟩, ⟨hTd1, hTd2, hple⟩, hsz', by rw [hLc]; omega⟩, (hmB.ext hx39).ext hx40, by omega, by omega, by omega⟩
    · intro J hJ w41 hx41 _ _
      have hx341 := hx5.trans hx41
      have ht := h0.ext (hx03.trans hx341)
      have hb1' := hb1.ext hx341
      have hb2' := hb2.ext hx341
      obtain ⟨⟨cv, gs, hb, hm, hc⟩, _⟩ := id ht
      rw [load_cell (by kernel_rfl) (hb1'.cell (o := 0) rfl), nil_check, field_at T.t_table_Table.p rfl, load_struct (cs := [sv]) T.t_shape_Shape.p T.t_shape_Shape.i rfl (sub hb),
        load_cell (by kernel_rfl) (hb2'.cell (o := 0) rfl), load_cell (by kernel_rfl) (hb2'.cell (o := 0) rfl)]
      simp only [binS_add]
      rw [wrap_i64 (by omega) (by omega), load_cell (by kernel_rfl) (hb1'.cell (o := 0) rfl), nil_check, field_at T.t_table_Table.p rfl, load_cell (by kernel_rfl) (hb.cell (o := 0 + 1) rfl),
        load_cell (by kernel_rfl) (hb1'.cell (o := 0) rfl), nil_check, field_at T.t_table_Table.p rfl, load_cell (by kernel_rfl) (hb.cell (o := 0 + 1) rfl)]
      have s341 := hx341.size
      -- the steps, in any order
      have stS : ∀ {wa : World} {K : Value → World → Prop}, Ext w41 wa → (∀ v w' g', Ext w41 w' → Ext wa w' → wa.heap.size ≤ g' → g' < w'.heap.size → LM .i64 T.t_int w' g' v szs → K v w') → Cal prog F.shape_Shape_Sizes [.agg #[sv]] wa K := fun hxa hK =>
        (sSizes (hm.ls.ext hxa) (by omega)).mono fun v w' _ ⟨hx, g', hg', hv⟩ => hK v w' g' (hxa.trans hx) hx hg' (LM_lt hv (by omega)) hv
      have stD : ∀ {wa : World} {v : Value} {g' : Nat} {K : Value → World → Prop}, Ext w41 wa → w41.heap.size ≤ g' → LM .i64 T.t_int wa g' v szs → (∀ v w', Ext w41 w' → Chg (fun r => r = g') wa w' → (∃ g', w41.heap.size ≤ g' ∧ LM .i64 T.t_int w' g' v (outS szs i)) → K v w') →
          Cal prog F.slices_Delete_int_int [v, .int .i64 (i : Int), .int .i64 ((i : Int) + 1)] wa K := fun hxa hg' hv hK =>
        (sDelete hv hi (by omega)).mono fun v w' _ ⟨hx, hv'⟩ => hK v w' (hxa.then hx (by rintro r hr rfl; omega)) hx ⟨_, hg', hv'⟩
      have stN : ∀ {wa : World} {v : Value} {K : Value → World → Prop}, Ext w41 wa → (∃ g', w41.heap.size ≤ g' ∧ LM .i64 T.t_int wa g' v (outS szs i)) →
          (∀ w' gu guc su, Ext wa w' → wa.heap.size ≤ gu → wa.heap.size ≤ guc → (∀ r, leads su r → wa.heap.size ≤ r) → Tab w' gu guc su (outS szs i) k (List.replicate N k) → K (.tuple #[.pointer (some ⟨gu, 0, none⟩), .int .i64 0]) w') →
          Cal prog F.table_New [v, .int .i64 k, .int .i64 k] wa K := fun hxa ⟨g', hg', hv⟩ hK =>
        (tNew hv.ls).mono fun v w' _ ⟨hx, _, _, _, h4⟩ => by
          obtain ⟨gu, guc, su, rfl, h5, h6, h7, h8⟩ := h4 hsz' (by omega) ⟨hk, by have := hk.1; omega, Int.le_refl _⟩
          rw [hNt] at h8
          exact hK w' gu guc su hx h5 h6 h7 h8
      have stA : ∀ {wa : World} {K : Value → World → Prop}, Ext w41 wa → (∀ w', Ext w41 w' → Ext wa w' → wa.heap.size < w'.heap.size → Blk w' wa.heap.size T.t_p_table_Table [.pointer none] → K (.pointer (some ⟨wa.heap.size, 0, none⟩)) w') → RunC prog (Instr.alloc T.t_p_table_Table true (.tuple #[])) wa K := fun hxa hK =>
        alloc_c T.t_p_table_Table.i fun g w' hg hx hb => by subst hg; exact hK w' (hxa.trans hx) hx hb.lt hb
      have stJ : ∀ {wa : World} {gB gu guc : Nat} {su : Value}, Ext w41 wa → w41.heap.size ≤ gB → Blk wa gB T.t_p_table_Table [.pointer none] → Tab wa gu guc su (outS szs i) k (List.replicate N k) → w41.heap.size ≤ gu → w41.heap.size ≤ guc → (∀ r, leads su r → w41.heap.size ≤ r) →
          gB ≠ gu → gB ≠ guc → ¬ leads su gB → RunC prog (Instr.storeAt T.t_p_table_Table (.pointer (some ⟨gB, 0, none⟩)) (.pointer (some ⟨gu, 0, none⟩))) wa fun _ w' => J (.pointer (some ⟨gB, 0, none⟩)) w' := fun hxa hgB hbB hT h1 h2 h3 h4 h5 h6 =>
        store_cell T.t_p_table_Table.i rfl rfl hbB (by simp) fun w' hc' _ hb' => hJ _ _ ⟨(hx341.trans hxa).then hc' (by rintro r hr rfl; omega), _, _, _, _, rfl, hb', hT.chg hc' (Ne.symm h4) (fun _ => Ne.symm h5) (fun r hr he => h6 (he ▸ hr)), by omega, by omega, by omega, fun r hr => by have := h3 r hr; omega, h5⟩
      have stZ : ∀ {wa : World} {gB : Nat} {v : Value}, Ext w41 wa → w41.heap.size ≤ gB → Blk wa gB T.t_p_table_Table [.pointer none] → (∃ g', w41.heap.size ≤ g' ∧ LM .i64 T.t_int wa g' v (outS szs i)) →
          Cal prog F.table_New [v, .int .i64 k, .int .i64 k] wa fun t wb => RunQ prog (Instr.extract t 0) wb fun t0 => RunQ prog (Instr.extract t 1) wb fun _ => RunC prog (Instr.storeAt T.t_p_table_Table (.pointer (some ⟨gB, 0, none⟩)) t0) wb fun _ w' => J (.pointer (some ⟨gB, 0, none⟩)) w' := fun {wa gB v} hxa hgB hbB hv =>
        stN hxa hv fun w48 gu guc su hx48 hgu hguc hsu hT => by
          have hlt := hbB.lt
          have sa := hxa.size
          rw [extract_tuple (v := .pointer (some ⟨gu, 0, none⟩)) rfl, extract_tuple (v := .int .i64 0) rfl]
          exact stJ (hxa.trans hx48) hgB (hbB.ext hx48) hT (by omega) (by omega) (fun r hr => by have := hsu r hr; omega) (by omega) (by omega) (fun hl => by have := hsu _ hl; omega)
      refine ⟨stS (Ext.refl _) fun v48 w42 g48 hx42 _ hg48 hlt48 hm48 => ⟨.inl hx42, stD hx42 hg48 hm48 fun v52 w43 hx43 hc43 hv52 => ⟨.inl hx43, ?_, ?_⟩, ?_⟩, ?_⟩
      · refine stN hx43 hv52 fun w44 gu guc su hx44 hgu hguc hsu hT => ?_
        have s43 := hx43.size
        have hx4144 := hx43.trans hx44
        rw [extract_tuple (v := .pointer (some ⟨gu, 0, none⟩)) rfl, extract_tuple (v := .int .i64 0) rfl]
        refine stA hx4144 fun w45 hx45 hx4445 hlt hb45 => ⟨.inl hx45, ?_⟩
        have s44 := hx4144.size
        have hTb := hT
        obtain ⟨⟨_, _, hbq, hmq, hcq⟩, _⟩ := hTb
        have hgul := hbq.lt
        have hgcl := LM_lt hcq (by simp; omega)
        exact stJ hx45 (by omega) hb45 (hT.ext hx4445) (by omega) (by omega) (fun r hr => by have := hsu r hr; omega) (by omega) (by omega) (fun hl => by have := LM_leads hmq hl; omega)
      · refine stA hx43 fun w47 hx47 hx4347 hlt hb47 => ⟨.inl hx47, ?_⟩
        obtain ⟨g52, hg52, hm52⟩ := hv52
        have s43 := hx43.size
        exact stZ hx47 (by omega) hb47 ⟨g52, hg52, hm52.ext hx4347⟩
      · refine stA hx42 fun w50 hx50 hx4250 hlt hb50 => ⟨.inl hx50, ?_⟩
        have s42 := hx42.size
        refine stD hx50 hg48 (hm48.ext hx4250) fun v52 w51 hx51 hc51 hv52 => ⟨.inl hx51, ?_⟩
        exact stZ hx51 (by omega) (hb50.chg hc51 (by omega)) hv52
      · refine stA (Ext.refl _) fun w54 hx54 hx4154 hlt hb54 => ⟨.inl hx54, ?_⟩
        refine stS hx54 fun v48 w55 g48 hx55 hx5455 hg48 hlt48 hm48 => ⟨.inl hx55, ?_⟩
        refine stD hx55 (by omega) hm48 fun v52 w56 hx56 hc56 hv52 => ⟨.inl hx56, ?_⟩
        exact stZ hx56 (by omega) ((hb54.ext hx5455).chg hc56 (by omega)) hv52
  · intro J hJ w59 hx59 _ _
    have hb1' := hb1.ext hx59
    have hb2' := hb2.ext hx59
    rw [load_cell (by kernel_rfl) (hb2'.cell (o := 0) rfl)]
    simp only [binS_lss, split_dec]
    refine ⟨fun hneg => ⟨.inl (Ext.refl _), .inl (Ext.refl _), hJ _ _ ⟨by rw [decide_eq_true]; omega, hx59⟩⟩, fun hpos => ?_⟩
    have ht := h0.ext (hx03.trans hx59)
    obtain ⟨⟨cv, gs, hb, hm, hc⟩, _⟩ := id ht
    rw [load_cell (by kernel_rfl) (hb2'.cell (o := 0) rfl), load_cell (by kernel_rfl) (hb1'.cell (o := 0) rfl), nil_check, field_at T.t_table_Table.p rfl, load_struct (cs := [sv]) T.t_shape_Shape.p T.t_shape_Shape.i rfl (sub hb)]
    refine (sArity hm.ls).mono ?_
    rintro _ w60 _ ⟨rfl, hx60⟩
    refine ⟨.inl hx60, ?_⟩
    simp only [binS_geq, split_dec]
    refine ⟨fun hbig => ⟨.inl (Ext.refl _), hJ _ _ ⟨by rw [decide_eq_true]; omega, hx59.trans hx60⟩⟩, fun hsm => ?_⟩
    have hb1' := hb1'.ext hx60
    have hb2' := hb2'.ext hx60
    have hb3' := (hb3.ext hx59).ext hx60
    rw [load_struct T.t_dom_Set.p T.t_dom_Set.i rfl hb3'.range, load_cell (by kernel_rfl) (hb1'.cell (o := 0) rfl), nil_check, field_at T.t_table_Table.p rfl, load_struct (cs := [sv]) T.t_shape_Shape.p T.t_shape_Shape.i rfl (sub (hb.ext hx60)), load_cell (by kernel_rfl) (hb2'.cell (o := 0) rfl)]
    refine (dSize (b := b) (n := n)).mono ?_
    rintro _ w61 _ ⟨rfl, hx61⟩
    refine ⟨.inl hx61, ?_⟩
    refine (sSize ((hm.ls.ext hx60).ext hx61)).mono ?_
    rintro _ w62 _ ⟨rfl, hx62⟩
    simp only [binS_neq]
    refine hJ _ _ ⟨?_, ((hx59.trans hx60).trans hx61).trans hx62⟩
    congr 1
    have e1 : (0 ≤ pos ∧ pos < (szs.length : Int) ∧ (n : Int) = sizeAt szs pos) ↔ (n : Int) = sizeAt szs pos := ⟨fun h => h.2.2, fun h => ⟨by omega, by omega, h⟩⟩
    simp only [e1]
end Go.Proofs.YtahhkeljejfgfaaDoor
