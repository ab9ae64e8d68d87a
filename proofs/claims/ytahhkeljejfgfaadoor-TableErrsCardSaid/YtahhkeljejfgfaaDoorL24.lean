/- Tables joined. -/
import Derived.Test.YtahhkeljejfgfaaDoorL23
namespace Go.Proofs.YtahhkeljejfgfaaDoor
open Go Go.Vc Go.RowKit Go.Proofs Go.Proofs.Tryd
set_option maxRecDepth 100000

def JoinVars (va vb vars : List Int) : Prop := Up vars ∧ ∀ x, x ∈ vars ↔ x ∈ va ∨ x ∈ vb
def joinC (s1 c1 va s2 c2 vb vars : List Int) (k : Int) : List Int :=
  (List.range (prodN (joinS s1 va s2 vb vars)).toNat).map fun (q : Nat) => min (getC s1 c1 (partL (tupN (joinS s1 va s2 vb vars) q) vars va) + getC s2 c2 (partL (tupN (joinS s1 va s2 vb vars) q) vars vb)) k
theorem joinC_length (s1 c1 va s2 c2 vb vars : List Int) (k : Int) : (joinC s1 c1 va s2 c2 vb vars k).length = (prodN (joinS s1 va s2 vb vars)).toNat := by simp [joinC]
theorem getC_in {s cs t : List Int} {k : Int} (hk : right k) (h : ∀ x ∈ cs, inK x k) : inK (getC s cs t) k := by
  have h0 : inK 0 k := ⟨hk, Int.le_refl _, by have := hk.1; omega⟩
  unfold getC
  split
  · rename_i n _
    rw [List.getD_eq_getElem?_getD]
    cases hq : cs[n.toNat]? with
    | none => exact h0
    | some x => exact h x (List.mem_of_getElem? hq)
  · exact h0
def Fits (s l : List Int) : Prop := l.length = s.length ∧ Rise l
def noTab (e : Int) : Value := .tuple #[.pointer none, .slice none 0 0, .int .i64 e]
def JoinAns (w : World) (s1 c1 va s2 c2 vb : List Int) (k k2 : Int) (v : Value) (w' : World) : Prop :=
  Ext w w' ∧ (¬ (Fits s1 va ∧ Fits s2 vb) → v = noTab 1) ∧
    (Fits s1 va ∧ Fits s2 vb → ∃ vars, JoinVars va vb vars ∧ (¬ JoinOk s1 va s2 vb vars → v = noTab 1) ∧ (JoinOk s1 va s2 vb vars → (k ≠ k2 → v = noTab 3) ∧
      (k = k2 → ¬ Sizes (joinS s1 va s2 vb vars) → v = noTab 1) ∧ (k = k2 → Sizes (joinS s1 va s2 vb vars) → 4096 < prodN (joinS s1 va s2 vb vars) → v = noTab 5) ∧
      (k = k2 → Sizes (joinS s1 va s2 vb vars) → prodN (joinS s1 va s2 vb vars) ≤ 4096 → ∃ gu guc su vx, v = .tuple #[.pointer (some ⟨gu, 0, none⟩), vx, .int .i64 0] ∧
        Tab w' gu guc su (joinS s1 va s2 vb vars) k (joinC s1 c1 va s2 c2 vb vars k) ∧ LS .i64 w' vx vars)))

set_option maxHeartbeats 1000000 in
theorem tJoin {w : World} {g gc ga gac : Nat} {sv sv2 av bv : Value} {s1 s2 va vb : List Int} {k k2 : Int} {c1 c2 : List Int} (h1 : Tab w g gc sv s1 k c1) (h2 : Tab w ga gac sv2 s2 k2 c2) (ha : LS .i64 w av va) (hb : LS .i64 w bv vb)
    (hk : right k) (hin1 : ∀ x ∈ c1, inK x k) (hin2 : ∀ x ∈ c2, inK x k2) :
    Cal prog F.table_Join [.pointer (some ⟨g, 0, none⟩), av, .pointer (some ⟨ga, 0, none⟩), bv] w (JoinAns w s1 c1 va s2 c2 vb k k2) := by
  have hav := ha.cells
  have hbv := hb.cells
  have hsz1 := h1.2.2.1
  have hsz2 := h2.2.2.1
  have sub : ∀ {w : World} {g : Nat} {sv : Value} {k : Int} {cv : Value}, Blk w g T.t_table_Table [sv, .int .i64 k, cv] → w.rangeAt g (0 + 0) [sv] := fun hb => Blk_sub hb (by
    intro j v hv
    match j, hv with
    | 0, hv => exact hv)
  apply table_Join.enter
  unfold table_Join.body
  refine box_c fun g1 w1 hg1 hx1 hb1 => ?_
  refine box_c fun g2 w2 hg2 hx2 hb2 => ?_
  refine box_c fun g3 w3 hg3 hx3 hb3 => ?_
  refine box_c fun g4 w4 hg4 hx4 hb4 => ?_
  have l1 := hb1.lt
  have l2 := hb2.lt
  have l3 := hb3.lt
  have l4 := hb4.lt
  have s1' := hx1.size
  have s2' := hx2.size
  have s3' := hx3.size
  have s4' := hx4.size
  have hx04 := ((hx1.trans hx2).trans hx3).trans hx4
  have hb1 : Blk w4 g1 T.t_p_table_Table [.pointer (some ⟨g, 0, none⟩)] := ((hb1.ext hx2).ext hx3).ext hx4
  have hb2 : Blk w4 g2 T.t_sl_int [av] := by rw [hav.1] at hb2; exact (hb2.ext hx3).ext hx4
  have hb3 : Blk w4 g3 T.t_p_table_Table [.pointer (some ⟨ga, 0, none⟩)] := hb3.ext hx4
  have hb4 : Blk w4 g4 T.t_sl_int [bv] := by rw [hbv.1] at hb4; exact hb4
  refine join1 (fun v w5 => v = .bool false ∧ w4 = w5) ?_ ?_
  rotate_left
  · intro J hJ
    rw [load_cell (by kernel_rfl) (hb1.cell (o := 0) rfl), eq_ptr_nil T.t_p_table_Table.u]
    simp only [Option.isNone_some, split_false]
    rw [load_cell (by kernel_rfl) (hb3.cell (o := 0) rfl), eq_ptr_nil T.t_p_table_Table.u]
    exact hJ _ _ ⟨rfl, rfl⟩
  rintro _ _ ⟨rfl, rfl⟩
  simp only [split_false]
  refine join1 (fun v w7 => Ext w4 w7 ∧ ∃ c, v = .bool c ∧ (c = true ↔ ¬ (Fits s1 va ∧ Fits s2 vb))) ?_ ?_
  rotate_left
  · intro J hJ
    rw [load_cell (by kernel_rfl) (hb1.cell (o := 0) rfl), load_cell (by kernel_rfl) (hb2.cell (o := 0) rfl)]
    refine (tRises (h1.ext hx04) (ha.ext hx04)).mono ?_
    rintro _ w5 _ ⟨hx5, c, rfl, hc⟩
    simp only [un_not, split_bool]
    refine ⟨fun ht => hJ _ _ ⟨hx5, true, rfl, fun _ h => ?_, fun _ => rfl⟩, fun hf => ?_⟩
    · have := hc.2 h.1; rw [this] at ht; cases ht
    · have hct : c = true := by cases c <;> simp_all
      rw [load_cell (by kernel_rfl) ((hb3.ext hx5).cell (o := 0) rfl), load_cell (by kernel_rfl) ((hb4.ext hx5).cell (o := 0) rfl)]
      refine (tRises ((h2.ext hx04).ext hx5) ((hb.ext hx04).ext hx5)).mono ?_
      rintro _ w6 _ ⟨hx6, d, rfl, hd⟩
      simp only [un_not]
      refine hJ _ _ ⟨hx5.trans hx6, _, rfl, fun h hh => ?_, fun h => ?_⟩
      · have := hd.2 hh.2; rw [this] at h; cases h
      · cases d with
        | false => rfl
        | true => exact absurd ⟨hc.1 hct, hd.1 rfl⟩ h
  rintro _ w7 ⟨hx7, c, rfl, hc⟩
  have hx07 := hx04.trans hx7
  rw [split_bool]
  refine ⟨fun ht w8 hx8 _ => ⟨hx07.trans hx8, fun _ => rfl, fun h => absurd h (hc.1 ht)⟩, fun hf => ?_⟩
  have hfit : Fits s1 va ∧ Fits s2 vb := Classical.byContradiction fun h => by
    have := hc.2 h; rw [hf] at this; cases this
  obtain ⟨⟨hla, hra⟩, hlb, hrb⟩ := id hfit
  have hl6 := hsz1.1
  have hl6' := hsz2.1
  rw [load_cell (by kernel_rfl) ((hb2.ext hx7).cell (o := 0) rfl), load_cell (by kernel_rfl) ((hb4.ext hx7).cell (o := 0) rfl)]
  refine sConcat2 (ha.ext hx07) (hb.ext hx07) (by omega) (by omega) fun v41 w10 g41 hx10 hg41 h41 => ?_
  refine sSortedVals h41.ls (by rw [List.length_append]; omega) fun v43 w12 g43 m hx12 hg43 hperm hpair h43 => ?_
  have hml := hperm.length_eq
  rw [List.length_append] at hml
  refine (sCompact h43 (by omega)).mono ?_
  rintro v44 w13 _ ⟨hc13, h44⟩
  have s7 := hx7.size
  have s10 := hx10.size
  have s12 := hx12.size
  have hx713 : Ext w7 w13 := (hx10.trans hx12).then hc13 (by rintro r hr rfl; omega)
  obtain ⟨hup, hmem⟩ := dedup_facts hpair (j := m.length) (Nat.le_refl _)
  have hdl := dedup_len m m.length
  have hJV : JoinVars va vb (dedup m m.length) := ⟨hup, fun x => by rw [hmem, List.take_length, hperm.mem_iff, List.mem_append]⟩
  generalize dedup m m.length = vars at *
  refine alloc_c T.t_sl_int.i fun gv w14 hgv hx14 hbv0 => ?_
  refine store_cell T.t_sl_int.i h44.ls.cells.1 h44.ls.cells.2 hbv0 (by simp [Value.cells]) fun w15 hc15 hs15 hbv15 => ?_
  have s13 := hx713.size
  have s14 := hx14.size
  have hx1315 : Ext w13 w15 := hx14.then hc15 (by rintro r hr rfl; omega)
  have hx415 := (hx7.trans hx713).trans hx1315
  have hx015 := hx04.trans hx415
  have lv := hbv15.lt
  have hvars15 := h44.ls.ext hx1315
  have hbv15 : Blk w15 gv T.t_sl_int [v44] := hbv15
  rw [load_cell (by kernel_rfl) (hbv15.cell (o := 0) rfl), load_cell (by kernel_rfl) ((hb1.ext hx415).cell (o := 0) rfl), load_cell (by kernel_rfl) ((hb2.ext hx415).cell (o := 0) rfl), load_cell (by kernel_rfl) ((hb3.ext hx415).cell (o := 0) rfl), load_cell (by kernel_rfl) ((hb4.ext hx415).cell (o := 0) rfl)]
  refine (tSizes (h1.ext hx015) (h2.ext hx015) hvars15 (ha.ext hx015) (hb.ext hx015) hra.up hrb.up (by omega)).mono ?_
  rintro ts w16 _ ⟨hx16, hsbad, hsok⟩
  have hx016 := hx015.trans hx16
  by_cases hjo : JoinOk s1 va s2 vb vars
  rotate_left
  · rw [hsbad hjo, extract_tuple (v := .slice none 0 0) rfl, extract_tuple (v := .bool false) rfl]
    simp only [un_not, Bool.not_false, split_true]
    intro w17 hx17 _
    exact ⟨hx016.trans hx17, fun h => absurd hfit h, fun _ => ⟨vars, hJV, fun _ => rfl, fun h => absurd h hjo⟩⟩
  obtain ⟨xs, gx, rfl, hgx, hxs⟩ := hsok hjo
  rw [extract_tuple (v := xs) rfl, extract_tuple (v := .bool true) rfl]
  simp only [un_not, Bool.not_true, split_false]
  intro w18 hx18 _ _
  have hx418 := (hx415.trans hx16).trans hx18
  have hx018 := hx016.trans hx18
  have hb1 := hb1.ext hx418
  have hb2 := hb2.ext hx418
  have hb3 := hb3.ext hx418
  have hb4 := hb4.ext hx418
  have hbv18 := (hbv15.ext hx16).ext hx18
  obtain ⟨⟨cv, gs, hbk, hms, _⟩, _⟩ := h1.ext hx018
  obtain ⟨⟨cv2, gs2, hbk2, hms2, _⟩, _⟩ := h2.ext hx018
  rw [load_cell (by kernel_rfl) (hb1.cell (o := 0) rfl), nil_check, field_at T.t_table_Table.p rfl, load_cell (by kernel_rfl) (hbk.cell (o := 0 + 1) rfl), load_cell (by kernel_rfl) (hb3.cell (o := 0) rfl), nil_check, field_at T.t_table_Table.p rfl, load_cell (by kernel_rfl) (hbk2.cell (o := 0 + 1) rfl)]
  simp only [binS_neq, split_dec]
  refine ⟨fun hkk w19 hx19 _ => ⟨hx018.trans hx19, fun h => absurd hfit h, fun _ => ⟨vars, hJV, fun h => absurd hjo h, fun _ => ⟨fun _ => rfl, fun h => absurd h hkk, fun h => absurd h hkk, fun h => absurd h hkk⟩⟩⟩, fun hkk => ?_⟩
  have hkk : k = k2 := Decidable.not_not.1 hkk
  subst hkk
  rw [load_cell (by kernel_rfl) (hb1.cell (o := 0) rfl), nil_check, field_at T.t_table_Table.p rfl, load_cell (by kernel_rfl) (hbk.cell (o := 0 + 1) rfl)]
  have hxs18 := hxs.ext hx18
  refine (tNew hxs18.ls).mono ?_
  rintro tv w20 _ ⟨hx20, hn1, hn5, _, hn0⟩
  have s15 := hx1315.size
  have s16 := hx16.size
  have s18 := hx18.size
  have s20 := hx20.size
  -- what New hands back
  obtain ⟨pt, e, rfl, hpt, hcase⟩ : ∃ (pt : Option Addr) (e : Int), tv = .tuple #[.pointer pt, .int .i64 e] ∧ (e = 0 → pt ≠ none) ∧ ((e = 1 ∧ ¬ Sizes (joinS s1 va s2 vb vars)) ∨ (e = 5 ∧ Sizes (joinS s1 va s2 vb vars) ∧ 4096 < prodN (joinS s1 va s2 vb vars)) ∨ (e = 0 ∧ Sizes (joinS s1 va s2 vb vars) ∧ prodN (joinS s1 va s2 vb vars) ≤ 4096 ∧
      ∃ gu guc su, pt = some ⟨gu, 0, none⟩ ∧ w18.heap.size ≤ gu ∧ w18.heap.size ≤ guc ∧ (∀ r, leads su r → w18.heap.size ≤ r) ∧ Tab w20 gu guc su (joinS s1 va s2 vb vars) k (List.replicate (prodN (joinS s1 va s2 vb vars)).toNat 0))) := by
    by_cases hs : Sizes (joinS s1 va s2 vb vars)
    · by_cases hp : prodN (joinS s1 va s2 vb vars) ≤ 4096
      · obtain ⟨gu, guc, su, h3, h4, h5, h6, h7⟩ := hn0 hs hp ⟨hk, by omega, by have := hk.1; omega⟩
        exact ⟨_, _, h3, (fun _ h => by cases h), .inr (.inr ⟨rfl, hs, hp, gu, guc, su, rfl, h4, h5, h6, h7⟩)⟩
      · exact ⟨_, _, hn5 hs (by omega), (fun h => by omega), .inr (.inl ⟨rfl, hs, by omega⟩)⟩
    · exact ⟨_, _, hn1 hs, (fun h => by omega), .inl ⟨rfl, hs⟩⟩
  rw [extract_tuple (v := .pointer pt) rfl, extract_tuple (v := .int .i64 e) rfl]
  refine alloc_c T.t_p_table_Table.i fun gB w21 hgB hx21 hbB => ?_
  refine store_cell T.t_p_table_Table.i rfl rfl hbB (by simp [Value.cells]) fun w22 hc22 hs22 hbB => ?_
  have s21 := hx21.size
  have hx2022 : Ext w20 w22 := hx21.then hc22 (by rintro r hr rfl; omega)
  have hx1822 := hx20.trans hx2022
  have hx022 := hx018.trans hx1822
  have lB := hbB.lt
  simp only [binS_neq, split_dec]
  refine ⟨fun hne w23 hx23 _ => ⟨hx022.trans hx23, fun h => absurd hfit h, fun _ => ⟨vars, hJV, fun h => absurd hjo h, fun _ => ⟨fun h => absurd rfl h, fun _ hs => ?_, fun _ hs hp => ?_, fun _ hs hp => ?_⟩⟩⟩, fun heq => ?_⟩
  · rcases hcase with ⟨rfl, _⟩ | ⟨_, h, _⟩ | ⟨_, h, _⟩
    · rfl
    · exact absurd h hs
    · exact absurd h hs
  · rcases hcase with ⟨_, h⟩ | ⟨rfl, _⟩ | ⟨_, _, h, _⟩
    · exact absurd hs h
    · rfl
    · omega
  · rcases hcase with ⟨_, h⟩ | ⟨_, _, h⟩ | ⟨h, _⟩
    · exact absurd hs h
    · omega
    · exact absurd h hne
  obtain ⟨hst, hple, gu, guc, su, rfl, hgu, hguc, hsu, hT⟩ : Sizes (joinS s1 va s2 vb vars) ∧ prodN (joinS s1 va s2 vb vars) ≤ 4096 ∧
      ∃ gu guc su, pt = some ⟨gu, 0, none⟩ ∧ w18.heap.size ≤ gu ∧ w18.heap.size ≤ guc ∧ (∀ r, leads su r → w18.heap.size ≤ r) ∧ Tab w20 gu guc su (joinS s1 va s2 vb vars) k (List.replicate (prodN (joinS s1 va s2 vb vars)).toNat 0) := by
    rcases hcase with ⟨h, _⟩ | ⟨h, _⟩ | ⟨_, h⟩
    · omega
    · omega
    · exact h
  obtain rfl : e = 0 := by omega
  have hjl : (joinS s1 va s2 vb vars).length = vars.length := joinS_length _ _ _ _ _
  have hpb := prod_bound hst
  obtain ⟨N, hN⟩ : ∃ N : Nat, (prodN (joinS s1 va s2 vb vars)).toNat = N := ⟨_, rfl⟩
  rw [hN] at hT
  have hNpos : 0 < N := by omega
  have hT22 := hT.ext hx2022
  obtain ⟨⟨ucv, gsu, hbT, hmT, hcT⟩, ⟨hTd1, hTd2, _⟩, _, hTl⟩ := id hT22
  have lguT : gu < w20.heap.size := by obtain ⟨⟨_, _, q, _⟩, _⟩ := id hT; exact q.lt
  have lguc : guc < w20.heap.size := by obtain ⟨⟨_, _, _, _, q⟩, _⟩ := id hT; exact LM_lt q (by simp; omega)
  rw [load_cell (by kernel_rfl) (hbB.cell (o := 0) rfl), nil_check, field_at T.t_table_Table.p rfl, load_struct (cs := [su]) T.t_shape_Shape.p T.t_shape_Shape.i rfl (sub hbT)]
  refine sAll.mono ?_
  rintro _ w24 _ ⟨hx24, gs', rfl, hgs', hbs⟩
  have s22 := hx2022.size
  have s24 := hx24.size
  let S : Nat → Prop := fun r => r = guc
  let Lc := joinC s1 c1 va s2 c2 vb vars k
  have hLc : Lc.length = N := by simp only [Lc]; rw [joinC_length, hN]
  have hvars18 := (hvars15.ext hx16).ext hx18
  let Facts : World → Prop := fun w' => Blk w' g1 T.t_p_table_Table [.pointer (some ⟨g, 0, none⟩)] ∧ Blk w' g2 T.t_sl_int [av] ∧ Blk w' g3 T.t_p_table_Table [.pointer (some ⟨ga, 0, none⟩)] ∧ Blk w' g4 T.t_sl_int [bv] ∧ Blk w' gv T.t_sl_int [v44] ∧ LS .i64 w' v44 vars ∧
    Blk w' gB T.t_p_table_Table [.pointer (some ⟨gu, 0, none⟩)] ∧ Blk w' gu T.t_table_Table [su, .int .i64 k, ucv] ∧ Tab w' g gc sv s1 k c1 ∧ Tab w' ga gac sv2 s2 k c2 ∧ LS .i64 w' av va ∧ LS .i64 w' bv vb ∧ LM .i64 T.t_int w' gsu su (joinS s1 va s2 vb vars) ∧ Blk w' gs' T.t_shape_Shape [su] ∧ w24.heap.size ≤ w'.heap.size
  have hx1824 := hx1822.trans hx24
  have facts : ∀ {a : World}, Chg S w24 a → Facts a := by
    intro a hx
    have hxa : Ext w18 a := hx1824.then hx (fun r hr he => by have he : r = guc := he; omega)
    have h0a := hx018.trans hxa
    exact ⟨hb1.ext hxa, hb2.ext hxa, hb3.ext hxa, hb4.ext hxa, hbv18.ext hxa, hvars18.ext hxa, (hbB.ext hx24).chg hx (by show ¬ (gB = guc); omega), (hbT.ext hx24).chg hx (by show ¬ (gu = guc); exact hTd1), h1.ext h0a, h2.ext h0a, ha.ext h0a, hb.ext h0a,
      LM_chg (hmT.ext hx24) hx (fun r hr he => hTd2 ((show r = guc from he) ▸ hr)), hbs.chg hx (by show ¬ (gs' = guc); omega), hx.size⟩
  have hit := allIter (g := gs') (B0 := w24.heap.size) (sv := su) hst
  rw [hN] at hit
  refine ⟨F.shape_Shape_All_c1, #[.pointer (some ⟨gs', 0, none⟩)], N, _, _, fun q w' => Chg S w24 w' ∧ LM .i64 T.t_int64 w' guc ucv (upto Lc 0 q), fun _ _ _ => False, rfl, hit,
    ?_, fun _ _ hx h => ⟨h.1.ext hx, h.2.1.ext hx, Nat.le_trans h.2.2 hx.size⟩, fun _ _ _ hx h => ⟨h.1.trans (hx.chg S), h.2.ext hx⟩, fun _ _ _ _ _ h => h, ⟨hbs, (hmT.ext hx24).ls, Nat.le_refl _⟩, ⟨Chg.refl _ _, ?_⟩, ?_, ?_, fun _ _ _ h => h.elim, fun _ _ _ _ h => h.elim⟩
  · rintro _ _ _ ⟨_, _, rfl, _⟩; rfl
  · rw [upto_zero, hLc]; exact hcT.ext hx24
  · rintro _ tv q w25 hq ⟨_, _, hB25⟩ ⟨tv', gt, hab, hgt, htv⟩ ⟨hc25, hmC25⟩
    cases hab
    let x := tupN (joinS s1 va s2 vb vars) (q : Int)
    have hxl : x.length = vars.length := by simp only [x]; rw [tupN_length, hjl]
    intro w26 hx26 _
    intro w27 hx27 _ _
    have hx2527 := hx26.trans hx27
    obtain ⟨f1, f2, f3, f4, f5, f6, f7, f8, f9, f10, f11, f12, f13, f14, f15⟩ := facts (hc25.trans (hx2527.chg S))
    rw [load_cell (by kernel_rfl) (f1.cell (o := 0) rfl), load_cell (by kernel_rfl) (f5.cell (o := 0) rfl), load_cell (by kernel_rfl) (f2.cell (o := 0) rfl)]
    refine (tPart (htv.ls.ext hx2527) f6 f11 hJV.1 (fun p hp => (hJV.2 p).2 (.inl hp)) hxl (by omega)).mono ?_
    rintro pa w28 _ ⟨hx28, ga28, hga28, hpa⟩
    refine ⟨.inl hx28, ?_⟩
    refine (tGet (f9.ext hx28) hpa.ls).mono ?_
    rintro _ w29 _ ⟨rfl, hx29⟩
    obtain ⟨e1, he1⟩ := getV_eq s1 (partL x vars va) c1
    have he1' : getV s1 (partL (tupN (joinS s1 va s2 vb vars) (q : Int)) vars va) c1 = .tuple #[.int .i64 (getC s1 c1 (partL x vars va)), .int .i64 e1] := he1
    rw [he1', extract_tuple (v := .int .i64 (getC s1 c1 (partL x vars va))) rfl, extract_tuple (v := .int .i64 e1) rfl]
    intro w30 hx30 _ _
    have hx2530 := ((hx2527.trans hx28).trans hx29).trans hx30
    obtain ⟨f1, f2, f3, f4, f5, f6, f7, f8, f9, f10, f11, f12, f13, f14, f15⟩ := facts (hc25.trans (hx2530.chg S))
    rw [load_cell (by kernel_rfl) (f3.cell (o := 0) rfl), load_cell (by kernel_rfl) (f5.cell (o := 0) rfl), load_cell (by kernel_rfl) (f4.cell (o := 0) rfl)]
    refine (tPart (htv.ls.ext hx2530) f6 f12 hJV.1 (fun p hp => (hJV.2 p).2 (.inr hp)) hxl (by omega)).mono ?_
    rintro pb w31 _ ⟨hx31, gb31, hgb31, hpb31⟩
    refine ⟨.inl hx31, ?_⟩
    refine (tGet (f10.ext hx31) hpb31.ls).mono ?_
    rintro _ w32 _ ⟨rfl, hx32⟩
    obtain ⟨e2, he2⟩ := getV_eq s2 (partL x vars vb) c2
    have he2' : getV s2 (partL (tupN (joinS s1 va s2 vb vars) (q : Int)) vars vb) c2 = .tuple #[.int .i64 (getC s2 c2 (partL x vars vb)), .int .i64 e2] := he2
    rw [he2', extract_tuple (v := .int .i64 (getC s2 c2 (partL x vars vb))) rfl, extract_tuple (v := .int .i64 e2) rfl]
    intro w33 hx33 _ _
    have hx2533 := ((hx2530.trans hx31).trans hx32).trans hx33
    obtain ⟨f1, f2, f3, f4, f5, f6, f7, f8, f9, f10, f11, f12, f13, f14, f15⟩ := facts (hc25.trans (hx2533.chg S))
    rw [load_cell (by kernel_rfl) (f7.cell (o := 0) rfl), nil_check, field_at T.t_table_Table.p rfl, load_cell (by kernel_rfl) (f8.cell (o := 0 + 2) rfl), load_cell (by kernel_rfl) (f7.cell (o := 0) rfl), nil_check, field_at T.t_table_Table.p rfl, load_cell (by kernel_rfl) (f8.cell (o := 0 + 1) rfl)]
    refine cAdd.mono ?_
    rintro _ w34 _ ⟨rfl, hx34⟩
    refine ⟨.inl hx34, ?_⟩
    have hadd : addE (getC s1 c1 (partL x vars va)) (getC s2 c2 (partL x vars vb)) k = .tuple #[.int .i64 (min (getC s1 c1 (partL x vars va) + getC s2 c2 (partL x vars vb)) k), .int .i64 0] := if_pos ⟨getC_in hk hin1, getC_in hk hin2⟩
    rw [hadd, extract_tuple (v := .int .i64 (min (getC s1 c1 (partL x vars va) + getC s2 c2 (partL x vars vb)) k)) rfl, extract_tuple (v := .int .i64 0) rfl]
    have hmC34 := hmC25.ext (hx2533.trans hx34)
    have hul : (upto Lc 0 q).length = N := by rw [upto_length, hLc]
    rw [idx_lm rfl T.t_sl_int64.u T.t_int64.i hmC34 (by omega)]
    refine store_lm T.t_int64.i hmC34 (by omega) fun w35 hc35 hs35 hmC35 => ?_
    have hc35' : Chg S w24 w35 := (hc25.trans ((hx2533.trans hx34).chg S)).trans (hc35.mono fun r _ h => h)
    obtain ⟨f1, f2, f3, f4, f5, f6, f7, f8, f9, f10, f11, f12, f13, f14, f15⟩ := facts hc35'
    have hLq : Lc[q]? = some (min (getC s1 c1 (partL x vars va) + getC s2 c2 (partL x vars vb)) k) := by
      simp only [Lc, joinC]
      rw [List.getElem?_map, List.getElem?_range (by rw [hN]; exact hq)]; rfl
    rw [upto_set hLq] at hmC35
    exact ⟨⟨f14, f13.ls, f15⟩, hc35', hmC35⟩
  · rintro w36 ⟨hc36, hmC⟩
    intro w37 hx37 _ _
    obtain ⟨f1, f2, f3, f4, f5, f6, f7, f8, f9, f10, f11, f12, f13, f14, f15⟩ := facts (hc36.trans (hx37.chg S))
    rw [load_cell (by kernel_rfl) (f7.cell (o := 0) rfl), load_cell (by kernel_rfl) (f5.cell (o := 0) rfl)]
    intro w38 hx38 _
    rw [← hLc, upto_all] at hmC
    have hx024 := hx018.trans hx1824
    refine ⟨((hx024.then hc36 (fun r hr he => by have he : r = guc := he; omega)).trans hx37).trans hx38, fun h => absurd hfit h, fun _ => ⟨vars, hJV, fun h => absurd hjo h, fun _ => ⟨fun h => absurd rfl h, fun _ h => absurd hst h, fun _ _ h => by omega, fun _ _ _ => ⟨gu, guc, su, v44, rfl, ⟨⟨ucv, gsu, f8.ext hx38, f13.ext hx38, (hmC.ext hx37).ext hx38⟩, ⟨hTd1, hTd2, hple⟩, hst, joinC_length _ _ _ _ _ _ _ _⟩, f6.ext hx38⟩⟩⟩⟩
end Go.Proofs.YtahhkeljejfgfaaDoor
