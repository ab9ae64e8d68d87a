/- Tuples: the document's lines; the statements' comparison. -/
import Derived.Test.YtahhkeljejfgfaaUf
namespace Go.Proofs.Ytahhkeljejfgfaa
open Go Go.Vc Go.RowKit Go.Proofs Go.Proofs.Try
set_option maxRecDepth 100000

theorem own_int {w : World} {c : Int} : Owns Non Non w [.int .i64 c] c := rfl
theorem getC_at {s cs t : List Int} (hs : SZ s) (hl : cs.length = (prodN s).toNat) {i : Nat} (h : (allT s)[i]? = some t) : cs[i]? = some (getC s cs t) := by
  have hi := (List.getElem?_eq_some_iff.1 h).1
  rw [allT_length hs, ← hl] at hi
  unfold getC
  rw [all_idx hs h]
  simp only [Int.toNat_natCast, List.getD_eq_getElem?_getD, List.getElem?_eq_getElem hi, Option.getD_some]
/-- the tuples that the document tells -/
def toldT (s cs : List Int) (o : Int) : List (List Int) := (allT s).filter fun t => decide (getC s cs t ≠ o)
def toldI (s cs : List Int) (o : Int) (i : Nat) : List (List Int) := ((allT s).take i).filter fun t => decide (getC s cs t ≠ o)
/-- read only -/
def asRd (l : List (List Int)) : List (Rd (List Int)) := l
theorem asRd_len (l : List (List Int)) : (asRd l).length = l.length := rfl
theorem filter_take {α : Type} {p : α → Bool} {l : List α} {i : Nat} {x : α} (h : l[i]? = some x) : (l.take (i + 1)).filter p = (l.take i).filter p ++ if p x = true then [x] else [] := by
  rw [List.take_add_one, h, List.filter_append]
  congr 1
  simp only [Option.toList_some, List.filter_cons, List.filter_nil]

theorem toldI_len (s cs : List Int) (o : Int) (i : Nat) : (toldI s cs o i).length ≤ i := by
  refine Nat.le_trans (List.length_filter_le _ _) ?_
  rw [List.length_take]; omega
theorem toldI_add {s cs t : List Int} {o : Int} {i : Nat} (h : (allT s)[i]? = some t) (hne : getC s cs t ≠ o) : toldI s cs o (i + 1) = toldI s cs o i ++ [t] := by
  unfold toldI
  rw [filter_take h, if_pos (by simpa using hne)]
theorem toldI_no {s cs t : List Int} {o : Int} {i : Nat} (h : (allT s)[i]? = some t) (he : ¬ getC s cs t ≠ o) : toldI s cs o (i + 1) = toldI s cs o i := by
  unfold toldI
  rw [filter_take h, if_neg (by simpa using he), List.append_nil]
theorem toldI_all (s cs : List Int) (o : Int) : toldI s cs o (allT s).length = toldT s cs o := by
  unfold toldI toldT
  rw [List.take_length]

set_option maxHeartbeats 1600000 in
theorem rLines {w : World} {xs xc : Value} {s cs : List Int} {k o : Int} (h : LS .i64 w xs s) (hs : Sizes s) (hc : LS .i64 w xc cs) (hl : cs.length = (prodN s).toNat) :
    Cal prog F.ref05_Lines [.agg #[xs, .int .i64 k, xc], .int .i64 o] w fun v w' => Ext w w' ∧ ∃ lv cv, v = .tuple #[lv, cv] ∧ Seen Every w' [lv] (asRd (toldT s cs o)) ∧ LS .i64 w' cv ((toldT s cs o).map (getC s cs)) := by
  have hal := allT_length hs.2
  have hp := prod_bound hs
  apply ref05_Lines.enter
  unfold ref05_Lines.body
  refine box_c fun gx w1 hgx hx1 hb => ?_
  rw [field_at T.t_ref04_Table.p rfl, load_cell (by kernel_rfl) (hb.cell (o := 0 + 0) rfl)]
  refine (rAll s (h.ext hx1) hs).mono ?_
  rintro av w2 _ ⟨hx2, ha⟩
  have hx02 := hx1.trans hx2
  have hQ : Seen (fun r => r < w2.heap.size) w2 [av] (allT s) := rep_sees ha fun r hr _ => hr
  rw [len_dat T.t_sl_sl_int.u ha]
  refine Loop3.range (allT s).length (fun i lv cv w3 => Ext w2 w3 ∧ ∃ A C : Bs, (∀ r, A r → w2.heap.size ≤ r ∧ r < w3.heap.size) ∧ (∀ r, C r → w2.heap.size ≤ r ∧ r < w3.heap.size) ∧ (∀ r, A r → ¬ C r) ∧
    Owns A (fun r => r < w2.heap.size) w3 [lv] (asRd (toldI s cs o i)) ∧ Owns C Non w3 [cv] ((toldI s cs o i).map (getC s cs))) (by omega)
    ⟨Ext.refl _, Non, Non, fun _ h => h.elim, fun _ h => h.elim, fun _ h => h.elim, list_nil (α := Rd (List Int)), list_nil⟩ ?_ ?_
  · rintro i lv cv w3 kk hi ⟨hx3, A, C, hA, hC, hAC, hlv, hcv⟩ hkk
    simp only [binS_lss, split_dec]
    refine ⟨fun _ => ?_, fun h => by omega⟩
    obtain ⟨t, hti⟩ : ∃ t, (allT s)[i]? = some t := ⟨_, List.getElem?_eq_getElem hi⟩
    have hci := getC_at hs.2 hl hti
    have hlen := toldI_len s cs o i
    have s3 := hx3.size
    refine join2 (fun l' c' w4 => Ext w2 w4 ∧ ∃ A C : Bs, (∀ r, A r → w2.heap.size ≤ r ∧ r < w4.heap.size) ∧ (∀ r, C r → w2.heap.size ≤ r ∧ r < w4.heap.size) ∧ (∀ r, A r → ¬ C r) ∧
      Owns A (fun r => r < w2.heap.size) w4 [l'] (asRd (toldI s cs o (i + 1))) ∧ Owns C Non w4 [c'] ((toldI s cs o (i + 1)).map (getC s cs))) ?_ ?_
    · intro l' c' w4 hI
      simp only [binS_add]
      exact hkk _ _ _ hI
    intro J hJ
    refine get_dat (α := List Int) rfl rfl T.t_sl_sl_int.u T.t_sl_int.i (by kernel_rfl) (rep_ext hQ hx3) hti fun u hu => ?_
    rw [field_at T.t_ref04_Table.p rfl, load_cell (by kernel_rfl) (((hb.ext hx2).ext hx3).cell (o := 0 + 2) rfl), get_ls T.t_sl_int64.u T.t_int64.i (by kernel_rfl) ((hc.ext hx02).ext hx3) hci]
    simp only [binS_neq, split_dec]
    refine ⟨fun hne => ?_, fun heq => hJ _ _ _ ⟨hx3, A, C, hA, hC, hAC, ?_⟩⟩
    rotate_left
    · rw [toldI_no hti heq]
      exact ⟨hlv, hcv⟩
    have hft := toldI_add hti hne
    have hu' : Owns (α := Rd (List Int)) Non (fun r => r < w2.heap.size) w3 [u] t := hu
    refine one_dat (α := Rd (List Int)) (a := t) (cs := [u]) (A := Non) T.t_sl_sl_int.u T.t_sl_int.i (by decide) (list_cells hu) hu' fun b w5 hx5 _ hb5 => ?_
    have s5 := hx5.size
    refine push_dat (α := Rd (List Int)) (a := t) (A := Non) T.t_sl_sl_int.u T.t_sl_int.i rfl (rep_ext hlv hx5) hb5 (rep_ext hu' hx5) (fun r _ h h' => ?_) (by rw [asRd_len]; omega) (by rw [asRd_len]; omega) fun lv' w6 hlv6 hc6 => ?_
    · rcases h' with h' | h'
      · exact h'
      · have := (hA r h).1; omega
    have s6 := hc6.size
    have hx26 : Ext w2 w6 := (hx3.trans hx5).then hc6 (fun r hr h => by have := (hA r h).1; omega)
    have hlv6 := rep_old hlv6
    have hcv6 := Dat.chg (rep_ext hcv hx5) hc6 (fun r hr h h' => by
      rcases h with h | h
      · exact hAC r h' h
      · exact h)
    rw [field_at T.t_ref04_Table.p rfl, load_cell (by kernel_rfl) (((hb.ext hx2).ext hx26).cell (o := 0 + 2) rfl), get_ls T.t_sl_int64.u T.t_int64.i (by kernel_rfl) ((hc.ext hx02).ext hx26) hci]
    refine one_dat (α := Int) (a := getC s cs t) (cs := [.int .i64 (getC s cs t)]) (A := Non) (R := Non) T.t_sl_int64.u T.t_int64.i (by decide) rfl own_int fun b7 w7 hx7 _ hb7 => ?_
    have s7 := hx7.size
    refine push_dat (α := Int) (a := getC s cs t) (A := Non) T.t_sl_int64.u T.t_int64.i rfl (rep_ext hcv6 hx7) hb7 own_int (fun r _ _ h => h.elim id id) (by rw [List.length_map]; omega) (by rw [List.length_map]; omega) fun cv' w8 hcv8 hc8 => ?_
    have s8 := hc8.size
    have hcv8 := rep_old hcv8
    have hlv8 := Dat.chg (rep_ext hlv6 hx7) hc8 (fun r hr h h' => by
      have := (hC r h')
      rcases h with ⟨h | h | h, h2⟩ | h
      · exact hAC r h h'
      · exact h
      · omega
      · omega)
    refine hJ _ _ _ ⟨(hx26.trans hx7).then hc8 (fun r hr h => by have := (hC r h).1; omega), _, _, fun r h => ?_, fun r h => ?_, fun r h h' => ?_, by rw [hft]; exact hlv8, by rw [hft, List.map_append]; exact hcv8⟩
    · obtain ⟨h | h | h, h2⟩ := h
      · have := hA r h; omega
      · exact h.elim
      · omega
    · obtain ⟨h | h | h, h2⟩ := h
      · have := hC r h; omega
      · exact h.elim
      · omega
    · obtain ⟨h' | h' | h', h3⟩ := h'
      · obtain ⟨h | h | h, h2⟩ := h
        · exact hAC r h h'
        · exact h
        · have := hC r h'; omega
      · exact h'
      · omega
  · rintro lv cv w3 kk ⟨hx3, A, C, hA, hC, hAC, hlv, hcv⟩
    simp only [binS_lss, split_dec]
    refine ⟨fun h => by omega, fun _ => ⟨hx02.trans hx3, lv, cv, rfl, ?_⟩⟩
    rw [toldI_all] at hlv hcv
    exact ⟨rep_see hlv, see_ls hcv⟩

/-- the statements' comparison holds -/
theorem told_lines {szs : List Int} {D : Told} {o : Int} {cs : List Int} (hs : SZ szs) (hC : IsC szs (costT D o) cs) : lineL szs D o = (toldT szs cs o).map fun t => (t, getC szs cs t) :=
  lineL_of hs fun t ht => (hC.2 t ht).symm

set_option maxHeartbeats 3200000 in
theorem uLike {w : World} {g m : Nat} {szs cs : List Int} {k o : Int} {D : Told} {xs xc : Value} (h : TupIs w g m szs k o D) (hD : D.length < 256) (h4 : prodN szs ≤ 4096) (hxs : LS .i64 w xs szs) (hxc : LS .i64 w xc cs) (hC : IsC szs (costT D o) cs) :
    Cal prog F.law05_like [.pointer (some ⟨g, 0, none⟩), .agg #[xs, .int .i64 k, xc], .int .i64 o] w fun v w' => v = .bool true ∧ Ext w w' := by
  have hs := h.2.2.1
  have hl := hC.1
  have hal := allT_length hs.2
  have hp := prod_bound hs
  apply law05_like.enter
  unfold law05_like.body
  refine box_c fun gx w1 hgx hx1 hb => ?_
  refine join1 (fun v w2 => v = .bool false ∧ Ext w1 w2) ?_ ?_
  rotate_left
  · intro J hJ
    intro w2 hx2 _ _
    rw [eq_ptr_nil T.t_p_tuples_Tuples.u]
    simp only [Option.isNone_some, split_false]
    have hb2 := hb.ext hx2
    rw [field_at T.t_ref04_Table.p rfl, load_cell (by kernel_rfl) (hb2.cell (o := 0 + 1) rfl)]
    refine (uK ((h.ext hx1).ext hx2)).mono ?_
    rintro _ w3 _ ⟨rfl, hx3⟩
    refine ⟨.inl hx3, ?_⟩
    simp only [binS_neq, split_dec]
    refine ⟨fun h => absurd rfl h, fun _ => ?_⟩
    have hx23 := hx2.trans hx3
    refine (uOther ((h.ext hx1).ext hx23)).mono ?_
    rintro _ w4 _ ⟨rfl, hx4⟩
    simp only [binS_neq, split_dec]
    refine ⟨fun h => absurd rfl h, fun _ => ?_⟩
    have hx24 := hx23.trans hx4
    rw [field_at T.t_ref04_Table.p rfl, load_cell (by kernel_rfl) ((hb.ext hx24).cell (o := 0 + 0) rfl), len_ls T.t_sl_int.u ((hxs.ext hx1).ext hx24)]
    refine (uArity ((h.ext hx1).ext hx24)).mono ?_
    rintro _ w5 _ ⟨rfl, hx5⟩
    refine ⟨.inl hx5, ?_⟩
    simp only [binS_neq, split_dec]
    refine ⟨fun h => absurd rfl h, fun _ => ?_⟩
    have hx25 := hx24.trans hx5
    rw [field_at T.t_ref04_Table.p rfl, load_cell (by kernel_rfl) ((hb.ext hx25).cell (o := 0 + 0) rfl)]
    refine (uSizes ((h.ext hx1).ext hx25)).mono ?_
    rintro sv6 w6 _ ⟨hx6, g6, _, hm6⟩
    refine ⟨.inl hx6, ?_⟩
    have hx26 := hx25.trans hx6
    refine (sEqual_ints hm6.ls ((hxs.ext hx1).ext hx26)).mono ?_
    rintro _ w7 _ ⟨rfl, hx7⟩
    simp only [decide_true, un_not, Bool.not_true]
    exact hJ _ _ ⟨rfl, hx26.trans hx7⟩
  rintro _ w2 ⟨rfl, hx2⟩
  rw [split_false]
  have hx02 := hx1.trans hx2
  rw [load_struct T.t_ref04_Table.p T.t_ref04_Table.i rfl (hb.ext hx2).range]
  refine (rLines (hxs.ext hx02) hs (hxc.ext hx02) hl (k := k)).mono ?_
  rintro _ w3 _ ⟨hx3, lv, cv, rfl, hlv, hcv⟩
  rw [extract_tuple (v := lv) rfl, extract_tuple (v := cv) rfl]
  have hx03 := hx02.trans hx3
  refine (uLines (h.ext hx03) hD).mono ?_
  rintro uv w4 _ ⟨hx4, L, hL, huv⟩
  have hDl := hL.1.length_eq
  have hL := line_eq h hL
  rw [told_lines hs.2 hC] at hL
  have hx04 := hx03.trans hx4
  have hlen : L.length = (toldT szs cs o).length := by rw [hL, List.length_map]
  have hlv4 := rep_ext hlv hx4
  have hcv4 := hcv.ext hx4
  refine join1 (fun v w5 => v = .bool false ∧ Ext w4 w5) ?_ ?_
  rotate_left
  · intro J hJ
    rw [len_dat T.t_sl_tuples_Line.u huv, len_dat T.t_sl_sl_int.u hlv4, asRd_len]
    simp only [binS_neq, split_dec]
    refine ⟨fun h => absurd (by omega) h, fun _ => ?_⟩
    refine (uLen (h.ext hx04)).mono ?_
    rintro _ w5 _ ⟨rfl, hx5⟩
    rw [len_dat T.t_sl_sl_int.u (rep_ext hlv4 hx5), asRd_len]
    simp only [binS_neq]
    exact hJ _ _ ⟨by congr 1; rw [decide_eq_false]; intro hne; exact hne (by congr 1; omega), hx5⟩
  rintro _ w5 ⟨rfl, hx5⟩
  rw [split_false]
  have hlv5 := rep_ext hlv4 hx5
  have hcv5 := hcv4.ext hx5
  have huv5 := rep_ext huv hx5
  have hx05 := hx04.trans hx5
  have hbig : (toldT szs cs o).length ≤ (allT szs).length := List.length_filter_le _ _
  rw [len_dat T.t_sl_sl_int.u hlv5, asRd_len]
  refine Loop2.range (toldT szs cs o).length (fun i _ w6 => Ext w5 w6) (by omega) (Ext.refl _) ?_ ?_
  · rintro i _ w6 kk hi hx6 hkk
    obtain ⟨t, hti⟩ : ∃ t, (toldT szs cs o)[i]? = some t := ⟨_, List.getElem?_eq_getElem hi⟩
    have hLi : L[i]? = some (t, getC szs cs t) := by rw [hL, List.getElem?_map, hti]; rfl
    simp only [binS_lss, split_dec]
    refine ⟨fun _ => ?_, fun h => by omega⟩
    refine join1 (fun v w7 => v = .bool false ∧ Ext w6 w7) ?_ ?_
    · rintro _ w7 ⟨rfl, hx7⟩
      simp only [split_false, binS_add]
      exact hkk _ _ (hx6.trans hx7)
    intro J hJ
    intro w7 hx7 _ _
    have hx57 := hx6.trans hx7
    refine at_dat (α := List Int × Int) rfl T.t_sl_tuples_Line.u T.t_tuples_Line.i (rep_ext huv5 hx57) hLi fun b q us hr hus => ?_
    obtain ⟨c1, c2, A, B, rfl, hA, hB, _, h1, h2⟩ := hus
    have hc2 : c2 = [.int .i64 (getC szs cs t)] := h2
    subst hc2
    obtain ⟨tv, rfl, _⟩ := id h1
    rw [field_at T.t_tuples_Line.p rfl, load_cell (by kernel_rfl) (hr 0 _ rfl)]
    refine get_dat (α := Rd (List Int)) rfl rfl T.t_sl_sl_int.u T.t_sl_int.i (by kernel_rfl) (rep_ext hlv5 hx57) hti fun u hu => ?_
    have hu' : Dat.rep (α := List Int) false (fun _ => False) Every w7 [u] t := hu
    refine (sEqual_ints (see_ls h1) (see_ls hu')).mono ?_
    rintro _ w8 _ ⟨rfl, hx8⟩
    simp only [decide_true, un_not, Bool.not_true, split_false]
    have hx58 := hx57.trans hx8
    refine at_dat (α := List Int × Int) rfl T.t_sl_tuples_Line.u T.t_tuples_Line.i (rep_ext huv5 hx58) hLi fun b q us hr hus => ?_
    obtain ⟨c1, c2, A, B, rfl, hA, hB, _, h1, h2⟩ := hus
    have hc2 : c2 = [.int .i64 (getC szs cs t)] := h2
    subst hc2
    obtain ⟨tv2, rfl, _⟩ := id h1
    rw [field_at T.t_tuples_Line.p rfl, load_cell (by kernel_rfl) (hr 1 _ rfl), get_ls T.t_sl_int64.u T.t_int64.i (by kernel_rfl) (hcv5.ext hx58) (show ((toldT szs cs o).map (getC szs cs))[i]? = some (getC szs cs t) by rw [List.getElem?_map, hti]; rfl)]
    simp only [binS_neq]
    exact hJ _ _ ⟨by simp, hx7.trans hx8⟩
  rintro _ w6 kk hx6
  simp only [binS_lss, split_dec]
  refine ⟨fun h => by omega, fun _ => ?_⟩
  have hx06 := hx05.trans hx6
  have hx16 : Ext w1 w6 := ((((hx2.trans hx3).trans hx4).trans hx5).trans hx6)
  rw [field_at T.t_ref04_Table.p rfl, load_cell (by kernel_rfl) ((hb.ext hx16).cell (o := 0 + 0) rfl)]
  refine (rAll szs (hxs.ext hx06) hs).mono ?_
  rintro av w7 _ ⟨hx7, hav⟩
  rw [len_dat T.t_sl_sl_int.u hav]
  have hx17 := hx16.trans hx7
  refine Loop2.range (allT szs).length (fun i _ w8 => Ext w7 w8) (by omega) (Ext.refl _) ?_ ?_
  · rintro i _ w8 kk hi hx8 hkk
    obtain ⟨t, hti⟩ : ∃ t, (allT szs)[i]? = some t := ⟨_, List.getElem?_eq_getElem hi⟩
    have hci := getC_at hs.2 hl hti
    have hval : Val szs t := ⟨_, all_idx hs.2 hti⟩
    have hx18 := hx17.trans hx8
    simp only [binS_lss, split_dec]
    refine ⟨fun _ => ?_, fun h => by omega⟩
    refine get_dat rfl rfl T.t_sl_sl_int.u T.t_sl_int.i (by kernel_rfl) (rep_ext hav hx8) hti fun u hu => ?_
    refine (uGet ((h.ext hx1).ext hx18) (see_ls hu)).mono ?_
    rintro _ w9 _ ⟨hx9, hok, _⟩
    have hok := hok hval
    subst hok
    rw [extract_tuple (v := .int .i64 (costT D o t)) rfl, extract_tuple (v := .int .i64 0) rfl]
    refine join1 (fun v w10 => v = .bool false ∧ w10 = w9) ?_ ?_
    · rintro _ _ ⟨rfl, rfl⟩
      simp only [split_false, binS_add]
      exact hkk _ _ (hx8.trans hx9)
    intro J hJ
    simp only [binS_neq, split_dec]
    refine ⟨fun h => absurd rfl h, fun _ => ?_⟩
    rw [field_at T.t_ref04_Table.p rfl, load_cell (by kernel_rfl) ((hb.ext (hx18.trans hx9)).cell (o := 0 + 2) rfl), get_ls T.t_sl_int64.u T.t_int64.i (by kernel_rfl) ((hxc.ext hx1).ext (hx18.trans hx9)) hci, hC.2 t hval]
    simp only [binS_neq]
    exact hJ _ _ ⟨by simp, rfl⟩
  rintro _ w8 kk hx8
  simp only [binS_lss, split_dec]
  refine ⟨fun h => by omega, fun _ => ?_⟩
  have hx18 := hx17.trans hx8
  refine (uTable ((h.ext hx1).ext hx18) hD).mono ?_
  rintro _ w9 _ ⟨hx9, _, hT⟩
  obtain ⟨gt, gc, tv, cs2, rfl, _, _, hT, hC2⟩ := hT h4
  have hcs := hC2.eq hs.2 hC
  subst hcs
  rw [extract_tuple (v := .pointer (some ⟨gt, 0, none⟩)) rfl, extract_tuple (v := .int .i64 0) rfl]
  refine join1 (fun v w10 => v = .bool true ∧ Ext w w10) (fun _ _ h => h) fun J hJ => ?_
  intro w10 hx10 _ _
  simp only [binS_eql, decide_true, split_true]
  have hx1a := (hx18.trans hx9).trans hx10
  rw [field_at T.t_ref04_Table.p rfl, load_cell (by kernel_rfl) ((hb.ext hx1a).cell (o := 0 + 2) rfl)]
  refine (tEntries (hT.ext hx10)).mono ?_
  rintro ev w11 _ ⟨hx11, ge, _, hE⟩
  refine ⟨.inl hx11, ?_⟩
  refine (sEqual_longs hE.ls ((hxc.ext hx1).ext (hx1a.trans hx11))).mono ?_
  rintro _ w12 _ ⟨rfl, hx12⟩
  exact hJ _ _ ⟨by simp, ((hx1.trans hx1a).trans hx11).trans hx12⟩

/-- the document's example -/
theorem uAwake {w : World} : Cal prog F.law05_awake [] w fun v w' => v = .bool true ∧ Ext w w' := by
  have hsz : Sizes [2, 2] := ⟨by decide, by intro x hx; simp at hx; omega⟩
  have hk : right 9 := by unfold right; omega
  have h0 : inK 0 9 := ⟨hk, by omega, by omega⟩
  have h5 : inK 5 9 := ⟨hk, by omega, by omega⟩
  have hv : Val [2, 2] [0, 1] := ⟨1, by decide⟩
  apply law05_awake.enter
  unfold law05_awake.body
  refine lits_own (l := [2, 2]) T.t_sl_int.u T.t_int.i (by omega) rfl (by kernel_rfl) fun v10 g10 w1 hg10 hx1 h10 => ?_
  refine (uNew h10.ls).mono ?_
  rintro v w2 _ ⟨hx2, _, _, hgood⟩
  obtain ⟨g, m, rfl, hg, hm, hT⟩ := hgood hsz h0
  rw [extract_tuple (v := .pointer (some ⟨g, 0, none⟩)) rfl, extract_tuple (v := .int .i64 0) rfl]
  have s1 := hx1.size
  have s2 := hx2.size
  refine join1 (fun v w3 => v = .bool false ∧ Ext w w3 ∧ ∃ D', Upd [] [0, 1] 5 0 D' ∧ TupIs w3 g m [2, 2] 9 0 D') ?_ ?_
  rotate_left
  · intro J hJ
    simp only [binS_neq, split_dec]
    refine ⟨fun h => absurd rfl h, fun _ => ?_⟩
    refine lits_own (l := [0, 1]) T.t_sl_int.u T.t_int.i (by omega) rfl (by kernel_rfl) fun v13 g13 w3 hg13 hx3 h13 => ?_
    refine (uPut (hT.ext hx3) h13.ls (c := 5)).mono ?_
    rintro _ w4 _ ⟨_, hok⟩
    obtain ⟨rfl, hc4, hD⟩ := hok ⟨hv, h5⟩
    simp only [binS_neq]
    exact hJ _ _ ⟨by simp, ((hx1.trans hx2).trans hx3).then hc4 (fun r hr he => by have he : r = m := he; omega), hD⟩
  rintro _ w3 ⟨rfl, hx3, D', hU, hT3⟩
  rw [split_false]
  have hDl := hU.2
  refine (uLines hT3 (by simp at hDl; omega)).mono ?_
  rintro uv w4 _ ⟨hx4, L, hL, huv⟩
  have hL := line_eq hT3 hL
  have hL1 : L = [([0, 1], 5)] := by
    have e : ∀ s, costT D' 0 s = if s = [0, 1] then 5 else 0 := fun s => hU.cost (by simp) hT3.nodup s
    rw [hL, lineL_of hsz.2 (f := fun s => if s = [0, 1] then 5 else 0) fun t _ => e t]
    decide
  subst hL1
  refine join1 (fun v w5 => v = .bool true ∧ Ext w w5) (fun _ _ h => h) fun J hJ => ?_
  rw [len_dat T.t_sl_tuples_Line.u huv]
  simp only [binS_eql, List.length_singleton, Int.natCast_one, decide_true, split_true]
  refine at_dat (α := List Int × Int) (i := 0) rfl T.t_sl_tuples_Line.u T.t_tuples_Line.i huv rfl fun b q us hr hus => ?_
  obtain ⟨c1, c2, A, B, rfl, hA, hB, _, h1, h2⟩ := hus
  have hc2 : c2 = [.int .i64 5] := h2
  subst hc2
  obtain ⟨tv, rfl, _⟩ := id h1
  rw [field_at T.t_tuples_Line.p rfl, load_cell (by kernel_rfl) (hr 0 _ rfl)]
  refine lits_own (l := [0, 1]) T.t_sl_int.u T.t_int.i (by omega) rfl (by kernel_rfl) fun v13 g13 w5 hg13 hx5 h13 => ?_
  refine (sEqual_ints ((see_ls h1).ext hx5) h13.ls).mono ?_
  rintro _ w6 _ ⟨rfl, hx6⟩
  simp only [decide_true, split_true]
  have hx46 := hx5.trans hx6
  refine at_dat (α := List Int × Int) (i := 0) rfl T.t_sl_tuples_Line.u T.t_tuples_Line.i (rep_ext huv hx46) rfl fun b q us hr hus => ?_
  obtain ⟨c1, c2, A, B, rfl, hA, hB, _, h1, h2⟩ := hus
  have hc2 : c2 = [.int .i64 5] := h2
  subst hc2
  obtain ⟨tv, rfl, _⟩ := id h1
  rw [field_at T.t_tuples_Line.p rfl, load_cell (by kernel_rfl) (hr 1 _ rfl)]
  simp only [binS_eql, decide_true]
  exact hJ _ _ ⟨rfl, (hx3.trans hx4).trans hx46⟩
end Go.Proofs.Ytahhkeljejfgfaa

