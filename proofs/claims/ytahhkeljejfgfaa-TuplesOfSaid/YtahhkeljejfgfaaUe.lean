/- Tuples: their keys sorted; Lines. -/
import Derived.Test.YtahhkeljejfgfaaM4
namespace Go.Proofs.Ytahhkeljejfgfaa
open Go Go.Vc Go.RowKit Go.Proofs Go.Proofs.Try
set_option maxRecDepth 100000

theorem kSorted {gm m : Nat} {d : List (Value × Value)} {KS : List (List Int)} {w : World} (hb : Blk w gm T.t_map_tuples_key_int64 [.map (some m)]) (hm : MapIs w m d) (hd : d.map (·.1) = KS.map keyV) (hK : KG KS) (hlen : KS.length < 256) :
    Cal prog F.slices_SortedFunc_pennyweight_tuples_key [.func (.func F.maps_Keys_map_tuples_key_int64_tuples_key_int64__c1) #[] #[.pointer (some ⟨gm, 0, none⟩)], cmpF] w fun v w' => Ext w w' ∧ ∃ g M, M.Perm KS ∧ UpR numK M 0 M.length ∧ KR w' g v M := by
  apply slices_SortedFunc_pennyweight_tuples_key.enter
  unfold slices_SortedFunc_pennyweight_tuples_key.body
  refine (kCollect hb hm hd (fun ks h => (hK ks h).1) (by omega)).mono ?_
  rintro v w1 _ ⟨hx1, g, L, lv, hp, hL⟩
  refine (kSortFunc hL (hK.perm hp) (by rw [hp.length_eq]; omega)).mono ?_
  rintro _ w2 _ ⟨hc2, M, hpm, hu, hM⟩
  exact ⟨hx1.then hc2 (fun r hr h => by have := lv r h; omega), g, M, hpm.trans hp, hu, hM⟩

theorem perm_map_ex {α β : Type} {f : α → β} : ∀ {M : List β} {D : List α}, M.Perm (D.map f) → ∃ L : List α, L.Perm D ∧ L.map f = M
  | [], D, h => by
    have h1 := h.length_eq
    simp at h1
    have : D = [] := List.eq_nil_of_length_eq_zero h1.symm
    exact ⟨[], by rw [this], rfl⟩
  | x :: M, D, h => by
    have hx : x ∈ D.map f := h.mem_iff.1 (.head _)
    obtain ⟨p, hp, rfl⟩ := List.mem_map.1 hx
    obtain ⟨A, B, rfl⟩ := List.append_of_mem hp
    have h2 : (f p :: M).Perm (f p :: (A ++ B).map f) := h.trans (by
      rw [List.map_append, List.map_cons, List.map_append]
      exact List.perm_middle)
    obtain ⟨L, h3, h4⟩ := perm_map_ex (List.Perm.cons_inv h2)
    exact ⟨p :: L, (h3.cons p).trans List.perm_middle.symm, by rw [List.map_cons, h4]⟩

/-- a key's first numbers, as a row -/
theorem key_row {w : World} {g n : Nat} {ks : List Int} {cs : List Value} (hl : ks.length = 6) (hn : n ≤ 6) (hc : cs = ints .i8 ks) (hb : Blk w g T.t_tuples_key cs) : LS .i8 w (.slice (some (if 6 = 0 then ⟨g, 0, none⟩ else ⟨g, 0 + 0 * 1, none⟩)) (n - 0) (6 - 0)) (ks.take n) := by
  subst hc
  rw [if_neg (by omega)]
  unfold LS
  have ht : (ks.take n).length = n := by rw [List.length_take]; omega
  rw [ht]
  refine ⟨by simp; omega, g, 0, _, 6, rfl, by omega, by simp [maxLen], fun _ => rfl, fun j v hv => ?_⟩
  have hj := (List.getElem?_eq_some_iff.1 hv).1
  refine hb.range j v ?_
  rw [ints, List.map_take, List.getElem?_take_of_lt (by simp [ints] at hj; omega)] at hv
  exact hv

/-- lines, in order -/
def LineOk (D L : Told) : Prop := L.Perm D ∧ UpR (fun p => numK (pad p.1)) L 0 L.length

set_option maxHeartbeats 1600000 in
theorem uLines {w : World} {g m : Nat} {szs : List Int} {k o : Int} {D : Told} (h : TupIs w g m szs k o D) (hD : D.length < 256) : Cal prog F.P_tuples_Tuples_Lines [.pointer (some ⟨g, 0, none⟩)] w fun v w' => Ext w w' ∧ ∃ L : Told, LineOk D L ∧ Owns (New w.heap.size) Non w' [v] L := by
  obtain ⟨⟨sv, gs, hb, hm⟩, hmap, hs, hin, hall⟩ := id h
  have hgood : KG (D.map fun p => pad p.1) := fun ks hk => by
    obtain ⟨p, hp, rfl⟩ := List.mem_map.1 hk
    exact val_key hs (hall p hp).1
  apply P_tuples_Tuples_Lines.enter
  unfold P_tuples_Tuples_Lines.body
  rw [eq_ptr_nil T.t_p_tuples_Tuples.u]
  simp only [Option.isNone_some, split_false]
  rw [nil_check, field_at T.t_tuples_Tuples.p rfl, load_cell (by kernel_rfl) (hb.cell (o := 0 + 3) rfl)]
  refine kKeys.mono ?_
  rintro _ w1 _ ⟨hx1, gm, rfl, hgm, hbm⟩
  refine (kSorted (KS := D.map fun p => pad p.1) hbm (hmap.ext hx1) (by rw [List.map_map, List.map_map]; rfl) hgood (by simpa using hD)).mono ?_
  rintro kv w2 _ ⟨hx2, gk, M, hpm, hup, hM⟩
  obtain ⟨L, hpl, hLM⟩ := perm_map_ex hpm
  have hlen : M.length = L.length := by rw [← hLM]; simp
  have hlD := hpl.length_eq
  have s1 := hx1.size
  have s2 := hx2.size
  have hx02 := hx1.trans hx2
  rw [len_rm T.t_sl_tuples_key.u hM]
  refine Loop2.range L.length (fun i out w3 => Ext w2 w3 ∧ Owns (New w2.heap.size) Non w3 [out] (L.take i)) (by omega) ⟨Ext.refl _, by rw [List.take_zero]; exact list_nil⟩ ?_ ?_
  rotate_left
  · rintro out w3 kk ⟨hx3, ho⟩
    rw [hlen]
    simp only [binS_lss, split_dec]
    refine ⟨fun h => by omega, fun _ => ⟨hx02.trans hx3, L, ⟨hpl, fun p q x y h1 h2 h3 hx hy => ?_⟩, ?_⟩⟩
    · exact hup p q (pad x.1) (pad y.1) h1 h2 (by omega) (by rw [← hLM, List.getElem?_map, hx]; rfl) (by rw [← hLM, List.getElem?_map, hy]; rfl)
    · rw [List.take_length] at ho
      exact Dat.mono ho (fun r _ h => by have h : w2.heap.size ≤ r := h; show w.heap.size ≤ r; omega) fun _ _ h => h
  rintro i out w3 kk hi ⟨hx3, ho⟩ hkk
  obtain ⟨⟨t, c⟩, hLi⟩ : ∃ p, L[i]? = some p := ⟨_, List.getElem?_eq_getElem hi⟩
  have hmem : (t, c) ∈ D := hpl.mem_iff.1 (List.mem_of_getElem? hLi)
  have hval := (hall _ hmem).1
  have hvl := val_range hs hval
  have htl : t.length = szs.length := hvl.1
  have h6 := hs.1
  have hkey : KeyL (pad t) := val_key hs hval
  have hkl := hkey.1
  have hMi : M[i]? = some (pad t) := by rw [← hLM, List.getElem?_map, hLi]; rfl
  rw [hlen]
  simp only [binS_lss, split_dec]
  refine ⟨fun _ => ?_, fun h => by omega⟩
  rw [get_kr rfl (hM.ext hx3) hMi]
  refine alloc_c T.t_tuples_key.i fun gx w4 hgx hx4 hbx => ?_
  refine store_key hkl rfl hbx fun w5 hc5 hs5 hb5 => ?_
  have s4 := hx4.size
  have lx := hbx.lt
  have hx35 : Ext w3 w5 := hx4.then hc5 (fun r hr he => by have he : r = gx := he; omega)
  intro w6 hx6 _ _
  have hx36 := hx35.trans hx6
  have hx06 := (hx02.trans hx3).trans hx36
  have h6w := h.ext hx06
  obtain ⟨⟨sv6, gs6, hb6, hm6⟩, hmap6, _⟩ := id h6w
  have s6 := hx36.size
  rw [nil_check, field_at T.t_tuples_Tuples.p rfl, load_cell (by kernel_rfl) ((hb.ext hx06).cell (o := 0 + 3) rfl), load_key hkl (hb5.ext hx6).range]
  refine told_look h6w hval (fun c' hc' => ?_) (fun hno => absurd rfl (hno _ hmem))
  have hcc : c' = c := by
    have := pair_uniq h.nodup hc' hmem rfl
    exact congrArg Prod.snd this
  subst hcc
  simp only [Bool.false_eq_true, if_false]
  rw [build_eq (cs := #[.slice none 0 0, .int .i64 c']) (by kernel_rfl)]
  refine alloc_c T.t_tuples_Line.i fun gl w7 hgl hx7 hbl => ?_
  refine ⟨.inl hx7, ?_⟩
  refine store_whole (vs := [.slice none 0 0, .int .i64 c']) T.t_tuples_Line.i rfl rfl (by intro v hv; simp at hv; rcases hv with rfl | rfl <;> rfl) hbl fun w8 hc8 hs8 hb8 => ?_
  have s7 := hx7.size
  have ll := hbl.lt
  have hx68 : Ext w6 w8 := hx7.then hc8 (fun r hr he => by have he : r = gl := he; omega)
  have hx38 := hx36.trans hx68
  have hx08 := hx06.trans hx68
  rw [nil_check, field_at T.t_tuples_Tuples.p rfl, load_cell (by kernel_rfl) ((hb.ext hx08).cell (o := 0 + 0) rfl), len_ls T.t_sl_int.u (hm.ls.ext hx08)]
  rw [slice_array T.t_tuples_key.u T.t_int8.i (l := 0) (h := szs.length) (m := 6) lo_no (hi_lit _ _ rfl) mx_no (by omega) (by omega) (by omega)]
  have hrow := key_row hkl h6 rfl ((hb5.ext hx6).ext hx68)
  rw [← htl, pad_take] at hrow
  rw [← htl, len_ls T.t_sl_int8.u hrow]
  have hbx8 := (hb5.ext hx6).ext hx68
  have lx6 : gx < w6.heap.size := (hb5.ext hx6).lt
  have lgl8 : gl < w8.heap.size := hb8.lt
  refine Loop1.range t.length (fun j w9 => Chg (fun r => r = gl ∨ w8.heap.size ≤ r) w8 w9 ∧ ∃ tv gt, w8.heap.size ≤ gt ∧ Blk w9 gl T.t_tuples_Line [tv, .int .i64 c'] ∧ LM .i64 T.t_int w9 gt tv (t.take j)) (by omega) ⟨Chg.refl _ _, _, w8.heap.size, Nat.le_refl _, hb8, LM.nil _ _ _ _⟩ ?_ ?_
  · rintro j w9 kj hj ⟨hc9, tv, gt, hgt, hb9, hm9⟩ hkj
    obtain ⟨x, hxj⟩ : ∃ x, t[j]? = some x := ⟨_, List.getElem?_eq_getElem hj⟩
    have hx32 := hvl.2 x (List.mem_of_getElem? hxj)
    have hx3w : Ext w3 w9 := hx38.then hc9 (fun r hr he => by rcases he with rfl | he <;> omega)
    have hrow9 := key_row hkl h6 rfl (hbx8.chg hc9 (fun he => by rcases he with he | he <;> omega))
    rw [← htl, pad_take] at hrow9
    simp only [binS_lss, split_dec]
    refine ⟨fun _ => ?_, fun h => by omega⟩
    rw [get_ls T.t_sl_int8.u T.t_int8.i (by kernel_rfl) hrow9 hxj, field_at T.t_tuples_Line.p rfl, load_cell (by kernel_rfl) (hb9.cell (o := 0 + 0) rfl), conv_int T.t_int8.u T.t_int.u, wrap_i64 (by omega) (by omega)]
    refine one_c T.t_sl_int.u T.t_int.i rfl fun a ga w10 hga hx10 ha => ?_
    refine push_lm T.t_sl_int.u T.t_int.i rfl (hm9.ext hx10) ha.ls (by simp; omega) (by simp; omega) fun v' g' w11 hg' hv' hc11 => ?_
    have s9 := hc9.size
    have s10 := hx10.size
    have s11 := hc11.size
    rw [field_at T.t_tuples_Line.p rfl]
    refine store_cell (g := gl) (o := 0) T.t_sl_int.i hv'.ls.cells.1 hv'.ls.cells.2 ((hb9.ext hx10).chg hc11 (fun he => by have he : gl = gt := he; omega)) (by simp) fun w12 hc12 hs12 hb12 => ?_
    simp only [binS_add]
    refine hkj _ ⟨((hc9.trans (hx10.chg _)).trans (hc11.mono fun r _ he => .inr (by have he : r = gt := he; omega))).trans (hc12.mono fun r _ he => .inl he), v', g', by omega, hb12, ?_⟩
    rw [List.take_add_one, hxj]
    exact hv'.chg hc12 (fun _ he => by have he : g' = gl := he; omega)
  · rintro w9 kj ⟨hc9, tv, gt, hgt, hb9, hm9⟩
    simp only [binS_lss, split_dec]
    refine ⟨fun h => by omega, fun _ => ?_⟩
    rw [List.take_length] at hm9
    rw [load_struct T.t_tuples_Line.p T.t_tuples_Line.i rfl hb9.range]
    have s9 := hc9.size
    have hx39 : Ext w3 w9 := hx38.then hc9 (fun r hr he => by rcases he with rfl | he <;> omega)
    have hpair : Owns (New w3.heap.size) Non w9 [tv, .int .i64 c'] (t, c') := ⟨[tv], [.int .i64 c'], New w3.heap.size, Non, rfl, fun _ h => h, fun _ h => h.elim, fun _ _ _ h => h, Dat.mono (lm_own hm9) (fun r _ h => by subst h; show w3.heap.size ≤ r; omega) (fun _ _ h => h), rfl⟩
    refine one_dat (α := List Int × Int) (a := (t, c')) (cs := [tv, .int .i64 c']) (A := New w3.heap.size) (R := Non) T.t_sl_tuples_Line.u T.t_tuples_Line.i (by decide) rfl hpair fun u w10 hx10 _ hu10 => ?_
    have hx3a := hx39.trans hx10
    have s10 := hx3a.size
    refine push_dat (α := List Int × Int) (a := (t, c')) (A := New w3.heap.size) T.t_sl_tuples_Line.u T.t_tuples_Line.i rfl (rep_ext (rep_old ho) hx3a) hu10 (rep_ext hpair hx10) (fun r _ h h' => ?_) (by simp; omega) (by simp; omega) fun v' w11 hv' hc11 => ?_
    · rcases h' with h' | h'
      · have := h.2; have : w3.heap.size ≤ r := h'; omega
      · exact h'
    simp only [binS_add]
    have s3 := hx3.size
    refine hkk _ _ ⟨(hx3.trans hx3a).then hc11 (fun r hr h => by have h := h.1; have h : w2.heap.size ≤ r := h; omega), ?_⟩
    rw [List.take_add_one, hLi]
    refine Dat.mono hv' (fun r _ h => ?_) fun _ _ h => h
    show w2.heap.size ≤ r
    rcases h with h | h | h
    · exact h.1
    · have h : w3.heap.size ≤ r := h; omega
    · omega
end Go.Proofs.Ytahhkeljejfgfaa

