/- Lists of numbers: without doubles, and one behind the other. -/
import Derived.Test.YtahhkeljejfgfaaDoorL20
namespace Go.Proofs.YtahhkeljejfgfaaDoor
open Go Go.Vc Go.RowKit Go.Proofs Go.Proofs.Tryd
set_option maxRecDepth 100000

theorem LM_open {k : IntKind} {e : TypeId} {w : World} {g n cap : Nat} {b : Option Addr} {l : List Int} (h : LM k e w g (.slice b n cap) l) (h0 : 0 < l.length) :
    b = some ⟨g, 0, none⟩ ∧ n = l.length ∧ ∃ cs, Blk w g e cs ∧ n ≤ cap ∧ cap ≤ maxLen ∧ cs.length = cap ∧ cs.take n = ints k l := by
  obtain ⟨_, ⟨_, h1⟩ | ⟨cap', cs, h1, h2, h3, h4, h5, h6⟩⟩ := h
  · omega
  · cases h1
    exact ⟨rfl, rfl, cs, h2, h3, h4, by simpa using h5, by simpa using h6⟩
theorem tail_ls {w : World} {g n cap j : Nat} {l : List Int} (h : LM .i64 T.t_int w g (.slice (some ⟨g, 0, none⟩) n cap) l) (hj : j < l.length) : LS .i64 w (.slice (some ⟨g, j, none⟩) (n - j) (cap - j)) (l.drop j) := by
  obtain ⟨_, hn, cs, hb, h1, h2, h3, h4⟩ := LM_open h (by omega)
  have := blk_sl (o := j) (k := n - j) (c := cap - j) hb (by omega) (by omega) (by omega)
  refine LS.of (n := n - j) ?_
  have e : (cs.drop j).take (n - j) = ints .i64 (l.drop j) := by
    rw [← List.drop_take, h4, ints, ints, List.map_drop]
  rw [e] at this
  exact this

set_option maxHeartbeats 1000000 in
theorem sCompact {sv : Value} {l : List Int} {g : Nat} {w : World} (h : LM .i64 T.t_int w g sv l) (hl : l.length ≤ 1000) :
    Cal prog F.slices_Compact_int_int [sv] w fun v w' => Chg (fun r => r = g) w w' ∧ LM .i64 T.t_int w' g v (dedup l l.length) := by
  apply slices_Compact_int_int.enter
  unfold slices_Compact_int_int.body
  rw [len_ls T.t_sl_int.u h.ls]
  simp only [binS_lss, split_dec]
  refine ⟨fun hsm => ⟨Chg.refl _ _, ?_⟩, fun hbig => ?_⟩
  · rw [dedup_all (Nat.le_refl _) (fun i hi h0 => by omega), List.take_length]; exact h
  obtain ⟨n, hn⟩ : ∃ n, l.length = n := ⟨_, rfl⟩
  obtain ⟨cap, rfl⟩ : ∃ cap, sv = .slice (some ⟨g, 0, none⟩) n cap := by
    obtain ⟨_, ⟨_, h1⟩ | ⟨cap', cs, h1, _⟩⟩ := id h
    · omega
    · exact ⟨cap', by rw [h1, hn]⟩
  obtain ⟨_, _, _, _, hnc, hcm, _⟩ := LM_open h (by omega)
  refine ⟨fun _ t w1 => ∃ j : Nat, t = .int .i64 (j : Int) ∧ 1 ≤ j ∧ j ≤ n ∧ Ext w w1 ∧ ∀ i, i < j → 0 < i → l[i]? ≠ l[i - 1]?, fun _ t _ => n - (ival t).toNat, ⟨1, rfl, by omega, by omega, Ext.refl _, fun i h1 h2 => by omega⟩, ?_⟩
  rintro t2 _ w1 ⟨j, rfl, hj1, hjn, hx1, hne⟩
  rw [len_ls T.t_sl_int.u (h.ls.ext hx1)]
  simp only [binS_lss, split_dec, Drew]
  refine ⟨fun hlt w2 hx2 _ _ => ?_, fun hge => ⟨hx1.chg _, ?_⟩⟩
  · have hlt : j < n := by omega
    have hx02 := hx1.trans hx2
    have hls2 := h.ls.ext hx02
    obtain ⟨a, ha⟩ : ∃ a, l[j]? = some a := ⟨_, List.getElem?_eq_getElem (by omega)⟩
    obtain ⟨b, hb⟩ : ∃ b, l[j - 1]? = some b := ⟨_, List.getElem?_eq_getElem (by omega)⟩
    rw [get_ls T.t_sl_int.u T.t_int.i (by kernel_rfl) hls2 ha]
    simp only [binS_sub]
    rw [wrap_i64 (by omega) (by omega), get_ls_at (i := j - 1) (by omega) T.t_sl_int.u T.t_int.i (by kernel_rfl) hls2 hb]
    simp only [binS_eql, split_dec, binS_add]
    refine ⟨fun hab => ?_, fun hab => ?_⟩
    · subst hab
      rw [slice_slice T.t_sl_int.u T.t_int.i (l := j) (h := n) (m := cap) lo_at hi_no mx_no (by omega) (by omega) (by omega), if_neg (by omega)]
      have e0 : Option.map (fun x : Addr => x.add (j * 1)) (some ⟨g, 0, none⟩) = some ⟨g, j, none⟩ := by simp [Addr.add_mid]
      rw [e0]
      have hd0 : dedup l (j + 1) = l.take j := by rw [dedup_same (by omega) (by rw [ha, hb]), dedup_all (by omega) hne]
      refine ⟨fun kv t w3 => ∃ (q k2 : Nat) (cur : List Int), kv = .int .i64 (q : Int) ∧ t = .int .i64 (k2 : Int) ∧ 1 ≤ k2 ∧ j + k2 ≤ n ∧ Chg (fun r => r = g) w w3 ∧ LM .i64 T.t_int w3 g (.slice (some ⟨g, 0, none⟩) n cap) cur ∧ cur.length = n ∧
          q = (dedup l (j + k2)).length ∧ cur.take q = dedup l (j + k2) ∧ q ≤ j + k2 - 1 ∧ ∀ i, j + k2 - 1 ≤ i → cur[i]? = l[i]?, fun _ t _ => n - (ival t).toNat,
        ⟨j, 1, l, rfl, rfl, by omega, by omega, hx02.chg _, h.ext hx02, hn, by rw [hd0, List.length_take]; omega, by rw [hd0], by omega, fun i _ => rfl⟩, ?_⟩
      rintro _ _ w3 ⟨q, k2, cur, rfl, rfl, hk1, hkn, hc3, hm3, hcl, hq, htk, hqk, hrest⟩
      rw [len_slice T.t_sl_int.u]
      simp only [binS_lss, split_dec, Drew]
      refine ⟨fun hk2 => ?_, fun hk2 => ?_⟩
      · have hk2 : j + k2 < n := by omega
        refine join1 (fun kv w4 => ∃ (q : Nat) (cur : List Int), kv = .int .i64 (q : Int) ∧ Chg (fun r => r = g) w w4 ∧ LM .i64 T.t_int w4 g (.slice (some ⟨g, 0, none⟩) n cap) cur ∧ cur.length = n ∧
          q = (dedup l (j + (k2 + 1))).length ∧ cur.take q = dedup l (j + (k2 + 1)) ∧ q ≤ j + (k2 + 1) - 1 ∧ ∀ i, j + (k2 + 1) - 1 ≤ i → cur[i]? = l[i]?) ?_ ?_
        · rintro _ w4 ⟨q, cur, rfl, h1, h2, h3, h4, h5, h6, h7⟩
          simp only [binS_add]
          rw [wrap_i64 (by omega) (by omega)]
          exact ⟨⟨q, k2 + 1, cur, rfl, rfl, by omega, by omega, h1, h2, h3, h4, h5, h6, h7⟩, by simp only [ival]; omega⟩
        · intro J hJ w5 hx5 _ _
          have hm5 := hm3.ext hx5
          have ht5 := tail_ls (j := j) hm5 (by omega)
          obtain ⟨y, hy⟩ : ∃ y, l[j + k2]? = some y := ⟨_, List.getElem?_eq_getElem (by omega)⟩
          obtain ⟨z, hz⟩ : ∃ z, l[j + k2 - 1]? = some z := ⟨_, List.getElem?_eq_getElem (by omega)⟩
          have hy' : (cur.drop j)[k2]? = some y := by rw [List.getElem?_drop, hrest _ (by omega), hy]
          have hz' : (cur.drop j)[k2 - 1]? = some z := by rw [List.getElem?_drop, hrest _ (by omega), ← hz]; congr 1; omega
          rw [get_ls T.t_sl_int.u T.t_int.i (by kernel_rfl) ht5 hy']
          simp only [binS_sub]
          rw [wrap_i64 (by omega) (by omega), get_ls_at (i := k2 - 1) (by omega) T.t_sl_int.u T.t_int.i (by kernel_rfl) ht5 hz']
          simp only [binS_neq, split_dec, binS_add]
          refine ⟨fun hyz => ?_, fun hyz => ?_⟩
          · rw [get_ls T.t_sl_int.u T.t_int.i (by kernel_rfl) ht5 hy', idx_lm rfl T.t_sl_int.u T.t_int.i hm5 (by omega)]
            refine store_lm T.t_int.i hm5 (by omega) fun w6 hc6 hs6 hm6 => ?_
            rw [wrap_i64 (by omega) (by omega)]
            have hdn : dedup l (j + k2 + 1) = dedup l (j + k2) ++ [y] := dedup_new hy (fun _ => by rw [hy, hz]; simpa using hyz)
            refine hJ _ _ ⟨q + 1, _, rfl, (hc3.trans (hx5.chg _)).trans hc6, hm6, by simpa using hcl, ?_, ?_, by omega, fun i hi => ?_⟩
            · rw [← Nat.add_assoc, hdn]; simp; omega
            · rw [← Nat.add_assoc, hdn, List.take_add_one, List.getElem?_set_self (by omega), List.take_set_of_le (Nat.le_refl _), htk]; rfl
            · rw [List.getElem?_set_ne (by omega)]; exact hrest i (by omega)
          · have hyz : y = z := Decidable.not_not.1 hyz
            have hds : dedup l (j + k2 + 1) = dedup l (j + k2) := dedup_same (by omega) (by rw [hy, hz, hyz])
            exact hJ _ _ ⟨q, cur, rfl, hc3.trans (hx5.chg _), hm5, hcl, by rw [← Nat.add_assoc, hds]; exact hq, by rw [← Nat.add_assoc, hds]; exact htk, by omega, fun i hi => hrest i (by omega)⟩
      · have hk : j + k2 = n := by omega
        rw [hk] at hq htk hqk
        obtain ⟨_, _, cs, hbk, _, _, hcs, hct⟩ := LM_open hm3 (by omega)
        simp only [maxLen] at hcm
        rw [slice_slice T.t_sl_int.u T.t_int.i (l := q) (h := n) (m := cap) lo_at hi_no mx_no (by omega) (by omega) (by omega), if_neg (by omega)]
        have e1 : Option.map (fun x : Addr => x.add (q * 1)) (some ⟨g, 0, none⟩) = some ⟨g, q, none⟩ := by simp [Addr.add_mid]
        rw [e1]
        refine clear_c T.t_sl_int.u T.t_int.i rfl rfl hbk (by omega) (by omega) fun w7 hc7 hs7 hb7 => ?_
        rw [slice_slice T.t_sl_int.u T.t_int.i (l := 0) (h := q) (m := cap) lo_no hi_at mx_no (by omega) (by omega) (by omega), if_neg (by omega)]
        have e2 : Option.map (fun x : Addr => x.add (0 * 1)) (some ⟨g, 0, none⟩) = some ⟨g, 0, none⟩ := by simp [Addr.add_mid]
        rw [e2, hn]
        refine ⟨hc3.trans hc7, ?_⟩
        rw [← htk]
        refine LM.of (n := q) ⟨by simp; omega, .inr ⟨cap, _, by simp, hb7, by omega, by simp only [maxLen]; omega, by rw [over_length]; omega, ?_⟩⟩
        rw [Nat.mul_one]
        apply List.ext_getElem?
        intro i
        by_cases hi : i < q
        · rw [List.getElem?_take_of_lt hi, over_get _ _ _ (by simp; omega), if_neg (by omega), ints, List.getElem?_map, List.getElem?_take_of_lt hi]
          have : (cs.take n)[i]? = (ints .i64 cur)[i]? := by rw [hct]
          rw [List.getElem?_take_of_lt (by omega), ints, List.getElem?_map] at this
          exact this
        · rw [List.getElem?_eq_none (by simp; omega), List.getElem?_eq_none (by simp; omega)]
    · rw [wrap_i64 (by omega) (by omega)]
      refine ⟨⟨j + 1, rfl, by omega, by omega, hx02, fun i hi h0 => ?_⟩, by simp only [ival]; omega⟩
      by_cases hij : i = j
      · subst hij; rw [ha, hb]; intro he; exact hab (Option.some.inj he)
      · exact hne i (by omega) h0
  · have hjn : j = n := by omega
    rw [dedup_all (Nat.le_refl _) (by rw [hn, ← hjn]; exact hne), List.take_length]
    exact h.ext hx1
end Go.Proofs.YtahhkeljejfgfaaDoor
