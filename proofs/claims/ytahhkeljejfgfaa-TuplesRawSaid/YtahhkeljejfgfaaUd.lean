/- Keys sorted: the whole. -/
import Derived.Test.YtahhkeljejfgfaaUc
namespace Go.Proofs.Ytahhkeljejfgfaa
open Go Go.Vc Go.RowKit Go.Proofs Go.Proofs.Try
set_option maxRecDepth 100000

/-- all is in order but what lies in places c to d -/
def OutR (M : List (List Int)) (a b c d : Nat) : Prop := ∀ (p q : Nat) (x y : List Int), a ≤ p → p < q → q < b → ¬ (c ≤ p ∧ q < d) → M[p]? = some x → M[q]? = some y → numK x ≤ numK y
theorem OutR.swap {M N : List (List Int)} {a b c d : Nat} (h : OutR M a b c d) (hs : SwapR c d M N) (hac : a ≤ c) (hdb : d ≤ b) (hbl : b ≤ M.length) : OutR N a b c d := fun p q x y h1 h2 h3 h4 hx hy => by
  by_cases hp : c ≤ p ∧ p < d
  · rw [hs.out (r := q) (by omega)] at hy
    refine hs.all (p := fun t => numK t ≤ numK y) (fun r t hr1 hr2 ht => ?_) p x hp.1 hp.2 hx
    exact h r q t y (by omega) (by omega) h3 (by omega) ht hy
  · rw [hs.out (r := p) (by omega)] at hx
    by_cases hq : c ≤ q ∧ q < d
    · refine hs.all (p := fun t => numK x ≤ numK t) (fun r t hr1 hr2 ht => ?_) q y hq.1 hq.2 hy
      exact h p r x t h1 (by omega) (by omega) (by omega) hx ht
    · rw [hs.out (r := q) (by omega)] at hy
      exact h p q x y h1 h2 h3 h4 hx hy
theorem OutR.done {M : List (List Int)} {a b c d : Nat} (h : OutR M a b c d) (hu : UpR numK M c d) : UpR numK M a b := fun p q x y h1 h2 h3 hx hy => by
  by_cases hc : c ≤ p ∧ q < d
  · exact hu p q x y hc.1 h2 hc.2 hx hy
  · exact h p q x y h1 h2 h3 hc hx hy
theorem pre_at {L M : List (List Int)} {a b c d : Nat} (hpre : PreR L a b) (hs : SwapR a b L M) (h : OutR M a b c d) (hac : a ≤ c) (hdb : d ≤ b) : PreR M c d := fun x h0 hx r y hr1 hr2 hy => by
  by_cases hca : c = a
  · subst hca
    exact hpre.swap hs x h0 hx r y hr1 (by omega) hy
  · exact h (c - 1) r x y (by omega) (by omega) (by omega) (by omega) hx hy
/-- the left part is in order: what is left lies behind the cut -/
theorem out_left {M : List (List Int)} {a b c d j : Nat} (h : OutR M a b c d) (hp : PartR M c j d) (hu : UpR numK M c j) (hj : j < d) (hbl : b ≤ M.length) (hdb : d ≤ b) : OutR M a b (j + 1) d := fun p q x y h1 h2 h3 h4 hx hy => by
  obtain ⟨z, hz, hlo, hhi⟩ := hp
  by_cases hc : c ≤ p ∧ q < d
  · by_cases hpj : p = j
    · subst hpj; rw [hz] at hx; cases hx; exact hhi q y h2 hc.2 hy
    · have hpj2 : p < j := by omega
      by_cases hqj : q < j
      · exact hu p q x y hc.1 h2 hqj hx hy
      · have e1 := hlo p x hc.1 hpj2 hx
        by_cases hqe : q = j
        · subst hqe; rw [hz] at hy; cases hy; exact e1
        · have e2 := hhi q y (by omega) hc.2 hy
          omega
  · exact h p q x y h1 h2 h3 hc hx hy
theorem out_right {M : List (List Int)} {a b c d j : Nat} (h : OutR M a b c d) (hp : PartR M c j d) (hu : UpR numK M (j + 1) d) (hj : c ≤ j) : OutR M a b c j := fun p q x y h1 h2 h3 h4 hx hy => by
  obtain ⟨z, hz, hlo, hhi⟩ := hp
  by_cases hc : c ≤ p ∧ q < d
  · by_cases hqj : q = j
    · subst hqj; rw [hz] at hy; cases hy; exact hlo p x hc.1 h2 hx
    · have hqj2 : j < q := by omega
      by_cases hpj : j < p
      · exact hu p q x y (by omega) h2 hc.2 hx hy
      · have e1 := hhi q y hqj2 hc.2 hy
        by_cases hpe : p = j
        · subst hpe; rw [hz] at hx; cases hx; exact e1
        · have e2 := hlo p x hc.1 (by omega) hx
          omega
  · exact h p q x y h1 h2 h3 hc hx hy
theorem PartR.swapL {M N : List (List Int)} {c j d : Nat} (h : PartR M c j d) (hs : SwapR c j M N) : PartR N c j d := by
  obtain ⟨z, hz, hlo, hhi⟩ := h
  exact ⟨z, by rw [hs.out (by omega)]; exact hz, hs.all hlo, fun r x h1 h2 hx => hhi r x h1 h2 (by rw [← hs.out (by omega)]; exact hx)⟩
theorem PartR.swapR {M N : List (List Int)} {c j d : Nat} (h : PartR M c j d) (hs : SwapR (j + 1) d M N) : PartR N c j d := by
  obtain ⟨z, hz, hlo, hhi⟩ := h
  refine ⟨z, by rw [hs.out (by omega)]; exact hz, fun r x h1 h2 hx => hlo r x h1 h2 (by rw [← hs.out (by omega)]; exact hx), fun r x h1 h2 hx => ?_⟩
  exact hs.all (p := fun t => numK z ≤ numK t) (fun r t g1 g2 ht => hhi r t (by omega) g2 ht) r x (by omega) h2 hx

set_option maxHeartbeats 4000000 in
theorem kPdq : ∀ (n : Nat) {w : World} {g a b : Nat} {v : Value} {L : List (List Int)} {lim : Int}, b - a < n → KR w g v L → KG L → a ≤ b → b ≤ L.length → L.length < 256 → PreR L a b →
    Cal prog F.slices_pdqsortCmpFunc_pennyweight_tuples_key [v, .int .i64 (a : Int), .int .i64 (b : Int), .int .i64 lim, cmpF] w fun _ w' => SortK w g v L a b (fun M => UpR numK M a b) w' := by
  intro n
  induction n with
  | zero => intro w g a b v L lim h; omega
  | succ n IH =>
  intro w g a b v L lim hn h hG hab hb hL hpre
  apply slices_pdqsortCmpFunc_pennyweight_tuples_key.enter
  unfold slices_pdqsortCmpFunc_pennyweight_tuples_key.body
  refine ⟨fun s t u p q w1 => ∃ (c d : Nat) (M : List (List Int)) (lim : Int) (wb wp : Bool), s = .int .i64 (c : Int) ∧ t = .int .i64 (d : Int) ∧ u = .int .i64 lim ∧ p = .bool wb ∧ q = .bool wp ∧ a ≤ c ∧ c ≤ d ∧ d ≤ b ∧ Chg (fun r => leadsTo v r) w w1 ∧ KR w1 g v M ∧ SwapR a b L M ∧ OutR M a b c d, fun s t _ _ _ _ => (ival t).toNat - (ival s).toNat,
    ⟨a, b, L, lim, true, true, rfl, rfl, rfl, rfl, rfl, Nat.le_refl _, hab, Nat.le_refl _, Chg.refl _ _, h, .refl, fun p q x y h1 h2 h3 h4 => absurd ⟨h1, h3⟩ h4⟩, ?_⟩
  rintro _ _ _ _ _ w1 ⟨c, d, M, lim, wb, wp, rfl, rfl, rfl, rfl, rfl, hac, hcd, hdb, hc1, hm1, hsw1, hout⟩
  have hml := hsw1.len
  have hMG := hG.perm hsw1.perm
  have hpre1 : PreR M c d := pre_at hpre hsw1 hout hac hdb
  -- sorted at last
  have fin : ∀ {w2 w3 : World} {N : List (List Int)}, Chg (fun r => leadsTo v r) w w3 → KR w3 g v N → SwapR c d M N → UpR numK N c d → SortK w g v L a b (fun M => UpR numK M a b) w3 := fun {w2 w3 N} hc hm hs hu =>
    ⟨hc, N, hsw1.trans (hs.mono hac hdb), hm, (hout.swap hs hac hdb (by omega)).done hu⟩
  rw [binS_sub, wrap_i64 (by omega) (by omega), binS_leq, split_dec]
  refine ⟨fun h12 => ?_, fun h12 => ?_⟩
  · refine (kInsSort hm1 hMG hcd (by omega) (by omega)).mono ?_
    rintro _ w2 _ ⟨hc2, N, hs, hu, hm2⟩
    exact fin (w2 := w2) (hc1.trans hc2) hm2 hs hu
  have h12 : c + 12 < d := by omega
  rw [binS_eql, split_dec]
  refine ⟨fun _ => ?_, fun _ => ?_⟩
  · refine (kHeapSort hm1 hMG h12 (by omega) (by omega)).mono ?_
    rintro _ w3 _ ⟨hc3, N, hs, hm3, hu⟩
    exact fin (w2 := w3) (hc1.trans hc3) hm3 hs hu
  -- patterns broken
  refine join1 (fun t w4 => ∃ (l : Int) (N : List (List Int)), t = .int .i64 l ∧ Chg (fun r => leadsTo v r) w w4 ∧ KR w4 g v N ∧ SwapR c d M N) ?_ ?_
  rotate_left
  · intro J hJ
    simp only [un_not, split_bool]
    refine ⟨fun _ => ?_, fun _ => hJ _ _ ⟨lim, M, rfl, hc1, hm1, .refl⟩⟩
    refine (kBreak hm1 hMG h12 (by omega) (by omega)).mono ?_
    rintro _ w18 _ ⟨hc18, N, hs, hm18, _⟩
    rw [binS_sub]
    exact hJ _ _ ⟨_, N, rfl, hc1.trans hc18, hm18, hs⟩
  rintro _ w4 ⟨lim2, M4, rfl, hc4, hm4, hs4⟩
  have hl4 := hs4.len
  have hG4 := hMG.perm hs4.perm
  refine (kChoose hm4 hG4 h12 (by omega) (by omega)).mono ?_
  rintro _ w5 _ ⟨hx5, hm5, pv, hint, rfl, hpv1, hpv2⟩
  rw [extract_tuple (v := .int .i64 (pv : Int)) rfl, extract_tuple (v := .int .i64 hint) rfl]
  have hc5 := hc4.trans (hx5.chg _)
  refine join2 (fun s t w6 => ∃ (pv : Nat) (hint : Int) (N : List (List Int)), s = .int .i64 (pv : Int) ∧ t = .int .i64 hint ∧ c ≤ pv ∧ pv < d ∧ Chg (fun r => leadsTo v r) w w6 ∧ KR w6 g v N ∧ SwapR c d M N) ?_ ?_
  rotate_left
  · intro J1 hJ1
    simp only [binS_eql, split_dec]
    refine ⟨fun _ => ?_, fun _ => hJ1 _ _ _ ⟨pv, hint, M4, rfl, rfl, hpv1, hpv2, hc5, hm5, hs4⟩⟩
    refine (kReverse hm5 hG4 (by omega) (by omega) (by omega)).mono ?_
    rintro _ w17 _ ⟨hc17, N, hs, hm17, _⟩
    simp only [binS_sub]
    rw [wrap_i64 (x := (d : Int) - 1) (by omega) (by omega), wrap_i64 (x := (pv : Int) - c) (by omega) (by omega), wrap_i64 (by omega) (by omega)]
    exact hJ1 _ _ _ ⟨d - 1 - (pv - c), 1, N, by congr 1; omega, rfl, by omega, by omega, hc5.trans hc17, hm17, hs4.trans hs⟩
  rintro _ _ w6 ⟨pv, hint, M6, rfl, rfl, hpv1, hpv2, hc6, hm6, hs6⟩
  have hl6 := hs6.len
  have hG6 := hMG.perm hs6.perm
  refine join0 (fun w7 => ∃ N, Chg (fun r => leadsTo v r) w w7 ∧ KR w7 g v N ∧ SwapR c d M N) ?_ ?_
  rotate_left
  · intro J2 hJ2
    refine join1 (fun t w15 => w6 = w15 ∧ ∃ c, t = .bool c) ?_ ?_
    · rintro _ _ ⟨rfl, cc, rfl⟩
      rw [split_bool]
      refine ⟨fun _ => ?_, fun _ => hJ2 _ ⟨M6, hc6, hm6, hs6⟩⟩
      refine (kPartial hm6 hG6 h12 (by omega) (by omega) (hpre1.swap hs6)).mono ?_
      rintro _ w16 _ ⟨e, rfl, hc16, N, hs, hm16, hu⟩
      rw [split_bool]
      exact ⟨fun ht => fin (w2 := w16) (hc6.trans hc16) hm16 (hs6.trans hs) (hu ht), fun _ => hJ2 _ ⟨N, hc6.trans hc16, hm16, hs6.trans hs⟩⟩
    · intro J4 hJ4
      simp only [split_bool, binS_eql]
      exact ⟨fun _ => ⟨fun _ => hJ4 _ _ ⟨rfl, _, rfl⟩, fun _ => hJ4 _ _ ⟨rfl, _, rfl⟩⟩, fun _ => hJ4 _ _ ⟨rfl, _, rfl⟩⟩
  rintro w7 ⟨M7, hc7, hm7, hs7⟩
  have hl7 := hs7.len
  have hG7 := hMG.perm hs7.perm
  have hsw7 : SwapR a b L M7 := hsw1.trans (hs7.mono hac hdb)
  have hpre7 : PreR M7 c d := hpre1.swap hs7
  obtain ⟨pk, hpk⟩ : ∃ k, M7[pv]? = some k := ⟨_, List.getElem?_eq_getElem (by omega)⟩
  refine join1 (fun t w8 => Ext w7 w8 ∧ ∃ e, t = .bool e ∧ (e = true → 0 < c ∧ ∃ x, M7[c - 1]? = some x ∧ numK pk ≤ numK x)) ?_ ?_
  rotate_left
  · intro J3 hJ3 w13 hx13 _ _
    have hm13 := hm7.ext hx13
    simp only [binS_gtr, split_dec]
    refine ⟨fun h0 => ?_, fun _ => hJ3 _ _ ⟨hx13, false, rfl, fun h => by cases h⟩⟩
    obtain ⟨x, hx⟩ : ∃ k, M7[c - 1]? = some k := ⟨_, List.getElem?_eq_getElem (by omega)⟩
    rw [binS_sub, wrap_i64 (by omega) (by omega), get_kr (i := c - 1) (by omega) hm13 hx, get_kr rfl hm13 hpk]
    refine less_kr (hG7.at hx) (hG7.at hpk) fun q w14 hx14 hq => ?_
    simp only [binS_lss, un_not]
    refine hJ3 _ _ ⟨hx13.trans hx14, _, rfl, fun h => ⟨by omega, x, hx, ?_⟩⟩
    have h1 : ¬ q < 0 := by simpa using h
    have := mt hq.2 h1
    omega
  rintro _ w8 ⟨hx8, e, rfl, hee⟩
  have hc8 := hc7.trans (hx8.chg _)
  have hm8 := hm7.ext hx8
  rw [split_bool]
  refine ⟨fun het => ?_, fun _ => ?_⟩
  · -- the equal ones
    obtain ⟨h0, x, hx, hpx⟩ := hee het
    refine (kPartEq hm8 hG7 h12 (by omega) (by omega) hpv1 hpv2).mono ?_
    rintro _ w9 _ ⟨i, p, rfl, hi1, hi2, hpp, hc9, M9, hs9, hm9, heq⟩
    rw [hpk] at hpp
    cases hpp
    have hs79 := hs7.trans hs9
    have hout9 : OutR M9 a b c d := hout.swap hs79 hac hdb (by omega)
    have hpre9 : PreR M9 c d := hpre7.swap hs9
    have hx9 : M9[c - 1]? = some x := by rw [hs9.out (by omega)]; exact hx
    refine ⟨⟨i, d, M9, lim2, wb, wp, rfl, rfl, rfl, rfl, rfl, by omega, hi2, hdb, hc8.trans hc9, hm9, hsw1.trans (hs79.mono hac hdb), fun p q u z g1 g2 g3 g4 hu hz => ?_⟩, ?_⟩
    · by_cases hcq : c ≤ p ∧ q < d
      · have hpi : p < i := by omega
        have e1 : numK u ≤ numK pk := by
          by_cases hpc : p = c
          · subst hpc; rw [heq.1] at hu; cases hu; exact Int.le_refl _
          · exact heq.2.1 p u (by omega) hpi hu
        have e2 := hpre9 x h0 hx9 q z (by omega) hcq.2 hz
        omega
      · exact hout9 p q u z g1 g2 g3 hcq hu hz
    · simp only [ival]; omega
  · refine (kPartition hm8 hG7 h12 (by omega) (by omega) hpv1 hpv2).mono ?_
    rintro _ w10 _ ⟨j, e2, rfl, hj1, hj2, hc10, M10, hs10, hm10, hpart⟩
    rw [extract_tuple (v := .int .i64 (j : Int)) rfl, extract_tuple (v := .bool e2) rfl]
    have hs710 := hs7.trans hs10
    have hl10 := hs710.len
    have hG10 := hMG.perm hs710.perm
    have hout10 : OutR M10 a b c d := hout.swap hs710 hac hdb (by omega)
    have hpre10 : PreR M10 c d := hpre7.swap hs10
    have hc010 := hc8.trans hc10
    simp only [binS_sub]
    rw [wrap_i64 (x := (j : Int) - c) (by omega) (by omega), wrap_i64 (x := (d : Int) - j) (by omega) (by omega), binS_quo (by decide)]
    simp only [binS_lss, binS_geq, split_dec]
    refine ⟨fun _ => ?_, fun _ => ?_⟩
    · refine (IH (a := c) (b := j) (by omega) hm10 hG10 hj1 (by omega) (by omega) (fun x h0 hx r y g1 g2 hy => hpre10 x h0 hx r y g1 (by omega) hy)).mono ?_
      rintro _ w11 _ ⟨hc11, M11, hs11, hm11, hu11⟩
      have hs711 := hs710.trans (hs11.mono (Nat.le_refl _) (by omega))
      have hl11 := hs711.len
      rw [binS_add, wrap_i64 (by omega) (by omega)]
      refine ⟨⟨j + 1, d, M11, lim2, _, e2, by congr 1, rfl, rfl, rfl, rfl, by omega, by omega, hdb, hc010.trans hc11, hm11, hsw1.trans (hs711.mono hac hdb), out_left (hout.swap hs711 hac hdb (by omega)) (hpart.swapL hs11) hu11 hj2 (by omega) hdb⟩, ?_⟩
      simp only [ival]; omega
    · rw [binS_add, wrap_i64 (by omega) (by omega), show (j : Int) + 1 = ((j + 1 : Nat) : Int) by omega]
      obtain ⟨z, hz, hlo, hhi⟩ := id hpart
      refine (IH (a := j + 1) (b := d) (by omega) hm10 hG10 (by omega) (by omega) (by omega) (fun x h0 hx r y g1 g2 hy => by
        rw [Nat.add_sub_cancel, hz] at hx; cases hx; exact hhi r y (by omega) g2 hy)).mono ?_
      rintro _ w12 _ ⟨hc12, M12, hs12, hm12, hu12⟩
      have hs712 := hs710.trans (hs12.mono (by omega) (Nat.le_refl _))
      have hl12 := hs712.len
      refine ⟨⟨c, j, M12, lim2, _, e2, rfl, rfl, rfl, rfl, rfl, hac, hj1, by omega, hc010.trans hc12, hm12, hsw1.trans (hs712.mono hac hdb), out_right (hout.swap hs712 hac hdb (by omega)) (hpart.swapR hs12) hu12 hj1⟩, ?_⟩
      simp only [ival]; omega

/-- sorted: the list is the only one in order that has these keys -/
theorem kSortFunc {w : World} {g : Nat} {v : Value} {L : List (List Int)} (h : KR w g v L) (hG : KG L) (hL : L.length < 256) :
    Cal prog F.slices_SortFunc_pennyweight_tuples_key_pennyweight_tuples_key [v, cmpF] w fun _ w' => Chg (fun r => leadsTo v r) w w' ∧ ∃ M, M.Perm L ∧ UpR numK M 0 M.length ∧ KR w' g v M := by
  apply slices_SortFunc_pennyweight_tuples_key_pennyweight_tuples_key.enter
  unfold slices_SortFunc_pennyweight_tuples_key_pennyweight_tuples_key.body
  rw [len_rm T.t_sl_tuples_key.u h, conv_int T.t_int.u T.t_uint.u, wrap_u64 (by omega) (by omega)]
  refine (bLenX hL).mono ?_
  rintro _ w1 _ ⟨rfl, hx1⟩
  refine (kPdq (L.length + 1) (a := 0) (b := L.length) (by omega) (h.ext hx1) hG (Nat.zero_le _) (Nat.le_refl _) hL (fun x h0 => by omega)).mono ?_
  rintro _ w2 _ ⟨hc2, M, hs, hm2, hu⟩
  exact ⟨(hx1.chg _).trans hc2, M, hs.perm, by rw [hs.len]; exact hu, hm2⟩
end Go.Proofs.Ytahhkeljejfgfaa

