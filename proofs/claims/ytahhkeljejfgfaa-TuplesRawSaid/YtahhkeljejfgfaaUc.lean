/- Keys sorted by a heap. -/
import Derived.Test.YtahhkeljejfgfaaUb
namespace Go.Proofs.Ytahhkeljejfgfaa
open Go Go.Vc Go.RowKit Go.Proofs Go.Proofs.Try
set_option maxRecDepth 100000

def Child (c i : Nat) : Prop := c = 2 * i + 1 ∨ c = 2 * i + 2
/-- a heap of n, from node lo on -/
def HeapR (M : List (List Int)) (s lo n : Nat) : Prop := ∀ (i c : Nat) (x y : List Int), lo ≤ i → Child c i → c < n → M[s + i]? = some x → M[s + c]? = some y → numK y ≤ numK x
def SiftI (M : List (List Int)) (s lo n root : Nat) : Prop :=
  (∀ (i c : Nat) (x y : List Int), lo ≤ i → i ≠ root → Child c i → c < n → M[s + i]? = some x → M[s + c]? = some y → numK y ≤ numK x) ∧
  (∀ (i c : Nat) (x y : List Int), lo ≤ i → Child root i → Child c root → c < n → M[s + i]? = some x → M[s + c]? = some y → numK y ≤ numK x)
theorem sift_start {M : List (List Int)} {s lo n : Nat} (h : HeapR M s (lo + 1) n) : SiftI M s lo n lo :=
  ⟨fun i c x y h1 h2 h3 h4 h5 h6 => h i c x y (by omega) h3 h4 h5 h6, fun i c x y h1 h2 => by unfold Child at h2; omega⟩
theorem sift_done {M : List (List Int)} {s lo n root : Nat} (h : SiftI M s lo n root) (hr : ∀ (c : Nat) (x y : List Int), Child c root → c < n → M[s + root]? = some x → M[s + c]? = some y → numK y ≤ numK x) : HeapR M s lo n := fun i c x y h1 h3 h4 h5 h6 => by
  by_cases hi : i = root
  · subst hi; exact hr c x y h3 h4 h5 h6
  · exact h.1 i c x y h1 hi h3 h4 h5 h6
theorem sift_step {M : List (List Int)} {s lo n root k : Nat} {x y : List Int} (h : SiftI M s lo n root) (hlo : lo ≤ root) (hk : Child k root) (hkn : k < n) (hx : M[s + root]? = some x) (hy : M[s + k]? = some y) (hxy : numK x < numK y)
    (hbig : ∀ (c : Nat) (z : List Int), Child c root → c < n → M[s + c]? = some z → numK z ≤ numK y) : SiftI ((M.set (s + root) y).set (s + k) x) s lo n k := by
  have hg := swap_get hx hy
  unfold SiftI Child at *
  refine ⟨fun i c u z h1 h2 h3 h4 hu hz => ?_, fun i c u z h1 h2 h3 h4 hu hz => ?_⟩
  · rw [hg, if_neg (by omega)] at hu
    rw [hg] at hz
    by_cases hir : i = root
    · subst hir
      rw [if_pos rfl] at hu
      cases hu
      split at hz
      · cases hz; omega
      · rw [if_neg (by omega)] at hz
        exact hbig c z h3 h4 hz
    · rw [if_neg (by omega)] at hu
      rw [if_neg (by omega)] at hz
      split at hz
      · cases hz
        exact h.2 i k u y h1 (by omega) hk hkn hu hy
      · exact h.1 i c u z h1 hir h3 h4 hu hz
  · have hir : i = root := by omega
    subst hir
    rw [hg, if_neg (by omega), if_pos rfl] at hu
    cases hu
    rw [hg, if_neg (by omega), if_neg (by omega)] at hz
    exact h.1 k c y z (by omega) (by omega) h3 h4 hy hz

set_option maxHeartbeats 1600000 in
theorem kSift {w : World} {g s lo n : Nat} {v : Value} {L : List (List Int)} (h : KR w g v L) (hG : KG L) (hn : s + n ≤ L.length) (hlo : lo ≤ 1000000) (hL : L.length ≤ 1000000) (hheap : HeapR L s (lo + 1) n) :
    Cal prog F.slices_siftDownCmpFunc_pennyweight_tuples_key [v, .int .i64 (lo : Int), .int .i64 (n : Int), .int .i64 (s : Int), cmpF] w fun _ w' => SortK w g v L s (s + n) (fun M => HeapR M s lo n) w' := by
  apply slices_siftDownCmpFunc_pennyweight_tuples_key.enter
  unfold slices_siftDownCmpFunc_pennyweight_tuples_key.body
  refine ⟨fun t w1 => ∃ (root : Nat) (M : List (List Int)), t = .int .i64 (root : Int) ∧ lo ≤ root ∧ (root < n ∨ root = lo) ∧ Chg (fun r => leadsTo v r) w w1 ∧ KR w1 g v M ∧ SwapR s (s + n) L M ∧ SiftI M s lo n root, fun t _ => n + lo + 1 - (ival t).toNat,
    ⟨lo, L, rfl, Nat.le_refl _, .inr rfl, Chg.refl _ _, h, .refl, sift_start hheap⟩, ?_⟩
  rintro _ w1 ⟨root, M, rfl, hlr, hrn, hc1, hm, hsw, hinv⟩
  have hml := hsw.len
  have hMG := hG.perm hsw.perm
  simp only [binS_mul, binS_add]
  have e1 : IntKind.i64.wrap (IntKind.i64.wrap (2 * (root : Int)) + 1) = ((2 * root + 1 : Nat) : Int) := by rw [wrap_i64 (x := 2 * (root : Int)) (by omega) (by omega), wrap_i64 (by omega) (by omega)]; omega
  rw [e1, binS_geq, split_dec]
  refine ⟨fun hge => ⟨hc1, M, hsw, hm, sift_done hinv fun c x y h1 h2 => by unfold Child at h1; omega⟩, fun hlt => ?_⟩
  have hlt : 2 * root + 1 < n := by omega
  obtain ⟨x, hx⟩ : ∃ x, M[s + root]? = some x := ⟨_, List.getElem?_eq_getElem (by omega)⟩
  -- the greater child
  refine join1 (fun t w2 => Ext w1 w2 ∧ ∃ (k : Nat) (y : List Int), t = .int .i64 (k : Int) ∧ Child k root ∧ k < n ∧ M[s + k]? = some y ∧ ∀ (c : Nat) (z : List Int), Child c root → c < n → M[s + c]? = some z → numK z ≤ numK y) ?_ ?_
  · rintro _ w2 ⟨hx2, k, y, rfl, hk, hkn, hy, hbig⟩
    intro w3 hx3 _ _
    have hm3 := (hm.ext hx2).ext hx3
    have er : IntKind.i64.wrap ((s : Int) + (root : Int)) = ((s + root : Nat) : Int) := by rw [wrap_i64 (by omega) (by omega)]; omega
    have ek : IntKind.i64.wrap ((s : Int) + (k : Int)) = ((s + k : Nat) : Int) := by rw [wrap_i64 (by omega) (by omega)]; omega
    rw [er, get_kr rfl hm3 hx, binS_add, ek, get_kr rfl hm3 hy]
    refine less_kr (hMG.at hx) (hMG.at hy) fun q w4 hx4 hq => ?_
    have hx14 := (hx2.trans hx3).trans hx4
    have hc4 := hc1.trans (hx14.chg _)
    have hm4 := hm3.ext hx4
    simp only [binS_lss, un_not, split_bool, Drew]
    refine ⟨fun hno => ⟨hc4, M, hsw, hm4, sift_done hinv fun c u z h1 h2 hu hz => ?_⟩, fun hyes w5 hx5 _ _ => ?_⟩
    · have h1' : ¬ q < 0 := by simpa using hno
      have h3 := mt hq.2 h1'
      rw [hx] at hu; cases hu
      have := hbig c z h1 h2 hz
      omega
    · have h1' : q < 0 := by simpa using hyes
      have h3 := hq.1 h1'
      have hm5 := hm4.ext hx5
      simp only [binS_add, er, ek]
      rw [get_kr rfl hm5 hy, get_kr rfl hm5 hx]
      refine put_kr rfl hm5 (by omega) (hMG.at hy).1 fun w6 hc6 hm6 => ⟨.inr ⟨by have := stays_addK (P := prog) (w := w6) (t := T.t_int) (cx := false) (cy := false) (k := .i64) (a := (s : Int)) (b := (k : Int)); rwa [ek] at this, trivial⟩, ?_⟩
      refine put_kr rfl hm6 (by simp; omega) (hMG.at hx).1 fun w7 hc7 hm7 => ?_
      have hkr : root < k := by unfold Child at hk; omega
      refine ⟨⟨k, _, rfl, by omega, .inl hkn, (hc4.trans (hx5.chg _)).trans (hc6.trans hc7), hm7, hsw.step (by omega) (by omega) (by omega) (by omega) hx hy, sift_step hinv hlr hk hkn hx hy h3 hbig⟩, ?_⟩
      simp only [ival]; omega
  · intro J hJ
    obtain ⟨y1, hy1⟩ : ∃ y, M[s + (2 * root + 1)]? = some y := ⟨_, List.getElem?_eq_getElem (by omega)⟩
    refine join1 (fun t w8 => Ext w1 w8 ∧ ∃ c, t = .bool c ∧ (c = true → 2 * root + 2 < n ∧ ∃ y2, M[s + (2 * root + 2)]? = some y2 ∧ numK y1 ≤ numK y2) ∧ (c = false → 2 * root + 2 < n → ∃ y2, M[s + (2 * root + 2)]? = some y2 ∧ numK y2 ≤ numK y1)) ?_ ?_
    · rintro _ w8 ⟨hx8, c, rfl, hct, hcf⟩
      rw [split_bool]
      refine ⟨fun ht => ?_, fun hf => hJ _ _ ⟨hx8, 2 * root + 1, y1, rfl, .inl rfl, hlt, hy1, fun c z h1 h2 hz => ?_⟩⟩
      · obtain ⟨h2n, y2, hy2, h12⟩ := hct ht
        rw [wrap_i64 (by omega) (by omega)]
        refine hJ _ _ ⟨hx8, 2 * root + 2, y2, by congr 1, .inr rfl, h2n, hy2, fun c z h1 h2 hz => ?_⟩
        rcases h1 with rfl | rfl
        · rw [hy1] at hz; cases hz; exact h12
        · rw [hy2] at hz; cases hz; exact Int.le_refl _
      · rcases h1 with rfl | rfl
        · rw [hy1] at hz; cases hz; exact Int.le_refl _
        · obtain ⟨y2, hy2, h21⟩ := hcf hf h2
          rw [hy2] at hz; cases hz; exact h21
    · intro J1 hJ1 w9 hx9 _ _
      have hm9 := hm.ext hx9
      rw [wrap_i64 (x := ((2 * root + 1 : Nat) : Int) + 1) (by omega) (by omega), binS_lss, split_dec]
      refine ⟨fun h2 => ?_, fun h2 => hJ1 _ _ ⟨hx9, false, rfl, (fun h => by cases h), fun _ h => by omega⟩⟩
      obtain ⟨y2, hy2⟩ : ∃ y, M[s + (2 * root + 2)]? = some y := ⟨_, List.getElem?_eq_getElem (by omega)⟩
      have ec : IntKind.i64.wrap ((s : Int) + ((2 * root + 1 : Nat) : Int)) = ((s + (2 * root + 1) : Nat) : Int) := by rw [wrap_i64 (by omega) (by omega)]; omega
      rw [ec, get_kr rfl hm9 hy1]
      rw [wrap_i64 (by omega) (by omega), get_kr (i := s + (2 * root + 2)) (by omega) hm9 hy2]
      refine less_kr (hMG.at hy1) (hMG.at hy2) fun q w10 hx10 hq => ?_
      rw [binS_lss]
      refine hJ1 _ _ ⟨hx9.trans hx10, _, rfl, fun h => ⟨by omega, y2, hy2, ?_⟩, fun h _ => ⟨y2, hy2, ?_⟩⟩
      · have h1 : q < 0 := by simpa using h
        have := hq.1 h1
        omega
      · have h1 : ¬ q < 0 := by simpa using h
        have := mt hq.2 h1
        omega

theorem heap_max {M : List (List Int)} {s n : Nat} (h : HeapR M s 0 n) (hn : s + n ≤ M.length) : ∀ (k : Nat) (x y : List Int), k < n → M[s]? = some x → M[s + k]? = some y → numK y ≤ numK x := by
  intro k
  induction k using Nat.strongRecOn with
  | ind k ih =>
    intro x y hk hx hy
    by_cases h0 : k = 0
    · subst h0; rw [Nat.add_zero, hx] at hy; cases hy; exact Int.le_refl _
    · obtain ⟨z, hz⟩ : ∃ z, M[s + (k - 1) / 2]? = some z := ⟨_, List.getElem?_eq_getElem (by omega)⟩
      have h1 := h ((k - 1) / 2) k z y (Nat.zero_le _) (by unfold Child; omega) hk hz hy
      have h2 := ih ((k - 1) / 2) (by omega) x z (by omega) hx hz
      omega

set_option maxHeartbeats 1600000 in
theorem kHeapSort {w : World} {g a b : Nat} {v : Value} {L : List (List Int)} (h : KR w g v L) (hG : KG L) (hab : a + 12 < b) (hb : b ≤ L.length) (hL : L.length ≤ 1000000) :
    Cal prog F.slices_heapSortCmpFunc_pennyweight_tuples_key [v, .int .i64 (a : Int), .int .i64 (b : Int), cmpF] w fun _ w' => SortK w g v L a b (fun M => UpR numK M a b) w' := by
  apply slices_heapSortCmpFunc_pennyweight_tuples_key.enter
  unfold slices_heapSortCmpFunc_pennyweight_tuples_key.body
  obtain ⟨n, hn⟩ : ∃ n : Nat, b - a = n := ⟨_, rfl⟩
  have hbn : b = a + n := by omega
  have e0 : ((n : Int) - 1).tdiv 2 = (((n - 1) / 2 : Nat) : Int) := by rw [Int.tdiv_eq_ediv_of_nonneg (by omega)]; omega
  rw [binS_sub, wrap_i64 (by omega) (by omega), show (b : Int) - a = (n : Int) by omega, binS_sub, wrap_i64 (by omega) (by omega), binS_quo (by decide), e0, wrap_i64 (by omega) (by omega)]
  -- the heap is made
  refine ⟨fun t w1 => ∃ (i : Int) (M : List (List Int)), t = .int .i64 i ∧ -1 ≤ i ∧ i ≤ n ∧ Chg (fun r => leadsTo v r) w w1 ∧ KR w1 g v M ∧ SwapR a b L M ∧ HeapR M a (i + 1).toNat n, fun t _ => (ival t + 1).toNat,
    ⟨(((n - 1) / 2 : Nat) : Int), L, rfl, by omega, by omega, Chg.refl _ _, h, .refl, fun i c x y h1 h2 h3 => by unfold Child at h2; omega⟩, ?_⟩
  rintro _ w1 ⟨i, M, rfl, hi1, hin, hc1, hm1, hsw1, hheap⟩
  have hml := hsw1.len
  have hMG := hG.perm hsw1.perm
  simp only [binS_geq, split_dec]
  refine ⟨fun h0 => ?_, fun hneg => ?_⟩
  · obtain ⟨k, rfl⟩ : ∃ k : Nat, i = k := ⟨i.toNat, by omega⟩
    refine (kSift hm1 hMG (s := a) (lo := k) (n := n) (by omega) (by omega) (by omega) (by rwa [show ((k : Int) + 1).toNat = k + 1 by omega] at hheap)).mono ?_
    rintro _ w2 _ ⟨hc2, M2, hsw2, hm2, hh2⟩
    simp only [binS_sub]
    rw [wrap_i64 (by omega) (by omega)]
    refine ⟨⟨(k : Int) - 1, M2, rfl, by omega, by omega, hc1.trans hc2, hm2, hsw1.trans (by rw [hbn]; exact hsw2), by rwa [show ((k : Int) - 1 + 1).toNat = k by omega]⟩, ?_⟩
    simp only [ival]; omega
  have hi : i = -1 := by omega
  subst hi
  have hheap : HeapR M a 0 n := hheap
  rw [binS_sub, wrap_i64 (by omega) (by omega)]
  -- it is taken apart
  refine ⟨fun t w3 => ∃ (m : Nat) (M : List (List Int)), t = .int .i64 ((m : Int) - 1) ∧ m ≤ n ∧ Chg (fun r => leadsTo v r) w w3 ∧ KR w3 g v M ∧ SwapR a b L M ∧ HeapR M a 0 m ∧ ∀ (p q : Nat) (x y : List Int), p < q → q < n → m ≤ q → M[a + p]? = some x → M[a + q]? = some y → numK x ≤ numK y, fun t _ => (ival t + 1).toNat,
    ⟨n, M, rfl, Nat.le_refl _, hc1, hm1, hsw1, hheap, fun p q x y h1 h2 h3 => by omega⟩, ?_⟩
  rintro _ w3 ⟨m, M3, rfl, hmn, hc3, hm3, hsw3, hh3, htail⟩
  have hml3 := hsw3.len
  have hMG3 := hG.perm hsw3.perm
  simp only [binS_geq, split_dec, Drew]
  refine ⟨fun h0 w4 hx4 _ _ => ?_, fun hneg => ⟨hc3, M3, hsw3, hm3, fun p q x y h1 h2 h3 hx hy => ?_⟩⟩
  · obtain ⟨i, rfl⟩ : ∃ i, m = i + 1 := ⟨m - 1, by omega⟩
    have hm4 := hm3.ext hx4
    obtain ⟨y, hy⟩ : ∃ y, M3[a + i]? = some y := ⟨_, List.getElem?_eq_getElem (by omega)⟩
    obtain ⟨x, hx⟩ : ∃ x, M3[a]? = some x := ⟨_, List.getElem?_eq_getElem (by omega)⟩
    have ei : ((i + 1 : Nat) : Int) - 1 = (i : Int) := by omega
    have e1 : IntKind.i64.wrap ((a : Int) + (i : Int)) = ((a + i : Nat) : Int) := by rw [wrap_i64 (by omega) (by omega)]; omega
    simp only [ei, binS_add, e1]
    rw [get_kr rfl hm4 hy, get_kr rfl hm4 hx]
    refine put_kr rfl hm4 (by omega) (hMG3.at hy).1 fun w5 hc5 hm5 => ⟨.inr ⟨by have := stays_addK (P := prog) (w := w5) (t := T.t_int) (cx := false) (cy := false) (k := .i64) (a := (a : Int)) (b := (i : Int)); rwa [e1] at this, trivial⟩, ?_⟩
    refine put_kr rfl hm5 (by simp; omega) (hMG3.at hx).1 fun w6 hc6 hm6 => ?_
    have hsw6 : SwapR a b L ((M3.set a y).set (a + i) x) := hsw3.step (by omega) (by omega) (by omega) (by omega) hx hy
    have hg := swap_get hx hy
    have hmax := heap_max hh3 (by omega)
    have hh6 : HeapR ((M3.set a y).set (a + i) x) a (0 + 1) i := fun j c u z h1 h2 h3 hu hz => by
      unfold Child at h2
      rw [hg, if_neg (by omega), if_neg (by omega)] at hu hz
      exact hh3 j c u z (by omega) h2 (by omega) hu hz
    have hlen6 := hsw6.len
    have hG6 := hG.perm hsw6.perm
    generalize hM6 : (M3.set a y).set (a + i) x = M6 at *
    refine (kSift hm6 hG6 (s := a) (lo := 0) (n := i) (by omega) (by omega) (by omega) hh6).mono ?_
    rintro _ w7 _ ⟨hc7, M7, hsw7, hm7, hh7⟩
    rw [binS_sub, wrap_i64 (by omega) (by omega)]
    have hsw7' : SwapR a b M6 M7 := hsw7.mono (Nat.le_refl _) (by omega)
    refine ⟨⟨i, M7, rfl, by omega, (hc3.trans (hx4.chg _)).trans ((hc5.trans hc6).trans hc7), hm7, hsw6.trans hsw7', hh7, fun p q u z h1 h2 h3 hu hz => ?_⟩, ?_⟩
    · rw [hsw7.out (by omega), hg] at hz
      -- those that are in the heap still
      have low : p < i → (∀ (r : Nat) (t : List Int), r < i + 1 → M3[a + r]? = some t → numK t ≤ numK z) → numK u ≤ numK z := fun hpi hall => by
        refine hsw7.all (p := fun t => numK t ≤ numK z) (fun r t hr1 hr2 ht => ?_) (a + p) u (by omega) (by omega) hu
        rw [hg, if_neg (by omega)] at ht
        split at ht
        · cases ht; exact hall i y (by omega) hy
        · obtain ⟨k, rfl⟩ : ∃ k, r = a + k := ⟨r - a, by omega⟩
          exact hall k t (by omega) ht
      by_cases hqi : q = i
      · subst hqi
        rw [if_pos rfl] at hz
        cases hz
        exact low (by omega) fun r t hr ht => hmax r x t (by omega) hx ht
      · rw [if_neg (by omega), if_neg (by omega)] at hz
        by_cases hpi : p < i
        · exact low hpi fun r t hr ht => htail r q t z (by omega) h2 (by omega) ht hz
        · rw [hsw7.out (by omega), hg] at hu
          by_cases hpe : p = i
          · subst hpe
            rw [if_pos rfl] at hu
            cases hu
            exact htail 0 q _ z (by omega) h2 (by omega) hx hz
          · rw [if_neg (by omega), if_neg (by omega)] at hu
            exact htail p q u z h1 h2 (by omega) hu hz
    · simp only [ival]; omega
  · have hm0 : m = 0 := by omega
    subst hm0
    obtain ⟨p', rfl⟩ : ∃ k, p = a + k := ⟨p - a, by omega⟩
    obtain ⟨q', rfl⟩ : ∃ k, q = a + k := ⟨q - a, by omega⟩
    exact htail p' q' x y (by omega) (by omega) (Nat.zero_le _) hx hy
end Go.Proofs.Ytahhkeljejfgfaa

