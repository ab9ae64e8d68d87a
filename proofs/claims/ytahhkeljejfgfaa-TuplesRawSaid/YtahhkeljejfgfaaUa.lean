/- Keys sorted: a range cut in two, by its pivot. -/
import Derived.Test.YtahhkeljejfgfaaU9
namespace Go.Proofs.Ytahhkeljejfgfaa
open Go Go.Vc Go.RowKit Go.Proofs Go.Proofs.Try
set_option maxRecDepth 100000

/-- cut at place j -/
def PartR (M : List (List Int)) (a j b : Nat) : Prop := ∃ p, M[j]? = some p ∧ (∀ (r : Nat) (x : List Int), a ≤ r → r < j → M[r]? = some x → numK x ≤ numK p) ∧ (∀ (r : Nat) (x : List Int), j < r → r < b → M[r]? = some x → numK p ≤ numK x)
/-- on the way: what is left of i, what is right of j -/
def CutR (M : List (List Int)) (a i j b : Nat) (p : List Int) : Prop := M[a]? = some p ∧ (∀ (r : Nat) (x : List Int), a < r → r < i → M[r]? = some x → numK x < numK p) ∧ (∀ (r : Nat) (x : List Int), j < r → r < b → M[r]? = some x → numK p ≤ numK x)
theorem CutR.swap {M : List (List Int)} {a n m b : Nat} {p x y : List Int} (h : CutR M a n m b p) (ha : a < n) (hnm : n < m) (hmb : m < b) (hx : M[n]? = some x) (hy : M[m]? = some y) (h1 : numK p ≤ numK x) (h2 : numK y < numK p) :
    CutR ((M.set n y).set m x) a (n + 1) (m - 1) b p := by
  obtain ⟨g1, g2, g3⟩ := h
  refine ⟨by rw [swap_get hx hy, if_neg (by omega), if_neg (by omega)]; exact g1, fun r z hr1 hr2 hz => ?_, fun r z hr1 hr2 hz => ?_⟩
  · rw [swap_get hx hy, if_neg (by omega)] at hz
    split at hz
    · cases hz; exact h2
    · exact g2 r z hr1 (by omega) hz
  · rw [swap_get hx hy] at hz
    split at hz
    · cases hz; exact h1
    · rw [if_neg (by omega)] at hz
      exact g3 r z (by omega) hr2 hz
theorem CutR.done {M : List (List Int)} {a n m b : Nat} {p x : List Int} (h : CutR M a n m b p) (hnm : n = m + 1) (ham : a ≤ m) (hx : M[m]? = some x) : PartR ((M.set m p).set a x) a m b := by
  obtain ⟨g1, g2, g3⟩ := h
  have hg := swap_get hx g1
  refine ⟨p, ?_, fun r z hr1 hr2 hz => ?_, fun r z hr1 hr2 hz => ?_⟩
  · rw [hg]
    by_cases h : m = a
    · rw [if_pos h]; subst h; rw [g1] at hx; exact hx.symm
    · rw [if_neg h, if_pos rfl]
  · rw [hg] at hz
    split at hz
    · cases hz
      have := g2 m _ (by omega) (by omega) hx
      omega
    · rw [if_neg (by omega)] at hz
      have := g2 r z (by omega) (by omega) hz
      omega
  · rw [hg, if_neg (by omega), if_neg (by omega)] at hz
    exact g3 r z hr1 hr2 hz

set_option maxHeartbeats 1600000 in
theorem kPartition {w : World} {g a b pv : Nat} {v : Value} {L : List (List Int)} (h : KR w g v L) (hG : KG L) (hab : a + 12 < b) (hb : b ≤ L.length) (hL : L.length ≤ 1000000) (hp1 : a ≤ pv) (hp2 : pv < b) :
    Cal prog F.slices_partitionCmpFunc_pennyweight_tuples_key [v, .int .i64 (a : Int), .int .i64 (b : Int), .int .i64 (pv : Int), cmpF] w fun r w' => ∃ (j : Nat) (c : Bool), r = .tuple #[.int .i64 (j : Int), .bool c] ∧ a ≤ j ∧ j < b ∧ SortK w g v L a b (fun M => PartR M a j b) w' := by
  apply slices_partitionCmpFunc_pennyweight_tuples_key.enter
  unfold slices_partitionCmpFunc_pennyweight_tuples_key.body
  obtain ⟨y, hy⟩ : ∃ y, L[pv]? = some y := ⟨_, List.getElem?_eq_getElem (by omega)⟩
  obtain ⟨x, hx⟩ : ∃ x, L[a]? = some x := ⟨_, List.getElem?_eq_getElem (by omega)⟩
  intro w1 hx1 _ _
  have h1 := h.ext hx1
  rw [get_kr rfl h1 hy, get_kr rfl h1 hx]
  refine put_kr rfl h1 (by omega) (hG.at hy).1 fun w2 hc2 hm2 => ?_
  refine put_kr rfl hm2 (by simp; omega) (hG.at hx).1 fun w3 hc3 hm3 => ?_
  have hsw3 : SwapR a b L ((L.set a y).set pv x) := .step .refl (by omega) (by omega) (by omega) (by omega) hx hy
  have hc03 : Chg (fun r => leadsTo v r) w w3 := (hx1.chg _).trans (hc2.trans hc3)
  have hpa : ((L.set a y).set pv x)[a]? = some y := by
    rw [swap_get hx hy]
    by_cases hap : a = pv
    · rw [if_pos hap]; subst hap; rw [hx] at hy; exact hy
    · rw [if_neg hap, if_pos rfl]
  generalize (L.set a y).set pv x = M3 at *
  have hl3 := hsw3.len
  have hG3 := hG.perm hsw3.perm
  simp only [binS_add, binS_sub]
  rw [wrap_i64 (x := (a : Int) + 1) (by omega) (by omega), wrap_i64 (x := (b : Int) - 1) (by omega) (by omega), show (a : Int) + 1 = ((a + 1 : Nat) : Int) by omega, show (b : Int) - 1 = ((b - 1 : Nat) : Int) by omega]
  -- the end
  have fin : ∀ {w7 : World} {M : List (List Int)} {n m : Nat} {c : Bool}, Chg (fun r => leadsTo v r) w w7 → KR w7 g v M → SwapR a b L M → CutR M a n m b y → n = m + 1 → a ≤ m → m < b →
      Drew w7 fun w8 => RunQ prog (Instr.indexAt T.t_sl_tuples_key v (.int .i64 (a : Int))) w8 fun t78 => RunQ prog (Instr.loadAt T.t_tuples_key t78) w8 fun t79 => RunQ prog (Instr.indexAt T.t_sl_tuples_key v (.int .i64 (m : Int))) w8 fun t82 => RunQ prog (Instr.loadAt T.t_tuples_key t82) w8 fun t83 =>
        RunQ prog (Instr.indexAt T.t_sl_tuples_key v (.int .i64 (m : Int))) w8 fun t84 => RunC prog (Instr.storeAt T.t_tuples_key t84 t79) w8 fun (_ : Unit) w9 => RunQ prog (Instr.indexAt T.t_sl_tuples_key v (.int .i64 (a : Int))) w9 fun t85 => RunC prog (Instr.storeAt T.t_tuples_key t85 t83) w9 fun (_ : Unit) w10 =>
        ∃ (j : Nat) (c' : Bool), Value.tuple #[.int .i64 (m : Int), .bool c] = .tuple #[.int .i64 (j : Int), .bool c'] ∧ a ≤ j ∧ j < b ∧ SortK w g v L a b (fun M => PartR M a j b) w10 := by
    intro w7 M n m c hc7 hm7 hsw hcut hnm ham hmb w8 hx8 _ _
    have hml := hsw.len
    have hMG := hG.perm hsw.perm
    obtain ⟨z, hz⟩ : ∃ z, M[m]? = some z := ⟨_, List.getElem?_eq_getElem (by omega)⟩
    have hm8 := hm7.ext hx8
    rw [get_kr rfl hm8 hcut.1, get_kr rfl hm8 hz]
    refine put_kr rfl hm8 (by omega) (hMG.at hcut.1).1 fun w9 hc9 hm9 => ?_
    refine put_kr rfl hm9 (by simp; omega) (hMG.at hz).1 fun w10 hc10 hm10 => ?_
    exact ⟨m, c, rfl, ham, hmb, (hc7.trans (hx8.chg _)).trans (hc9.trans hc10), _, hsw.step ham hmb (by omega) (by omega) hz hcut.1, hm10, hcut.done hnm ham hz⟩
  refine scanUpP (a := a) (i := a + 1) (j := b - 1) hm3 hG3 (by omega) hpa (by omega) (by omega) fun n w5 hx5 hn1 hn2 hup hupend => ?_
  have hm5 := hm3.ext hx5
  refine scanDownP (a := a) (i := n) (j := b - 1) hm5 hG3 (by omega) hpa (by omega) (by omega) (by omega) fun m w7 hx7 hm1 hm2' hdn hdnend => ?_
  have hm7 := hm5.ext hx7
  have hc07 := hc03.trans ((hx5.trans hx7).chg _)
  have hcut7 : CutR M3 a n m b y := ⟨hpa, fun r z hr1 hr2 hz => hup r z (by omega) hr2 hz, fun r z hr1 hr2 hz => hdn r z hr1 (by omega) hz⟩
  rw [binS_gtr, split_dec]
  refine ⟨fun hgt => fin hc07 hm7 hsw3 hcut7 (by omega) (by omega) (by omega), fun hle => ?_⟩
  have hnm : n ≤ m := by omega
  obtain ⟨u, hu⟩ : ∃ u, M3[n]? = some u := ⟨_, List.getElem?_eq_getElem (by omega)⟩
  obtain ⟨z, hz⟩ : ∃ z, M3[m]? = some z := ⟨_, List.getElem?_eq_getElem (by omega)⟩
  have c1 := hupend (by omega) u hu
  have c2 := hdnend hnm z hz
  have hne : n ≠ m := fun he => by subst he; rw [hu] at hz; cases hz; omega
  intro w11 hx11 _ _
  have hm11 := hm7.ext hx11
  rw [get_kr rfl hm11 hz, get_kr rfl hm11 hu]
  refine put_kr rfl hm11 (by omega) (hG3.at hz).1 fun w12 hc12 hm12 => ?_
  refine put_kr rfl hm12 (by simp; omega) (hG3.at hu).1 fun w13 hc13 hm13 => ?_
  simp only [binS_add, binS_sub]
  rw [wrap_i64 (x := (n : Int) + 1) (by omega) (by omega), wrap_i64 (x := (m : Int) - 1) (by omega) (by omega), show (n : Int) + 1 = ((n + 1 : Nat) : Int) by omega, show (m : Int) - 1 = ((m - 1 : Nat) : Int) by omega]
  refine ⟨fun s t w14 => ∃ (i j : Nat) (M : List (List Int)), s = .int .i64 (i : Int) ∧ t = .int .i64 (j : Int) ∧ a < i ∧ i ≤ j + 1 ∧ j < b ∧ Chg (fun r => leadsTo v r) w w14 ∧ KR w14 g v M ∧ SwapR a b L M ∧ CutR M a i j b y, fun s t _ => (ival t).toNat + 2 - (ival s).toNat,
    ⟨n + 1, m - 1, _, rfl, rfl, by omega, by omega, by omega, (hc07.trans (hx11.chg _)).trans (hc12.trans hc13), hm13, hsw3.step (by omega) (by omega) (by omega) (by omega) hu hz, hcut7.swap (by omega) (by omega) (by omega) hu hz c1 c2⟩, ?_⟩
  rintro _ _ w14 ⟨i, j, M, rfl, rfl, hai, hij, hjb, hc14, hm14, hsw, hcut⟩
  have hml := hsw.len
  have hMG := hG.perm hsw.perm
  refine scanUpP (a := a) (i := i) (j := j) hm14 hMG (by omega) hcut.1 hij (by omega) fun n w15 hx15 hn1 hn2 hup hupend => ?_
  have hm15 := hm14.ext hx15
  refine scanDownP (a := a) (i := n) (j := j) hm15 hMG (by omega) hcut.1 (by omega) (by omega) (by omega) fun m w18 hx18 hm1 hm2' hdn hdnend => ?_
  have hm18 := hm15.ext hx18
  have hc18 := hc14.trans ((hx15.trans hx18).chg _)
  have hcut18 : CutR M a n m b y := ⟨hcut.1, fun r z hr1 hr2 hz => by
    by_cases hri : r < i
    · exact hcut.2.1 r z hr1 hri hz
    · exact hup r z (by omega) hr2 hz, fun r z hr1 hr2 hz => by
    by_cases hrj : j < r
    · exact hcut.2.2 r z hrj hr2 hz
    · exact hdn r z hr1 (by omega) hz⟩
  rw [binS_gtr, split_dec]
  refine ⟨fun hgt => fin hc18 hm18 hsw hcut18 (by omega) (by omega) (by omega), fun hle => ?_⟩
  have hnm : n ≤ m := by omega
  obtain ⟨u, hu⟩ : ∃ u, M[n]? = some u := ⟨_, List.getElem?_eq_getElem (by omega)⟩
  obtain ⟨z, hz⟩ : ∃ z, M[m]? = some z := ⟨_, List.getElem?_eq_getElem (by omega)⟩
  have c1 := hupend (by omega) u hu
  have c2 := hdnend hnm z hz
  have hne : n ≠ m := fun he => by subst he; rw [hu] at hz; cases hz; omega
  intro w22 hx22 _ _
  have hm22 := hm18.ext hx22
  rw [get_kr rfl hm22 hz, get_kr rfl hm22 hu]
  refine put_kr rfl hm22 (by omega) (hMG.at hz).1 fun w23 hc23 hm23 => ?_
  refine put_kr rfl hm23 (by simp; omega) (hMG.at hu).1 fun w24 hc24 hm24 => ?_
  simp only [binS_add, binS_sub]
  rw [wrap_i64 (x := (n : Int) + 1) (by omega) (by omega), wrap_i64 (x := (m : Int) - 1) (by omega) (by omega)]
  refine ⟨⟨n + 1, m - 1, _, by congr 1, by congr 1; omega, by omega, by omega, by omega, (hc18.trans (hx22.chg _)).trans (hc23.trans hc24), hm24, hsw.step (by omega) (by omega) (by omega) (by omega) hu hz, hcut18.swap (by omega) (by omega) (by omega) hu hz c1 c2⟩, ?_⟩
  simp only [ival]; omega

/-! ### the equal ones ahead -/
def EqR (M : List (List Int)) (a i j b : Nat) (p : List Int) : Prop := M[a]? = some p ∧ (∀ (r : Nat) (x : List Int), a < r → r < i → M[r]? = some x → numK x ≤ numK p) ∧ (∀ (r : Nat) (x : List Int), j < r → r < b → M[r]? = some x → numK p < numK x)
theorem EqR.swap {M : List (List Int)} {a n m b : Nat} {p x y : List Int} (h : EqR M a n m b p) (ha : a < n) (hnm : n < m) (hmb : m < b) (hx : M[n]? = some x) (hy : M[m]? = some y) (h1 : numK p < numK x) (h2 : numK y ≤ numK p) :
    EqR ((M.set n y).set m x) a (n + 1) (m - 1) b p := by
  obtain ⟨g1, g2, g3⟩ := h
  refine ⟨by rw [swap_get hx hy, if_neg (by omega), if_neg (by omega)]; exact g1, fun r z hr1 hr2 hz => ?_, fun r z hr1 hr2 hz => ?_⟩
  · rw [swap_get hx hy, if_neg (by omega)] at hz
    split at hz
    · cases hz; exact h2
    · exact g2 r z hr1 (by omega) hz
  · rw [swap_get hx hy] at hz
    split at hz
    · cases hz; exact h1
    · rw [if_neg (by omega)] at hz
      exact g3 r z (by omega) hr2 hz

set_option maxHeartbeats 1600000 in
theorem kPartEq {w : World} {g a b pv : Nat} {v : Value} {L : List (List Int)} (h : KR w g v L) (hG : KG L) (hab : a + 12 < b) (hb : b ≤ L.length) (hL : L.length ≤ 1000000) (hp1 : a ≤ pv) (hp2 : pv < b) :
    Cal prog F.slices_partitionEqualCmpFunc_pennyweight_tuples_key [v, .int .i64 (a : Int), .int .i64 (b : Int), .int .i64 (pv : Int), cmpF] w fun r w' => ∃ (i : Nat) (p : List Int), r = .int .i64 (i : Int) ∧ a < i ∧ i ≤ b ∧ L[pv]? = some p ∧ SortK w g v L a b (fun M => EqR M a i (i - 1) b p) w' := by
  apply slices_partitionEqualCmpFunc_pennyweight_tuples_key.enter
  unfold slices_partitionEqualCmpFunc_pennyweight_tuples_key.body
  obtain ⟨y, hy⟩ : ∃ y, L[pv]? = some y := ⟨_, List.getElem?_eq_getElem (by omega)⟩
  obtain ⟨x, hx⟩ : ∃ x, L[a]? = some x := ⟨_, List.getElem?_eq_getElem (by omega)⟩
  intro w1 hx1 _ _
  have h1 := h.ext hx1
  rw [get_kr rfl h1 hy, get_kr rfl h1 hx]
  refine put_kr rfl h1 (by omega) (hG.at hy).1 fun w2 hc2 hm2 => ?_
  refine put_kr rfl hm2 (by simp; omega) (hG.at hx).1 fun w3 hc3 hm3 => ?_
  have hsw3 : SwapR a b L ((L.set a y).set pv x) := .step .refl (by omega) (by omega) (by omega) (by omega) hx hy
  have hc03 : Chg (fun r => leadsTo v r) w w3 := (hx1.chg _).trans (hc2.trans hc3)
  have hpa : ((L.set a y).set pv x)[a]? = some y := by
    rw [swap_get hx hy]
    by_cases hap : a = pv
    · rw [if_pos hap]; subst hap; rw [hx] at hy; exact hy
    · rw [if_neg hap, if_pos rfl]
  generalize (L.set a y).set pv x = M3 at *
  have hl3 := hsw3.len
  have hG3 := hG.perm hsw3.perm
  simp only [binS_add, binS_sub]
  rw [wrap_i64 (x := (a : Int) + 1) (by omega) (by omega), wrap_i64 (x := (b : Int) - 1) (by omega) (by omega), show (a : Int) + 1 = ((a + 1 : Nat) : Int) by omega, show (b : Int) - 1 = ((b - 1 : Nat) : Int) by omega]
  refine ⟨fun s t w14 => ∃ (i j : Nat) (M : List (List Int)), s = .int .i64 (i : Int) ∧ t = .int .i64 (j : Int) ∧ a < i ∧ i ≤ j + 1 ∧ j < b ∧ Chg (fun r => leadsTo v r) w w14 ∧ KR w14 g v M ∧ SwapR a b L M ∧ EqR M a i j b y, fun s t _ => (ival t).toNat + 2 - (ival s).toNat,
    ⟨a + 1, b - 1, _, rfl, rfl, by omega, by omega, by omega, hc03, hm3, hsw3, hpa, fun r z h1 h2 => by omega, fun r z h1 h2 => by omega⟩, ?_⟩
  rintro _ _ w14 ⟨i, j, M, rfl, rfl, hai, hij, hjb, hc14, hm14, hsw, hcut⟩
  have hml := hsw.len
  have hMG := hG.perm hsw.perm
  refine scanUpE (a := a) (i := i) (j := j) hm14 hMG (by omega) hcut.1 hij (by omega) fun n w15 hx15 hn1 hn2 hup hupend => ?_
  have hm15 := hm14.ext hx15
  refine scanDownE (a := a) (i := n) (j := j) hm15 hMG (by omega) hcut.1 (by omega) (by omega) (by omega) fun m w18 hx18 hm1 hm2' hdn hdnend => ?_
  have hm18 := hm15.ext hx18
  have hc18 := hc14.trans ((hx15.trans hx18).chg _)
  have hcut18 : EqR M a n m b y := ⟨hcut.1, fun r z hr1 hr2 hz => by
    by_cases hri : r < i
    · exact hcut.2.1 r z hr1 hri hz
    · exact hup r z (by omega) hr2 hz, fun r z hr1 hr2 hz => by
    by_cases hrj : j < r
    · exact hcut.2.2 r z hrj hr2 hz
    · exact hdn r z hr1 (by omega) hz⟩
  rw [binS_gtr, split_dec]
  refine ⟨fun hgt => ⟨n, y, rfl, by omega, by omega, hy, hc18, M, hsw, hm18, by rw [show n - 1 = m by omega]; exact hcut18⟩, fun hle => ?_⟩
  have hnm : n ≤ m := by omega
  obtain ⟨u, hu⟩ : ∃ u, M[n]? = some u := ⟨_, List.getElem?_eq_getElem (by omega)⟩
  obtain ⟨z, hz⟩ : ∃ z, M[m]? = some z := ⟨_, List.getElem?_eq_getElem (by omega)⟩
  have c1 := hupend (by omega) u hu
  have c2 := hdnend hnm z hz
  have hne : n ≠ m := fun he => by subst he; rw [hu] at hz; cases hz; omega
  intro w22 hx22 _ _
  have hm22 := hm18.ext hx22
  rw [get_kr rfl hm22 hz, get_kr rfl hm22 hu]
  refine put_kr rfl hm22 (by omega) (hMG.at hz).1 fun w23 hc23 hm23 => ?_
  refine put_kr rfl hm23 (by simp; omega) (hMG.at hu).1 fun w24 hc24 hm24 => ?_
  simp only [binS_add, binS_sub]
  rw [wrap_i64 (x := (n : Int) + 1) (by omega) (by omega), wrap_i64 (x := (m : Int) - 1) (by omega) (by omega)]
  refine ⟨⟨n + 1, m - 1, _, by congr 1, by congr 1; omega, by omega, by omega, by omega, (hc18.trans (hx22.chg _)).trans (hc23.trans hc24), hm24, hsw.step (by omega) (by omega) (by omega) (by omega) hu hz, hcut18.swap (by omega) (by omega) (by omega) hu hz c1 c2⟩, ?_⟩
  simp only [ival]; omega
end Go.Proofs.Ytahhkeljejfgfaa

