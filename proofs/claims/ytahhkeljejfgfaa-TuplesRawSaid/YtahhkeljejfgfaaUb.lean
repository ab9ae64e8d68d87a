/- Keys sorted: a few put in place. -/
import Derived.Test.YtahhkeljejfgfaaUa
namespace Go.Proofs.Ytahhkeljejfgfaa
open Go Go.Vc Go.RowKit Go.Proofs Go.Proofs.Try
set_option maxRecDepth 100000

/-- who stands ahead of the range isn't greater than any in it -/
def PreR (M : List (List Int)) (a b : Nat) : Prop := ∀ (x : List Int), 0 < a → M[a - 1]? = some x → ∀ (r : Nat) (y : List Int), a ≤ r → r < b → M[r]? = some y → numK x ≤ numK y
theorem PreR.swap {L M : List (List Int)} {a b : Nat} (h : PreR L a b) (hs : SwapR a b L M) : PreR M a b := fun x h0 hx => hs.all fun r y h1 h2 hy => h x h0 (by rw [← hs.out (by omega)]; exact hx) r y h1 h2 hy

set_option maxHeartbeats 2000000 in
theorem kPartial {w : World} {g a b : Nat} {v : Value} {L : List (List Int)} (h : KR w g v L) (hG : KG L) (hab : a + 12 < b) (hb : b ≤ L.length) (hL : L.length ≤ 1000000) (hpre : PreR L a b) :
    Cal prog F.slices_partialInsertionSortCmpFunc_pennyweight_tuples_key [v, .int .i64 (a : Int), .int .i64 (b : Int), cmpF] w fun r w' => ∃ c, r = .bool c ∧ SortK w g v L a b (fun M => c = true → UpR numK M a b) w' := by
  apply slices_partialInsertionSortCmpFunc_pennyweight_tuples_key.enter
  unfold slices_partialInsertionSortCmpFunc_pennyweight_tuples_key.body
  rw [binS_add, wrap_i64 (by omega) (by omega)]
  refine ⟨fun _ s t w1 => ∃ (i j : Nat) (M : List (List Int)), s = .int .i64 (i : Int) ∧ t = .int .i64 (j : Int) ∧ j ≤ 5 ∧ a < i ∧ i ≤ b ∧ Chg (fun r => leadsTo v r) w w1 ∧ KR w1 g v M ∧ SwapR a b L M ∧ UpR numK M a i, fun _ _ t _ => 6 - (ival t).toNat,
    ⟨a + 1, 0, L, by congr 1, rfl, by omega, by omega, by omega, Chg.refl _ _, h, .refl, fun p q x y h1 h2 h3 => by omega⟩, ?_⟩
  rintro _ _ _ w1 ⟨i, j, M, rfl, rfl, hj5, hai, hib, hc1, hm1, hsw1, hup1⟩
  simp only [binS_lss, split_dec]
  refine ⟨fun hj => ?_, fun _ => ⟨false, rfl, hc1, M, hsw1, hm1, fun h => by cases h⟩⟩
  refine join2 (fun _ s w2 => ∃ (i : Nat) (M : List (List Int)), s = .int .i64 (i : Int) ∧ a < i ∧ i ≤ b ∧ Chg (fun r => leadsTo v r) w w2 ∧ KR w2 g v M ∧ SwapR a b L M ∧ UpR numK M a i) ?_ ?_
  · rintro _ _ w2 ⟨i, M, rfl, g1, g2, g3, g4, g5, g6⟩
    simp only [binS_add]
    rw [wrap_i64 (by omega) (by omega)]
    refine ⟨⟨i, j + 1, M, rfl, by congr 1, by omega, g1, g2, g3, g4, g5, g6⟩, ?_⟩
    simp only [ival]; omega
  intro J hJ
  refine ⟨fun t w3 => ∃ i : Nat, t = .int .i64 (i : Int) ∧ a < i ∧ i ≤ b ∧ Ext w1 w3 ∧ UpR numK M a i, fun t _ => b + 1 - (ival t).toNat, ⟨i, rfl, hai, hib, Ext.refl _, hup1⟩, ?_⟩
  rintro _ w3 ⟨i, rfl, hai, hib, hx3, hup⟩
  have hml := hsw1.len
  have hMG := hG.perm hsw1.perm
  refine join1 (fun t w4 => Ext w3 w4 ∧ ∃ c, t = .bool c ∧ (c = true → i < b ∧ UpR numK M a (i + 1))) ?_ ?_
  rotate_left
  · intro J1 hJ1 w21 hx21 _ _
    have hm21 := (hm1.ext hx3).ext hx21
    rw [binS_lss, split_dec]
    refine ⟨fun hlt => ?_, fun hge => hJ1 _ _ ⟨hx21, false, rfl, fun h => by cases h⟩⟩
    obtain ⟨y, hy⟩ : ∃ y, M[i]? = some y := ⟨_, List.getElem?_eq_getElem (by omega)⟩
    obtain ⟨x, hx⟩ : ∃ x, M[i - 1]? = some x := ⟨_, List.getElem?_eq_getElem (by omega)⟩
    rw [get_kr rfl hm21 hy, binS_sub, wrap_i64 (by omega) (by omega), show (i : Int) - 1 = ((i - 1 : Nat) : Int) by omega, get_kr rfl hm21 hx]
    refine less_kr (hMG.at hy) (hMG.at hx) fun q w22 hx22 hq => ?_
    simp only [binS_lss, un_not]
    refine hJ1 _ _ ⟨hx21.trans hx22, _, rfl, fun h => ⟨by omega, ?_⟩⟩
    have h1 : ¬ q < 0 := by simpa using h
    have h2 := mt hq.2 h1
    exact barR_stop (upR_bar hup) hai hx hy (by omega)
  rintro _ w4 ⟨hx4, c, rfl, hct⟩
  have hx14 := hx3.trans hx4
  have hc4 := hc1.trans (hx14.chg _)
  have hm4 := hm1.ext hx14
  rw [split_bool]
  refine ⟨fun ht => ?_, fun _ => ?_⟩
  · obtain ⟨hlt, hup'⟩ := hct ht
    rw [binS_add, wrap_i64 (by omega) (by omega)]
    refine ⟨⟨i + 1, by congr 1, by omega, by omega, hx14, hup'⟩, ?_⟩
    simp only [ival]; omega
  simp only [binS_eql, split_dec]
  refine ⟨fun hib' => ?_, fun hne => ?_⟩
  · have : i = b := by omega
    subst this
    exact ⟨true, rfl, hc4, M, hsw1, hm4, fun _ => hup⟩
  have hlt : i < b := by omega
  rw [binS_sub, wrap_i64 (by omega) (by omega)]
  simp only [binS_lss, split_dec]
  refine ⟨fun _ => ⟨false, rfl, hc4, M, hsw1, hm4, fun h => by cases h⟩, fun h50 w5 hx5 _ _ => ?_⟩
  obtain ⟨y, hy⟩ : ∃ y, M[i]? = some y := ⟨_, List.getElem?_eq_getElem (by omega)⟩
  obtain ⟨x, hx⟩ : ∃ x, M[i - 1]? = some x := ⟨_, List.getElem?_eq_getElem (by omega)⟩
  have hm5 := hm4.ext hx5
  have e1 : IntKind.i64.wrap ((i : Int) - 1) = ((i - 1 : Nat) : Int) := by rw [wrap_i64 (by omega) (by omega)]; omega
  simp only [binS_sub, e1]
  rw [get_kr rfl hm5 hx, get_kr rfl hm5 hy]
  refine put_kr rfl hm5 (by omega) (hMG.at hx).1 fun w6 hc6 hm6 => ⟨.inr ⟨by have := stays_subK (P := prog) (w := w6) (t := T.t_int) (cx := false) (cy := true) (k := .i64) (a := (i : Int)) (b := 1); rwa [e1] at this, trivial⟩, ?_⟩
  refine put_kr rfl hm6 (by simp; omega) (hMG.at hy).1 fun w7 hc7 hm7 => ?_
  have hsw7 : SwapR a b L ((M.set i x).set (i - 1) y) := hsw1.step (by omega) (by omega) (by omega) (by omega) hy hx
  have hbar7 : BarR numK ((M.set i x).set (i - 1) y) a (i - 1) (i - 1) := fun p q u z hp hpq hq hne hu hz => by
    rw [swap_get hy hx, if_neg (by omega), if_neg (by omega)] at hu hz
    exact hup p q u z hp hpq (by omega) hu hz
  have hc07 := (hc4.trans (hx5.chg _)).trans (hc6.trans hc7)
  generalize (M.set i x).set (i - 1) y = M7 at *
  -- what comes of the way right
  refine join0 (fun w8 => ∃ M, Chg (fun r => leadsTo v r) w w8 ∧ KR w8 g v M ∧ SwapR a b L M ∧ UpR numK M a i) ?_ ?_
  · rintro w8 ⟨M8, hc8, hm8, hsw8, hup8⟩
    have hml8 := hsw8.len
    simp only [binS_geq, split_dec]
    rw [wrap_i64 (x := (b : Int) - i) (by omega) (by omega)]
    refine ⟨fun h2 => ?_, fun _ => hJ _ _ _ ⟨i, M8, rfl, hai, hib, hc8, hm8, hsw8, hup8⟩⟩
    rw [binS_add, wrap_i64 (by omega) (by omega)]
    refine ⟨fun t w9 => ∃ (j : Nat) (M : List (List Int)), t = .int .i64 (j : Int) ∧ i < j ∧ j ≤ b ∧ Chg (fun r => leadsTo v r) w w9 ∧ KR w9 g v M ∧ SwapR a b L M ∧ UpR numK M a i, fun t _ => b + 1 - (ival t).toNat, ⟨i + 1, M8, by congr 1, by omega, by omega, hc8, hm8, hsw8, hup8⟩, ?_⟩
    rintro _ w9 ⟨j, M9, rfl, hij, hjb, hc9, hm9, hsw9, hup9⟩
    have hml9 := hsw9.len
    have hMG9 := hG.perm hsw9.perm
    simp only [binS_lss, split_dec]
    refine ⟨fun hjlt w10 hx10 _ _ => ?_, fun _ => hJ _ _ _ ⟨i, M9, rfl, hai, hib, hc9, hm9, hsw9, hup9⟩⟩
    have hjlt : j < b := by omega
    obtain ⟨y, hy⟩ : ∃ y, M9[j]? = some y := ⟨_, List.getElem?_eq_getElem (by omega)⟩
    obtain ⟨x, hx⟩ : ∃ x, M9[j - 1]? = some x := ⟨_, List.getElem?_eq_getElem (by omega)⟩
    have e2 : IntKind.i64.wrap ((j : Int) - 1) = ((j - 1 : Nat) : Int) := by rw [wrap_i64 (by omega) (by omega)]; omega
    have hm10 := hm9.ext hx10
    simp only [binS_sub, e2]
    rw [get_kr rfl hm10 hy, get_kr rfl hm10 hx]
    refine less_kr (hMG9.at hy) (hMG9.at hx) fun q w11 hx11 hq => ?_
    have hc11 := (hc9.trans (hx10.chg _)).trans (hx11.chg _)
    have hm11 := hm10.ext hx11
    simp only [binS_lss, un_not, split_bool, Drew]
    refine ⟨fun _ => hJ _ _ _ ⟨i, M9, rfl, hai, hib, hc11, hm11, hsw9, hup9⟩, fun _ w12 hx12 _ _ => ?_⟩
    have hm12 := hm11.ext hx12
    rw [get_kr rfl hm12 hx, get_kr rfl hm12 hy]
    refine put_kr rfl hm12 (by omega) (hMG9.at hx).1 fun w13 hc13 hm13 => ⟨.inr ⟨by have := stays_subK (P := prog) (w := w13) (t := T.t_int) (cx := false) (cy := true) (k := .i64) (a := (j : Int)) (b := 1); rwa [e2] at this, trivial⟩, ?_⟩
    refine put_kr rfl hm13 (by simp; omega) (hMG9.at hy).1 fun w14 hc14 hm14 => ?_
    simp only [binS_add]
    rw [wrap_i64 (by omega) (by omega)]
    refine ⟨⟨j + 1, _, by congr 1, by omega, by omega, (hc11.trans (hx12.chg _)).trans (hc13.trans hc14), hm14, hsw9.step (by omega) (by omega) (by omega) (by omega) hy hx, fun p q u z hp hpq hq hu hz => ?_⟩, ?_⟩
    · rw [swap_get hy hx, if_neg (by omega), if_neg (by omega)] at hu hz
      exact hup9 p q u z hp hpq hq hu hz
    · simp only [ival]; omega
  · intro J2 hJ2
    simp only [binS_geq, split_dec]
    rw [wrap_i64 (x := (i : Int) - a) (by omega) (by omega)]
    refine ⟨fun h2 => ?_, fun h2 => hJ2 _ ⟨M7, hc07, hm7, hsw7, fun p q u z hp hpq hq => by omega⟩⟩
    refine ⟨fun t w15 => ∃ (j : Nat) (M : List (List Int)), t = .int .i64 (j : Int) ∧ a ≤ j ∧ j ≤ i - 1 ∧ Chg (fun r => leadsTo v r) w w15 ∧ KR w15 g v M ∧ SwapR a b L M ∧ BarR numK M a (i - 1) j, fun t _ => (ival t).toNat, ⟨i - 1, M7, rfl, by omega, Nat.le_refl _, hc07, hm7, hsw7, hbar7⟩, ?_⟩
    rintro _ w15 ⟨j, M15, rfl, haj, hji, hc15, hm15, hsw15, hbar⟩
    have hml15 := hsw15.len
    have hMG15 := hG.perm hsw15.perm
    have low : j = a → UpR numK M15 a i := fun he => by
      subst he
      have := barR_low hbar
      rwa [show i - 1 + 1 = i by omega] at this
    simp only [binS_geq, split_dec]
    refine ⟨fun hj1 w16 hx16 _ _ => ?_, fun hj1 => hJ2 _ ⟨M15, hc15, hm15, hsw15, low (by omega)⟩⟩
    obtain ⟨y, hy⟩ : ∃ y, M15[j]? = some y := ⟨_, List.getElem?_eq_getElem (by omega)⟩
    obtain ⟨x, hx⟩ : ∃ x, M15[j - 1]? = some x := ⟨_, List.getElem?_eq_getElem (by omega)⟩
    have e2 : IntKind.i64.wrap ((j : Int) - 1) = ((j - 1 : Nat) : Int) := by rw [wrap_i64 (by omega) (by omega)]; omega
    have hm16 := hm15.ext hx16
    simp only [binS_sub, e2]
    rw [get_kr rfl hm16 hy, get_kr rfl hm16 hx]
    refine less_kr (hMG15.at hy) (hMG15.at hx) fun q w17 hx17 hq => ?_
    have hc17 := (hc15.trans (hx16.chg _)).trans (hx17.chg _)
    have hm17 := hm16.ext hx17
    simp only [binS_lss, un_not, split_bool, Drew]
    refine ⟨fun hn => hJ2 _ ⟨M15, hc17, hm17, hsw15, ?_⟩, fun hl w18 hx18 _ _ => ?_⟩
    · have h1 : ¬ q < 0 := by simpa using hn
      have h3 := mt hq.2 h1
      by_cases hja : j = a
      · exact low hja
      · have := barR_stop hbar (by omega) hx hy (by omega)
        rwa [show i - 1 + 1 = i by omega] at this
    · have h1 : q < 0 := by simpa using hl
      have h3 := hq.1 h1
      have hja : a < j := by
        rcases Nat.lt_or_ge a j with h | h
        · exact h
        · have hje : j = a := by omega
          subst hje
          have := (hpre.swap hsw15) x (by omega) hx j y (Nat.le_refl _) (by omega) hy
          omega
      have hm18 := hm17.ext hx18
      rw [get_kr rfl hm18 hx, get_kr rfl hm18 hy]
      refine put_kr rfl hm18 (by omega) (hMG15.at hx).1 fun w19 hc19 hm19 => ⟨.inr ⟨by have := stays_subK (P := prog) (w := w19) (t := T.t_int) (cx := false) (cy := true) (k := .i64) (a := (j : Int)) (b := 1); rwa [e2] at this, trivial⟩, ?_⟩
      refine put_kr rfl hm19 (by simp; omega) (hMG15.at hy).1 fun w20 hc20 hm20 => ?_
      refine ⟨⟨j - 1, _, rfl, by omega, by omega, (hc17.trans (hx18.chg _)).trans (hc19.trans hc20), hm20, hsw15.step (by omega) (by omega) (by omega) (by omega) hy hx, barR_swap hbar hja hji hx hy h3⟩, ?_⟩
      simp only [ival]; omega
end Go.Proofs.Ytahhkeljejfgfaa

