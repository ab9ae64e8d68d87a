/- Keys sorted: turned round; the pivot chosen. -/
import Derived.Test.YtahhkeljejfgfaaU6
namespace Go.Proofs.Ytahhkeljejfgfaa
open Go Go.Vc Go.RowKit Go.Proofs Go.Proofs.Try
set_option maxRecDepth 100000

theorem join3u {J : Value → Value → Value → World → Prop} {B : (Value → Value → Value → World → Prop) → Prop} (G : Value → Value → Value → World → Prop) (h1 : ∀ t u v w, G t u v w → J t u v w)
    (h2 : ∀ J' : Value → Value → Value → World → Prop, (∀ t u v w, G t u v w → J' t u v w) → B J') : JoinC J B := h2 J h1
/-- what a step of the sort leaves -/
def SortK (w : World) (g : Nat) (v : Value) (L : List (List Int)) (a b : Nat) (P : List (List Int) → Prop) (w' : World) : Prop := Chg (fun r => leadsTo v r) w w' ∧ ∃ M, SwapR a b L M ∧ KR w' g v M ∧ P M

theorem kReverse {w : World} {g a b : Nat} {v : Value} {L : List (List Int)} (h : KR w g v L) (hG : KG L) (hab : a < b) (hb : b ≤ L.length) (hL : L.length ≤ 1000000) :
    Cal prog F.slices_reverseRangeCmpFunc_pennyweight_tuples_key [v, .int .i64 (a : Int), .int .i64 (b : Int), cmpF] w fun _ w' => SortK w g v L a b (fun _ => True) w' := by
  apply slices_reverseRangeCmpFunc_pennyweight_tuples_key.enter
  unfold slices_reverseRangeCmpFunc_pennyweight_tuples_key.body
  rw [binS_sub, wrap_i64 (by omega) (by omega)]
  refine ⟨fun t u w1 => ∃ (i : Nat) (j : Int) (M : List (List Int)), t = .int .i64 (i : Int) ∧ u = .int .i64 j ∧ a ≤ i ∧ j < b ∧ -1 ≤ j ∧ i ≤ b ∧ SwapR a b L M ∧ Chg (fun r => leadsTo v r) w w1 ∧ KR w1 g v M, fun t _ _ => b + 1 - (ival t).toNat,
    ⟨a, (b : Int) - 1, L, rfl, rfl, by omega, by omega, by omega, by omega, .refl, Chg.refl _ _, h⟩, ?_⟩
  rintro _ _ w1 ⟨i, j, M, rfl, rfl, hi1, hj1, hj2, hib, hsw, hc1, hm⟩
  have hml := hsw.len
  have hMG := hG.perm hsw.perm
  simp only [binS_lss, split_dec]
  refine ⟨fun hlt => ?_, fun hge => ⟨hc1, M, hsw, hm, trivial⟩⟩
  obtain ⟨jn, rfl⟩ : ∃ n : Nat, j = n := ⟨j.toNat, by omega⟩
  obtain ⟨y, hy⟩ : ∃ y, M[jn]? = some y := ⟨_, List.getElem?_eq_getElem (by omega)⟩
  obtain ⟨x, hx⟩ : ∃ x, M[i]? = some x := ⟨_, List.getElem?_eq_getElem (by omega)⟩
  intro w2 hx2 _ _
  have hm2 := hm.ext hx2
  rw [get_kr rfl hm2 hy, get_kr rfl hm2 hx]
  refine put_kr rfl hm2 (by omega) (hMG.at hy).1 fun w3 hc3 hm3 => ?_
  refine put_kr rfl hm3 (by simp; omega) (hMG.at hx).1 fun w4 hc4 hm4 => ?_
  simp only [binS_add, binS_sub]
  rw [wrap_i64 (by omega) (by omega), wrap_i64 (by omega) (by omega)]
  refine ⟨⟨i + 1, (jn : Int) - 1, _, by congr 1, rfl, by omega, by omega, by omega, by omega, hsw.step (by omega) (by omega) (by omega) (by omega) hx hy, (hc1.trans (hx2.chg _)).trans (hc3.trans hc4), hm4⟩, ?_⟩
  simp only [ival]; omega

theorem kOrder2 {w : World} {g gs a b : Nat} {v : Value} {L : List (List Int)} {s : Int} (h : KR w g v L) (hG : KG L) (ha : a < L.length) (hb : b < L.length) (hs : Blk w gs T.t_int [.int .i64 s]) (hgv : ∀ r, leadsTo v r → r ≠ gs) :
    Cal prog F.slices_order2CmpFunc_pennyweight_tuples_key [v, .int .i64 (a : Int), .int .i64 (b : Int), .pointer (some ⟨gs, 0, none⟩), cmpF] w fun r w' => Chg (fun r => r = gs) w w' ∧ (∃ s', Blk w' gs T.t_int [.int .i64 s']) ∧ KR w' g v L ∧
      (r = .tuple #[.int .i64 (a : Int), .int .i64 (b : Int)] ∨ r = .tuple #[.int .i64 (b : Int), .int .i64 (a : Int)]) := by
  apply slices_order2CmpFunc_pennyweight_tuples_key.enter
  unfold slices_order2CmpFunc_pennyweight_tuples_key.body
  obtain ⟨y, hy⟩ : ∃ y, L[b]? = some y := ⟨_, List.getElem?_eq_getElem hb⟩
  obtain ⟨x, hx⟩ : ∃ x, L[a]? = some x := ⟨_, List.getElem?_eq_getElem ha⟩
  intro w1 hx1 _ _
  have h1 := h.ext hx1
  rw [get_kr rfl h1 hy, get_kr rfl h1 hx]
  refine less_kr (hG.at hy) (hG.at hx) fun r w2 hx2 hr => ?_
  simp only [binS_lss, split_dec]
  have hx02 := hx1.trans hx2
  refine ⟨fun _ => ?_, fun _ => ⟨hx02.chg _, ⟨s, hs.ext hx02⟩, h.ext hx02, by simp⟩⟩
  rw [nil_check, load_cell (by kernel_rfl) ((hs.ext hx02).cell (o := 0) rfl), binS_add, nil_check]
  refine store_cell T.t_int.i rfl rfl (hs.ext hx02) (by simp) fun w3 hc3 hs3 hb3 => ?_
  exact ⟨(hx02.chg _).trans hc3, ⟨_, hb3⟩, (h.ext hx02).chg hc3 fun r hr he => hgv r hr he, by simp⟩
/-- the middle of three places is one of them -/
theorem kMedian {w : World} {g gs a b c : Nat} {v : Value} {L : List (List Int)} {s : Int} (h : KR w g v L) (hG : KG L) (ha : a < L.length) (hb : b < L.length) (hc : c < L.length) (hs : Blk w gs T.t_int [.int .i64 s]) (hgv : ∀ r, leadsTo v r → r ≠ gs) :
    Cal prog F.slices_medianCmpFunc_pennyweight_tuples_key [v, .int .i64 (a : Int), .int .i64 (b : Int), .int .i64 (c : Int), .pointer (some ⟨gs, 0, none⟩), cmpF] w fun r w' => Chg (fun r => r = gs) w w' ∧ (∃ s', Blk w' gs T.t_int [.int .i64 s']) ∧ KR w' g v L ∧
      ∃ m : Nat, r = .int .i64 (m : Int) ∧ (m = a ∨ m = b ∨ m = c) := by
  apply slices_medianCmpFunc_pennyweight_tuples_key.enter
  unfold slices_medianCmpFunc_pennyweight_tuples_key.body
  refine (kOrder2 h hG ha hb hs hgv).mono ?_
  rintro r w1 _ ⟨hc1, ⟨s1, hs1⟩, h1, hr⟩
  obtain ⟨p, q, rfl, hp, hq⟩ : ∃ p q : Nat, r = .tuple #[.int .i64 (p : Int), .int .i64 (q : Int)] ∧ (p = a ∨ p = b) ∧ (q = a ∨ q = b) := by
    rcases hr with rfl | rfl
    · exact ⟨a, b, rfl, .inl rfl, .inr rfl⟩
    · exact ⟨b, a, rfl, .inr rfl, .inl rfl⟩
  rw [extract_tuple (v := .int .i64 (p : Int)) rfl, extract_tuple (v := .int .i64 (q : Int)) rfl]
  refine (kOrder2 h1 hG (a := q) (b := c) (by omega) hc hs1 hgv).mono ?_
  rintro r w2 _ ⟨hc2, ⟨s2, hs2⟩, h2, hr⟩
  obtain ⟨p2, q2, rfl, hp2, hq2⟩ : ∃ p2 q2 : Nat, r = .tuple #[.int .i64 (p2 : Int), .int .i64 (q2 : Int)] ∧ (p2 = q ∨ p2 = c) ∧ (q2 = q ∨ q2 = c) := by
    rcases hr with rfl | rfl
    · exact ⟨q, c, rfl, .inl rfl, .inr rfl⟩
    · exact ⟨c, q, rfl, .inr rfl, .inl rfl⟩
  rw [extract_tuple (v := .int .i64 (p2 : Int)) rfl, extract_tuple (v := .int .i64 (q2 : Int)) rfl]
  refine (kOrder2 h2 hG (a := p) (b := p2) (by omega) (by omega) hs2 hgv).mono ?_
  rintro r w3 _ ⟨hc3, hs3, h3, hr⟩
  rcases hr with rfl | rfl
  · rw [extract_tuple (v := .int .i64 (p : Int)) rfl, extract_tuple (v := .int .i64 (p2 : Int)) rfl]
    exact ⟨(hc1.trans hc2).trans hc3, hs3, h3, p2, rfl, by omega⟩
  · rw [extract_tuple (v := .int .i64 (p2 : Int)) rfl, extract_tuple (v := .int .i64 (p : Int)) rfl]
    exact ⟨(hc1.trans hc2).trans hc3, hs3, h3, p, rfl, by omega⟩
theorem kMedianAdj {w : World} {g gs a : Nat} {v : Value} {L : List (List Int)} {s : Int} (h : KR w g v L) (hG : KG L) (ha : 0 < a) (hb : a + 1 < L.length) (hL : L.length ≤ 1000000) (hs : Blk w gs T.t_int [.int .i64 s]) (hgv : ∀ r, leadsTo v r → r ≠ gs) :
    Cal prog F.slices_medianAdjacentCmpFunc_pennyweight_tuples_key [v, .int .i64 (a : Int), .pointer (some ⟨gs, 0, none⟩), cmpF] w fun r w' => Chg (fun r => r = gs) w w' ∧ (∃ s', Blk w' gs T.t_int [.int .i64 s']) ∧ KR w' g v L ∧
      ∃ m : Nat, r = .int .i64 (m : Int) ∧ a - 1 ≤ m ∧ m ≤ a + 1 := by
  apply slices_medianAdjacentCmpFunc_pennyweight_tuples_key.enter
  unfold slices_medianAdjacentCmpFunc_pennyweight_tuples_key.body
  simp only [binS_add, binS_sub]
  rw [wrap_i64 (by omega) (by omega), wrap_i64 (by omega) (by omega), show (a : Int) - 1 = ((a - 1 : Nat) : Int) by omega, show (a : Int) + 1 = ((a + 1 : Nat) : Int) by omega]
  refine (kMedian h hG (a := a - 1) (b := a) (c := a + 1) (by omega) (by omega) hb hs hgv).mono ?_
  rintro _ w1 _ ⟨hc1, hs1, h1, m, rfl, hm⟩
  exact ⟨hc1, hs1, h1, m, rfl, by omega, by omega⟩
set_option maxHeartbeats 800000 in
theorem kChoose {w : World} {g a b : Nat} {v : Value} {L : List (List Int)} (h : KR w g v L) (hG : KG L) (hab : a + 12 < b) (hb : b ≤ L.length) (hL : L.length ≤ 1000000) :
    Cal prog F.slices_choosePivotCmpFunc_pennyweight_tuples_key [v, .int .i64 (a : Int), .int .i64 (b : Int), cmpF] w fun r w' => Ext w w' ∧ KR w' g v L ∧ ∃ (j : Nat) (hint : Int), r = .tuple #[.int .i64 (j : Int), .int .i64 hint] ∧ a ≤ j ∧ j < b := by
  apply slices_choosePivotCmpFunc_pennyweight_tuples_key.enter
  unfold slices_choosePivotCmpFunc_pennyweight_tuples_key.body
  rw [binS_sub, wrap_i64 (by omega) (by omega)]
  refine alloc_c T.t_int.i fun gs w1 hgs hx1 hbs => ?_
  have hbs : Blk w1 gs T.t_int [.int .i64 0] := hbs
  obtain ⟨n, hn⟩ : ∃ n : Nat, b - a = n := ⟨_, rfl⟩
  have e0 : ((b : Int) - a).tdiv 4 = ((n / 4 : Nat) : Int) := by rw [Int.tdiv_eq_ediv_of_nonneg (by omega)]; omega
  have hgv : ∀ r, leadsTo v r → r ≠ gs := fun r hr => by have := h.leads hr; omega
  rw [binS_quo (by decide), e0]
  simp only [binS_mul, binS_add]
  rw [binS_quo (by decide), e0]
  simp only [binS_mul, binS_add]
  rw [binS_quo (by decide), e0]
  simp only [binS_mul, binS_add]
  have q4 : n / 4 ≤ 250000 := by omega
  have wr : ∀ c : Int, c = 1 ∨ c = 2 ∨ c = 3 → IntKind.i64.wrap ((a : Int) + IntKind.i64.wrap (IntKind.i64.wrap ((n / 4 : Nat) : Int) * c)) = (a : Int) + ((n / 4 : Nat) : Int) * c := fun c hc => by
    have hm : 0 ≤ ((n / 4 : Nat) : Int) * c ∧ ((n / 4 : Nat) : Int) * c ≤ 750000 := by rcases hc with rfl | rfl | rfl <;> omega
    rw [wrap_i64 (x := ((n / 4 : Nat) : Int)) (by omega) (by omega), wrap_i64 (x := ((n / 4 : Nat) : Int) * c) (by omega) (by omega), wrap_i64 (by omega) (by omega)]
  rw [wr 1 (by omega), wr 2 (by omega), wr 3 (by omega), show (a : Int) + ((n / 4 : Nat) : Int) * 1 = ((a + n / 4 : Nat) : Int) by omega, show (a : Int) + ((n / 4 : Nat) : Int) * 2 = ((a + n / 4 * 2 : Nat) : Int) by omega, show (a : Int) + ((n / 4 : Nat) : Int) * 3 = ((a + n / 4 * 3 : Nat) : Int) by omega]
  refine join1 (fun v' w2 => Chg (fun r => r = gs) w1 w2 ∧ (∃ s', Blk w2 gs T.t_int [.int .i64 s']) ∧ KR w2 g v L ∧ ∃ j : Nat, v' = .int .i64 (j : Int) ∧ a ≤ j ∧ j < b) ?_ ?_
  · rintro _ w2 ⟨hc2, ⟨s, hs⟩, h2, j, rfl, hj1, hj2⟩
    have hx02 : Ext w w2 := hx1.then hc2 (fun r hr he => by have he : r = gs := he; omega)
    rw [load_cell (by kernel_rfl) (hs.cell (o := 0) rfl)]
    simp only [binS_eql, split_dec]
    exact ⟨fun _ => ⟨hx02, h2, j, _, rfl, hj1, hj2⟩, fun _ => ⟨fun _ => ⟨hx02, h2, j, _, rfl, hj1, hj2⟩, fun _ => ⟨hx02, h2, j, _, rfl, hj1, hj2⟩⟩⟩
  intro J hJ
  have h1 := h.ext hx1
  simp only [binS_geq, split_dec]
  refine ⟨fun _ => ?_, fun h => by omega⟩
  refine join3u (fun i j k w3 => Chg (fun r => r = gs) w1 w3 ∧ (∃ s', Blk w3 gs T.t_int [.int .i64 s']) ∧ KR w3 g v L ∧ ∃ i' j' k' : Nat, i = .int .i64 (i' : Int) ∧ j = .int .i64 (j' : Int) ∧ k = .int .i64 (k' : Int) ∧ (a ≤ i' ∧ i' < b) ∧ (a ≤ j' ∧ j' < b) ∧ (a ≤ k' ∧ k' < b)) ?_ ?_
  · rintro _ _ _ w3 ⟨hc3, ⟨s, hs⟩, h3, i, j, k, rfl, rfl, rfl, hi, hj, hk⟩
    refine (kMedian h3 hG (a := i) (b := j) (c := k) (by omega) (by omega) (by omega) hs hgv).mono ?_
    rintro _ w4 _ ⟨hc4, hs4, h4, m, rfl, hm⟩
    exact hJ _ _ ⟨hc3.trans hc4, hs4, h4, m, rfl, by omega, by omega⟩
  · intro J1 hJ1
    refine ⟨fun h50 => ?_, fun h50 => hJ1 _ _ _ _ ⟨Chg.refl _ _, ⟨0, hbs⟩, h1, a + n / 4, a + n / 4 * 2, a + n / 4 * 3, rfl, rfl, rfl, by omega, by omega, by omega⟩⟩
    refine (kMedianAdj h1 hG (a := a + n / 4) (by omega) (by omega) hL hbs hgv).mono ?_
    rintro _ w2 _ ⟨hc2, ⟨s2, hs2⟩, h2, i', rfl, hi1, hi2⟩
    refine (kMedianAdj h2 hG (a := a + n / 4 * 2) (by omega) (by omega) hL hs2 hgv).mono ?_
    rintro _ w3 _ ⟨hc3, ⟨s3, hs3⟩, h3, j', rfl, hj1, hj2⟩
    refine (kMedianAdj h3 hG (a := a + n / 4 * 3) (by omega) (by omega) hL hs3 hgv).mono ?_
    rintro _ w4 _ ⟨hc4, hs4, h4, k', rfl, hk1, hk2⟩
    exact hJ1 _ _ _ _ ⟨(hc2.trans hc3).trans hc4, hs4, h4, i', j', k', rfl, rfl, rfl, by omega, by omega, by omega⟩
end Go.Proofs.Ytahhkeljejfgfaa

