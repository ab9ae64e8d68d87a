/- Keys compared: by what number they tell. -/
import Derived.Test.YtahhkeljejfgfaaU4
namespace Go.Proofs.Ytahhkeljejfgfaa
open Go Go.Vc Go.RowKit Go.Proofs Go.Proofs.Try
set_option maxRecDepth 100000

/-- the number that a key tells -/
def numK : List Int → Int
  | [] => 0
  | x :: l => x * 32 ^ l.length + numK l
theorem pow_pos32 (n : Nat) : (0 : Int) < 32 ^ n := Int.pow_pos (by omega)
theorem numK_bound : ∀ (l : List Int), (∀ x ∈ l, 0 ≤ x ∧ x < 32) → 0 ≤ numK l ∧ numK l < 32 ^ l.length
  | [], _ => by simp [numK]
  | x :: l, h => by
    have ih := numK_bound l fun y hy => h y (.tail _ hy)
    have hx := h x (.head _)
    have hp := pow_pos32 l.length
    simp only [numK, List.length_cons]
    have e : (32 : Int) ^ (l.length + 1) = 32 * 32 ^ l.length := by rw [Int.pow_succ, Int.mul_comm]
    have h1 : x * 32 ^ l.length ≤ 31 * 32 ^ l.length := Int.mul_le_mul_of_nonneg_right (by omega) (by omega)
    have h2 : 0 ≤ x * 32 ^ l.length := Int.mul_nonneg hx.1 (by omega)
    rw [e]; omega
def cmpL : List Int → List Int → Int
  | x :: a, y :: b => if x < y then -1 else if y < x then 1 else cmpL a b
  | _, _ => 0
theorem cmpL_num : ∀ (a b : List Int), a.length = b.length → (∀ x ∈ a, 0 ≤ x ∧ x < 32) → (∀ x ∈ b, 0 ≤ x ∧ x < 32) → (cmpL a b < 0 ↔ numK a < numK b) ∧ (numK a = numK b → a = b)
  | [], [], _, _, _ => by simp [cmpL]
  | [], _ :: _, h, _, _ => by simp at h
  | _ :: _, [], h, _, _ => by simp at h
  | x :: a, y :: b, h, ha, hb => by
    have hl : a.length = b.length := by simpa using h
    have ha' : ∀ x ∈ a, 0 ≤ x ∧ x < 32 := fun z hz => ha z (.tail _ hz)
    have hb' : ∀ x ∈ b, 0 ≤ x ∧ x < 32 := fun z hz => hb z (.tail _ hz)
    have ih := cmpL_num a b hl ha' hb'
    have b1 := numK_bound a ha'
    have b2 := numK_bound b hb'
    have hp := pow_pos32 b.length
    simp only [cmpL, numK]
    rw [hl] at b1 ⊢
    have step : ∀ u v : Int, u < v → u * 32 ^ b.length + 32 ^ b.length ≤ v * 32 ^ b.length := fun u v huv => by
      have := Int.mul_le_mul_of_nonneg_right (show u + 1 ≤ v by omega) (show (0 : Int) ≤ 32 ^ b.length by omega)
      rw [Int.add_mul, Int.one_mul] at this
      exact this
    by_cases h1 : x < y
    · rw [if_pos h1]
      have := step x y h1
      exact ⟨⟨fun _ => by omega, fun _ => by omega⟩, fun h => by omega⟩
    · rw [if_neg h1]
      by_cases h2 : y < x
      · rw [if_pos h2]
        have := step y x h2
        exact ⟨⟨fun h => by omega, fun h => by omega⟩, fun h => by omega⟩
      · rw [if_neg h2]
        have hxy : x = y := by omega
        subst hxy
        exact ⟨ih.1.trans ⟨fun h => by omega, fun h => by omega⟩, fun h => by rw [ih.2 (by omega)]⟩
theorem cmpL_drop : ∀ {a b : List Int} {i : Nat}, (∀ (j : Nat) (x y : Int), j < i → a[j]? = some x → b[j]? = some y → x = y) → i ≤ a.length → i ≤ b.length → cmpL a b = cmpL (a.drop i) (b.drop i)
  | _, _, 0, _, _, _ => by simp
  | [], _, i + 1, _, h, _ => by simp at h
  | _ :: _, [], i + 1, _, _, h => by simp at h
  | x :: a, y :: b, i + 1, he, h1, h2 => by
    have hxy := he 0 x y (by omega) rfl rfl
    subst hxy
    simp only [cmpL, Int.lt_irrefl, if_false, List.drop_succ_cons]
    exact cmpL_drop (fun j u v hj hu hv => he (j + 1) u v (by omega) hu hv) (by simpa using h1) (by simpa using h2)

theorem cNaN {x : Int} {w : World} : Cal prog F.cmp_isNaN_int8 [.int .i8 x] w fun v w' => v = .bool false ∧ Ext w w' := by
  apply cmp_isNaN_int8.enter
  unfold cmp_isNaN_int8.body
  simp only [binS_neq]
  exact ⟨by simp, Ext.refl _⟩
theorem cComp {x y : Int} {w : World} : Cal prog F.cmp_Compare_int8 [.int .i8 x, .int .i8 y] w fun v w' => v = .int .i64 (if x < y then -1 else if y < x then 1 else 0) ∧ Ext w w' := by
  apply cmp_Compare_int8.enter
  unfold cmp_Compare_int8.body
  refine cNaN.mono ?_
  rintro _ w1 _ ⟨rfl, hx1⟩
  refine cNaN.mono ?_
  rintro _ w2 _ ⟨rfl, hx2⟩
  simp only [split_false, binS_lss, binS_gtr, split_dec]
  exact ⟨fun h => ⟨by rw [if_pos h], hx1.trans hx2⟩, fun h => ⟨fun h2 => ⟨by rw [if_neg h, if_pos h2], hx1.trans hx2⟩, fun h2 => ⟨by rw [if_neg h, if_neg h2], hx1.trans hx2⟩⟩⟩
theorem sComp {av bv : Value} {a b : List Int} {w : World} (ha : LS .i8 w av a) (hb : LS .i8 w bv b) (hl : a.length = b.length) : Cal prog F.slices_Compare_int8_int8 [av, bv] w fun v w' => v = .int .i64 (cmpL a b) ∧ Ext w w' := by
  apply slices_Compare_int8_int8.enter
  unfold slices_Compare_int8_int8.body
  have hle := ha.le
  rw [len_ls T.t_sl_int8.u ha]
  refine Loop2.range a.length (fun i _ w1 => Ext w w1 ∧ ∀ (j : Nat) (x y : Int), j < i → a[j]? = some x → b[j]? = some y → x = y) (by omega) ⟨Ext.refl _, fun j x y hj => by omega⟩ ?_ ?_
  · rintro i _ w1 kk hi ⟨hx1, heq⟩ hkk
    simp only [binS_lss, split_dec]
    refine ⟨fun _ => ?_, fun h => by omega⟩
    obtain ⟨x, hx⟩ : ∃ x, a[i]? = some x := ⟨_, List.getElem?_eq_getElem hi⟩
    obtain ⟨y, hy⟩ : ∃ y, b[i]? = some y := ⟨_, List.getElem?_eq_getElem (by omega)⟩
    rw [get_ls T.t_sl_int8.u T.t_int8.i (by kernel_rfl) (ha.ext hx1) hx, len_ls T.t_sl_int8.u (hb.ext hx1)]
    simp only [binS_geq, split_dec]
    refine ⟨fun h => by omega, fun _ => ?_⟩
    rw [get_ls T.t_sl_int8.u T.t_int8.i (by kernel_rfl) (hb.ext hx1) hy]
    refine cComp.mono ?_
    rintro _ w2 _ ⟨rfl, hx2⟩
    have hd : cmpL a b = cmpL (a.drop i) (b.drop i) := cmpL_drop heq (by omega) (by omega)
    have e1 : a.drop i = x :: a.drop (i + 1) := by rw [List.drop_eq_getElem_cons hi, (List.getElem?_eq_some_iff.1 hx).2]
    have e2 : b.drop i = y :: b.drop (i + 1) := by rw [List.drop_eq_getElem_cons (by omega), (List.getElem?_eq_some_iff.1 hy).2]
    rw [e1, e2] at hd
    simp only [cmpL] at hd
    simp only [binS_neq, split_dec, binS_add]
    refine ⟨fun hne => ⟨?_, hx1.trans hx2⟩, fun heq0 => hkk _ _ ⟨hx1.trans hx2, fun j x' y' hj hx' hy' => ?_⟩⟩
    · rw [hd]
      by_cases h1 : x < y
      · rw [if_pos h1, if_pos h1]
      · by_cases h2 : y < x
        · rw [if_neg h1, if_pos h2, if_neg h1, if_pos h2]
        · rw [if_neg h1, if_neg h2] at hne; exact absurd rfl hne
    · by_cases hji : j = i
      · subst hji
        rw [hx] at hx'; rw [hy] at hy'
        cases hx'; cases hy'
        have h0 := Decidable.not_not.1 heq0
        by_cases h1 : x < y
        · rw [if_pos h1] at h0; omega
        · by_cases h2 : y < x
          · rw [if_neg h1, if_pos h2] at h0; omega
          · omega
      · exact heq j x' y' (by omega) hx' hy'
  · rintro _ w1 kk ⟨hx1, heq⟩
    simp only [binS_lss, show decide ((a.length : Int) < (a.length : Int)) = false from decide_eq_false (by omega), split_false]
    rw [len_ls T.t_sl_int8.u (ha.ext hx1), len_ls T.t_sl_int8.u (hb.ext hx1)]
    simp only [binS_lss, split_dec]
    refine ⟨fun h => by omega, fun _ => ⟨?_, hx1⟩⟩
    have hd : cmpL a b = cmpL (a.drop a.length) (b.drop a.length) := cmpL_drop heq (by omega) (by omega)
    rw [hd, List.drop_length]
    cases b.drop a.length <;> rfl

/-- the order of keys -/
theorem kLess {a b : List Int} {w : World} (ha : KeyL a) (hb : KeyL b) : Cal prog F.P_tuples_Tuples_Lines_c1 [keyV a, keyV b] w fun v w' => Ext w w' ∧ ∃ r : Int, v = .int .i64 r ∧ (r < 0 ↔ numK a < numK b) := by
  have h6 : ∀ {c : List Int}, KeyL c → (ints .i8 c).length = 6 := fun h => by simp [h.1]
  apply P_tuples_Tuples_Lines_c1.enter
  unfold P_tuples_Tuples_Lines_c1.body
  refine box_c fun g1 w1 hg1 hx1 hb1 => ?_
  refine box_c fun g2 w2 hg2 hx2 hb2 => ?_
  rw [keyV_cells] at hb1 hb2
  intro w3 hx3 _ _
  have hb1 := (hb1.ext hx2).ext hx3
  have hb2 := hb2.ext hx3
  rw [slice_array T.t_tuples_key.u T.t_int8.i (l := 0) (h := 6) (m := 6) lo_no hi_no mx_no (by omega) (by omega) (by omega), slice_array T.t_tuples_key.u T.t_int8.i (l := 0) (h := 6) (m := 6) lo_no hi_no mx_no (by omega) (by omega) (by omega)]
  rw [if_neg (by omega), if_neg (by omega)]
  have ls : ∀ {g : Nat} {c : List Int}, KeyL c → Blk w3 g T.t_tuples_key (ints .i8 c) → LS .i8 w3 (.slice (some ⟨g, 0 + 0 * 1, none⟩) (6 - 0) (6 - 0)) c := fun {g c} hc hbk => by
    unfold LS
    refine ⟨by simp, g, 0, _, 6, by rw [hc.1], by rw [hc.1]; omega, by simp [maxLen], fun _ => rfl, hbk.range⟩
  refine (sComp (ls ha hb1) (ls hb hb2) (by rw [ha.1, hb.1])).mono ?_
  rintro _ w4 _ ⟨rfl, hx4⟩
  exact ⟨((hx1.trans hx2).trans hx3).trans hx4, _, rfl, (cmpL_num a b (by rw [ha.1, hb.1]) ha.2 hb.2).1⟩
end Go.Proofs.Ytahhkeljejfgfaa

