/- Bits, and sets of values: what they answer. -/
import Derived.Test.YtahhkeljejfgfaaDoorL9
import Derived.Test.YtahhkeljejfgfaaDoorPb
namespace Go.Proofs.YtahhkeljejfgfaaDoor
open Go Go.Vc Go.RowKit Go.Proofs Go.Proofs.Tryd
set_option maxRecDepth 100000

section
variable {P : Program} {w : World} {t : TypeId} {cx cy : Bool} {a b : Nat} {K : Value → Prop}
theorem bv_nat (a : Nat) : BitVec.ofInt 64 (a : Int) = BitVec.ofNat 64 a := BitVec.ofInt_natCast _ _
theorem bv_wrap (x : BitVec 64) : IntKind.u64.wrap (x.toNat : Int) = (x.toNat : Int) := by
  have := x.isLt
  rw [wrap_u64 (by omega) (by omega)]
theorem u64_and (ha : a < 2 ^ 64) (hb : b < 2 ^ 64) : RunQ P (binS .and t cx cy (.int .u64 a) (.int .u64 b)) w K = K (.int .u64 ((a &&& b : Nat) : Int)) := RunQ.of fun w' _ => by
  have e : (BitVec.ofInt 64 (a : Int) &&& BitVec.ofInt 64 (b : Int)).toNat = a &&& b := by
    rw [bv_nat, bv_nat, BitVec.toNat_and, BitVec.toNat_ofNat, BitVec.toNat_ofNat, Nat.mod_eq_of_lt ha, Nat.mod_eq_of_lt hb]
  have hw : IntKind.u64.wrap ((a &&& b : Nat) : Int) = ((a &&& b : Nat) : Int) := by rw [← e]; exact bv_wrap _
  have e' : (BitVec.ofInt IntKind.u64.bits (a : Int) &&& BitVec.ofInt IntKind.u64.bits (b : Int)).toNat = a &&& b := e
  simp only [binS, eqGuard, binOp, Op.intBits, e', hw]
  rfl
theorem u64_or (ha : a < 2 ^ 64) (hb : b < 2 ^ 64) : RunQ P (binS .or t cx cy (.int .u64 a) (.int .u64 b)) w K = K (.int .u64 ((a ||| b : Nat) : Int)) := RunQ.of fun w' _ => by
  have e : (BitVec.ofInt 64 (a : Int) ||| BitVec.ofInt 64 (b : Int)).toNat = a ||| b := by
    rw [bv_nat, bv_nat, BitVec.toNat_or, BitVec.toNat_ofNat, BitVec.toNat_ofNat, Nat.mod_eq_of_lt ha, Nat.mod_eq_of_lt hb]
  have hw : IntKind.u64.wrap ((a ||| b : Nat) : Int) = ((a ||| b : Nat) : Int) := by rw [← e]; exact bv_wrap _
  have e' : (BitVec.ofInt IntKind.u64.bits (a : Int) ||| BitVec.ofInt IntKind.u64.bits (b : Int)).toNat = a ||| b := e
  simp only [binS, eqGuard, binOp, Op.intBits, e', hw]
  rfl
theorem u64_clr : RunQ P (binS .andNot t cx cy (.int .u64 a) (.int .u64 b)) w K = K (.int .u64 (clrN a b : Int)) := RunQ.of fun w' _ => by
  have e : (BitVec.ofInt 64 (a : Int) &&& ~~~BitVec.ofInt 64 (b : Int)).toNat = clrN a b := by rw [bv_nat, bv_nat]; rfl
  have hw : IntKind.u64.wrap (clrN a b : Int) = (clrN a b : Int) := bv_wrap _
  have e' : (BitVec.ofInt IntKind.u64.bits (a : Int) &&& ~~~BitVec.ofInt IntKind.u64.bits (b : Int)).toNat = clrN a b := e
  simp only [binS, eqGuard, binOp, Op.intBits, e', hw]
  rfl
theorem u64_shr {k : IntKind} {n : Nat} (hn : n < 64) : RunQ P (binS .shr t cx cy (.int .u64 (a : Int)) (.int k (n : Int))) w K = K (.int .u64 ((a / 2 ^ n : Nat) : Int)) := RunQ.of fun w' _ => by
  have e : (a : Int).fdiv (2 ^ min n IntKind.u64.bits) = ((a / 2 ^ n : Nat) : Int) := by
    have : min n IntKind.u64.bits = n := Nat.min_eq_left (by show n ≤ 64; omega)
    rw [this, Int.fdiv_eq_ediv_of_nonneg _ (by exact Int.le_of_lt (Int.pow_pos (by omega)))]
    simp
  simp only [binS, eqGuard, binOp, Op.shift, Int.toNat_natCast, e]
  simp [show ¬ (n : Int) < 0 by omega]
theorem u64_one_shl {k : IntKind} {n : Nat} (hn : n < 64) : RunQ P (binS .shl t cx cy (.int .u64 1) (.int k (n : Int))) w K = K (.int .u64 ((2 ^ n : Nat) : Int)) := by
  rw [binS_shl (by omega)]
  have e : min ((n : Int).toNat) IntKind.u64.bits = n := Nat.min_eq_left (by show n ≤ 64; omega)
  have h2 : 2 ^ n < 2 ^ 64 := Nat.pow_lt_pow_right (by omega) hn
  rw [e, Int.one_mul, show ((2 : Int) ^ n) = ((2 ^ n : Nat) : Int) by simp]
  generalize 2 ^ n = q at h2 ⊢
  rw [wrap_u64 (by omega) (by omega)]
end

/-- the table of the package math/bits -/
def tzTab : List Int := [0, 1, 56, 2, 57, 49, 28, 3, 61, 58, 42, 50, 38, 29, 17, 4, 62, 47, 59, 36, 45, 43, 51, 22, 53, 39, 33, 30, 24, 18, 12, 5, 63, 55, 48, 27, 60, 41, 37, 16, 46, 35, 44, 21, 52, 32, 23, 11, 54, 26, 40, 15, 34, 20, 31, 10, 25, 14, 19, 9, 13, 8, 7, 6]
def Laid (w : World) : Prop := w.rangeAt 0 0 (ints .u8 tzTab)
theorem Laid.ext {w w' : World} (h : Laid w) (hx : Ext w w') : Laid w' := range_ext hx h
theorem tz_tab : ∀ k : Nat, k < 64 → tzTab[(2 ^ k * 285870213051353865 % 2 ^ 64) / 2 ^ 58]? = some (k : Int) := by decide

theorem bTz {x k m : Nat} {w : World} (hl : Laid w) (hx : x = 2 ^ k * (2 * m + 1)) (h64 : x < 2 ^ 64) :
    Cal prog F.math_bits_TrailingZeros64 [.int .u64 (x : Int)] w fun v w' => v = .int .i64 (k : Int) ∧ Ext w w' := by
  have hk1 : 0 < 2 ^ k := Nat.two_pow_pos k
  have hxp : 2 ^ k ≤ x := by
    have : 2 ^ k * 1 ≤ 2 ^ k * (2 * m + 1) := Nat.mul_le_mul_left _ (by omega)
    omega
  have hk : k < 64 := by
    rcases Nat.lt_or_ge k 64 with h | h
    · exact h
    · have : 2 ^ 64 ≤ 2 ^ k := Nat.pow_le_pow_right (by omega) h
      omega
  apply math_bits_TrailingZeros64.enter
  unfold math_bits_TrailingZeros64.body
  simp only [binS_eql, split_dec]
  refine ⟨fun h => by omega, fun _ => ?_⟩
  rw [un_neg]
  have e1 : IntKind.u64.wrap (0 - (x : Int)) = ((2 ^ 64 - x : Nat) : Int) := by
    simp only [IntKind.wrap, IntKind.bits, IntKind.signed]
    simp; omega
  rw [e1, u64_and h64 (by omega), hx, and_neg (by omega)]
  simp only [binS_mul]
  have e2 : IntKind.u64.wrap (((2 ^ k : Nat) : Int) * 285870213051353865) = ((2 ^ k * 285870213051353865 % 2 ^ 64 : Nat) : Int) := by
    have e : ((2 ^ k : Nat) : Int) * 285870213051353865 = ((2 ^ k * 285870213051353865 : Nat) : Int) := by simp
    rw [e]
    simp only [IntKind.wrap, IntKind.bits, IntKind.signed]
    simp
  have e3 : (58 : Int) = ((58 : Nat) : Int) := rfl
  rw [e2, e3, u64_shr (by omega)]
  have ht := tz_tab k hk
  have hlt := (List.getElem?_eq_some_iff.1 ht).1
  rw [index_arr_nat (t := T.t_arr64_uint8) T.t_arr64_uint8.u T.t_uint8.i hlt, load_cell (by kernel_rfl) (by rw [Nat.mul_one]; exact hl _ _ (ints_get ht)), conv_int T.t_uint8.u T.t_int.u, wrap_i64 (by omega) (by omega)]
  exact ⟨rfl, Ext.refl _⟩

/-- a set of values -/
def domV (b n : Nat) : Value := .agg #[.int .u64 (b : Int), .int .i64 (n : Int)]
def Dom (b n : Nat) : Prop := n ≤ 32 ∧ b < 2 ^ n

theorem pow_mask (s i : Nat) : (2 ^ s - 1).testBit i = decide (i < s) := Nat.testBit_two_pow_sub_one s i
theorem dRight {b n : Nat} {v : Int} {w : World} : Cal prog F.dom_Set_right [domV b n, .int .i64 v] w fun r w' => r = .bool (decide (0 ≤ v ∧ v < n)) ∧ Ext w w' := by
  apply dom_Set_right.enter
  unfold dom_Set_right.body
  refine box_c fun g w1 hg hx1 hb => ?_
  simp only [JoinC, binS_geq, split_dec]
  refine ⟨fun h => ?_, fun h => ⟨?_, hx1⟩⟩
  · rw [field_at T.t_dom_Set.p rfl, load_cell (by kernel_rfl) (hb.cell (o := 0 + 1) rfl)]
    simp only [binS_lss]
    exact ⟨by simp [h], hx1⟩
  · rw [decide_eq_false]; omega
theorem dSize {b n : Nat} {w : World} : Cal prog F.dom_Set_Size [domV b n] w fun r w' => r = .int .i64 n ∧ Ext w w' := by
  apply dom_Set_Size.enter
  unfold dom_Set_Size.body
  refine box_c fun g w1 hg hx1 hb => ?_
  rw [field_at T.t_dom_Set.p rfl, load_cell (by kernel_rfl) (hb.cell (o := 0 + 1) rfl)]
  exact ⟨rfl, hx1⟩
theorem dNew {n : Int} {w : World} : Cal prog F.dom_New [.int .i64 n] w fun r w' => Ext w w' ∧ r = (if 1 ≤ n ∧ n ≤ 32 then .tuple #[domV (2 ^ n.toNat - 1) n.toNat, .int .i64 0] else .tuple #[domV 0 0, .int .i64 1]) := by
  apply dom_New.enter
  unfold dom_New.body
  refine alloc_c T.t_dom_Set.i fun g w1 hg hx1 hb => ?_
  refine join1 (fun v w2 => v = .bool (decide (¬ (1 ≤ n ∧ n ≤ 32))) ∧ w1 = w2) ?_ ?_
  · rintro _ _ ⟨rfl, rfl⟩
    simp only [split_dec]
    refine ⟨fun h => ?_, fun h => ?_⟩
    · rw [build_eq (cs := #[.int .u64 0, .int .i64 0]) (by kernel_rfl)]
      refine store_whole (vs := [.int .u64 0, .int .i64 0]) T.t_dom_Set.i rfl rfl (by intro u hu; simp at hu; rcases hu with rfl | rfl <;> rfl) hb fun w3 hc3 hs3 hb3 => ?_
      rw [res_struct T.t_dom_Set.p T.t_dom_Set.i rfl hb3.range, if_neg h]
      exact ⟨hx1.then hc3 (by rintro r hr rfl; omega), rfl⟩
    · have h : 1 ≤ n ∧ n ≤ 32 := Decidable.not_not.1 h
      obtain ⟨m, rfl⟩ : ∃ m : Nat, n = m := ⟨n.toNat, by omega⟩
      rw [u64_one_shl (by omega)]
      have hp : 0 < 2 ^ m := Nat.two_pow_pos m
      have hp2 : 2 ^ m ≤ 2 ^ 32 := Nat.pow_le_pow_right (by omega) (by omega)
      simp only [binS_sub]
      rw [wrap_u64 (by omega) (by omega), show (((2 ^ m : Nat) : Int) - 1) = ((2 ^ m - 1 : Nat) : Int) by omega]
      rw [build_eq (cs := #[.int .u64 ((2 ^ m - 1 : Nat) : Int), .int .i64 m]) (by kernel_rfl)]
      refine store_whole (vs := [.int .u64 ((2 ^ m - 1 : Nat) : Int), .int .i64 m]) T.t_dom_Set.i rfl rfl (by intro u hu; simp at hu; rcases hu with rfl | rfl <;> rfl) hb fun w3 hc3 hs3 hb3 => ?_
      rw [res_struct T.t_dom_Set.p T.t_dom_Set.i rfl hb3.range, if_pos h]
      exact ⟨hx1.then hc3 (by rintro r hr rfl; omega), rfl⟩
  · intro J hJ
    simp only [binS_lss, binS_gtr, split_dec]
    refine ⟨fun h => hJ _ _ ⟨?_, rfl⟩, fun h => hJ _ _ ⟨?_, rfl⟩⟩
    · rw [decide_eq_true]; omega
    · congr 1; simp; omega

theorem dNext {b n : Nat} {v : Int} {w : World} (hd : Dom b n) (hl : Laid w) (hv : -1 ≤ v) : Cal prog F.dom_Set_Next [domV b n, .int .i64 v] w fun r w' => r = .int .i64 (nextN b n v) ∧ Ext w w' := by
  obtain ⟨hn, hbn⟩ := hd
  have hb64 : b < 2 ^ 64 := Nat.lt_of_lt_of_le hbn (Nat.pow_le_pow_right (by omega) (by omega))
  apply dom_Set_Next.enter
  unfold dom_Set_Next.body
  refine box_c fun g w1 hg hx1 hb => ?_
  rw [field_at T.t_dom_Set.p rfl, load_cell (by kernel_rfl) (hb.cell (o := 0 + 1) rfl)]
  simp only [binS_sub, binS_geq, split_dec]
  rw [wrap_i64 (by omega) (by omega)]
  refine ⟨fun h => ⟨by rw [nextN_none h], hx1⟩, fun hlt => ?_⟩
  rw [field_at T.t_dom_Set.p rfl, load_cell (by kernel_rfl) (hb.cell (o := 0 + 0) rfl)]
  refine join1 (fun u w2 => w1 = w2 ∧ ∃ r s : Nat, u = .int .u64 (r : Int) ∧ r < 2 ^ 64 ∧ v + 1 = s ∧ ∀ i, r.testBit i = (decide (s ≤ i) && b.testBit i)) ?_ ?_
  · rintro _ _ ⟨rfl, r, s, rfl, hr64, hs, hr⟩
    simp only [binS_eql, split_dec]
    refine ⟨fun h0 => ⟨by rw [nextN_rest0 hr (by omega) hs], hx1⟩, fun h0 => ?_⟩
    obtain ⟨k, m, hk⟩ := low_bit r (by omega)
    refine (bTz (hl.ext hx1) hk hr64).mono ?_
    rintro _ w3 _ ⟨rfl, hx3⟩
    exact ⟨by rw [nextN_rest (by omega) hbn hr hk hs], hx1.trans hx3⟩
  · intro J hJ
    refine ⟨fun h => ?_, fun h => ?_⟩
    · obtain ⟨s, rfl⟩ : ∃ s : Nat, v = s := ⟨v.toNat, by omega⟩
      have hp : 0 < 2 ^ (s + 1) := Nat.two_pow_pos _
      have hp2 : 2 ^ (s + 1) ≤ 2 ^ 32 := Nat.pow_le_pow_right (by omega) (by omega)
      simp only [binS_add]
      rw [wrap_i64 (by omega) (by omega), show ((s : Int) + 1) = ((s + 1 : Nat) : Int) by omega, u64_one_shl (by omega)]
      simp only [binS_sub]
      rw [wrap_u64 (by omega) (by omega), show (((2 ^ (s + 1) : Nat) : Int) - 1) = ((2 ^ (s + 1) - 1 : Nat) : Int) by omega, u64_clr]
      refine hJ _ _ ⟨rfl, _, s + 1, rfl, clrN_lt _ _, by omega, fun i => ?_⟩
      rw [clrN_bit, pow_mask]
      by_cases h64 : i < 64
      · by_cases hi : s + 1 ≤ i
        · simp [h64, hi, show ¬ i < s + 1 by omega]
        · simp [hi, show i < s + 1 by omega]
      · rw [bit_of_lt hb64 (by omega)]; simp
    · exact hJ _ _ ⟨rfl, b, 0, rfl, hb64, by omega, fun i => by simp⟩
theorem dFirst {b n : Nat} {w : World} (hd : Dom b n) (hl : Laid w) : Cal prog F.dom_Set_First [domV b n] w fun r w' => r = .int .i64 (nextN b n (-1)) ∧ Ext w w' := by
  apply dom_Set_First.enter
  unfold dom_Set_First.body
  refine box_c fun g w1 hg hx1 hb => ?_
  rw [load_struct T.t_dom_Set.p T.t_dom_Set.i rfl hb.range]
  refine (dNext hd (hl.ext hx1) (by omega)).mono ?_
  rintro _ w2 _ ⟨rfl, hx2⟩
  exact ⟨rfl, hx1.trans hx2⟩
theorem dDrop {b n : Nat} {v : Int} {w : World} (hd : Dom b n) : Cal prog F.dom_Set_Drop [domV b n, .int .i64 v] w fun r w' => r = domV (if 0 ≤ v ∧ v < n then clrN b (2 ^ v.toNat) else b) n ∧ Ext w w' := by
  apply dom_Set_Drop.enter
  unfold dom_Set_Drop.body
  refine box_c fun g w1 hg hx1 hb => ?_
  refine alloc_c T.t_dom_Set.i fun g2 w2 hg2 hx2 hb2 => ?_
  have s1 := hx1.size
  have hlt := hb.lt
  refine join0 (fun w3 => ∃ b', Blk w3 g T.t_dom_Set [.int .u64 ((b' : Nat) : Int), .int .i64 (n : Int)] ∧ Blk w3 g2 T.t_dom_Set [.int .u64 0, .int .i64 0] ∧ Ext w w3 ∧ b' = (if 0 ≤ v ∧ v < n then clrN b (2 ^ v.toNat) else b)) ?_ ?_
  · rintro w3 ⟨b', hb3, hb23, hx3, rfl⟩
    rw [load_struct T.t_dom_Set.p T.t_dom_Set.i rfl hb3.range]
    refine store_whole (vs := [_, _]) T.t_dom_Set.i rfl rfl (by intro u hu; simp at hu; rcases hu with rfl | rfl <;> rfl) hb23 fun w4 hc4 hs4 hb4 => ?_
    rw [res_struct T.t_dom_Set.p T.t_dom_Set.i rfl hb4.range]
    exact ⟨rfl, hx3.then hc4 (by rintro r hr rfl; omega)⟩
  · intro J hJ
    have hbw := hb.ext hx2
    rw [load_struct T.t_dom_Set.p T.t_dom_Set.i rfl hbw.range]
    refine dRight.mono ?_
    rintro _ w5 _ ⟨rfl, hx5⟩
    have hx05 := (hx1.trans hx2).trans hx5
    simp only [split_dec, Drew]
    refine ⟨fun h w6 hx6 _ _ => ?_, fun h => hJ _ ⟨b, hbw.ext hx5, hb2.ext hx5, hx05, by rw [if_neg h]⟩⟩
    have hb6 := (hbw.ext hx5).ext hx6
    rw [field_at T.t_dom_Set.p rfl, load_cell (by kernel_rfl) (hb6.cell (o := 0 + 0) rfl)]
    obtain ⟨s, rfl⟩ : ∃ s : Nat, v = s := ⟨v.toNat, by omega⟩
    have hn := hd.1
    rw [u64_one_shl (by omega), u64_clr, field_at T.t_dom_Set.p rfl]
    refine store_cell T.t_uint64.i rfl rfl hb6 (by simp [domV, Value.cells]) fun w7 hc7 hs7 hb7 => ?_
    refine hJ _ ⟨_, hb7, ((hb2.ext hx5).ext hx6).chg hc7 (by omega), (hx05.trans hx6).then hc7 (by rintro r hr rfl; omega), ?_⟩
    rw [if_pos h, Int.toNat_natCast]

def muV (v : Int) : Nat := if v < 0 then 0 else 40 - v.toNat
theorem muV_nat (x : Nat) : muV x = 40 - x := by unfold muV; rw [if_neg (by omega)]; omega
/-- what the loop over a set is handed -/
theorem dIter {b n g : Nat} (hd : Dom b n) :
    IterOk prog F.dom_Set_Values_c1 [.pointer (some ⟨g, 0, none⟩)] (valsN b n).length (fun k vs _ => ∃ v : Nat, (valsN b n)[k]? = some v ∧ vs = [.int .i64 (v : Int)])
      (fun w => Blk w g T.t_dom_Set [.int .u64 (b : Int), .int .i64 (n : Int)] ∧ Laid w) := by
  refine ⟨dom_Set_Values_c1.enters, fun l J Jx w hJ _ hround ⟨hb, hl⟩ h0 => ?_⟩
  have hn := hd.1
  apply dom_Set_Values_c1.enter
  unfold dom_Set_Values_c1.body
  rw [load_struct T.t_dom_Set.p T.t_dom_Set.i rfl hb.range]
  refine (dFirst hd hl).free.mono ?_
  rintro _ w1 ⟨hns, rfl, hx⟩
  refine ⟨fun v w2 => ∃ k, k ≤ (valsN b n).length ∧ v = .int .i64 (oI (valsN b n)[k]?) ∧ J k w2 ∧ Blk w2 g T.t_dom_Set [.int .u64 (b : Int), .int .i64 (n : Int)] ∧ Laid w2,
    fun v _ => muV (ival v), ⟨0, Nat.zero_le _, by rw [nextN_first], hJ 0 _ _ hx hns h0, hb.ext hx, hl.ext hx⟩, ?_⟩
  rintro _ w2 ⟨k, hk, rfl, hjk, hb2, hl2⟩
  cases hv : (valsN b n)[k]? with
  | none =>
    have : k = (valsN b n).length := by
      have := List.getElem?_eq_none_iff.1 hv; omega
    subst this
    simp only [oI, binS_geq, split_dec]
    exact ⟨fun h => by omega, fun _ => .inl hjk⟩
  | some x =>
    have hklt := (List.getElem?_eq_some_iff.1 hv).1
    have hxn := (valsN_mem.1 (List.mem_of_getElem? hv)).1
    simp only [oI, binS_geq, split_dec]
    refine ⟨fun _ => ?_, fun h => by omega⟩
    refine ⟨rfl, (hround k _ w2 hklt ⟨hb2, hl2⟩ ⟨x, hv, rfl⟩ hjk).mono ?_⟩
    rintro _ w3 (⟨rfl, ⟨hb3, hl3⟩, hj3⟩ | ⟨rfl, hjx⟩)
    · simp only [un_not, Bool.not_true, split_false]
      rw [load_struct T.t_dom_Set.p T.t_dom_Set.i rfl hb3.range]
      refine (dNext hd hl3 (by omega)).free.mono ?_
      rintro _ w4 ⟨hns4, rfl, hx4⟩
      refine ⟨⟨k + 1, hklt, congrArg (Value.int .i64) (nextN_next hv), hJ _ _ _ hx4 hns4 hj3, hb3.ext hx4, hl3.ext hx4⟩, ?_⟩
      rw [nextN_next hv]
      cases hy : (valsN b n)[k + 1]? with
      | none => show 0 < muV x; rw [muV_nat]; omega
      | some y =>
        have hxy : x < y := by
          have h1 := (List.getElem?_eq_some_iff.1 hv).2
          have h2 := (List.getElem?_eq_some_iff.1 hy).2
          rw [← h1, ← h2]
          exact List.pairwise_iff_getElem.1 (valsN_sorted b n) k (k + 1) _ _ (by omega)
        show muV y < muV x; rw [muV_nat, muV_nat]; omega
    · simp only [un_not, Bool.not_false, split_true]
      exact .inr ⟨k, hklt, hjx⟩

theorem dValues {b n : Nat} {w : World} : Cal prog F.dom_Set_Values [domV b n] w fun r w' => Ext w w' ∧ ∃ g, r = .func (.func F.dom_Set_Values_c1) #[] #[.pointer (some ⟨g, 0, none⟩)] ∧ w.heap.size ≤ g ∧ Blk w' g T.t_dom_Set [.int .u64 (b : Int), .int .i64 (n : Int)] := by
  apply dom_Set_Values.enter
  unfold dom_Set_Values.body
  refine box_c fun g w1 hg hx1 hb => ?_
  rw [makeFunc_eq]
  exact ⟨hx1, g, rfl, by omega, hb⟩
end Go.Proofs.YtahhkeljejfgfaaDoor
