/- Repeat. -/
import Derived.Test.YtahhkeljejfgfaaDoorL5
namespace Go.Proofs.YtahhkeljejfgfaaDoor
open Go Go.Vc Go.RowKit Go.Proofs Go.Proofs.Tryd
set_option maxRecDepth 100000

theorem and_mask {P : Program} {w : World} {t : TypeId} {cx cy : Bool} {a : Int} {K : Value → Prop} (h0 : 0 ≤ a) (h1 : a < 4294967296) :
    RunQ P (binS .and t cx cy (.int .u64 a) (.int .u64 4294967295)) w K = K (.int .u64 a) := RunQ.of fun w' _ => by
  obtain ⟨n, rfl⟩ := Int.eq_ofNat_of_zero_le h0
  have hn : n < 4294967296 := by omega
  have e : (BitVec.ofInt 64 (n : Int) &&& BitVec.ofInt 64 4294967295).toNat = n := by
    rw [BitVec.toNat_and, BitVec.toNat_ofInt, BitVec.toNat_ofInt]
    have e1 : ((n : Int) % ((2 ^ 64 : Nat) : Int)).toNat = n := by omega
    have e2 : ((4294967295 : Int) % ((2 ^ 64 : Nat) : Int)).toNat = 2 ^ 32 - 1 := by decide
    rw [e1, e2, Nat.and_two_pow_sub_one_eq_mod]
    omega
  have e' : (BitVec.ofInt IntKind.u64.bits (n : Int) &&& BitVec.ofInt IntKind.u64.bits 4294967295).toNat = n := e
  simp only [binS, eqGuard, binOp, Op.intBits, e']
  rw [wrap_u64 (by omega) (by omega)]
  rfl
theorem shr_32 {P : Program} {w : World} {t : TypeId} {cx cy : Bool} {a : Int} {K : Value → Prop} (h0 : 0 ≤ a) (h1 : a < 4294967296) :
    RunQ P (binS .shr t cx cy (.int .u64 a) (.int .u64 32)) w K = K (.int .u64 0) := RunQ.of fun w' _ => by
  have e : a.fdiv (2 ^ min 32 IntKind.u64.bits) = 0 := by
    have : (2 : Int) ^ min 32 IntKind.u64.bits = 4294967296 := rfl
    rw [this, Int.fdiv_eq_ediv_of_nonneg _ (by omega)]; omega
  simp [binS, eqGuard, binOp, Op.shift, e]

theorem bMul {x y : Int} {w : World} (hx : 0 ≤ x ∧ x < 65536) (hy : 0 ≤ y ∧ y < 65536) :
    Cal prog F.math_bits_Mul [.int .u64 x, .int .u64 y] w fun v w' => v = .tuple #[.int .u64 0, .int .u64 (x * y)] ∧ Ext w w' := by
  have hxy : 0 ≤ x * y ∧ x * y < 4294967296 := ⟨Int.mul_nonneg hx.1 hy.1, by
    have : x * y ≤ 65535 * 65535 := Int.mul_le_mul (by omega) (by omega) hy.1 (by omega)
    omega⟩
  apply math_bits_Mul.enter
  unfold math_bits_Mul.body
  refine Cal.mono (K := fun v w' => v = .tuple #[.int .u64 0, .int .u64 (x * y)] ∧ Ext w w') ?_ ?_
  · apply math_bits_Mul64.enter
    unfold math_bits_Mul64.body
    rw [and_mask (by omega) (by omega), shr_32 (by omega) (by omega), and_mask (by omega) (by omega), shr_32 (by omega) (by omega)]
    simp only [binS_mul, Int.zero_mul, Int.mul_zero]
    rw [wrap_u64 (x := x * y) (by omega) (by omega), show IntKind.u64.wrap 0 = 0 from rfl, shr_32 (a := x * y) (by omega) (by omega)]
    simp only [binS_add, Int.add_zero]
    rw [show IntKind.u64.wrap 0 = 0 from rfl, and_mask (by omega) (by omega), shr_32 (by omega) (by omega)]
    simp only [binS_mul, binS_add, Int.zero_mul, Int.mul_zero, Int.add_zero, show IntKind.u64.wrap 0 = 0 from rfl]
    rw [shr_32 (by omega) (by omega)]
    simp only [binS_mul, binS_add, Int.add_zero, show IntKind.u64.wrap 0 = 0 from rfl]
    exact ⟨trivial, Ext.refl _⟩
  · rintro _ w1 _ ⟨rfl, hx1⟩
    rw [extract_tuple (v := .int .u64 0) rfl, extract_tuple (v := .int .u64 (x * y)) rfl]
    exact ⟨rfl, hx1⟩

theorem sRepeat {xv : Value} {w : World} {c : Int} {n : Nat} (h : LS .i64 w xv [c]) (hn : n < 65536) :
    Cal prog F.slices_Repeat_int64_int64 [xv, .int .i64 n] w fun v w' => Ext w w' ∧ ∃ g, w.heap.size ≤ g ∧ LM .i64 T.t_int64 w' g v (List.replicate n c) := by
  apply slices_Repeat_int64_int64.enter
  unfold slices_Repeat_int64_int64.body
  refine join0 (fun w1 => w = w1) ?_ ?_
  · rintro _ rfl
    rw [len_ls T.t_sl_int64.u h, conv_int T.t_int.u T.t_uint.u, conv_int T.t_int.u T.t_uint.u, wrap_u64 (by simp) (by simp), wrap_u64 (by omega) (by omega)]
    refine (bMul (x := ([c].length : Int)) (by simp) (by omega)).mono ?_
    rintro _ w2 _ ⟨rfl, hx2⟩
    rw [extract_tuple (v := .int .u64 0) rfl, extract_tuple (v := .int .u64 (([c].length : Int) * n)) rfl]
    have e1 : (([c].length : Int) * n) = (n : Int) := by simp
    rw [e1]
    refine join0 (fun w3 => w2 = w3) ?_ ?_
    · rintro _ rfl
      rw [conv_int T.t_uint.u T.t_int.u, wrap_i64 (by omega) (by omega)]
      refine make_ints T.t_sl_int64.u T.t_int64.i (by omega) (by omega) ?_
      intro g w4 hg hx4 hb4
      have hx := hx2.trans hx4
      have hs2 := hx2.size
      refine copy_blk T.t_sl_int64.u T.t_int64.i hb4 (o := 0) (fun _ => rfl) (by simp) (h.ext hx) (one_ints _ _) ?_
      intro w5 hc5 hs5 hb5
      have hx5 := hx.then hc5 (by rintro r hr rfl; omega)
      have st : over (ints .i64 (List.replicate n 0)) 0 ((ints .i64 [c]).take n) = ints .i64 (List.replicate (min 1 n) c ++ List.replicate (n - min 1 n) 0) := by
        rcases Nat.eq_zero_or_pos n with rfl | hp
        · simp [over]
        · rw [List.take_of_length_le (by simp; omega), over_eq (by simp; omega)]
          have : min 1 n = 1 := by omega
          simp [this, ints]
      rw [st] at hb5
      refine ⟨fun t w6 => Ext w w6 ∧ ∃ i : Nat, t = .int .i64 i ∧ i ≤ n ∧ (0 < n → 0 < i) ∧ Blk w6 g T.t_int64 (ints .i64 (List.replicate i c ++ List.replicate (n - i) 0)), fun t _ => n - (ival t).toNat,
        ⟨hx5, min 1 n, by simp, by omega, by omega, hb5⟩, ?_⟩
      rintro _ w6 ⟨hx6, i, rfl, hi, hi0, hb6⟩
      simp only [len_slice T.t_sl_int64.u, binS_lss, split_dec, Drew]
      refine ⟨fun hlt w7 hx7 _ _ => ?_, fun hge => ?_⟩
      · have hlt : i < n := by omega
        have hb7 := hb6.ext hx7
        rw [slice_slice T.t_sl_int64.u T.t_int64.i (l := i) (h := n) (m := n) lo_at hi_no mx_no (by omega) (by omega) (by omega),
          slice_slice T.t_sl_int64.u T.t_int64.i (l := 0) (h := i) (m := n) lo_no hi_at mx_no (by omega) (by omega) (by omega)]
        have hsl : Sl w7 1 (.slice (some ⟨g, 0, none⟩) n n) n (ints .i64 (List.replicate i c ++ List.replicate (n - i) 0)) := (Mine.full hb7 (by simp <;> omega) (by simp [maxLen] <;> omega)).sl
        have hp := hsl.part (l := 0) (h := i) (m := n) (by omega) (by omega) (by omega) (by omega)
        have e3 : ((ints .i64 (List.replicate i c ++ List.replicate (n - i) 0)).drop (0 * 1)).take ((i - 0) * 1) = ints .i64 (List.replicate i c) := by
          simp [ints]
        rw [e3] at hp
        refine copy_blk T.t_sl_int64.u T.t_int64.i hb7 (o := i) (fun _ => ?_) (by simp <;> omega) hp (one_ints _ _) ?_
        · rw [if_neg (by omega)]; simp [Addr.add_mid]
        · intro w8 hc8 hs8 hb8
          have s6 := hx6.size
          have s7 := hx7.size
          have e4 : over (ints .i64 (List.replicate i c ++ List.replicate (n - i) 0)) i ((ints .i64 (List.replicate i c)).take (n - i)) = ints .i64 (List.replicate (i + min i (n - i)) c ++ List.replicate (n - (i + min i (n - i))) 0) := by
            apply List.ext_getElem?
            intro j
            rw [over_get _ _ _ (by simp [ints] <;> omega)]
            simp only [ints, List.map_append, List.map_replicate, List.getElem?_append, List.getElem?_take, List.getElem?_replicate, List.length_take, List.length_replicate]
            repeat' split
            all_goals first | rfl | omega
          rw [e4] at hb8
          have e5 : min (i - 0) (n - i) = min i (n - i) := by omega
          simp only [binS_add, e5]
          have e6 : IntKind.i64.wrap ((i : Int) + ((min i (n - i) : Nat) : Int)) = ((i + min i (n - i) : Nat) : Int) := by rw [wrap_i64 (by omega) (by omega)]; omega
          rw [e6]
          refine ⟨⟨(hx6.trans hx7).then hc8 (by rintro r hr rfl; omega), _, rfl, by omega, by omega, hb8⟩, ?_⟩
          simp only [ival, Int.toNat_natCast]; omega
      · have : i = n := by omega
        subst this
        rw [Nat.sub_self, List.replicate_zero, List.append_nil] at hb6
        exact ⟨hx6, g, by omega, LM.of (n := i) (Mine.full hb6 (by simp) (by simp [maxLen]; omega))⟩
    · intro J hJ
      refine join1 (fun v w3 => v = .bool false ∧ w2 = w3) ?_ ?_
      · rintro _ _ ⟨rfl, rfl⟩
        rw [split_false]; exact hJ _ rfl
      · intro J2 hJ2
        simp only [binS_gtr, split_dec]
        refine ⟨fun h => by omega, fun _ => hJ2 _ _ ⟨?_, rfl⟩⟩
        rw [decide_eq_false]; omega
  · intro J hJ
    simp only [binS_lss, split_dec]
    exact ⟨fun h => by omega, fun _ => hJ _ rfl⟩
end Go.Proofs.YtahhkeljejfgfaaDoor
