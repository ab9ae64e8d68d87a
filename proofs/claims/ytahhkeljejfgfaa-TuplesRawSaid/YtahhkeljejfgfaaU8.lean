/- Keys sorted: bits.Len of small numbers, the random numbers, the patterns broken. -/
import Derived.Test.YtahhkeljejfgfaaU7
namespace Go.Proofs.Ytahhkeljejfgfaa
open Go Go.Vc Go.RowKit Go.Proofs Go.Proofs.Try
set_option maxRecDepth 100000

theorem index_strX {P : Program} {w : World} {t : TypeId} {k : IntKind} {s : ByteArray} {i : Nat} {K : Value → Prop} (ht : P.underlying t = some .string) (hi : i < s.size) :
    RunQ P (Instr.index t (.string s) (.int k (i : Int))) w K = K (.int .u8 (s[i].toNat : Int)) := RunQ.of fun w' _ => by
  simp [Instr.index, asIntOf, run_underlying ht, hi]
/-- how many bits a small number has -/
def bitsN (n : Nat) : Nat := if n = 0 then 0 else Nat.log2 n + 1
theorem bitsN_facts {n : Nat} (h : n < 256) : n < 2 ^ bitsN n ∧ bitsN n ≤ 8 ∧ (1 ≤ n → 2 ^ bitsN n ≤ 2 * n) := by
  unfold bitsN
  by_cases h0 : n = 0
  · subst h0; simp
  · rw [if_neg h0]
    have h1 := Nat.log2_self_le h0
    have h2 := Nat.lt_log2_self (n := n)
    have h3 : Nat.log2 n < 8 := (Nat.log2_lt h0).2 (by omega)
    refine ⟨h2, by omega, fun _ => ?_⟩
    rw [Nat.pow_succ]; omega
set_option maxHeartbeats 1000000 in
theorem bLenX {n : Nat} {w : World} (hn : n < 256) : Cal prog F.math_bits_Len [.int .u64 (n : Int)] w fun v w' => v = .int .i64 (bitsN n : Int) ∧ Ext w w' := by
  apply math_bits_Len.enter
  unfold math_bits_Len.body
  refine Cal.mono (K := fun v w' => v = .int .i64 (bitsN n : Int) ∧ Ext w w') ?_ (fun _ _ _ h => h)
  apply math_bits_Len64.enter
  unfold math_bits_Len64.body
  simp only [JoinC, binS_geq, split_dec]
  refine ⟨fun h => by omega, fun _ => ⟨fun h => by omega, fun _ => ⟨fun h => by omega, fun _ => ?_⟩⟩⟩
  rw [conv_int T.t_uint64.u T.t_uint8.u, wrap_u8 (by omega) (by omega)]
  rw [index_strX T.t_string.u (by exact Nat.lt_of_lt_of_le hn (by decide))]
  generalize hb : UInt8.toNat _ = b
  have hall : ∀ n : Fin 256, (⟨#[0, 1, 2, 2, 3, 3, 3, 3, 4, 4, 4, 4, 4, 4, 4, 4, 5, 5, 5, 5, 5, 5, 5, 5, 5, 5, 5, 5, 5, 5, 5, 5, 6, 6, 6, 6, 6, 6, 6, 6, 6, 6, 6, 6, 6, 6, 6, 6, 6, 6, 6, 6, 6, 6, 6, 6, 6, 6, 6, 6, 6, 6, 6, 6, 7, 7, 7, 7, 7, 7, 7, 7, 7, 7, 7, 7, 7, 7, 7, 7, 7, 7, 7, 7, 7, 7, 7, 7, 7, 7, 7, 7, 7, 7, 7, 7, 7, 7, 7, 7, 7, 7, 7, 7, 7, 7, 7, 7, 7, 7, 7, 7, 7, 7, 7, 7, 7, 7, 7, 7, 7, 7, 7, 7, 7, 7, 7, 7, 8, 8, 8, 8, 8, 8, 8, 8, 8, 8, 8, 8, 8, 8, 8, 8, 8, 8, 8, 8, 8, 8, 8, 8, 8, 8, 8, 8, 8, 8, 8, 8, 8, 8, 8, 8, 8, 8, 8, 8, 8, 8, 8, 8, 8, 8, 8, 8, 8, 8, 8, 8, 8, 8, 8, 8, 8, 8, 8, 8, 8, 8, 8, 8, 8, 8, 8, 8, 8, 8, 8, 8, 8, 8, 8, 8, 8, 8, 8, 8, 8, 8, 8, 8, 8, 8, 8, 8, 8, 8, 8, 8, 8, 8, 8, 8, 8, 8, 8, 8, 8, 8, 8, 8, 8, 8, 8, 8, 8, 8, 8, 8, 8, 8, 8, 8, 8, 8, 8, 8, 8, 8, 8, 8, 8, 8, 8, 8]⟩ : ByteArray).data.toList[n.val]? = some (UInt8.ofNat (bitsN n.val)) := by decide
  have h8 := (bitsN_facts hn).2.1
  have hbn : b = bitsN n := by
    have h1 := hall ⟨n, hn⟩
    have h2 := (List.getElem?_eq_some_iff.1 h1).2
    rw [← hb]
    have h3 : (UInt8.ofNat (bitsN n)).toNat = bitsN n := by rw [UInt8.toNat_ofNat']; omega
    rw [← h3, ← h2]
    rfl
  rw [hbn, conv_int T.t_uint8.u T.t_int.u, wrap_i64 (by omega) (by omega)]
  simp only [binS_add]
  rw [wrap_i64 (by omega) (by omega)]
  exact ⟨by simp, Ext.refl _⟩
theorem kNext2 {n : Nat} {w : World} (hn : n < 256) : Cal prog F.slices_nextPowerOfTwo [.int .i64 (n : Int)] w fun v w' => v = .int .u64 ((2 ^ bitsN n : Nat) : Int) ∧ Ext w w' := by
  have h8 := (bitsN_facts hn).2.1
  apply slices_nextPowerOfTwo.enter
  unfold slices_nextPowerOfTwo.body
  rw [conv_int T.t_int.u T.t_uint.u, wrap_u64 (by omega) (by omega)]
  refine (bLenX hn).mono ?_
  rintro _ w1 _ ⟨rfl, hx⟩
  rw [u64_one_shl (by omega)]
  exact ⟨rfl, hx⟩

theorem u64_xor {P : Program} {w : World} {t : TypeId} {cx cy : Bool} {a b : Nat} {K : Value → Prop} (ha : a < 2 ^ 64) (hb : b < 2 ^ 64) : RunQ P (binS .xor t cx cy (.int .u64 (a : Int)) (.int .u64 (b : Int))) w K = K (.int .u64 ((a ^^^ b : Nat) : Int)) := RunQ.of fun w' _ => by
  have e : (BitVec.ofInt 64 (a : Int) ^^^ BitVec.ofInt 64 (b : Int)).toNat = a ^^^ b := by
    rw [bv_nat, bv_nat, BitVec.toNat_xor, BitVec.toNat_ofNat, BitVec.toNat_ofNat, Nat.mod_eq_of_lt ha, Nat.mod_eq_of_lt hb]
  have hw : IntKind.u64.wrap ((a ^^^ b : Nat) : Int) = ((a ^^^ b : Nat) : Int) := by rw [← e]; exact bv_wrap _
  have e' : (BitVec.ofInt IntKind.u64.bits (a : Int) ^^^ BitVec.ofInt IntKind.u64.bits (b : Int)).toNat = a ^^^ b := e
  simp only [binS, eqGuard, binOp, Op.intBits, e', hw]
  rfl
theorem u64_shlX {P : Program} {w : World} {t : TypeId} {cx cy : Bool} {a : Nat} {n : Nat} {K : Value → Prop} (hn : n < 64) (hK : ∀ b : Nat, b < 2 ^ 64 → K (.int .u64 (b : Int))) : RunQ P (binS .shl t cx cy (.int .u64 (a : Int)) (.int .u64 (n : Int))) w K := by
  rw [binS_shl (by omega)]
  obtain ⟨b, hb, he⟩ : ∃ b : Nat, b < 2 ^ 64 ∧ IntKind.u64.wrap ((a : Int) * 2 ^ min ((n : Int).toNat) IntKind.u64.bits) = (b : Int) := by
    generalize (a : Int) * 2 ^ min ((n : Int).toNat) IntKind.u64.bits = z
    have h1 : IntKind.u64.wrap z = z % 18446744073709551616 := rfl
    have h2 := Int.emod_nonneg z (show (18446744073709551616 : Int) ≠ 0 by omega)
    have h3 := Int.emod_lt_of_pos z (show (0 : Int) < 18446744073709551616 by omega)
    exact ⟨(z % 18446744073709551616).toNat, by omega, by rw [h1]; omega⟩
  rw [he]
  exact hK b hb
theorem xor_lt {a b : Nat} (ha : a < 2 ^ 64) (hb : b < 2 ^ 64) : a ^^^ b < 2 ^ 64 := Nat.xor_lt_two_pow ha hb
theorem kRandom {w : World} {g x : Nat} (hb : Blk w g T.t_slices_xorshift [.int .u64 (x : Int)]) (hx : x < 2 ^ 64) : Cal prog F.P_slices_xorshift_Next [.pointer (some ⟨g, 0, none⟩)] w fun v w' => Chg (fun r => r = g) w w' ∧ ∃ y : Nat, y < 2 ^ 64 ∧ v = .int .u64 (y : Int) ∧ Blk w' g T.t_slices_xorshift [.int .u64 (y : Int)] := by
  apply P_slices_xorshift_Next.enter
  unfold P_slices_xorshift_Next.body
  intro w1 hx1 _ _
  have hb1 := hb.ext hx1
  rw [nil_check, load_cell (by kernel_rfl) (hb1.cell (o := 0) rfl), nil_check, load_cell (by kernel_rfl) (hb1.cell (o := 0) rfl)]
  refine u64_shlX (n := 13) (by omega) fun s hs => ?_
  rw [u64_xor hx hs, nil_check]
  have hx2 := xor_lt hx hs
  refine store_cell T.t_slices_xorshift.i rfl rfl hb1 (by simp) fun w2 hc2 _ hb2 => ?_
  generalize x ^^^ s = x2 at *
  intro w3 hx3 _ _
  have hb3 : Blk w3 g T.t_slices_xorshift [.int .u64 (x2 : Int)] := Blk.ext hb2 hx3
  rw [nil_check, load_cell (by kernel_rfl) (hb3.cell (o := 0) rfl), nil_check, load_cell (by kernel_rfl) (hb3.cell (o := 0) rfl)]
  rw [show Value.int .u64 7 = Value.int .u64 ((7 : Nat) : Int) from rfl, u64_shr (n := 7) (by omega)]
  have hs2 : x2 / 2 ^ 7 < 2 ^ 64 := Nat.lt_of_le_of_lt (Nat.div_le_self _ _) hx2
  rw [u64_xor hx2 hs2, nil_check]
  have hx4 := xor_lt hx2 hs2
  refine store_cell T.t_slices_xorshift.i rfl rfl hb3 (by simp) fun w4 hc4 _ hb4 => ?_
  generalize x2 ^^^ (x2 / 2 ^ 7) = x4 at *
  intro w5 hx5 _ _
  have hb5 : Blk w5 g T.t_slices_xorshift [.int .u64 (x4 : Int)] := Blk.ext hb4 hx5
  rw [nil_check, load_cell (by kernel_rfl) (hb5.cell (o := 0) rfl), nil_check, load_cell (by kernel_rfl) (hb5.cell (o := 0) rfl)]
  refine u64_shlX (n := 17) (by omega) fun s3 hs3 => ?_
  rw [u64_xor hx4 hs3, nil_check]
  have hx6 := xor_lt hx4 hs3
  refine store_cell T.t_slices_xorshift.i rfl rfl hb5 (by simp) fun w6 hc6 _ hb6 => ?_
  have hb6 : Blk w6 g T.t_slices_xorshift [.int .u64 ((x4 ^^^ s3 : Nat) : Int)] := hb6
  rw [nil_check, load_cell (by kernel_rfl) (hb6.cell (o := 0) rfl)]
  exact ⟨((((hx1.chg _).trans hc2).trans (hx3.chg _)).trans hc4).trans ((hx5.chg _).trans hc6), _, hx6, rfl, hb6⟩

set_option maxHeartbeats 1000000 in
theorem kBreak {w : World} {g a b : Nat} {v : Value} {L : List (List Int)} (h : KR w g v L) (hG : KG L) (hab : a + 12 < b) (hb : b ≤ L.length) (hL : L.length < 256) :
    Cal prog F.slices_breakPatternsCmpFunc_pennyweight_tuples_key [v, .int .i64 (a : Int), .int .i64 (b : Int), cmpF] w fun _ w' => SortK w g v L a b (fun _ => True) w' := by
  apply slices_breakPatternsCmpFunc_pennyweight_tuples_key.enter
  unfold slices_breakPatternsCmpFunc_pennyweight_tuples_key.body
  obtain ⟨n, hn⟩ : ∃ n : Nat, b - a = n := ⟨_, rfl⟩
  rw [binS_sub, wrap_i64 (by omega) (by omega), show (b : Int) - a = (n : Int) by omega]
  simp only [binS_geq, split_dec]
  refine ⟨fun _ => ?_, fun h => by omega⟩
  rw [conv_int T.t_int.u T.t_slices_xorshift.u, wrap_u64 (by omega) (by omega)]
  refine alloc_c T.t_slices_xorshift.i fun gr w1 hgr hx1 hb1 => ?_
  refine store_cell T.t_slices_xorshift.i rfl rfl hb1 (by simp [Value.cells]) fun w2 hc2 hs2 hb2 => ?_
  have hb2 : Blk w2 gr T.t_slices_xorshift [.int .u64 (n : Int)] := hb2
  have hx02 : Ext w w2 := hx1.then hc2 (fun r hr he => by have he : r = gr := he; omega)
  refine (kNext2 (by omega)).mono ?_
  rintro _ w3 _ ⟨rfl, hx3⟩
  obtain ⟨_, hb8, hpow⟩ := bitsN_facts (n := n) (by omega)
  have hpow := hpow (by omega)
  have hpos : 1 ≤ 2 ^ bitsN n := Nat.one_le_two_pow
  have hx03 := hx02.trans hx3
  have e4 : (n : Int).tdiv 4 = ((n / 4 : Nat) : Int) := by rw [Int.tdiv_eq_ediv_of_nonneg (by omega)]; omega
  rw [binS_quo (by decide), e4]
  simp only [binS_mul, binS_add, binS_sub]
  have e5 : IntKind.i64.wrap (IntKind.i64.wrap ((a : Int) + IntKind.i64.wrap (IntKind.i64.wrap ((n / 4 : Nat) : Int) * 2)) - 1) = ((a + n / 4 * 2 - 1 : Nat) : Int) := by
    rw [wrap_i64 (x := ((n / 4 : Nat) : Int)) (by omega) (by omega), wrap_i64 (x := ((n / 4 : Nat) : Int) * 2) (by omega) (by omega), wrap_i64 (x := (a : Int) + ((n / 4 : Nat) : Int) * 2) (by omega) (by omega), wrap_i64 (by omega) (by omega)]
    omega
  rw [e5]
  have lgr : ∀ r, leadsTo v r → r ≠ gr := fun r hr => by have := h.leads hr; omega
  let S : Nat → Prop := fun r => leadsTo v r ∨ w.heap.size ≤ r
  have finS : ∀ {w' : World}, Chg S w w' → Chg (fun r => leadsTo v r) w w' := fun hc => hc.mono fun r hr h => h.elim id (fun h => by omega)
  refine ⟨fun t w4 => ∃ (i : Nat) (M : List (List Int)) (x : Nat), t = .int .i64 (i : Int) ∧ a + n / 4 * 2 - 1 ≤ i ∧ i ≤ a + n / 4 * 2 + 2 ∧ SwapR a b L M ∧ Chg S w w4 ∧ KR w4 g v M ∧ x < 2 ^ 64 ∧ Blk w4 gr T.t_slices_xorshift [.int .u64 (x : Int)], fun t _ => a + n + 10 - (ival t).toNat,
    ⟨a + n / 4 * 2 - 1, L, n, rfl, Nat.le_refl _, by omega, .refl, hx03.chg _, h.ext hx03, by omega, hb2.ext hx3⟩, ?_⟩
  rintro _ w4 ⟨i, M, x, rfl, hi1, hi2, hsw, hc4, hm, hxr, hbr⟩
  have hml := hsw.len
  have hMG := hG.perm hsw.perm
  rw [binS_quo (by decide), e4]
  simp only [binS_mul, binS_add]
  have e6 : IntKind.i64.wrap (IntKind.i64.wrap ((a : Int) + IntKind.i64.wrap (IntKind.i64.wrap ((n / 4 : Nat) : Int) * 2)) + 1) = ((a + n / 4 * 2 + 1 : Nat) : Int) := by
    rw [wrap_i64 (x := ((n / 4 : Nat) : Int)) (by omega) (by omega), wrap_i64 (x := ((n / 4 : Nat) : Int) * 2) (by omega) (by omega), wrap_i64 (x := (a : Int) + ((n / 4 : Nat) : Int) * 2) (by omega) (by omega), wrap_i64 (by omega) (by omega)]
    omega
  rw [e6]
  simp only [binS_leq, split_dec]
  refine ⟨fun hle => ?_, fun hgt => ⟨finS hc4, M, hsw, hm, trivial⟩⟩
  refine (kRandom hbr hxr).mono ?_
  rintro _ w5 _ ⟨hc5, y, hy, rfl, hbr5⟩
  have lgr5 : gr < w4.heap.size := hbr.lt
  have hm5 : KR w5 g v M := hm.chg hc5 fun r hr he => lgr r hr he
  have hc05 : Chg S w w5 := hc4.trans (hc5.mono fun r hr he => .inr (by have he : r = gr := he; omega))
  rw [wrap_u64 (by omega) (by omega), show ((2 ^ bitsN n : Nat) : Int) - 1 = ((2 ^ bitsN n - 1 : Nat) : Int) by omega]
  rw [u64_and hy (by omega)]
  have hand : y &&& (2 ^ bitsN n - 1) ≤ 2 ^ bitsN n - 1 := Nat.and_le_right
  generalize y &&& (2 ^ bitsN n - 1) = z at *
  rw [conv_int T.t_uint.u T.t_int.u, wrap_i64 (x := (z : Int)) (by omega) (by omega)]
  refine join1 (fun t w6 => w5 = w6 ∧ ∃ o : Nat, t = .int .i64 (o : Int) ∧ o < n) ?_ ?_
  · rintro _ _ ⟨rfl, o, rfl, ho⟩
    intro w7 hx7 _ _
    have hm7 := hm5.ext hx7
    have e : IntKind.i64.wrap ((a : Int) + (o : Int)) = ((a + o : Nat) : Int) := by rw [wrap_i64 (by omega) (by omega)]; omega
    obtain ⟨p, hp⟩ : ∃ p, M[a + o]? = some p := ⟨_, List.getElem?_eq_getElem (by omega)⟩
    obtain ⟨q, hq⟩ : ∃ q, M[i]? = some q := ⟨_, List.getElem?_eq_getElem (by omega)⟩
    simp only [binS_add, e]
    rw [get_kr rfl hm7 hp, get_kr rfl hm7 hq]
    refine put_kr rfl hm7 (by omega) (hMG.at hp).1 fun w8 hc8 hm8 => ⟨.inr ⟨by have := stays_addK (P := prog) (w := w8) (t := T.t_int) (cx := false) (cy := false) (k := .i64) (a := (a : Int)) (b := (o : Int)); rwa [e] at this, trivial⟩, ?_⟩
    refine put_kr rfl hm8 (by simp; omega) (hMG.at hq).1 fun w9 hc9 hm9 => ?_
    rw [wrap_i64 (by omega) (by omega)]
    have hc79 : Chg (fun r => leadsTo v r) w7 w9 := hc8.trans hc9
    refine ⟨⟨i + 1, _, y, by congr 1, by omega, by omega, hsw.step (by omega) (by omega) (by omega) (by omega) hq hp, (hc05.trans (hx7.chg _)).trans (hc79.mono fun r hr h => .inl h), hm9, hy, (hbr5.ext hx7).chg hc79 fun h => lgr gr h rfl⟩, ?_⟩
    simp only [ival]; omega
  · intro J hJ
    simp only [binS_geq, split_dec]
    refine ⟨fun hge => ?_, fun hlt => hJ _ _ ⟨rfl, z, rfl, by omega⟩⟩
    rw [binS_sub, wrap_i64 (by omega) (by omega)]
    exact hJ _ _ ⟨rfl, z - n, by congr 1; omega, by omega⟩
end Go.Proofs.Ytahhkeljejfgfaa

