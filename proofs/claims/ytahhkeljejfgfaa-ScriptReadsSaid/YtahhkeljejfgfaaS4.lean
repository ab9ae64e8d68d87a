/- ScriptReads, part 4: the document's Read. -/
import Derived.Test.YtahhkeljejfgfaaS3
namespace Go.Proofs.Ytahhkeljejfgfaa
open Go Go.Vc Go.RowKit Go.Proofs Go.Proofs.Try
set_option maxRecDepth 100000

def slen : Value → Nat
  | .slice _ n _ => n
  | _ => 0

/-- all with zeros behind, up to six -/
def padAll (a : List Int) : List Int := a ++ List.replicate ((a.length + 5) / 6 * 6 - a.length) 0
theorem padAll_len (a : List Int) : (padAll a).length = (a.length + 5) / 6 * 6 := by simp [padAll]; omega
theorem padAll_chunk {a : List Int} {k : Nat} (hk : k < (a.length + 5) / 6) : ((padAll a).drop (6 * k)).take 6 = pad (chunkAt a k) := by
  have h1 : 6 * k ≤ a.length := by omega
  unfold padAll pad chunkAt
  rw [List.drop_append_of_le_length h1, List.take_append, List.take_replicate]
  congr 1
  simp only [List.length_take, List.length_drop]
  congr 1; omega
theorem drop_six {l : List Int} {b0 b1 b2 b3 b4 b5 : Int} (h : l.take 6 = [b0, b1, b2, b3, b4, b5]) : l[0]? = some b0 ∧ l[1]? = some b1 ∧ l[2]? = some b2 ∧ l[3]? = some b3 ∧ l[4]? = some b4 ∧ l[5]? = some b5 := by
  have g : ∀ i, i < 6 → l[i]? = (l.take 6)[i]? := fun i hi => (List.getElem?_take_of_lt hi).symm
  rw [g 0 (by omega), g 1 (by omega), g 2 (by omega), g 3 (by omega), g 4 (by omega), g 5 (by omega), h]
  exact ⟨rfl, rfl, rfl, rfl, rfl, rfl⟩

theorem rRead {p : Value} {w : World} {n : Nat} {a : List Int} (h1 : Sl w 1 p n (ints .u8 a)) (hn : n ≤ 1000) (hby : Bytes a) :
    Cal prog F.ref24_Read [p] w fun v w' => Ext w w' ∧ ∃ g, w.heap.size ≤ g ∧ Mine w' g T.t_ref24_Op 5 v ((n + 5) / 6) (ints .i64 (ops a ((n + 5) / 6))) := by
  have hal : a.length = n := by simpa using h1.1
  apply ref24_Read.enter
  unfold ref24_Read.body
  refine buildSlice_c T.t_sl_uint8.u T.t_uint8.i (by omega) (cs := #[]) (by kernel_rfl) ?_
  intro g1 w1 hg1 hx1 hb1
  refine append_own (g := g1) T.t_sl_uint8.u T.t_sl_uint8.u T.t_uint8.i rfl (Mine.full hb1 rfl (by omega)) (h1.ext hx1) (one_ints _ _) (by omega) (by simp only [maxLen]; omega) ?_
  intro v2 g2 w2 hg2 hm2 hc2
  have hx2 : Ext w w2 := hx1.then hc2 (by rintro r hr rfl; omega)
  have hs1 := hx1.size
  refine ⟨fun v w3 => Ext w w3 ∧ ∃ g j, w.heap.size ≤ g ∧ n + j ≤ (n + 5) / 6 * 6 ∧ Mine w3 g T.t_uint8 1 v (n + j) (ints .u8 (a ++ List.replicate j 0)), fun v _ => (n + 5) / 6 * 6 - slen v,
    ⟨hx2, g2, 0, by omega, by omega, by simpa using hm2⟩, ?_⟩
  rintro v w3 ⟨hx3, g, j, hg, hj, hm⟩
  have hsl := hm.sl
  obtain ⟨_, b, o, base, cap, rfl, hcap, hmax, hb, hr⟩ := id hsl
  simp only [len_slice T.t_sl_uint8.u]
  rw [binS_rem (b := 6) (by decide), Int.tmod_eq_emod_of_nonneg (by omega)]
  simp only [binS_gtr, split_dec]
  refine ⟨fun hlt => ?_, fun hge => ?_⟩
  · refine buildSlice_c T.t_sl_uint8.u T.t_uint8.i (by omega) (cs := #[.int .u8 0]) (by kernel_rfl) ?_
    intro g4 w4 hg4 hx4 hb4
    refine append_own T.t_sl_uint8.u T.t_sl_uint8.u T.t_uint8.i rfl (hm.ext hx4) (Mine.full (n := 1) hb4 rfl (by simp only [maxLen]; omega)).sl (one_ints .u8 [0]) (by omega) (by simp only [maxLen]; omega) ?_
    intro v5 g5 w5 hg5 hm5 hc5
    have hs4 := hx4.size
    have hs3 := hx3.size
    refine ⟨⟨(hx3.trans hx4).then hc5 (by rintro r hr rfl; omega), g5, j + 1, by omega, by omega, ?_⟩, ?_⟩
    · have e : ints .u8 (a ++ List.replicate j 0) ++ [Value.int .u8 0] = ints .u8 (a ++ List.replicate (j + 1) 0) := by
        rw [List.replicate_succ']; simp [ints]
      rw [← e]; exact hm5
    · have : slen v5 = n + j + 1 := by obtain ⟨_, ⟨_, h⟩ | ⟨_, _, rfl, _⟩⟩ := hm5
                                       · omega
                                       · rfl
      show (n + 5) / 6 * 6 - slen v5 < (n + 5) / 6 * 6 - (n + j)
      omega
  · have hj' : n + j = (n + 5) / 6 * 6 := by omega
    have hA : a ++ List.replicate j 0 = padAll a := by
      unfold padAll; rw [hal]; congr 2; omega
    rw [hA, hj'] at hsl
    have hAl : (padAll a).length = (n + 5) / 6 * 6 := by rw [padAll_len, hal]
    refine ⟨fun pv out w6 => Ext w3 w6 ∧ ∃ k g, k ≤ (n + 5) / 6 ∧ Sl w3 1 pv ((n + 5) / 6 * 6 - 6 * k) (ints .u8 ((padAll a).drop (6 * k))) ∧ w3.heap.size ≤ g ∧ Mine w6 g T.t_ref24_Op 5 out k (ints .i64 (ops a k)),
      fun pv _ _ => slen pv, ⟨Ext.refl _, 0, w3.heap.size, Nat.zero_le _, by simpa [hj'] using hsl, Nat.le_refl _, Mine.nil _ _ _ _⟩, ?_⟩
    rintro pv out w6 ⟨hx6, k, g, hk, hsp, hg6, hm6⟩
    have hsp' := hsp
    obtain ⟨_, b, o, base, cap, rfl, hcap, hmax, hb, hr⟩ := id hsp
    simp only [len_slice T.t_sl_uint8.u, binS_gtr, split_dec, Drew]
    refine ⟨fun hlt w7 hx7 _ _ => ?_, fun hge => ?_⟩
    · have hk' : k < (n + 5) / 6 := by omega
      have hx37 := hx6.trans hx7
      obtain ⟨b0, b1, b2, b3, b4, b5, hpad, r0, r1, r2, r3, r4, r5⟩ := six (pad_len (chunk_len a k)) (bytes_pad (bytes_chunk hby k))
      have hch := padAll_chunk (a := a) (k := k) (by omega)
      rw [hpad] at hch
      obtain ⟨d0, d1, d2, d3, d4, d5⟩ := drop_six hch
      have ce : ∀ i x, ((padAll a).drop (6 * k))[i]? = some x → w7.cell? ⟨b, o + i * 1, none⟩ = some (.int .u8 x) := fun i x h => by
        rw [Nat.mul_one]; exact cell?_ext hx37 (hr i _ (ints_get h))
      have hb6 : ∀ i, i < 6 → i < (n + 5) / 6 * 6 - 6 * k := by omega
      rw [index_lit 0 0 T.t_sl_uint8.u T.t_uint8.i rfl (hb6 0 (by omega)) hb, load_cell (by kernel_rfl) (ce 0 b0 d0), conv_int T.t_uint8.u T.t_int.u, wrap_i64 (by omega) (by omega), binS_rem (b := 11) (by decide),
        index_lit 1 1 T.t_sl_uint8.u T.t_uint8.i rfl (hb6 1 (by omega)) hb, load_cell (by kernel_rfl) (ce 1 b1 d1), conv_int T.t_uint8.u T.t_int.u, wrap_i64 (x := b1) (by omega) (by omega), binS_rem (b := 6) (by decide),
        index_lit 2 2 T.t_sl_uint8.u T.t_uint8.i rfl (hb6 2 (by omega)) hb, load_cell (by kernel_rfl) (ce 2 b2 d2), conv_int T.t_uint8.u T.t_int.u, wrap_i64 (x := b2) (by omega) (by omega), binS_rem (b := 4) (by decide),
        index_lit 3 3 T.t_sl_uint8.u T.t_uint8.i rfl (hb6 3 (by omega)) hb, load_cell (by kernel_rfl) (ce 3 b3 d3), conv_int T.t_uint8.u T.t_int.u, wrap_i64 (x := b3) (by omega) (by omega), binS_rem (b := 4) (by decide),
        index_lit 4 4 T.t_sl_uint8.u T.t_uint8.i rfl (hb6 4 (by omega)) hb, load_cell (by kernel_rfl) (ce 4 b4 d4), conv_int T.t_uint8.u T.t_int64.u, wrap_i64 (x := b4) (by omega) (by omega),
        index_lit 5 5 T.t_sl_uint8.u T.t_uint8.i rfl (hb6 5 (by omega)) hb, load_cell (by kernel_rfl) (ce 5 b5 d5), conv_int T.t_uint8.u T.t_int64.u, wrap_i64 (x := b5) (by omega) (by omega),
        binS_mul, wrap_i64 (x := 256 * b5) (by omega) (by omega), binS_add, wrap_i64 (x := b4 + 256 * b5) (by omega) (by omega), Int.mul_comm 256 b5,
        Int.tmod_eq_emod_of_nonneg r0.1, Int.tmod_eq_emod_of_nonneg r1.1, Int.tmod_eq_emod_of_nonneg r2.1, Int.tmod_eq_emod_of_nonneg r3.1,
        build_eq (cs := #[.int .i64 (b0 % 11), .int .i64 (b1 % 6), .int .i64 (b2 % 4), .int .i64 (b3 % 4), .int .i64 (b4 + b5 * 256)]) (by kernel_rfl)]
      refine buildSlice_c T.t_sl_ref24_Op.u T.t_ref24_Op.i (by omega) (cs := #[.int .i64 (b0 % 11), .int .i64 (b1 % 6), .int .i64 (b2 % 4), .int .i64 (b3 % 4), .int .i64 (b4 + b5 * 256)]) (by kernel_rfl) ?_
      intro g8 w8 hg8 hx8 hb8
      refine ⟨hx8, append_own T.t_sl_ref24_Op.u T.t_sl_ref24_Op.u T.t_ref24_Op.i rfl ((hm6.ext hx7).ext hx8) (Mine.full (n := 1) hb8 rfl (by simp only [maxLen]; omega)).sl (one_ints .i64 [b0 % 11, b1 % 6, b2 % 4, b3 % 4, b4 + b5 * 256]) (by omega) (by simp only [maxLen]; omega) ?_⟩
      intro v9 g9 w9 hg9 hm9 hc9
      have s7 := hx37.size
      have s8 := hx8.size
      rw [slice_slice T.t_sl_uint8.u T.t_uint8.i (l := 6) (h := (n + 5) / 6 * 6 - 6 * k) (m := cap) (lo_lit 6 6 rfl) hi_no mx_no (by omega) (by omega) (by omega)]
      refine ⟨⟨(hx37.trans hx8).then hc9 (by rintro r hr rfl; omega), k + 1, g9, by omega, ?_, by omega, ?_⟩, ?_⟩
      · have hp := hsp'.part (l := 6) (h := (n + 5) / 6 * 6 - 6 * k) (m := cap) (by omega) (by omega) (by omega) (by omega)
        have e1 : (n + 5) / 6 * 6 - 6 * k - 6 = (n + 5) / 6 * 6 - 6 * (k + 1) := by omega
        rw [e1] at hp ⊢
        have e2 : ((ints .u8 ((padAll a).drop (6 * k))).drop (6 * 1)).take (((n + 5) / 6 * 6 - 6 * (k + 1)) * 1) = ints .u8 ((padAll a).drop (6 * (k + 1))) := by
          rw [List.take_of_length_le (by simp [hAl]; omega), ints, ← List.map_drop, List.drop_drop, Nat.mul_add]
        rw [e2] at hp
        exact hp
      · have hops : ints .i64 (ops a k) ++ [Value.int .i64 (b0 % 11), .int .i64 (b1 % 6), .int .i64 (b2 % 4), .int .i64 (b3 % 4), .int .i64 (b4 + b5 * 256)] = ints .i64 (ops a (k + 1)) := by
          rw [ops, hpad]; simp [ints, op6]
        rw [← hops]; exact hm9
      · simp only [slen]; omega
    · have : k = (n + 5) / 6 := by omega
      subst this
      exact ⟨hx3.trans hx6, g, by have := hx3.size; omega, hm6⟩
end Go.Proofs.Ytahhkeljejfgfaa
