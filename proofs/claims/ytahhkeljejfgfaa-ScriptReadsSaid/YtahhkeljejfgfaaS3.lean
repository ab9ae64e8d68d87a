/- ScriptReads, part 3: what is read, in plain numbers; the program's Read. -/
import Derived.Test.YtahhkeljejfgfaaS2
namespace Go.Proofs.Ytahhkeljejfgfaa
open Go Go.Vc Go.RowKit Go.Proofs Go.Proofs.Try
set_option maxRecDepth 100000

/-! ### plain -/
def pad (ch : List Int) : List Int := ch ++ List.replicate (6 - ch.length) 0
def op6 : List Int → List Int
  | [b0, b1, b2, b3, b4, b5] => [b0 % 11, b1 % 6, b2 % 4, b3 % 4, b4 + b5 * 256]
  | _ => []
def chunkAt (a : List Int) (k : Nat) : List Int := (a.drop (6 * k)).take 6
def ops (a : List Int) : Nat → List Int
  | 0 => []
  | k + 1 => ops a k ++ op6 (pad (chunkAt a k))

def Bytes (a : List Int) : Prop := ∀ x ∈ a, 0 ≤ x ∧ x < 256
theorem bytes_chunk {a : List Int} (h : Bytes a) (k : Nat) : Bytes (chunkAt a k) := fun x hx => h x (List.mem_of_mem_drop (List.mem_of_mem_take hx))
theorem chunk_len (a : List Int) (k : Nat) : (chunkAt a k).length ≤ 6 := by simp [chunkAt]; omega
theorem pad_len {ch : List Int} (h : ch.length ≤ 6) : (pad ch).length = 6 := by simp [pad]; omega
theorem bytes_pad {ch : List Int} (h : Bytes ch) : Bytes (pad ch) := fun x hx => by
  rcases List.mem_append.1 hx with h' | h'
  · exact h x h'
  · rw [(List.mem_replicate.1 h').2]; omega
theorem six {l : List Int} (h : l.length = 6) (hb : Bytes l) : ∃ b0 b1 b2 b3 b4 b5 : Int, l = [b0, b1, b2, b3, b4, b5] ∧ (0 ≤ b0 ∧ b0 < 256) ∧ (0 ≤ b1 ∧ b1 < 256) ∧ (0 ≤ b2 ∧ b2 < 256) ∧ (0 ≤ b3 ∧ b3 < 256) ∧ (0 ≤ b4 ∧ b4 < 256) ∧ (0 ≤ b5 ∧ b5 < 256) := by
  match l, h with
  | [b0, b1, b2, b3, b4, b5], _ => exact ⟨b0, b1, b2, b3, b4, b5, rfl, hb _ (by simp), hb _ (by simp), hb _ (by simp), hb _ (by simp), hb _ (by simp), hb _ (by simp)⟩
theorem over_pad {ch : List Int} (h : ch.length ≤ 6) : over (ints .u8 [0, 0, 0, 0, 0, 0]) 0 ((ints .u8 ch).take 6) = ints .u8 (pad ch) := by
  rw [List.take_of_length_le (by simpa using h), over_eq (by simpa using h)]
  simp only [List.take_zero, List.nil_append, Nat.zero_add, ints, pad, List.length_map, List.map_append, List.map_replicate]
  congr 1
  rw [show ([0, 0, 0, 0, 0, 0] : List Int) = List.replicate 6 0 from rfl, List.map_replicate, List.drop_replicate]
theorem ops_len (a : List Int) : ∀ k, (ops a k).length = k * 5
  | 0 => rfl
  | k + 1 => by
    have := pad_len (chunk_len a k)
    rw [ops, List.length_append, ops_len a k]
    match pad (chunkAt a k), this with
    | [b0, b1, b2, b3, b4, b5], _ => simp [op6]; omega

/-! ### the program's -/
theorem sRead {p : Value} {w : World} {n : Nat} {a : List Int} (h1 : Sl w 1 p n (ints .u8 a)) (hn : n ≤ 1000) (hby : Bytes a) :
    Cal prog F.script_Read [p] w fun v w' => Ext w w' ∧ ∃ g, w.heap.size ≤ g ∧ Mine w' g T.t_script_Op 5 v ((n + 5) / 6) (ints .i64 (ops a ((n + 5) / 6))) := by
  have hal : a.length = n := by simpa using h1.1
  have hp0 : p.cells.toList = [p] := by obtain ⟨_, _, _, _, _, rfl, _⟩ := h1; rfl
  apply script_Read.enter
  unfold script_Read.body
  refine alloc_c T.t_sl_script_Op.i fun g0 w1 hg0 hx1 hb0 => ?_
  refine (sChunk_bytes (c := 6) (by omega)).mono fun fv w2 _ ⟨hx2, gs, gn, hgs, hgn, hfv, hbs, hbn⟩ => ?_
  subst hfv
  have hx12 := hx1.trans hx2
  have hs1 := hx1.size
  have l0 := hb0.lt
  have l1 := hbs.lt
  have l2 := hbn.lt
  rw [hp0] at hbs
  refine ⟨_, _, (n + 6 - 1) / 6, _, _, fun k w' => (Ext w w' ∧ w2.heap.size ≤ w'.heap.size) ∧ ∃ v g, Blk w' g0 T.t_sl_script_Op [v] ∧ w2.heap.size ≤ g ∧ Mine w' g T.t_script_Op 5 v k (ints .i64 (ops a k)), fun _ _ _ => False, rfl,
    chunk_iter (s := p) (n := n) (c := 6) (gs := gs) (gn := gn) (a := a) (by omega) (by omega) (by omega), fun k vs w' ⟨v, h, _⟩ => by rw [h]; rfl,
    fun u u' hx ⟨h2, h3, h4⟩ => ⟨h2.ext hx, h3.ext hx, h4.ext hx⟩, fun k u u' hx ⟨h2, v, g, h3, h4, h5⟩ => ⟨⟨h2.1.trans hx, Nat.le_trans h2.2 hx.size⟩, v, g, h3.ext hx, h4, h5.ext hx⟩, fun _ _ _ _ _ h => h,
    ⟨hbs, hbn, h1.ext hx12⟩, ⟨⟨hx12, Nat.le_refl _⟩, _, w2.heap.size, hb0.ext hx2, Nat.le_refl _, Mine.nil _ _ _ _⟩, ?_, ?_, fun _ _ _ h => h, fun _ _ _ _ h => h.elim⟩
  · rintro ch k w3 hk ⟨hbs, hbn, hsl⟩ ⟨_, hv, hch⟩ ⟨⟨hx3, hsz3⟩, v, g, hb0, hg, hm⟩
    cases hv
    simp only [Again, Drew]
    intro w4 hx4 _
    have hx := hx3.trans hx4
    replace hbs := hbs.ext hx4
    replace hbn := hbn.ext hx4
    replace hch := hch.ext hx4
    replace hb0 := hb0.ext hx4
    replace hm := hm.ext hx4
    refine alloc_c T.t_arr6_uint8.i fun gb w5 hgb hx5 hbb => ?_
    have q0 := hb0.lt
    have q1 := hbs.lt
    have q2 := hbn.lt
    have q3 := hx5.size
    replace hx := hx.trans hx5
    replace hch := hch.ext hx5
    rw [slice_array T.t_arr6_uint8.u T.t_uint8.i (l := 0) (h := 6) (m := 6) lo_no hi_no mx_no (by omega) (by omega) (by omega)]
    refine copy_blk T.t_sl_uint8.u T.t_uint8.i hbb (o := 0) (fun _ => rfl) (Nat.le_refl _) hch (one_ints _ _) ?_
    intro w6 hc6 hs6 hbb
    have hcl := chunk_len a k
    have hz : (Value.agg #[(.int .u8 0), (.int .u8 0), (.int .u8 0), (.int .u8 0), (.int .u8 0), (.int .u8 0)]).cells.toList = ints .u8 [0, 0, 0, 0, 0, 0] := rfl
    rw [hz] at hbb
    have hfold : (a.drop (6 * k)).take 6 = chunkAt a k := rfl
    rw [hfold] at hbb
    rw [show (6 - 0) = 6 from rfl, over_pad hcl] at hbb
    obtain ⟨b0, b1, b2, b3, b4, b5, hpad, r0, r1, r2, r3, r4, r5⟩ := six (pad_len hcl) (bytes_pad (bytes_chunk hby k))
    rw [hpad] at hbb
    have hx6 : Ext w w6 := hx.then hc6 (by rintro r hr rfl; omega)
    have hb0' := hb0.chg ((hx5.chg _).trans hc6) (by omega)
    rw [load_cell (by kernel_rfl) (hb0'.cell (o := 0) rfl),
      index_arr_lit 0 0 T.t_arr6_uint8.u T.t_uint8.i rfl (by omega), load_cell (by kernel_rfl) (hbb.cell (o := 0 + 0 * 1) (v := .int .u8 b0) rfl), conv_int T.t_uint8.u T.t_int.u, wrap_i64 (by omega) (by omega), binS_rem (b := 11) (by decide),
      index_arr_lit 1 1 T.t_arr6_uint8.u T.t_uint8.i rfl (by omega), load_cell (by kernel_rfl) (hbb.cell (o := 0 + 1 * 1) (v := .int .u8 b1) rfl), binS_rem (b := 6) (by decide), conv_int T.t_uint8.u T.t_int.u,
      index_arr_lit 2 2 T.t_arr6_uint8.u T.t_uint8.i rfl (by omega), load_cell (by kernel_rfl) (hbb.cell (o := 0 + 2 * 1) (v := .int .u8 b2) rfl), binS_rem (b := 4) (by decide), conv_int T.t_uint8.u T.t_int.u,
      index_arr_lit 3 3 T.t_arr6_uint8.u T.t_uint8.i rfl (by omega), load_cell (by kernel_rfl) (hbb.cell (o := 0 + 3 * 1) (v := .int .u8 b3) rfl), binS_rem (b := 4) (by decide), conv_int T.t_uint8.u T.t_int.u,
      index_arr_lit 4 4 T.t_arr6_uint8.u T.t_uint8.i rfl (by omega), load_cell (by kernel_rfl) (hbb.cell (o := 0 + 4 * 1) (v := .int .u8 b4) rfl), conv_int T.t_uint8.u T.t_int64.u, wrap_i64 (x := b4) (by omega) (by omega),
      index_arr_lit 5 5 T.t_arr6_uint8.u T.t_uint8.i rfl (by omega), load_cell (by kernel_rfl) (hbb.cell (o := 0 + 5 * 1) (v := .int .u8 b5) rfl), conv_int T.t_uint8.u T.t_int64.u, wrap_i64 (x := b5) (by omega) (by omega),
      binS_shl (b := 8) (by decide), show (b5 * 2 ^ min (Int.toNat 8) IntKind.i64.bits) = b5 * 256 from rfl, wrap_i64 (x := b5 * 256) (by omega) (by omega), binS_add, wrap_i64 (x := b4 + b5 * 256) (by omega) (by omega),
      Int.tmod_eq_emod_of_nonneg r0.1, Int.tmod_eq_emod_of_nonneg r1.1, Int.tmod_eq_emod_of_nonneg r2.1, Int.tmod_eq_emod_of_nonneg r3.1, wrap_i64 (x := b1 % 6) (by omega) (by omega), wrap_i64 (x := b2 % 4) (by omega) (by omega), wrap_i64 (x := b3 % 4) (by omega) (by omega),
      build_eq (cs := #[.int .i64 (b0 % 11), .int .i64 (b1 % 6), .int .i64 (b2 % 4), .int .i64 (b3 % 4), .int .i64 (b4 + b5 * 256)]) (by kernel_rfl)]
    refine buildSlice_c T.t_sl_script_Op.u T.t_script_Op.i (by omega) (cs := #[.int .i64 (b0 % 11), .int .i64 (b1 % 6), .int .i64 (b2 % 4), .int .i64 (b3 % 4), .int .i64 (b4 + b5 * 256)]) (by kernel_rfl) ?_
    intro g7 w7 hg7 hx7 hb7
    have hm7 := (hm.chg ((hx5.chg _).trans hc6) (by omega)).ext hx7
    have hs7 := hx7.size
    refine append_own T.t_sl_script_Op.u T.t_sl_script_Op.u T.t_script_Op.i rfl hm7 (Mine.full (n := 1) hb7 rfl (by simp only [maxLen]; omega)).sl (one_ints .i64 [b0 % 11, b1 % 6, b2 % 4, b3 % 4, b4 + b5 * 256]) (by omega) (by simp only [maxLen]; omega) ?_
    intro v8 g8 w8 hg8 hm8 hc8
    have hx8 : Ext w w8 := (hx6.trans hx7).then hc8 (by rintro r hr rfl; have := hx12.size; omega)
    have hb8 := (hb0'.ext hx7).chg hc8 (by omega)
    have hv8 : v8.cells = #[v8] ∧ v8.oneCell' = true := by obtain ⟨_, ⟨rfl, _⟩ | ⟨_, _, rfl, _⟩⟩ := hm8 <;> exact ⟨rfl, rfl⟩
    have hs8 := hc8.size
    refine store_cell T.t_sl_script_Op.i hv8.1 hv8.2 hb8 (by simp) ?_
    intro w9 hc9 hs9 hb9
    have hx9 : Ext w w9 := hx8.then hc9 (by rintro r hr rfl; omega)
    have c69 : Chg (fun r => r = gb ∨ r = g ∨ r = g0) w4 w9 := (((hx5.chg _).trans (hc6.mono (by rintro r _ rfl; exact .inl rfl))).trans ((hx7.chg _).trans (hc8.mono (by rintro r _ rfl; exact .inr (.inl rfl))))).trans (hc9.mono (by rintro r _ rfl; exact .inr (.inr rfl)))
    refine ⟨⟨hbs.chg c69 (by omega), hbn.chg c69 (by omega), h1.ext hx9⟩, ⟨hx9, ?_⟩, v8, g8, ?_, ?_, ?_⟩
    · have := hx7.size; have := hx4.size; omega
    · simpa using hb9
    · have := hx7.size; have := hx4.size; omega
    · have hops : ints .i64 (ops a k) ++ [Value.int .i64 (b0 % 11), .int .i64 (b1 % 6), .int .i64 (b2 % 4), .int .i64 (b3 % 4), .int .i64 (b4 + b5 * 256)] = ints .i64 (ops a (k + 1)) := by
        rw [ops, hpad]; simp [ints, op6]
      rw [← hops]
      exact hm8.chg hc9 (by have := hx4.size; omega)
  · rintro w10 ⟨⟨hx, _⟩, v, g, hb0, hg, hm⟩
    rw [load_cell (by kernel_rfl) (hb0.cell (o := 0) rfl)]
    simp only [Again]
    intro w11 hx11 _
    exact ⟨hx.trans hx11, g, by have := hx12.size; omega, hm.ext hx11⟩
end Go.Proofs.Ytahhkeljejfgfaa
