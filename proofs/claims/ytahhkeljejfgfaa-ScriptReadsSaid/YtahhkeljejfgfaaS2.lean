/- ScriptReads, part 2: chunks. -/
import Derived.Test.YtahhkeljejfgfaaS1
namespace Go.Proofs.Ytahhkeljejfgfaa
open Go Go.Vc Go.RowKit Go.Proofs Go.Proofs.Try
set_option maxRecDepth 100000

theorem chunk_iter {s : Value} {n c gs gn : Nat} {a : List Int} (hc : 0 < c) (hc2 : c ≤ 1000000) (hn : n ≤ 1000000) :
    IterOk prog F.slices_Chunk_byte_byte__c1 [.pointer (some ⟨gs, 0, none⟩), .pointer (some ⟨gn, 0, none⟩)] ((n + c - 1) / c)
      (fun k vs w => ∃ v, vs = [v] ∧ Sl w 1 v (min c (n - c * k)) (ints .u8 ((a.drop (c * k)).take c)))
      (fun w => Blk w gs T.t_sl_uint8 [s] ∧ Blk w gn T.t_int [.int .i64 c] ∧ Sl w 1 s n (ints .u8 a)) := by
  refine ⟨slices_Chunk_byte_byte__c1.enters, fun l J Jx w hJ hJx hy hΦ hJ0 => ?_⟩
  apply slices_Chunk_byte_byte__c1.enter
  unfold slices_Chunk_byte_byte__c1.body
  refine ⟨fun i w1 => (Blk w1 gs T.t_sl_uint8 [s] ∧ Blk w1 gn T.t_int [.int .i64 c] ∧ Sl w1 1 s n (ints .u8 a)) ∧ ∃ k : Nat, i = .int .i64 ((c * k : Nat) : Int) ∧ k ≤ (n + c - 1) / c ∧ J k w1,
    fun i _ => n + c - (ival i).toNat, ⟨hΦ, 0, rfl, Nat.zero_le _, hJ0⟩, ?_⟩
  rintro _ w1 ⟨⟨hs, hn6, hsl⟩, k, rfl, hk, hj⟩
  have hsl' := hsl
  have hal : a.length = n := by simpa using hsl.1
  obtain ⟨hl, b, o, base, cap, rfl, hcap, hmax, hb, hr⟩ := hsl
  have hN : (n + c - 1) / c * c ≤ n + c - 1 := Nat.div_mul_le_self _ _
  have hkc : c * k ≤ n + c - 1 := Nat.le_trans (by rw [Nat.mul_comm]; exact Nat.mul_le_mul_right _ hk) hN
  rw [load_cell (by kernel_rfl) (hs.cell (o := 0) rfl)]
  simp only [len_slice T.t_sl_uint8.u, binS_lss, split_dec, Drew]
  refine ⟨fun hlt w2 hx _ hns => ?_, fun hge => .inl ?_⟩
  · have hlt : c * k < n := by omega
    have hkN : k < (n + c - 1) / c := by
      rw [Nat.lt_iff_add_one_le, Nat.le_div_iff_mul_le hc, Nat.add_mul, Nat.one_mul, Nat.mul_comm]; omega
    have hs := hs.ext hx
    have hn6 := hn6.ext hx
    have hsl' := hsl'.ext hx
    have hj := hJ _ _ _ hx hns hj
    have hmin : min (c : Int) ((n - c * k : Nat) : Int) = ((min c (n - c * k) : Nat) : Int) := by omega
    have e1 : IntKind.i64.wrap (((c * k : Nat) : Int) + ((min c (n - c * k) : Nat) : Int)) = ((c * k + min c (n - c * k) : Nat) : Int) := by rw [wrap_i64 (by omega) (by omega)]; omega
    rw [load_cell (by kernel_rfl) (hn6.cell (o := 0) rfl), load_cell (by kernel_rfl) (hs.cell (o := 0) rfl),
      slice_slice T.t_sl_uint8.u T.t_uint8.i (l := c * k) (h := n) (m := cap) lo_at hi_no mx_no (by omega) (by omega) (by omega)]
    simp only [len_slice T.t_sl_uint8.u, min_int, hmin]
    rw [load_cell (by kernel_rfl) (hs.cell (o := 0) rfl)]
    simp only [binS_add, e1]
    rw [slice_slice T.t_sl_uint8.u T.t_uint8.i (l := c * k) (h := c * k + min c (n - c * k)) (m := c * k + min c (n - c * k)) lo_at hi_at mx_at (by omega) (by omega) (by omega)]
    have hp := hsl'.part (l := c * k) (h := c * k + min c (n - c * k)) (m := c * k + min c (n - c * k)) (by omega) (by omega) (by omega) (by omega)
    refine ⟨rfl, Yield.mono (hy k _ w2 hkN ⟨hs, hn6, hsl'⟩ ⟨_, rfl, ?_⟩ hj) fun v w3 hv => ?_⟩
    · have e2 : c * k + min c (n - c * k) - c * k = min c (n - c * k) := by omega
      rw [e2] at hp ⊢
      have e3 : ((ints .u8 a).drop (c * k * 1)).take (min c (n - c * k) * 1) = ints .u8 ((a.drop (c * k)).take c) := by
        rw [Nat.mul_one, Nat.mul_one, ints, ← List.map_drop, ← List.map_take]
        congr 1
        rw [Nat.min_def]
        split
        · rfl
        · rw [List.take_of_length_le (by simp; omega), List.take_of_length_le (by simp; omega)]
      rw [e3] at hp
      exact hp
    · rcases hv with ⟨rfl, ⟨hs, hn6, hsl⟩, hj⟩ | ⟨rfl, hj⟩
      · simp only [un_not, Bool.not_true, split_false]
        rw [load_cell (by kernel_rfl) (hn6.cell (o := 0) rfl)]
        simp only [binS_add]
        have e4 : IntKind.i64.wrap (((c * k : Nat) : Int) + (c : Int)) = ((c * (k + 1) : Nat) : Int) := by rw [wrap_i64 (by omega) (by omega), Nat.mul_add]; omega
        rw [e4]
        refine ⟨⟨⟨hs, hn6, hsl⟩, k + 1, rfl, hkN, hj⟩, ?_⟩
        simp only [ival, Int.toNat_natCast, Nat.mul_add]; omega
      · simp only [un_not, Bool.not_false, split_true]
        exact .inr ⟨k, hkN, hj⟩
  · have : k = (n + c - 1) / c := by
      refine Nat.le_antisymm hk ?_
      rw [← Nat.lt_add_one_iff, Nat.div_lt_iff_lt_mul hc, Nat.add_mul, Nat.one_mul, Nat.mul_comm]; omega
    rw [← this]; exact hj

theorem sChunk_bytes {s : Value} {w : World} {c : Nat} (hc : 0 < c) :
    Cal prog F.slices_Chunk_byte_byte [s, .int .i64 c] w fun v w' => Ext w w' ∧ ∃ gs gn, w.heap.size ≤ gs ∧ w.heap.size ≤ gn ∧ v = .func (.func F.slices_Chunk_byte_byte__c1) #[] #[.pointer (some ⟨gs, 0, none⟩), .pointer (some ⟨gn, 0, none⟩)] ∧
      Blk w' gs T.t_sl_uint8 s.cells.toList ∧ Blk w' gn T.t_int [.int .i64 c] := by
  apply slices_Chunk_byte_byte.enter
  unfold slices_Chunk_byte_byte.body
  refine box_c fun gs w1 hgs hx1 hb1 => box_c fun gn w2 hgn hx2 hb2 => ?_
  simp only [JoinC]
  rw [load_cell (by kernel_rfl) (hb2.cell (o := 0) rfl)]
  simp only [binS_lss, split_dec, makeFunc_eq]
  exact ⟨fun h => by omega, fun _ => ⟨hx1.trans hx2, gs, gn, by omega, by have := hx1.size; omega, rfl, hb1.ext hx2, hb2⟩⟩
end Go.Proofs.Ytahhkeljejfgfaa
