/- Lists put in order: slices.Values, AppendSeq, Collect, Sort (up to 12 numbers), Sorted. -/
import Derived.Test.YtahhkeljejfgfaaDoorL12
import Derived.Test.YtahhkeljejfgfaaDoorM2
import Derived.Test.YtahhkeljejfgfaaDoorKm
namespace Go.Proofs.YtahhkeljejfgfaaDoor
open Go Go.Vc Go.RowKit Go.Proofs Go.Proofs.Tryd
set_option maxRecDepth 100000

theorem valIter {g : Nat} {sv : Value} {l : List Int} :
    IterOk prog F.slices_Values_int_int__c1 [.pointer (some ⟨g, 0, none⟩)] l.length (fun k vs _ => ∃ x, l[k]? = some x ∧ vs = [.int .i64 x]) (fun w => Blk w g T.t_sl_int [sv] ∧ LS .i64 w sv l) := by
  refine ⟨slices_Values_int_int__c1.enters, fun y J Jx w hJ _ hround ⟨hb, hl⟩ h0 => ?_⟩
  apply slices_Values_int_int__c1.enter
  unfold slices_Values_int_int__c1.body
  rw [load_cell (by kernel_rfl) (hb.cell (o := 0) rfl), len_ls T.t_sl_int.u hl]
  refine Loop1.range l.length (fun i w2 => J i w2 ∧ Blk w2 g T.t_sl_int [sv] ∧ LS .i64 w2 sv l) hl.le ⟨h0, hb, hl⟩ ?_ ?_
  · rintro i w2 k hi ⟨hj, hb2, hl2⟩ hk
    simp only [binS_lss, split_dec]
    refine ⟨fun _ => ?_, fun h => by omega⟩
    obtain ⟨x, hx⟩ : ∃ x, l[i]? = some x := ⟨_, List.getElem?_eq_getElem hi⟩
    rw [get_ls T.t_sl_int.u T.t_int.i (by kernel_rfl) hl2 hx]
    refine ⟨rfl, (hround i _ w2 hi ⟨hb2, hl2⟩ ⟨x, hx, rfl⟩ hj).mono ?_⟩
    rintro _ w3 (⟨rfl, ⟨hb3, hl3⟩, hj3⟩ | ⟨rfl, hjx⟩)
    · simp only [un_not, Bool.not_true, split_false, binS_add]
      exact hk _ ⟨hj3, hb3, hl3⟩
    · simp only [un_not, Bool.not_false, split_true]
      exact .inr ⟨i, hi, hjx⟩
  · rintro w2 k ⟨hj, _⟩
    simp only [binS_lss, split_dec]
    exact ⟨fun h => by omega, fun _ => .inl hj⟩
theorem sValues {sv : Value} {w : World} : Cal prog F.slices_Values_int_int [sv] w fun r w' => Ext w w' ∧ ∃ g, r = .func (.func F.slices_Values_int_int__c1) #[] #[.pointer (some ⟨g, 0, none⟩)] ∧ w.heap.size ≤ g ∧ Blk w' g T.t_sl_int sv.cells.toList := by
  apply slices_Values_int_int.enter
  unfold slices_Values_int_int.body
  refine box_c fun g w1 hg hx1 hb => ?_
  rw [makeFunc_eq]
  exact ⟨hx1, g, rfl, by omega, hb⟩

/-- what an iterator of numbers hands over, in a list -/
theorem sAppendSeq {f : FuncId} {cap : Array Value} {n : Nat} {Y : Nat → List Value → World → Prop} {Φ : World → Prop} {L : List Int} {w : World} (hit : IterOk prog f cap.toList n Y Φ) (hY : ∀ k vs w, Y k vs w → ∃ x, L[k]? = some x ∧ vs = [.int .i64 x])
    (hΦ : ∀ a b, Chg (fun r => w.heap.size ≤ r) a b → Φ a → Φ b) (h0 : Φ w) (hn : n = L.length) (hlen : L.length ≤ 1000000) :
    Cal prog F.slices_AppendSeq_int_int [.slice none 0 0, .func (.func f) #[] cap] w fun v w' => Ext w w' ∧ ∃ g, w.heap.size ≤ g ∧ LM .i64 T.t_int w' g v L := by
  apply slices_AppendSeq_int_int.enter
  unfold slices_AppendSeq_int_int.body
  refine box_c fun gs w1 hgs hx1 hb1 => ?_
  have hb1 : Blk w1 gs T.t_sl_int [.slice none 0 0] := hb1
  have l1 := hb1.lt
  have toE : ∀ {a b : World}, Ext a b → Φ a → Φ b := fun hx => hΦ _ _ (hx.chg _)
  refine ⟨f, cap, n, Y, Φ, fun k w' => Chg (fun r => w.heap.size ≤ r) w w' ∧ ∃ v g, gs < g ∧ Blk w' gs T.t_sl_int [v] ∧ LM .i64 T.t_int w' g v (L.take k), fun _ _ _ => False, rfl, hit, ?_, fun _ _ hx h => toE hx h,
    fun _ _ _ hx h => ⟨h.1.trans (hx.chg _), by obtain ⟨v, g, h1, h2, h3⟩ := h.2; exact ⟨v, g, h1, h2.ext hx, h3.ext hx⟩⟩, fun _ _ _ _ _ h => h, toE hx1 h0, ⟨hx1.chg _, _, gs + 1, by omega, hb1, LM.nil _ _ _ _⟩, ?_, ?_, fun _ _ _ h => h.elim, fun _ _ _ _ h => h.elim⟩
  · intro k vs w' h
    obtain ⟨x, _, rfl⟩ := hY k vs w' h; rfl
  · rintro a k w2 hk hΦ2 hYa ⟨hc2, v, g, hg, hb2, hv⟩
    obtain ⟨x, hx, hab⟩ := hY k _ w2 hYa
    cases hab
    intro w3 hx3 _
    have hb3 := hb2.ext hx3
    rw [load_cell (by kernel_rfl) (hb3.cell (o := 0) rfl)]
    refine one_c T.t_sl_int.u T.t_int.i rfl fun a ga w4 hga hx4 ha => ?_
    have hle : (L.take k).length ≤ 1000000 := by simp; omega
    refine push_lm T.t_sl_int.u T.t_int.i rfl ((hv.ext hx3).ext hx4) ha.ls (by simp only [List.length_cons, List.length_nil]; omega) (by simp only [List.length_cons, List.length_nil]; omega) fun v' g' w5 hg' hv' hc5 => ?_
    have l2 := hb2.lt
    have s3 := hx3.size
    have s4 := hx4.size
    refine store_cell T.t_sl_int.i hv'.ls.cells.1 hv'.ls.cells.2 (((hb3.ext hx4).chg hc5 (by omega))) (by simp) fun w6 hc6 hs6 hb6 => ?_
    have hcc : Chg (fun r => w.heap.size ≤ r) w2 w6 := (((hx3.trans hx4).chg _).trans (hc5.mono fun r _ h => by show w.heap.size ≤ r; omega)).trans (hc6.mono fun r _ h => by show w.heap.size ≤ r; omega)
    refine ⟨hΦ _ _ hcc hΦ2, hc2.trans hcc, v', g', by omega, hb6, ?_⟩
    rw [List.take_add_one, hx]
    exact hv'.chg hc6 (fun _ => by omega)
  · rintro w7 ⟨hc7, v, g, hg, hb7, hv⟩
    rw [load_cell (by kernel_rfl) (hb7.cell (o := 0) rfl)]
    intro w8 hx8 _
    rw [hn, List.take_length] at hv
    exact ⟨(hc7.ext fun r hr h => by have : w.heap.size ≤ r := h; omega).trans hx8, g, by omega, hv.ext hx8⟩
theorem sCollect {f : FuncId} {cap : Array Value} {n : Nat} {Y : Nat → List Value → World → Prop} {Φ : World → Prop} {L : List Int} {w : World} (hit : IterOk prog f cap.toList n Y Φ) (hY : ∀ k vs w, Y k vs w → ∃ x, L[k]? = some x ∧ vs = [.int .i64 x])
    (hΦ : ∀ a b, Chg (fun r => w.heap.size ≤ r) a b → Φ a → Φ b) (h0 : Φ w) (hn : n = L.length) (hlen : L.length ≤ 1000000) :
    Cal prog F.slices_Collect_int [.func (.func f) #[] cap] w fun v w' => Ext w w' ∧ ∃ g, w.heap.size ≤ g ∧ LM .i64 T.t_int w' g v L := by
  apply slices_Collect_int.enter
  unfold slices_Collect_int.body
  exact (sAppendSeq hit hY hΦ h0 hn hlen).mono fun _ _ _ h => h

theorem cLess {x y : Int} {w : World} : Cal prog F.cmp_Less_int [.int .i64 x, .int .i64 y] w fun v w' => v = .bool (decide (x < y)) ∧ Ext w w' := by
  apply cmp_Less_int.enter
  unfold cmp_Less_int.body
  refine join1 (fun v w1 => v = .bool (decide (x < y)) ∧ Ext w w1) (fun _ _ h => h) fun J hJ => ?_
  have nan : ∀ {z : Int} {w : World}, Cal prog F.cmp_isNaN_int [.int .i64 z] w fun v w' => v = .bool false ∧ Ext w w' := fun {z w} => by
    apply cmp_isNaN_int.enter
    unfold cmp_isNaN_int.body
    simp only [binS_neq]
    exact ⟨by simp, Ext.refl _⟩
  refine nan.mono ?_
  rintro _ w2 _ ⟨rfl, hx2⟩
  rw [split_false]
  simp only [binS_lss]
  exact hJ _ _ ⟨rfl, hx2⟩

theorem stays_sub {P : Program} {w : World} {t : TypeId} {cx cy : Bool} {k : IntKind} {a b : Int} : Stays P (binS .sub t cx cy (.int k a) (.int k b)) (.int k (k.wrap (a - b))) w := fun w' _ => by simp [binS, eqGuard, binOp, Op.intArith]

theorem sInsSort {sv : Value} {l : List Int} {g : Nat} {w : World} (h : LM .i64 T.t_int w g sv l) (hl : l.length ≤ 1000000) :
    Cal prog F.slices_insertionSortOrdered_int [sv, .int .i64 0, .int .i64 l.length] w fun _ w' => Chg (fun r => r = g) w w' ∧ ∃ m, m.Perm l ∧ m.Pairwise (· ≤ ·) ∧ LM .i64 T.t_int w' g sv m := by
  apply slices_insertionSortOrdered_int.enter
  unfold slices_insertionSortOrdered_int.body
  simp only [binS_add]
  refine ⟨fun t w1 => ∃ (i : Nat) (m : List Int), t = .int .i64 i ∧ 1 ≤ i ∧ (i ≤ l.length ∨ i = 1) ∧ m.Perm l ∧ UpTo m i ∧ Chg (fun r => r = g) w w1 ∧ LM .i64 T.t_int w1 g sv m, fun t _ => l.length + 1 - (ival t).toNat,
    ⟨1, l, by congr 1, by omega, .inr rfl, .refl _, fun p q x y h1 h2 => by omega, Chg.refl _ _, h⟩, ?_⟩
  rintro _ w1 ⟨i, m, rfl, hi1, hil, hperm, hup, hc1, hm⟩
  have hml := hperm.length_eq
  simp only [binS_lss, split_dec]
  refine ⟨fun hlt => ?_, fun hge => ?_⟩
  · have hlt : i < l.length := by omega
    refine ⟨fun t w2 => ∃ (j : Nat) (m : List Int), t = .int .i64 j ∧ j ≤ i ∧ m.Perm l ∧ BarJ m i j ∧ Chg (fun r => r = g) w w2 ∧ LM .i64 T.t_int w2 g sv m, fun t _ => (ival t).toNat, ⟨i, m, rfl, Nat.le_refl _, hperm, upto_bar hup, hc1, hm⟩, ?_⟩
    rintro _ w2 ⟨j, m, rfl, hji, hperm, hbar, hc2, hm⟩
    have hml := hperm.length_eq
    refine join1 (fun v w3 => Ext w2 w3 ∧ ∃ c, v = .bool c ∧ (c = true → 0 < j ∧ ∃ a b, m[j - 1]? = some a ∧ m[j]? = some b ∧ b < a) ∧ (c = false → j = 0 ∨ 0 < j ∧ ∃ a b, m[j - 1]? = some a ∧ m[j]? = some b ∧ a ≤ b)) ?_ ?_
    · rintro _ w3 ⟨hx3, c, rfl, hct, hcf⟩
      rw [split_bool]
      refine ⟨fun h => ?_, fun h => ?_⟩
      · obtain ⟨h0, a, b, ha, hb, hab⟩ := hct h
        intro w4 hx4 _ _
        have hm4 := (hm.ext hx3).ext hx4
        have e : IntKind.i64.wrap ((j : Int) - 1) = ((j - 1 : Nat) : Int) := by rw [wrap_i64 (by omega) (by omega)]; omega
        simp only [binS_sub, e]
        rw [get_ls T.t_sl_int.u T.t_int.i (by kernel_rfl) hm4.ls ha, get_ls T.t_sl_int.u T.t_int.i (by kernel_rfl) hm4.ls hb, idx_lm rfl T.t_sl_int.u T.t_int.i hm4 (by omega)]
        refine store_lm T.t_int.i hm4 (by omega) fun w5 hc5 hs5 hm5 => ⟨.inr ⟨by have := stays_sub (P := prog) (w := w5) (t := T.t_int) (cx := false) (cy := true) (k := .i64) (a := (j : Int)) (b := 1); rwa [e] at this, trivial⟩, ?_⟩
        rw [idx_lm rfl T.t_sl_int.u T.t_int.i hm5 (by simp; omega)]
        refine store_lm T.t_int.i hm5 (by simp; omega) fun w6 hc6 hs6 hm6 => ?_
        refine ⟨⟨j - 1, _, rfl, by omega, (swap_perm (by omega) ha hb).trans hperm, bar_swap hbar h0 hji ha hb hab, ((hc2.trans ((hx3.trans hx4).chg _)).trans hc5).trans hc6, hm6⟩, ?_⟩
        simp only [ival]; omega
      · simp only [binS_add]
        rw [wrap_i64 (by omega) (by omega)]
        refine ⟨⟨i + 1, m, rfl, by omega, .inl (by omega), hperm, ?_, hc2.trans (hx3.chg _), hm.ext hx3⟩, ?_⟩
        · rcases hcf h with rfl | ⟨h0, a, b, ha, hb, hab⟩
          · exact bar_zero hbar
          · exact bar_stop hbar h0 ha hb hab
        · simp only [ival]; omega
    · intro J hJ w7 hx7 _ _
      have hm7 := hm.ext hx7
      simp only [binS_gtr, split_dec]
      refine ⟨fun h0 => ?_, fun h0 => hJ _ _ ⟨hx7, false, rfl, (fun h => by cases h), fun _ => .inl (by omega)⟩⟩
      have e : IntKind.i64.wrap ((j : Int) - 1) = ((j - 1 : Nat) : Int) := by rw [wrap_i64 (by omega) (by omega)]; omega
      obtain ⟨b, hb⟩ : ∃ b, m[j]? = some b := ⟨_, List.getElem?_eq_getElem (by omega)⟩
      obtain ⟨a, ha⟩ : ∃ a, m[j - 1]? = some a := ⟨_, List.getElem?_eq_getElem (by omega)⟩
      rw [get_ls T.t_sl_int.u T.t_int.i (by kernel_rfl) hm7.ls hb]
      simp only [binS_sub, e]
      rw [get_ls T.t_sl_int.u T.t_int.i (by kernel_rfl) hm7.ls ha]
      refine cLess.mono ?_
      rintro _ w8 _ ⟨rfl, hx8⟩
      refine hJ _ _ ⟨hx7.trans hx8, _, rfl, fun h => ⟨by omega, a, b, ha, hb, by simpa using h⟩, fun h => .inr ⟨by omega, a, b, ha, hb, by simpa using h⟩⟩
  · refine ⟨hc1, m, hperm, upto_pairwise fun p q x y h1 h2 h3 h4 => hup p q x y h1 (by omega) h3 h4, hm⟩

theorem index_str {P : Program} {w : World} {t : TypeId} {k : IntKind} {s : ByteArray} {i : Nat} {K : Value → Prop} (ht : P.underlying t = some .string) (hi : i < s.size) (hK : ∀ b : Nat, b < 256 → K (.int .u8 b)) :
    RunQ P (Instr.index t (.string s) (.int k (i : Int))) w K := by
  have hb : s[i]? = some s[i] := by simp [hi]
  have : RunQ P (Instr.index t (.string s) (.int k (i : Int))) w K = K (.int .u8 s[i].toNat) := RunQ.of fun w' _ => by
    simp [Instr.index, asIntOf, run_underlying ht, hi]
  rw [this]
  exact hK _ (UInt8.toNat_lt _)
theorem bLen {n : Nat} {w : World} (hn : n < 256) : Cal prog F.math_bits_Len [.int .u64 (n : Int)] w fun v w' => (∃ r, v = .int .i64 r) ∧ Ext w w' := by
  apply math_bits_Len.enter
  unfold math_bits_Len.body
  refine Cal.mono (K := fun v w' => (∃ r, v = .int .i64 r) ∧ Ext w w') ?_ (fun _ _ _ h => h)
  apply math_bits_Len64.enter
  unfold math_bits_Len64.body
  simp only [JoinC, binS_geq, split_dec]
  refine ⟨fun h => by omega, fun _ => ⟨fun h => by omega, fun _ => ⟨fun h => by omega, fun _ => ?_⟩⟩⟩
  rw [conv_int T.t_uint64.u T.t_uint8.u, wrap_u8 (by omega) (by omega)]
  refine index_str T.t_string.u (by exact Nat.lt_of_lt_of_le hn (by decide)) fun b hb => ?_
  rw [conv_int T.t_uint8.u T.t_int.u]
  simp only [binS_add]
  exact ⟨⟨_, rfl⟩, Ext.refl _⟩
theorem sSort {sv : Value} {l : List Int} {g : Nat} {w : World} (h : LM .i64 T.t_int w g sv l) (hl : l.length ≤ 12) :
    Cal prog F.slices_Sort_int_int [sv] w fun _ w' => Chg (fun r => r = g) w w' ∧ ∃ m, m.Perm l ∧ m.Pairwise (· ≤ ·) ∧ LM .i64 T.t_int w' g sv m := by
  apply slices_Sort_int_int.enter
  unfold slices_Sort_int_int.body
  rw [len_ls T.t_sl_int.u h.ls, conv_int T.t_int.u T.t_uint.u, wrap_u64 (by omega) (by omega)]
  refine (bLen (n := l.length) (by omega)).mono ?_
  rintro _ w1 _ ⟨⟨r, rfl⟩, hx1⟩
  refine Cal.mono (K := fun _ w' => Chg (fun r => r = g) w1 w' ∧ ∃ m, m.Perm l ∧ m.Pairwise (· ≤ ·) ∧ LM .i64 T.t_int w' g sv m) ?_ (fun _ _ _ h => ⟨(hx1.chg _).trans h.1, h.2⟩)
  apply slices_pdqsortOrdered_int.enter
  unfold slices_pdqsortOrdered_int.body
  refine ⟨fun a b _ _ _ w2 => a = .int .i64 0 ∧ b = .int .i64 l.length ∧ w1 = w2, fun _ _ _ _ _ _ => 0, ⟨rfl, rfl, rfl⟩, ?_⟩
  rintro _ _ _ _ _ _ ⟨rfl, rfl, rfl⟩
  simp only [binS_sub, binS_leq, split_dec]
  rw [wrap_i64 (by omega) (by omega)]
  refine ⟨fun _ => ?_, fun h => by omega⟩
  refine (sInsSort (h.ext hx1) (by omega)).mono ?_
  exact fun _ _ _ h => h
theorem sSorted {f : FuncId} {cap : Array Value} {n : Nat} {Y : Nat → List Value → World → Prop} {Φ : World → Prop} {L : List Int} {w : World} (hit : IterOk prog f cap.toList n Y Φ) (hY : ∀ k vs w, Y k vs w → ∃ x, L[k]? = some x ∧ vs = [.int .i64 x])
    (hΦ : ∀ a b, Chg (fun r => w.heap.size ≤ r) a b → Φ a → Φ b) (h0 : Φ w) (hn : n = L.length) (hlen : L.length ≤ 12) :
    Cal prog F.slices_Sorted_int [.func (.func f) #[] cap] w fun v w' => Ext w w' ∧ ∃ g m, w.heap.size ≤ g ∧ m.Perm L ∧ m.Pairwise (· ≤ ·) ∧ LM .i64 T.t_int w' g v m := by
  apply slices_Sorted_int.enter
  unfold slices_Sorted_int.body
  refine (sCollect hit hY hΦ h0 hn (by omega)).mono ?_
  rintro v w1 _ ⟨hx1, g, hg, hv⟩
  refine (sSort hv hlen).mono ?_
  rintro _ w2 _ ⟨hc2, m, h1, h2, h3⟩
  exact ⟨hx1.then hc2 (by rintro r hr rfl; omega), g, m, hg, h1, h2, h3⟩
end Go.Proofs.YtahhkeljejfgfaaDoor
