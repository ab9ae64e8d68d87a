import Derived.Test.YtahhkeljejfgfaaM2
import Derived.Test.YtahhkeljejfgfaaU5
/- Rows that are sorted, by a number of each element: swaps in a range; what is in order. -/
namespace Go.Proofs.Ytahhkeljejfgfaa
open Go Go.Vc
set_option maxRecDepth 100000

section
variable {α : Type}
/-- M comes of L by swaps in places a to b -/
inductive SwapR (a b : Nat) (L : List α) : List α → Prop
  | refl : SwapR a b L L
  | step {M : List α} {i j : Nat} {x y : α} : SwapR a b L M → a ≤ i → i < b → a ≤ j → j < b → M[i]? = some x → M[j]? = some y → SwapR a b L ((M.set i y).set j x)
theorem swap_get {M : List α} {i j : Nat} {x y : α} (hi : M[i]? = some x) (hj : M[j]? = some y) (r : Nat) : ((M.set i y).set j x)[r]? = if r = j then some x else if r = i then some y else M[r]? := by
  have li := (List.getElem?_eq_some_iff.1 hi).1
  have lj := (List.getElem?_eq_some_iff.1 hj).1
  by_cases h : r = j
  · subst h; rw [List.getElem?_set_self (by simpa using lj), if_pos rfl]
  · rw [List.getElem?_set_ne (Ne.symm h), if_neg h]
    by_cases h' : r = i
    · subst h'; rw [List.getElem?_set_self li, if_pos rfl]
    · rw [List.getElem?_set_ne (Ne.symm h'), if_neg h']
theorem swap_perm2 {M : List α} {i j : Nat} {x y : α} (hi : M[i]? = some x) (hj : M[j]? = some y) : ((M.set i y).set j x).Perm M := by
  have li := List.getElem?_eq_some_iff.1 hi
  have lj := List.getElem?_eq_some_iff.1 hj
  have := List.set_set_perm li.1 lj.1
  rw [li.2, lj.2] at this
  exact this
theorem SwapR.perm {a b : Nat} {L M : List α} (h : SwapR a b L M) : M.Perm L := by
  induction h with
  | refl => exact .refl _
  | step _ _ _ _ _ hi hj ih => exact (swap_perm2 hi hj).trans ih
theorem SwapR.len {a b : Nat} {L M : List α} (h : SwapR a b L M) : M.length = L.length := h.perm.length_eq
theorem SwapR.trans {a b : Nat} {L M N : List α} (h : SwapR a b L M) (k : SwapR a b M N) : SwapR a b L N := by
  induction k with
  | refl => exact h
  | step _ h1 h2 h3 h4 h5 h6 ih => exact .step ih h1 h2 h3 h4 h5 h6
theorem SwapR.mono {a b c d : Nat} {L M : List α} (h : SwapR a b L M) (h1 : c ≤ a) (h2 : b ≤ d) : SwapR c d L M := by
  induction h with
  | refl => exact .refl
  | step _ g1 g2 g3 g4 g5 g6 ih => exact .step ih (by omega) (by omega) (by omega) (by omega) g5 g6
theorem SwapR.out {a b : Nat} {L M : List α} (h : SwapR a b L M) {r : Nat} (hr : r < a ∨ b ≤ r) : M[r]? = L[r]? := by
  induction h with
  | refl => rfl
  | step _ g1 g2 g3 g4 g5 g6 ih => rw [swap_get g5 g6, if_neg (by omega), if_neg (by omega)]; exact ih
/-- what holds of all in the range holds of all behind it -/
theorem SwapR.all {a b : Nat} {L M : List α} (h : SwapR a b L M) {p : α → Prop} (hp : ∀ (r : Nat) (x : α), a ≤ r → r < b → L[r]? = some x → p x) : ∀ (r : Nat) (x : α), a ≤ r → r < b → M[r]? = some x → p x := by
  induction h with
  | refl => exact hp
  | step _ g1 g2 g3 g4 g5 g6 ih =>
    intro r x h1 h2 hx
    rw [swap_get g5 g6] at hx
    split at hx
    · cases hx; exact ih _ _ g1 g2 g5
    · split at hx
      · cases hx; exact ih _ _ g3 g4 g6
      · exact ih r x h1 h2 hx

variable (f : α → Int)
/-- in order from a up to i -/
def UpR (L : List α) (a i : Nat) : Prop := ∀ (p q : Nat) (x y : α), a ≤ p → p < q → q < i → L[p]? = some x → L[q]? = some y → f x ≤ f y
/-- but for place j -/
def BarR (L : List α) (a i j : Nat) : Prop := ∀ (p q : Nat) (x y : α), a ≤ p → p < q → q ≤ i → q ≠ j → L[p]? = some x → L[q]? = some y → f x ≤ f y
variable {f}
theorem upR_bar {L : List α} {a i : Nat} (h : UpR f L a i) : BarR f L a i i := fun p q x y h0 h1 h2 h3 h4 h5 => h p q x y h0 h1 (by omega) h4 h5
theorem barR_low {L : List α} {a i : Nat} (h : BarR f L a i a) : UpR f L a (i + 1) := fun p q x y h0 h1 h2 h4 h5 => h p q x y h0 h1 (by omega) (by omega) h4 h5
theorem barR_stop {L : List α} {a i j : Nat} {u v : α} (h : BarR f L a i j) (h0 : a < j) (hu : L[j - 1]? = some u) (hv : L[j]? = some v) (huv : f u ≤ f v) : UpR f L a (i + 1) := by
  intro p q x y hp h1 h2 h4 h5
  by_cases hq : q = j
  · subst hq
    rw [hv] at h5; cases h5
    by_cases hp1 : p = q - 1
    · subst hp1; rw [hu] at h4; cases h4; exact huv
    · have := h p (q - 1) x u hp (by omega) (by omega) (by omega) h4 hu
      omega
  · exact h p q x y hp h1 (by omega) hq h4 h5
theorem barR_swap {L : List α} {a i j : Nat} {u v : α} (h : BarR f L a i j) (h0 : a < j) (hi : j ≤ i) (hu : L[j - 1]? = some u) (hv : L[j]? = some v) (huv : f v < f u) : BarR f ((L.set j u).set (j - 1) v) a i (j - 1) := by
  intro p q x y hp h1 h2 h3 h4 h5
  rw [swap_get hv hu] at h4 h5
  rw [if_neg h3] at h5
  by_cases hq : q = j
  · rw [if_pos hq] at h5; cases h5
    split at h4
    · cases h4; omega
    · split at h4
      · omega
      · exact h p (j - 1) x u hp (by omega) (by omega) (by omega) h4 hu
  · rw [if_neg hq] at h5
    split at h4
    · cases h4
      have := h j q v y
      by_cases hjq : j < q
      · exact this (by omega) hjq h2 hq hv h5
      · omega
    · split at h4
      · rename_i hp2; subst hp2
        cases h4
        exact h (p - 1) q u y (by omega) (by omega) h2 hq hu h5
      · exact h p q x y hp h1 h2 hq h4 h5
end
end Go.Proofs.Ytahhkeljejfgfaa
/- Keys sorted: the small steps, and by insertion. -/
namespace Go.Proofs.Ytahhkeljejfgfaa
open Go Go.Vc Go.RowKit Go.Proofs Go.Proofs.Try
set_option maxRecDepth 100000

def KG (L : List (List Int)) : Prop := ∀ ks ∈ L, KeyL ks
theorem KG.perm {L M : List (List Int)} (h : KG L) (hp : M.Perm L) : KG M := fun ks hk => h ks (hp.mem_iff.1 hk)
theorem KG.at {L : List (List Int)} (h : KG L) {i : Nat} {ks : List Int} (hi : L[i]? = some ks) : KeyL ks := h ks (List.mem_of_getElem? hi)
theorem stays_subK {P : Program} {w : World} {t : TypeId} {cx cy : Bool} {k : IntKind} {a b : Int} : Stays P (binS .sub t cx cy (.int k a) (.int k b)) (.int k (k.wrap (a - b))) w := fun w' _ => by simp [binS, eqGuard, binOp, Op.intArith]
theorem stays_addK {P : Program} {w : World} {t : TypeId} {cx cy : Bool} {k : IntKind} {a b : Int} : Stays P (binS .add t cx cy (.int k a) (.int k b)) (.int k (k.wrap (a + b))) w := fun w' _ => by simp [binS, eqGuard, binOp, Op.intArith]
/-- a key is read out of a row -/
theorem get_kr {w : World} {g : Nat} {v : Value} {L : List (List Int)} {i : Nat} {y : Int} {ks : List Int} {K : Value → Prop} (hy : y = (i : Int)) (h : KR w g v L) (hi : L[i]? = some ks) :
    RunQ prog (Instr.indexAt T.t_sl_tuples_key v (.int .i64 y)) w (fun p => RunQ prog (Instr.loadAt T.t_tuples_key p) w K) = K (keyV ks) := by
  have hl : ks.length = 6 := by have := h.2 ks (List.mem_of_getElem? hi); simpa using this
  rw [idx_rm hy T.t_sl_tuples_key.u T.t_tuples_key.i h (List.getElem?_eq_some_iff.1 hi).1, load_key hl (h.range hi)]
/-- a key is written into a row -/
theorem put_kr {w : World} {g : Nat} {v : Value} {L : List (List Int)} {i : Nat} {y : Int} {ks : List Int} {K : Unit → World → Prop} (hy : y = (i : Int)) (h : KR w g v L) (hi : i < L.length) (hk : ks.length = 6)
    (hK : ∀ w', Chg (fun r => leadsTo v r) w w' → KR w' g v (L.set i ks) → K () w') : RunQ prog (Instr.indexAt T.t_sl_tuples_key v (.int .i64 y)) w fun p => RunC prog (Instr.storeAt T.t_tuples_key p (keyV ks)) w K := by
  rw [idx_rm hy T.t_sl_tuples_key.u T.t_tuples_key.i h hi]
  exact store_rm (f := ints .i8) T.t_tuples_key.i h (by simp [hk]) ints_one hi fun w' hc _ h' => hK w' hc h'
abbrev cmpF : Value := .func (.func F.P_tuples_Tuples_Lines_c1) #[] #[]
/-- two keys are compared -/
theorem less_kr {w : World} {a b : List Int} {K : Value → World → Prop} (ha : KeyL a) (hb : KeyL b) (hK : ∀ r w', Ext w w' → (r < 0 ↔ numK a < numK b) → K (.int .i64 r) w') : CalV prog false cmpF [keyV a, keyV b] w K := by
  show Cal prog F.P_tuples_Tuples_Lines_c1 [keyV a, keyV b] w K
  refine (kLess ha hb).mono ?_
  rintro _ w' _ ⟨hx, r, rfl, hr⟩
  exact hK r w' hx hr

set_option maxHeartbeats 800000 in
theorem kInsSort {w : World} {g a b : Nat} {v : Value} {L : List (List Int)} (h : KR w g v L) (hG : KG L) (hab : a ≤ b) (hb : b ≤ L.length) (hL : L.length ≤ 1000000) :
    Cal prog F.slices_insertionSortCmpFunc_pennyweight_tuples_key [v, .int .i64 (a : Int), .int .i64 (b : Int), cmpF] w fun _ w' => Chg (fun r => leadsTo v r) w w' ∧ ∃ M, SwapR a b L M ∧ UpR numK M a b ∧ KR w' g v M := by
  apply slices_insertionSortCmpFunc_pennyweight_tuples_key.enter
  unfold slices_insertionSortCmpFunc_pennyweight_tuples_key.body
  rw [binS_add, wrap_i64 (by omega) (by omega)]
  refine ⟨fun t w1 => ∃ (i : Nat) (M : List (List Int)), t = .int .i64 (i : Int) ∧ a + 1 ≤ i ∧ (i ≤ b ∨ i = a + 1) ∧ SwapR a b L M ∧ UpR numK M a i ∧ Chg (fun r => leadsTo v r) w w1 ∧ KR w1 g v M, fun t _ => b + 1 - (ival t).toNat,
    ⟨a + 1, L, by congr 1, by omega, .inr rfl, .refl, fun p q x y h1 h2 h3 => by omega, Chg.refl _ _, h⟩, ?_⟩
  rintro _ w1 ⟨i, M, rfl, hi1, hil, hsw, hup, hc1, hm⟩
  have hml := hsw.len
  simp only [binS_lss, split_dec]
  refine ⟨fun hlt => ?_, fun hge => ?_⟩
  · have hlt : i < b := by omega
    refine ⟨fun t w2 => ∃ (j : Nat) (M : List (List Int)), t = .int .i64 (j : Int) ∧ a ≤ j ∧ j ≤ i ∧ SwapR a b L M ∧ BarR numK M a i j ∧ Chg (fun r => leadsTo v r) w w2 ∧ KR w2 g v M, fun t _ => (ival t).toNat, ⟨i, M, rfl, by omega, Nat.le_refl _, hsw, upR_bar hup, hc1, hm⟩, ?_⟩
    rintro _ w2 ⟨j, M, rfl, haj, hji, hsw, hbar, hc2, hm⟩
    have hml := hsw.len
    have hMG := hG.perm hsw.perm
    refine join1 (fun c w3 => Ext w2 w3 ∧ ∃ c', c = .bool c' ∧ (c' = true → a < j ∧ ∃ x y, M[j - 1]? = some x ∧ M[j]? = some y ∧ numK y < numK x) ∧ (c' = false → j = a ∨ a < j ∧ ∃ x y, M[j - 1]? = some x ∧ M[j]? = some y ∧ numK x ≤ numK y)) ?_ ?_
    · rintro _ w3 ⟨hx3, c, rfl, hct, hcf⟩
      rw [split_bool]
      refine ⟨fun h => ?_, fun h => ?_⟩
      · obtain ⟨h0, x, y, hx, hy, hxy⟩ := hct h
        intro w4 hx4 _ _
        have hm4 := (hm.ext hx3).ext hx4
        have e : IntKind.i64.wrap ((j : Int) - 1) = ((j - 1 : Nat) : Int) := by rw [wrap_i64 (by omega) (by omega)]; omega
        simp only [binS_sub, e]
        rw [get_kr rfl hm4 hx, get_kr rfl hm4 hy]
        refine put_kr rfl hm4 (by omega) (hMG.at hx).1 fun w5 hc5 hm5 => ⟨.inr ⟨by have := stays_subK (P := prog) (w := w5) (t := T.t_int) (cx := false) (cy := true) (k := .i64) (a := (j : Int)) (b := 1); rwa [e] at this, trivial⟩, ?_⟩
        refine put_kr rfl hm5 (by simp; omega) (hMG.at hy).1 fun w6 hc6 hm6 => ?_
        refine ⟨⟨j - 1, _, rfl, by omega, by omega, hsw.step (by omega) (by omega) (by omega) (by omega) hy hx, barR_swap hbar h0 hji hx hy hxy, ((hc2.trans ((hx3.trans hx4).chg _)).trans hc5).trans hc6, hm6⟩, ?_⟩
        simp only [ival]; omega
      · simp only [binS_add]
        rw [wrap_i64 (by omega) (by omega)]
        refine ⟨⟨i + 1, M, rfl, by omega, .inl (by omega), hsw, ?_, hc2.trans (hx3.chg _), hm.ext hx3⟩, ?_⟩
        · rcases hcf h with rfl | ⟨h0, x, y, hx, hy, hxy⟩
          · exact barR_low hbar
          · exact barR_stop hbar h0 hx hy hxy
        · simp only [ival]; omega
    · intro J hJ w7 hx7 _ _
      have hm7 := hm.ext hx7
      simp only [binS_gtr, split_dec]
      refine ⟨fun h0 => ?_, fun h0 => hJ _ _ ⟨hx7, false, rfl, (fun h => by cases h), fun _ => .inl (by omega)⟩⟩
      have e : IntKind.i64.wrap ((j : Int) - 1) = ((j - 1 : Nat) : Int) := by rw [wrap_i64 (by omega) (by omega)]; omega
      obtain ⟨y, hy⟩ : ∃ y, M[j]? = some y := ⟨_, List.getElem?_eq_getElem (by omega)⟩
      obtain ⟨x, hx⟩ : ∃ x, M[j - 1]? = some x := ⟨_, List.getElem?_eq_getElem (by omega)⟩
      rw [get_kr rfl hm7 hy]
      simp only [binS_sub, e]
      rw [get_kr rfl hm7 hx]
      refine less_kr (hMG.at hy) (hMG.at hx) fun r w8 hx8 hr => ?_
      rw [binS_lss]
      refine hJ _ _ ⟨hx7.trans hx8, _, rfl, fun h => ⟨by omega, x, y, hx, hy, hr.1 (by simpa using h)⟩, fun h => .inr ⟨by omega, x, y, hx, hy, ?_⟩⟩
      have h1 : ¬ r < 0 := by simpa using h
      have := mt hr.2 h1
      omega
  · exact ⟨hc1, M, hsw, fun p q x y h1 h2 h3 h4 h5 => hup p q x y h1 h2 (by omega) h4 h5, hm⟩
end Go.Proofs.Ytahhkeljejfgfaa
/- Keys sorted: turned round; the pivot chosen. -/
namespace Go.Proofs.Ytahhkeljejfgfaa
open Go Go.Vc Go.RowKit Go.Proofs Go.Proofs.Try
set_option maxRecDepth 100000

theorem join3u {J : Value → Value → Value → World → Prop} {B : (Value → Value → Value → World → Prop) → Prop} (G : Value → Value → Value → World → Prop) (h1 : ∀ t u v w, G t u v w → J t u v w)
    (h2 : ∀ J' : Value → Value → Value → World → Prop, (∀ t u v w, G t u v w → J' t u v w) → B J') : JoinC J B := h2 J h1
/-- what a step of the sort leaves -/
def SortK (w : World) (g : Nat) (v : Value) (L : List (List Int)) (a b : Nat) (P : List (List Int) → Prop) (w' : World) : Prop := Chg (fun r => leadsTo v r) w w' ∧ ∃ M, SwapR a b L M ∧ KR w' g v M ∧ P M

theorem kReverse {w : World} {g a b : Nat} {v : Value} {L : List (List Int)} (h : KR w g v L) (hG : KG L) (hab : a < b) (hb : b ≤ L.length) (hL : L.length ≤ 1000000) :
    Cal prog F.slices_reverseRangeCmpFunc_pennyweight_tuples_key [v, .int .i64 (a : Int), .int .i64 (b : Int), cmpF] w fun _ w' => SortK w g v L a b (fun _ => True) w' := by
  apply slices_reverseRangeCmpFunc_pennyweight_tuples_key.enter
  unfold slices_reverseRangeCmpFunc_pennyweight_tuples_key.body
  rw [binS_sub, wrap_i64 (by omega) (by omega)]
  refine ⟨fun t u w1 => ∃ (i : Nat) (j : Int) (M : List (List Int)), t = .int .i64 (i : Int) ∧ u = .int .i64 j ∧ a ≤ i ∧ j < b ∧ -1 ≤ j ∧ i ≤ b ∧ SwapR a b L M ∧ Chg (fun r => leadsTo v r) w w1 ∧ KR w1 g v M, fun t _ _ => b + 1 - (ival t).toNat,
    ⟨a, (b : Int) - 1, L, rfl, rfl, by omega, by omega, by omega, by omega, .refl, Chg.refl _ _, h⟩, ?_⟩
  rintro _ _ w1 ⟨i, j, M, rfl, rfl, hi1, hj1, hj2, hib, hsw, hc1, hm⟩
  have hml := hsw.len
  have hMG := hG.perm hsw.perm
  simp only [binS_lss, split_dec]
  refine ⟨fun hlt => ?_, fun hge => ⟨hc1, M, hsw, hm, trivial⟩⟩
  obtain ⟨jn, rfl⟩ : ∃ n : Nat, j = n := ⟨j.toNat, by omega⟩
  obtain ⟨y, hy⟩ : ∃ y, M[jn]? = some y := ⟨_, List.getElem?_eq_getElem (by omega)⟩
  obtain ⟨x, hx⟩ : ∃ x, M[i]? = some x := ⟨_, List.getElem?_eq_getElem (by omega)⟩
  intro w2 hx2 _ _
  have hm2 := hm.ext hx2
  rw [get_kr rfl hm2 hy, get_kr rfl hm2 hx]
  refine put_kr rfl hm2 (by omega) (hMG.at hy).1 fun w3 hc3 hm3 => ?_
  refine put_kr rfl hm3 (by simp; omega) (hMG.at hx).1 fun w4 hc4 hm4 => ?_
  simp only [binS_add, binS_sub]
  rw [wrap_i64 (by omega) (by omega), wrap_i64 (by omega) (by omega)]
  refine ⟨⟨i + 1, (jn : Int) - 1, _, by congr 1, rfl, by omega, by omega, by omega, by omega, hsw.step (by omega) (by omega) (by omega) (by omega) hx hy, (hc1.trans (hx2.chg _)).trans (hc3.trans hc4), hm4⟩, ?_⟩
  simp only [ival]; omega

theorem kOrder2 {w : World} {g gs a b : Nat} {v : Value} {L : List (List Int)} {s : Int} (h : KR w g v L) (hG : KG L) (ha : a < L.length) (hb : b < L.length) (hs : Blk w gs T.t_int [.int .i64 s]) (hgv : ∀ r, leadsTo v r → r ≠ gs) :
    Cal prog F.slices_order2CmpFunc_pennyweight_tuples_key [v, .int .i64 (a : Int), .int .i64 (b : Int), .pointer (some ⟨gs, 0, none⟩), cmpF] w fun r w' => Chg (fun r => r = gs) w w' ∧ (∃ s', Blk w' gs T.t_int [.int .i64 s']) ∧ KR w' g v L ∧
      (r = .tuple #[.int .i64 (a : Int), .int .i64 (b : Int)] ∨ r = .tuple #[.int .i64 (b : Int), .int .i64 (a : Int)]) := by
  apply slices_order2CmpFunc_pennyweight_tuples_key.enter
  unfold slices_order2CmpFunc_pennyweight_tuples_key.body
  obtain ⟨y, hy⟩ : ∃ y, L[b]? = some y := ⟨_, List.getElem?_eq_getElem hb⟩
  obtain ⟨x, hx⟩ : ∃ x, L[a]? = some x := ⟨_, List.getElem?_eq_getElem ha⟩
  intro w1 hx1 _ _
  have h1 := h.ext hx1
  rw [get_kr rfl h1 hy, get_kr rfl h1 hx]
  refine less_kr (hG.at hy) (hG.at hx) fun r w2 hx2 hr => ?_
  simp only [binS_lss, split_dec]
  have hx02 := hx1.trans hx2
  refine ⟨fun _ => ?_, fun _ => ⟨hx02.chg _, ⟨s, hs.ext hx02⟩, h.ext hx02, by simp⟩⟩
  rw [nil_check, load_cell (by kernel_rfl) ((hs.ext hx02).cell (o := 0) rfl), binS_add, nil_check]
  refine store_cell T.t_int.i rfl rfl (hs.ext hx02) (by simp) fun w3 hc3 hs3 hb3 => ?_
  exact ⟨(hx02.chg _).trans hc3, ⟨_, hb3⟩, (h.ext hx02).chg hc3 fun r hr he => hgv r hr he, by simp⟩
/-- the middle of three places is one of them -/
theorem kMedian {w : World} {g gs a b c : Nat} {v : Value} {L : List (List Int)} {s : Int} (h : KR w g v L) (hG : KG L) (ha : a < L.length) (hb : b < L.length) (hc : c < L.length) (hs : Blk w gs T.t_int [.int .i64 s]) (hgv : ∀ r, leadsTo v r → r ≠ gs) :
    Cal prog F.slices_medianCmpFunc_pennyweight_tuples_key [v, .int .i64 (a : Int), .int .i64 (b : Int), .int .i64 (c : Int), .pointer (some ⟨gs, 0, none⟩), cmpF] w fun r w' => Chg (fun r => r = gs) w w' ∧ (∃ s', Blk w' gs T.t_int [.int .i64 s']) ∧ KR w' g v L ∧
      ∃ m : Nat, r = .int .i64 (m : Int) ∧ (m = a ∨ m = b ∨ m = c) := by
  apply slices_medianCmpFunc_pennyweight_tuples_key.enter
  unfold slices_medianCmpFunc_pennyweight_tuples_key.body
  refine (kOrder2 h hG ha hb hs hgv).mono ?_
  rintro r w1 _ ⟨hc1, ⟨s1, hs1⟩, h1, hr⟩
  obtain ⟨p, q, rfl, hp, hq⟩ : ∃ p q : Nat, r = .tuple #[.int .i64 (p : Int), .int .i64 (q : Int)] ∧ (p = a ∨ p = b) ∧ (q = a ∨ q = b) := by
    rcases hr with rfl | rfl
    · exact ⟨a, b, rfl, .inl rfl, .inr rfl⟩
    · exact ⟨b, a, rfl, .inr rfl, .inl rfl⟩
  rw [extract_tuple (v := .int .i64 (p : Int)) rfl, extract_tuple (v := .int .i64 (q : Int)) rfl]
  refine (kOrder2 h1 hG (a := q) (b := c) (by omega) hc hs1 hgv).mono ?_
  rintro r w2 _ ⟨hc2, ⟨s2, hs2⟩, h2, hr⟩
  obtain ⟨p2, q2, rfl, hp2, hq2⟩ : ∃ p2 q2 : Nat, r = .tuple #[.int .i64 (p2 : Int), .int .i64 (q2 : Int)] ∧ (p2 = q ∨ p2 = c) ∧ (q2 = q ∨ q2 = c) := by
    rcases hr with rfl | rfl
    · exact ⟨q, c, rfl, .inl rfl, .inr rfl⟩
    · exact ⟨c, q, rfl, .inr rfl, .inl rfl⟩
  rw [extract_tuple (v := .int .i64 (p2 : Int)) rfl, extract_tuple (v := .int .i64 (q2 : Int)) rfl]
  refine (kOrder2 h2 hG (a := p) (b := p2) (by omega) (by omega) hs2 hgv).mono ?_
  rintro r w3 _ ⟨hc3, hs3, h3, hr⟩
  rcases hr with rfl | rfl
  · rw [extract_tuple (v := .int .i64 (p : Int)) rfl, extract_tuple (v := .int .i64 (p2 : Int)) rfl]
    exact ⟨(hc1.trans hc2).trans hc3, hs3, h3, p2, rfl, by omega⟩
  · rw [extract_tuple (v := .int .i64 (p2 : Int)) rfl, extract_tuple (v := .int .i64 (p : Int)) rfl]
    exact ⟨(hc1.trans hc2).trans hc3, hs3, h3, p, rfl, by omega⟩
theorem kMedianAdj {w : World} {g gs a : Nat} {v : Value} {L : List (List Int)} {s : Int} (h : KR w g v L) (hG : KG L) (ha : 0 < a) (hb : a + 1 < L.length) (hL : L.length ≤ 1000000) (hs : Blk w gs T.t_int [.int .i64 s]) (hgv : ∀ r, leadsTo v r → r ≠ gs) :
    Cal prog F.slices_medianAdjacentCmpFunc_pennyweight_tuples_key [v, .int .i64 (a : Int), .pointer (some ⟨gs, 0, none⟩), cmpF] w fun r w' => Chg (fun r => r = gs) w w' ∧ (∃ s', Blk w' gs T.t_int [.int .i64 s']) ∧ KR w' g v L ∧
      ∃ m : Nat, r = .int .i64 (m : Int) ∧ a - 1 ≤ m ∧ m ≤ a + 1 := by
  apply slices_medianAdjacentCmpFunc_pennyweight_tuples_key.enter
  unfold slices_medianAdjacentCmpFunc_pennyweight_tuples_key.body
  simp only [binS_add, binS_sub]
  rw [wrap_i64 (by omega) (by omega), wrap_i64 (by omega) (by omega), show (a : Int) - 1 = ((a - 1 : Nat) : Int) by omega, show (a : Int) + 1 = ((a + 1 : Nat) : Int) by omega]
  refine (kMedian h hG (a := a - 1) (b := a) (c := a + 1) (by omega) (by omega) hb hs hgv).mono ?_
  rintro _ w1 _ ⟨hc1, hs1, h1, m, rfl, hm⟩
  exact ⟨hc1, hs1, h1, m, rfl, by omega, by omega⟩
set_option maxHeartbeats 800000 in
theorem kChoose {w : World} {g a b : Nat} {v : Value} {L : List (List Int)} (h : KR w g v L) (hG : KG L) (hab : a + 12 < b) (hb : b ≤ L.length) (hL : L.length ≤ 1000000) :
    Cal prog F.slices_choosePivotCmpFunc_pennyweight_tuples_key [v, .int .i64 (a : Int), .int .i64 (b : Int), cmpF] w fun r w' => Ext w w' ∧ KR w' g v L ∧ ∃ (j : Nat) (hint : Int), r = .tuple #[.int .i64 (j : Int), .int .i64 hint] ∧ a ≤ j ∧ j < b := by
  apply slices_choosePivotCmpFunc_pennyweight_tuples_key.enter
  unfold slices_choosePivotCmpFunc_pennyweight_tuples_key.body
  rw [binS_sub, wrap_i64 (by omega) (by omega)]
  refine alloc_c T.t_int.i fun gs w1 hgs hx1 hbs => ?_
  have hbs : Blk w1 gs T.t_int [.int .i64 0] := hbs
  obtain ⟨n, hn⟩ : ∃ n : Nat, b - a = n := ⟨_, rfl⟩
  have e0 : ((b : Int) - a).tdiv 4 = ((n / 4 : Nat) : Int) := by rw [Int.tdiv_eq_ediv_of_nonneg (by omega)]; omega
  have hgv : ∀ r, leadsTo v r → r ≠ gs := fun r hr => by have := h.leads hr; omega
  rw [binS_quo (by decide), e0]
  simp only [binS_mul, binS_add]
  rw [binS_quo (by decide), e0]
  simp only [binS_mul, binS_add]
  rw [binS_quo (by decide), e0]
  simp only [binS_mul, binS_add]
  have q4 : n / 4 ≤ 250000 := by omega
  have wr : ∀ c : Int, c = 1 ∨ c = 2 ∨ c = 3 → IntKind.i64.wrap ((a : Int) + IntKind.i64.wrap (IntKind.i64.wrap ((n / 4 : Nat) : Int) * c)) = (a : Int) + ((n / 4 : Nat) : Int) * c := fun c hc => by
    have hm : 0 ≤ ((n / 4 : Nat) : Int) * c ∧ ((n / 4 : Nat) : Int) * c ≤ 750000 := by rcases hc with rfl | rfl | rfl <;> omega
    rw [wrap_i64 (x := ((n / 4 : Nat) : Int)) (by omega) (by omega), wrap_i64 (x := ((n / 4 : Nat) : Int) * c) (by omega) (by omega), wrap_i64 (by omega) (by omega)]
  rw [wr 1 (by omega), wr 2 (by omega), wr 3 (by omega), show (a : Int) + ((n / 4 : Nat) : Int) * 1 = ((a + n / 4 : Nat) : Int) by omega, show (a : Int) + ((n / 4 : Nat) : Int) * 2 = ((a + n / 4 * 2 : Nat) : Int) by omega, show (a : Int) + ((n / 4 : Nat) : Int) * 3 = ((a + n / 4 * 3 : Nat) : Int) by omega]
  refine join1 (fun v' w2 => Chg (fun r => r = gs) w1 w2 ∧ (∃ s', Blk w2 gs T.t_int [.int .i64 s']) ∧ KR w2 g v L ∧ ∃ j : Nat, v' = .int .i64 (j : Int) ∧ a ≤ j ∧ j < b) ?_ ?_
  · rintro _ w2 ⟨hc2, ⟨s, hs⟩, h2, j, rfl, hj1, hj2⟩
    have hx02 : Ext w w2 := hx1.then hc2 (fun r hr he => by have he : r = gs := he; omega)
    rw [load_cell (by kernel_rfl) (hs.cell (o := 0) rfl)]
    simp only [binS_eql, split_dec]
    exact ⟨fun _ => ⟨hx02, h2, j, _, rfl, hj1, hj2⟩, fun _ => ⟨fun _ => ⟨hx02, h2, j, _, rfl, hj1, hj2⟩, fun _ => ⟨hx02, h2, j, _, rfl, hj1, hj2⟩⟩⟩
  intro J hJ
  have h1 := h.ext hx1
  simp only [binS_geq, split_dec]
  refine ⟨fun _ => ?_, fun h => by omega⟩
  refine join3u (fun i j k w3 => Chg (fun r => r = gs) w1 w3 ∧ (∃ s', Blk w3 gs T.t_int [.int .i64 s']) ∧ KR w3 g v L ∧ ∃ i' j' k' : Nat, i = .int .i64 (i' : Int) ∧ j = .int .i64 (j' : Int) ∧ k = .int .i64 (k' : Int) ∧ (a ≤ i' ∧ i' < b) ∧ (a ≤ j' ∧ j' < b) ∧ (a ≤ k' ∧ k' < b)) ?_ ?_
  · rintro _ _ _ w3 ⟨hc3, ⟨s, hs⟩, h3, i, j, k, rfl, rfl, rfl, hi, hj, hk⟩
    refine (kMedian h3 hG (a := i) (b := j) (c := k) (by omega) (by omega) (by omega) hs hgv).mono ?_
    rintro _ w4 _ ⟨hc4, hs4, h4, m, rfl, hm⟩
    exact hJ _ _ ⟨hc3.trans hc4, hs4, h4, m, rfl, by omega, by omega⟩
  · intro J1 hJ1
    refine ⟨fun h50 => ?_, fun h50 => hJ1 _ _ _ _ ⟨Chg.refl _ _, ⟨0, hbs⟩, h1, a + n / 4, a + n / 4 * 2, a + n / 4 * 3, rfl, rfl, rfl, by omega, by omega, by omega⟩⟩
    refine (kMedianAdj h1 hG (a := a + n / 4) (by omega) (by omega) hL hbs hgv).mono ?_
    rintro _ w2 _ ⟨hc2, ⟨s2, hs2⟩, h2, i', rfl, hi1, hi2⟩
    refine (kMedianAdj h2 hG (a := a + n / 4 * 2) (by omega) (by omega) hL hs2 hgv).mono ?_
    rintro _ w3 _ ⟨hc3, ⟨s3, hs3⟩, h3, j', rfl, hj1, hj2⟩
    refine (kMedianAdj h3 hG (a := a + n / 4 * 3) (by omega) (by omega) hL hs3 hgv).mono ?_
    rintro _ w4 _ ⟨hc4, hs4, h4, k', rfl, hk1, hk2⟩
    exact hJ1 _ _ _ _ ⟨(hc2.trans hc3).trans hc4, hs4, h4, i', j', k', rfl, rfl, rfl, by omega, by omega, by omega⟩
end Go.Proofs.Ytahhkeljejfgfaa
/- Keys sorted: bits.Len of small numbers, the random numbers, the patterns broken. -/
namespace Go.Proofs.Ytahhkeljejfgfaa
open Go Go.Vc Go.RowKit Go.Proofs Go.Proofs.Try
set_option maxRecDepth 100000

theorem index_strX {P : Program} {w : World} {t : TypeId} {k : IntKind} {s : ByteArray} {i : Nat} {K : Value → Prop} (ht : P.underlying t = some .string) (hi : i < s.size) :
    RunQ P (Instr.index t (.string s) (.int k (i : Int))) w K = K (.int .u8 (s[i].toNat : Int)) := RunQ.of fun w' _ => by
  simp [Instr.index, asIntOf, run_underlying ht, hi]
/-- how many bits a small number has -/
def bitsN (n : Nat) : Nat := if n = 0 then 0 else Nat.log2 n + 1
theorem bitsN_facts {n : Nat} (h : n < 256) : n < 2 ^ bitsN n ∧ bitsN n ≤ 8 ∧ (1 ≤ n → 2 ^ bitsN n ≤ 2 * n) := by
  unfold bitsN
  by_cases h0 : n = 0
  · subst h0; simp
  · rw [if_neg h0]
    have h1 := Nat.log2_self_le h0
    have h2 := Nat.lt_log2_self (n := n)
    have h3 : Nat.log2 n < 8 := (Nat.log2_lt h0).2 (by omega)
    refine ⟨h2, by omega, fun _ => ?_⟩
    rw [Nat.pow_succ]; omega
set_option maxHeartbeats 1000000 in
theorem bLenX {n : Nat} {w : World} (hn : n < 256) : Cal prog F.math_bits_Len [.int .u64 (n : Int)] w fun v w' => v = .int .i64 (bitsN n : Int) ∧ Ext w w' := by
  apply math_bits_Len.enter
  unfold math_bits_Len.body
  refine Cal.mono (K := fun v w' => v = .int .i64 (bitsN n : Int) ∧ Ext w w') ?_ (fun _ _ _ h => h)
  apply math_bits_Len64.enter
  unfold math_bits_Len64.body
  simp only [JoinC, binS_geq, split_dec]
  refine ⟨fun h => by omega, fun _ => ⟨fun h => by omega, fun _ => ⟨fun h => by omega, fun _ => ?_⟩⟩⟩
  rw [conv_int T.t_uint64.u T.t_uint8.u, wrap_u8 (by omega) (by omega)]
  rw [index_strX T.t_string.u (by exact Nat.lt_of_lt_of_le hn (by decide))]
  generalize hb : UInt8.toNat _ = b
  have hall : ∀ n : Fin 256, (⟨#[0, 1, 2, 2, 3, 3, 3, 3, 4, 4, 4, 4, 4, 4, 4, 4, 5, 5, 5, 5, 5, 5, 5, 5, 5, 5, 5, 5, 5, 5, 5, 5, 6, 6, 6, 6, 6, 6, 6, 6, 6, 6, 6, 6, 6, 6, 6, 6, 6, 6, 6, 6, 6, 6, 6, 6, 6, 6, 6, 6, 6, 6, 6, 6, 7, 7, 7, 7, 7, 7, 7, 7, 7, 7, 7, 7, 7, 7, 7, 7, 7, 7, 7, 7, 7, 7, 7, 7, 7, 7, 7, 7, 7, 7, 7, 7, 7, 7, 7, 7, 7, 7, 7, 7, 7, 7, 7, 7, 7, 7, 7, 7, 7, 7, 7, 7, 7, 7, 7, 7, 7, 7, 7, 7, 7, 7, 7, 7, 8, 8, 8, 8, 8, 8, 8, 8, 8, 8, 8, 8, 8, 8, 8, 8, 8, 8, 8, 8, 8, 8, 8, 8, 8, 8, 8, 8, 8, 8, 8, 8, 8, 8, 8, 8, 8, 8, 8, 8, 8, 8, 8, 8, 8, 8, 8, 8, 8, 8, 8, 8, 8, 8, 8, 8, 8, 8, 8, 8, 8, 8, 8, 8, 8, 8, 8, 8, 8, 8, 8, 8, 8, 8, 8, 8, 8, 8, 8, 8, 8, 8, 8, 8, 8, 8, 8, 8, 8, 8, 8, 8, 8, 8, 8, 8, 8, 8, 8, 8, 8, 8, 8, 8, 8, 8, 8, 8, 8, 8, 8, 8, 8, 8, 8, 8, 8, 8, 8, 8, 8, 8, 8, 8, 8, 8, 8, 8]⟩ : ByteArray).data.toList[n.val]? = some (UInt8.ofNat (bitsN n.val)) := by decide
  have h8 := (bitsN_facts hn).2.1
  have hbn : b = bitsN n := by
    have h1 := hall ⟨n, hn⟩
    have h2 := (List.getElem?_eq_some_iff.1 h1).2
    rw [← hb]
    have h3 : (UInt8.ofNat (bitsN n)).toNat = bitsN n := by rw [UInt8.toNat_ofNat']; omega
    rw [← h3, ← h2]
    rfl
  rw [hbn, conv_int T.t_uint8.u T.t_int.u, wrap_i64 (by omega) (by omega)]
  simp only [binS_add]
  rw [wrap_i64 (by omega) (by omega)]
  exact ⟨by simp, Ext.refl _⟩
theorem kNext2 {n : Nat} {w : World} (hn : n < 256) : Cal prog F.slices_nextPowerOfTwo [.int .i64 (n : Int)] w fun v w' => v = .int .u64 ((2 ^ bitsN n : Nat) : Int) ∧ Ext w w' := by
  have h8 := (bitsN_facts hn).2.1
  apply slices_nextPowerOfTwo.enter
  unfold slices_nextPowerOfTwo.body
  rw [conv_int T.t_int.u T.t_uint.u, wrap_u64 (by omega) (by omega)]
  refine (bLenX hn).mono ?_
  rintro _ w1 _ ⟨rfl, hx⟩
  rw [u64_one_shl (by omega)]
  exact ⟨rfl, hx⟩

theorem u64_xor {P : Program} {w : World} {t : TypeId} {cx cy : Bool} {a b : Nat} {K : Value → Prop} (ha : a < 2 ^ 64) (hb : b < 2 ^ 64) : RunQ P (binS .xor t cx cy (.int .u64 (a : Int)) (.int .u64 (b : Int))) w K = K (.int .u64 ((a ^^^ b : Nat) : Int)) := RunQ.of fun w' _ => by
  have e : (BitVec.ofInt 64 (a : Int) ^^^ BitVec.ofInt 64 (b : Int)).toNat = a ^^^ b := by
    rw [bv_nat, bv_nat, BitVec.toNat_xor, BitVec.toNat_ofNat, BitVec.toNat_ofNat, Nat.mod_eq_of_lt ha, Nat.mod_eq_of_lt hb]
  have hw : IntKind.u64.wrap ((a ^^^ b : Nat) : Int) = ((a ^^^ b : Nat) : Int) := by rw [← e]; exact bv_wrap _
  have e' : (BitVec.ofInt IntKind.u64.bits (a : Int) ^^^ BitVec.ofInt IntKind.u64.bits (b : Int)).toNat = a ^^^ b := e
  simp only [binS, eqGuard, binOp, Op.intBits, e', hw]
  rfl
theorem u64_shlX {P : Program} {w : World} {t : TypeId} {cx cy : Bool} {a : Nat} {n : Nat} {K : Value → Prop} (hn : n < 64) (hK : ∀ b : Nat, b < 2 ^ 64 → K (.int .u64 (b : Int))) : RunQ P (binS .shl t cx cy (.int .u64 (a : Int)) (.int .u64 (n : Int))) w K := by
  rw [binS_shl (by omega)]
  obtain ⟨b, hb, he⟩ : ∃ b : Nat, b < 2 ^ 64 ∧ IntKind.u64.wrap ((a : Int) * 2 ^ min ((n : Int).toNat) IntKind.u64.bits) = (b : Int) := by
    generalize (a : Int) * 2 ^ min ((n : Int).toNat) IntKind.u64.bits = z
    have h1 : IntKind.u64.wrap z = z % 18446744073709551616 := rfl
    have h2 := Int.emod_nonneg z (show (18446744073709551616 : Int) ≠ 0 by omega)
    have h3 := Int.emod_lt_of_pos z (show (0 : Int) < 18446744073709551616 by omega)
    exact ⟨(z % 18446744073709551616).toNat, by omega, by rw [h1]; omega⟩
  rw [he]
  exact hK b hb
theorem xor_lt {a b : Nat} (ha : a < 2 ^ 64) (hb : b < 2 ^ 64) : a ^^^ b < 2 ^ 64 := Nat.xor_lt_two_pow ha hb
theorem kRandom {w : World} {g x : Nat} (hb : Blk w g T.t_slices_xorshift [.int .u64 (x : Int)]) (hx : x < 2 ^ 64) : Cal prog F.P_slices_xorshift_Next [.pointer (some ⟨g, 0, none⟩)] w fun v w' => Chg (fun r => r = g) w w' ∧ ∃ y : Nat, y < 2 ^ 64 ∧ v = .int .u64 (y : Int) ∧ Blk w' g T.t_slices_xorshift [.int .u64 (y : Int)] := by
  apply P_slices_xorshift_Next.enter
  unfold P_slices_xorshift_Next.body
  intro w1 hx1 _ _
  have hb1 := hb.ext hx1
  rw [nil_check, load_cell (by kernel_rfl) (hb1.cell (o := 0) rfl), nil_check, load_cell (by kernel_rfl) (hb1.cell (o := 0) rfl)]
  refine u64_shlX (n := 13) (by omega) fun s hs => ?_
  rw [u64_xor hx hs, nil_check]
  have hx2 := xor_lt hx hs
  refine store_cell T.t_slices_xorshift.i rfl rfl hb1 (by simp) fun w2 hc2 _ hb2 => ?_
  generalize x ^^^ s = x2 at *
  intro w3 hx3 _ _
  have hb3 : Blk w3 g T.t_slices_xorshift [.int .u64 (x2 : Int)] := Blk.ext hb2 hx3
  rw [nil_check, load_cell (by kernel_rfl) (hb3.cell (o := 0) rfl), nil_check, load_cell (by kernel_rfl) (hb3.cell (o := 0) rfl)]
  rw [show Value.int .u64 7 = Value.int .u64 ((7 : Nat) : Int) from rfl, u64_shr (n := 7) (by omega)]
  have hs2 : x2 / 2 ^ 7 < 2 ^ 64 := Nat.lt_of_le_of_lt (Nat.div_le_self _ _) hx2
  rw [u64_xor hx2 hs2, nil_check]
  have hx4 := xor_lt hx2 hs2
  refine store_cell T.t_slices_xorshift.i rfl rfl hb3 (by simp) fun w4 hc4 _ hb4 => ?_
  generalize x2 ^^^ (x2 / 2 ^ 7) = x4 at *
  intro w5 hx5 _ _
  have hb5 : Blk w5 g T.t_slices_xorshift [.int .u64 (x4 : Int)] := Blk.ext hb4 hx5
  rw [nil_check, load_cell (by kernel_rfl) (hb5.cell (o := 0) rfl), nil_check, load_cell (by kernel_rfl) (hb5.cell (o := 0) rfl)]
  refine u64_shlX (n := 17) (by omega) fun s3 hs3 => ?_
  rw [u64_xor hx4 hs3, nil_check]
  have hx6 := xor_lt hx4 hs3
  refine store_cell T.t_slices_xorshift.i rfl rfl hb5 (by simp) fun w6 hc6 _ hb6 => ?_
  have hb6 : Blk w6 g T.t_slices_xorshift [.int .u64 ((x4 ^^^ s3 : Nat) : Int)] := hb6
  rw [nil_check, load_cell (by kernel_rfl) (hb6.cell (o := 0) rfl)]
  exact ⟨((((hx1.chg _).trans hc2).trans (hx3.chg _)).trans hc4).trans ((hx5.chg _).trans hc6), _, hx6, rfl, hb6⟩

set_option maxHeartbeats 1000000 in
theorem kBreak {w : World} {g a b : Nat} {v : Value} {L : List (List Int)} (h : KR w g v L) (hG : KG L) (hab : a + 12 < b) (hb : b ≤ L.length) (hL : L.length < 256) :
    Cal prog F.slices_breakPatternsCmpFunc_pennyweight_tuples_key [v, .int .i64 (a : Int), .int .i64 (b : Int), cmpF] w fun _ w' => SortK w g v L a b (fun _ => True) w' := by
  apply slices_breakPatternsCmpFunc_pennyweight_tuples_key.enter
  unfold slices_breakPatternsCmpFunc_pennyweight_tuples_key.body
  obtain ⟨n, hn⟩ : ∃ n : Nat, b - a = n := ⟨_, rfl⟩
  rw [binS_sub, wrap_i64 (by omega) (by omega), show (b : Int) - a = (n : Int) by omega]
  simp only [binS_geq, split_dec]
  refine ⟨fun _ => ?_, fun h => by omega⟩
  rw [conv_int T.t_int.u T.t_slices_xorshift.u, wrap_u64 (by omega) (by omega)]
  refine alloc_c T.t_slices_xorshift.i fun gr w1 hgr hx1 hb1 => ?_
  refine store_cell T.t_slices_xorshift.i rfl rfl hb1 (by simp [Value.cells]) fun w2 hc2 hs2 hb2 => ?_
  have hb2 : Blk w2 gr T.t_slices_xorshift [.int .u64 (n : Int)] := hb2
  have hx02 : Ext w w2 := hx1.then hc2 (fun r hr he => by have he : r = gr := he; omega)
  refine (kNext2 (by omega)).mono ?_
  rintro _ w3 _ ⟨rfl, hx3⟩
  obtain ⟨_, hb8, hpow⟩ := bitsN_facts (n := n) (by omega)
  have hpow := hpow (by omega)
  have hpos : 1 ≤ 2 ^ bitsN n := Nat.one_le_two_pow
  have hx03 := hx02.trans hx3
  have e4 : (n : Int).tdiv 4 = ((n / 4 : Nat) : Int) := by rw [Int.tdiv_eq_ediv_of_nonneg (by omega)]; omega
  rw [binS_quo (by decide), e4]
  simp only [binS_mul, binS_add, binS_sub]
  have e5 : IntKind.i64.wrap (IntKind.i64.wrap ((a : Int) + IntKind.i64.wrap (IntKind.i64.wrap ((n / 4 : Nat) : Int) * 2)) - 1) = ((a + n / 4 * 2 - 1 : Nat) : Int) := by
    rw [wrap_i64 (x := ((n / 4 : Nat) : Int)) (by omega) (by omega), wrap_i64 (x := ((n / 4 : Nat) : Int) * 2) (by omega) (by omega), wrap_i64 (x := (a : Int) + ((n / 4 : Nat) : Int) * 2) (by omega) (by omega), wrap_i64 (by omega) (by omega)]
    omega
  rw [e5]
  have lgr : ∀ r, leadsTo v r → r ≠ gr := fun r hr => by have := h.leads hr; omega
  let S : Nat → Prop := fun r => leadsTo v r ∨ w.heap.size ≤ r
  have finS : ∀ {w' : World}, Chg S w w' → Chg (fun r => leadsTo v r) w w' := fun hc => hc.mono fun r hr h => h.elim id (fun h => by omega)
  refine ⟨fun t w4 => ∃ (i : Nat) (M : List (List Int)) (x : Nat), t = .int .i64 (i : Int) ∧ a + n / 4 * 2 - 1 ≤ i ∧ i ≤ a + n / 4 * 2 + 2 ∧ SwapR a b L M ∧ Chg S w w4 ∧ KR w4 g v M ∧ x < 2 ^ 64 ∧ Blk w4 gr T.t_slices_xorshift [.int .u64 (x : Int)], fun t _ => a + n + 10 - (ival t).toNat,
    ⟨a + n / 4 * 2 - 1, L, n, rfl, Nat.le_refl _, by omega, .refl, hx03.chg _, h.ext hx03, by omega, hb2.ext hx3⟩, ?_⟩
  rintro _ w4 ⟨i, M, x, rfl, hi1, hi2, hsw, hc4, hm, hxr, hbr⟩
  have hml := hsw.len
  have hMG := hG.perm hsw.perm
  rw [binS_quo (by decide), e4]
  simp only [binS_mul, binS_add]
  have e6 : IntKind.i64.wrap (IntKind.i64.wrap ((a : Int) + IntKind.i64.wrap (IntKind.i64.wrap ((n / 4 : Nat) : Int) * 2)) + 1) = ((a + n / 4 * 2 + 1 : Nat) : Int) := by
    rw [wrap_i64 (x := ((n / 4 : Nat) : Int)) (by omega) (by omega), wrap_i64 (x := ((n / 4 : Nat) : Int) * 2) (by omega) (by omega), wrap_i64 (x := (a : Int) + ((n / 4 : Nat) : Int) * 2) (by omega) (by omega), wrap_i64 (by omega) (by omega)]
    omega
  rw [e6]
  simp only [binS_leq, split_dec]
  refine ⟨fun hle => ?_, fun hgt => ⟨finS hc4, M, hsw, hm, trivial⟩⟩
  refine (kRandom hbr hxr).mono ?_
  rintro _ w5 _ ⟨hc5, y, hy, rfl, hbr5⟩
  have lgr5 : gr < w4.heap.size := hbr.lt
  have hm5 : KR w5 g v M := hm.chg hc5 fun r hr he => lgr r hr he
  have hc05 : Chg S w w5 := hc4.trans (hc5.mono fun r hr he => .inr (by have he : r = gr := he; omega))
  rw [wrap_u64 (by omega) (by omega), show ((2 ^ bitsN n : Nat) : Int) - 1 = ((2 ^ bitsN n - 1 : Nat) : Int) by omega]
  rw [u64_and hy (by omega)]
  have hand : y &&& (2 ^ bitsN n - 1) ≤ 2 ^ bitsN n - 1 := Nat.and_le_right
  generalize y &&& (2 ^ bitsN n - 1) = z at *
  rw [conv_int T.t_uint.u T.t_int.u, wrap_i64 (x := (z : Int)) (by omega) (by omega)]
  refine join1 (fun t w6 => w5 = w6 ∧ ∃ o : Nat, t = .int .i64 (o : Int) ∧ o < n) ?_ ?_
  · rintro _ _ ⟨rfl, o, rfl, ho⟩
    intro w7 hx7 _ _
    have hm7 := hm5.ext hx7
    have e : IntKind.i64.wrap ((a : Int) + (o : Int)) = ((a + o : Nat) : Int) := by rw [wrap_i64 (by omega) (by omega)]; omega
    obtain ⟨p, hp⟩ : ∃ p, M[a + o]? = some p := ⟨_, List.getElem?_eq_getElem (by omega)⟩
    obtain ⟨q, hq⟩ : ∃ q, M[i]? = some q := ⟨_, List.getElem?_eq_getElem (by omega)⟩
    simp only [binS_add, e]
    rw [get_kr rfl hm7 hp, get_kr rfl hm7 hq]
    refine put_kr rfl hm7 (by omega) (hMG.at hp).1 fun w8 hc8 hm8 => ⟨.inr ⟨by have := stays_addK (P := prog) (w := w8) (t := T.t_int) (cx := false) (cy := false) (k := .i64) (a := (a : Int)) (b := (o : Int)); rwa [e] at this, trivial⟩, ?_⟩
    refine put_kr rfl hm8 (by simp; omega) (hMG.at hq).1 fun w9 hc9 hm9 => ?_
    rw [wrap_i64 (by omega) (by omega)]
    have hc79 : Chg (fun r => leadsTo v r) w7 w9 := hc8.trans hc9
    refine ⟨⟨i + 1, _, y, by congr 1, by omega, by omega, hsw.step (by omega) (by omega) (by omega) (by omega) hq hp, (hc05.trans (hx7.chg _)).trans (hc79.mono fun r hr h => .inl h), hm9, hy, (hbr5.ext hx7).chg hc79 fun h => lgr gr h rfl⟩, ?_⟩
    simp only [ival]; omega
  · intro J hJ
    simp only [binS_geq, split_dec]
    refine ⟨fun hge => ?_, fun hlt => hJ _ _ ⟨rfl, z, rfl, by omega⟩⟩
    rw [binS_sub, wrap_i64 (by omega) (by omega)]
    exact hJ _ _ ⟨rfl, z - n, by congr 1; omega, by omega⟩
end Go.Proofs.Ytahhkeljejfgfaa
/- Keys sorted: a range cut in two. -/
namespace Go.Proofs.Ytahhkeljejfgfaa
open Go Go.Vc Go.RowKit Go.Proofs Go.Proofs.Try
set_option maxRecDepth 100000

theorem scanUpP {w : World} {g a i j : Nat} {v : Value} {M : List (List Int)} {p : List Int} {C : Value → World → Prop} (hm : KR w g v M) (hMG : KG M) (hlen : M.length ≤ 1000000) (ha : M[a]? = some p) (hij : i ≤ j + 1) (hj : j < M.length)
    (hC : ∀ (n : Nat) (w1 : World), Ext w w1 → i ≤ n → n ≤ j + 1 → (∀ (r : Nat) (x : List Int), i ≤ r → r < n → M[r]? = some x → numK x < numK p) → (n ≤ j → ∀ x, M[n]? = some x → numK p ≤ numK x) → C (.int .i64 (n : Int)) w1) :
    Loop1 (.int .i64 (i : Int)) w fun iV w4 k =>
      JoinC (α := Value → World → Prop) (fun (t47 : Value) (w5 : World) => Split t47 (RunQ prog (binS .add T.t_int false true iV (.int .i64 1)) w5 fun t49 => k t49 w5) (C iV w5)) fun J =>
      Drew w4 fun w31 => RunQ prog (binS .leq T.t_int false false iV (.int .i64 (j : Int))) w31 fun t34 =>
      Split t34 (RunQ prog (Instr.indexAt T.t_sl_tuples_key v iV) w31 fun p1 => RunQ prog (Instr.loadAt T.t_tuples_key p1) w31 fun t40 => RunQ prog (Instr.indexAt T.t_sl_tuples_key v (.int .i64 (a : Int))) w31 fun p1 => RunQ prog (Instr.loadAt T.t_tuples_key p1) w31 fun t44 => CalV prog false cmpF [t40, t44] w31 fun t45 w32 => RunQ prog (binS .lss T.t_int false true t45 (.int .i64 0)) w32 fun t46 => J t46 w32) (J (.bool false) w31) := by
  refine ⟨fun t w1 => ∃ n : Nat, t = .int .i64 (n : Int) ∧ Ext w w1 ∧ i ≤ n ∧ n ≤ j + 1 ∧ ∀ (r : Nat) (x : List Int), i ≤ r → r < n → M[r]? = some x → numK x < numK p, fun t _ => j + 2 - (ival t).toNat, ⟨i, rfl, Ext.refl _, Nat.le_refl _, hij, fun r x h1 h2 => by omega⟩, ?_⟩
  rintro _ w1 ⟨n, rfl, hx1, hn1, hn2, hall⟩
  refine join1 (fun t w5 => Ext w1 w5 ∧ ∃ c, t = .bool c ∧ (c = true → n ≤ j ∧ ∃ y, M[n]? = some y ∧ numK y < numK p) ∧ (c = false → ¬ n ≤ j ∨ ∃ y, M[n]? = some y ∧ numK p ≤ numK y)) ?_ ?_
  · rintro _ w5 ⟨hx5, c, rfl, hct, hcf⟩
    rw [split_bool]
    refine ⟨fun h => ?_, fun h => ?_⟩
    · obtain ⟨hle, y, hy, hR⟩ := hct h
      simp only [binS_add]
      rw [wrap_i64 (by omega) (by omega)]
      refine ⟨⟨n + 1, by congr 1, hx1.trans hx5, by omega, by have := hle; omega, fun r x h1 h2 hx => ?_⟩, ?_⟩
      · by_cases hr : r = n
        · subst hr; rw [hy] at hx; cases hx; exact hR
        · exact hall r x h1 (by omega) hx
      · simp only [ival]; omega
    · refine hC n w5 (hx1.trans hx5) hn1 hn2 hall fun hle x hx => ?_
      rcases hcf h with h2 | ⟨y, hy, h2⟩
      · exact absurd hle h2
      · rw [hy] at hx; cases hx; exact h2
  · intro J hJ w6 hx6 _ _
    have hm6 := (hm.ext hx1).ext hx6
    simp only [binS_leq, split_dec]
    refine ⟨fun hle => ?_, fun hgt => hJ _ _ ⟨hx6, false, rfl, (fun h => by cases h), fun _ => .inl (by omega)⟩⟩
    · obtain ⟨y, hy⟩ : ∃ y, M[n]? = some y := ⟨_, List.getElem?_eq_getElem (by omega)⟩
      rw [get_kr rfl hm6 hy, get_kr rfl hm6 ha]
      refine less_kr (hMG.at hy) (hMG.at ha) fun q w7 hx7 hq => ?_
      rw [binS_lss]
      refine hJ _ _ ⟨hx6.trans hx7, _, rfl, fun h => ⟨by omega, y, hy, ?_⟩, fun h => .inr ⟨y, hy, ?_⟩⟩
      · have h1 : q < 0 := by simpa using h
        have := hq.1 h1
        omega
      · have h1 : ¬ q < 0 := by simpa using h
        have := mt hq.2 h1
        omega

theorem scanDownP {w : World} {g a i j : Nat} {v : Value} {M : List (List Int)} {p : List Int} {C : Value → World → Prop} (hm : KR w g v M) (hMG : KG M) (hlen : M.length ≤ 1000000) (ha : M[a]? = some p) (hij : i ≤ j + 1) (hj : j < M.length) (hi : 0 < i)
    (hC : ∀ (n : Nat) (w1 : World), Ext w w1 → i ≤ n + 1 → n ≤ j → (∀ (r : Nat) (x : List Int), n < r → r ≤ j → M[r]? = some x → numK p ≤ numK x) → (i ≤ n → ∀ x, M[n]? = some x → numK x < numK p) → C (.int .i64 (n : Int)) w1) :
    Loop1 (.int .i64 (j : Int)) w fun iV w4 k =>
      JoinC (α := Value → World → Prop) (fun (t47 : Value) (w5 : World) => Split t47 (RunQ prog (binS .sub T.t_int false true iV (.int .i64 1)) w5 fun t49 => k t49 w5) (C iV w5)) fun J =>
      Drew w4 fun w31 => RunQ prog (binS .leq T.t_int false false (.int .i64 (i : Int)) iV) w31 fun t34 =>
      Split t34 (RunQ prog (Instr.indexAt T.t_sl_tuples_key v iV) w31 fun p1 => RunQ prog (Instr.loadAt T.t_tuples_key p1) w31 fun t40 => RunQ prog (Instr.indexAt T.t_sl_tuples_key v (.int .i64 (a : Int))) w31 fun p1 => RunQ prog (Instr.loadAt T.t_tuples_key p1) w31 fun t44 => CalV prog false cmpF [t40, t44] w31 fun t45 w32 => RunQ prog (binS .lss T.t_int false true t45 (.int .i64 0)) w32 fun t46 => RunQ prog (Op.unary .not t46) w32 fun t47 => J t47 w32) (J (.bool false) w31) := by
  refine ⟨fun t w1 => ∃ n : Nat, t = .int .i64 (n : Int) ∧ Ext w w1 ∧ i ≤ n + 1 ∧ n ≤ j ∧ ∀ (r : Nat) (x : List Int), n < r → r ≤ j → M[r]? = some x → numK p ≤ numK x, fun t _ => (ival t).toNat, ⟨j, rfl, Ext.refl _, hij, Nat.le_refl _, fun r x h1 h2 => by omega⟩, ?_⟩
  rintro _ w1 ⟨n, rfl, hx1, hn1, hn2, hall⟩
  refine join1 (fun t w5 => Ext w1 w5 ∧ ∃ c, t = .bool c ∧ (c = true → i ≤ n ∧ ∃ y, M[n]? = some y ∧ numK p ≤ numK y) ∧ (c = false → ¬ i ≤ n ∨ ∃ y, M[n]? = some y ∧ numK y < numK p)) ?_ ?_
  · rintro _ w5 ⟨hx5, c, rfl, hct, hcf⟩
    rw [split_bool]
    refine ⟨fun h => ?_, fun h => ?_⟩
    · obtain ⟨hle, y, hy, hR⟩ := hct h
      simp only [binS_sub]
      rw [wrap_i64 (by omega) (by omega)]
      refine ⟨⟨n - 1, by congr 1; omega, hx1.trans hx5, by have := hle; omega, by omega, fun r x h1 h2 hx => ?_⟩, ?_⟩
      · by_cases hr : r = n
        · subst hr; rw [hy] at hx; cases hx; exact hR
        · exact hall r x (by omega) h2 hx
      · simp only [ival]; have := hle; omega
    · refine hC n w5 (hx1.trans hx5) hn1 hn2 hall fun hle x hx => ?_
      rcases hcf h with h2 | ⟨y, hy, h2⟩
      · exact absurd hle h2
      · rw [hy] at hx; cases hx; exact h2
  · intro J hJ w6 hx6 _ _
    have hm6 := (hm.ext hx1).ext hx6
    simp only [binS_leq, split_dec]
    refine ⟨fun hle => ?_, fun hgt => hJ _ _ ⟨hx6, false, rfl, (fun h => by cases h), fun _ => .inl (by omega)⟩⟩
    · obtain ⟨y, hy⟩ : ∃ y, M[n]? = some y := ⟨_, List.getElem?_eq_getElem (by omega)⟩
      rw [get_kr rfl hm6 hy, get_kr rfl hm6 ha]
      refine less_kr (hMG.at hy) (hMG.at ha) fun q w7 hx7 hq => ?_
      simp only [binS_lss, un_not]
      refine hJ _ _ ⟨hx6.trans hx7, _, rfl, fun h => ⟨by omega, y, hy, ?_⟩, fun h => .inr ⟨y, hy, ?_⟩⟩
      · have h1 : ¬ q < 0 := by simpa using h
        have := mt hq.2 h1
        omega
      · have h1 : q < 0 := by simpa using h
        have := hq.1 h1
        omega

theorem scanUpE {w : World} {g a i j : Nat} {v : Value} {M : List (List Int)} {p : List Int} {C : Value → World → Prop} (hm : KR w g v M) (hMG : KG M) (hlen : M.length ≤ 1000000) (ha : M[a]? = some p) (hij : i ≤ j + 1) (hj : j < M.length)
    (hC : ∀ (n : Nat) (w1 : World), Ext w w1 → i ≤ n → n ≤ j + 1 → (∀ (r : Nat) (x : List Int), i ≤ r → r < n → M[r]? = some x → numK x ≤ numK p) → (n ≤ j → ∀ x, M[n]? = some x → numK p < numK x) → C (.int .i64 (n : Int)) w1) :
    Loop1 (.int .i64 (i : Int)) w fun iV w4 k =>
      JoinC (α := Value → World → Prop) (fun (t47 : Value) (w5 : World) => Split t47 (RunQ prog (binS .add T.t_int false true iV (.int .i64 1)) w5 fun t49 => k t49 w5) (C iV w5)) fun J =>
      Drew w4 fun w31 => RunQ prog (binS .leq T.t_int false false iV (.int .i64 (j : Int))) w31 fun t34 =>
      Split t34 (RunQ prog (Instr.indexAt T.t_sl_tuples_key v (.int .i64 (a : Int))) w31 fun p1 => RunQ prog (Instr.loadAt T.t_tuples_key p1) w31 fun t40 => RunQ prog (Instr.indexAt T.t_sl_tuples_key v iV) w31 fun p1 => RunQ prog (Instr.loadAt T.t_tuples_key p1) w31 fun t44 => CalV prog false cmpF [t40, t44] w31 fun t45 w32 => RunQ prog (binS .lss T.t_int false true t45 (.int .i64 0)) w32 fun t46 => RunQ prog (Op.unary .not t46) w32 fun t47 => J t47 w32) (J (.bool false) w31) := by
  refine ⟨fun t w1 => ∃ n : Nat, t = .int .i64 (n : Int) ∧ Ext w w1 ∧ i ≤ n ∧ n ≤ j + 1 ∧ ∀ (r : Nat) (x : List Int), i ≤ r → r < n → M[r]? = some x → numK x ≤ numK p, fun t _ => j + 2 - (ival t).toNat, ⟨i, rfl, Ext.refl _, Nat.le_refl _, hij, fun r x h1 h2 => by omega⟩, ?_⟩
  rintro _ w1 ⟨n, rfl, hx1, hn1, hn2, hall⟩
  refine join1 (fun t w5 => Ext w1 w5 ∧ ∃ c, t = .bool c ∧ (c = true → n ≤ j ∧ ∃ y, M[n]? = some y ∧ numK y ≤ numK p) ∧ (c = false → ¬ n ≤ j ∨ ∃ y, M[n]? = some y ∧ numK p < numK y)) ?_ ?_
  · rintro _ w5 ⟨hx5, c, rfl, hct, hcf⟩
    rw [split_bool]
    refine ⟨fun h => ?_, fun h => ?_⟩
    · obtain ⟨hle, y, hy, hR⟩ := hct h
      simp only [binS_add]
      rw [wrap_i64 (by omega) (by omega)]
      refine ⟨⟨n + 1, by congr 1, hx1.trans hx5, by omega, by have := hle; omega, fun r x h1 h2 hx => ?_⟩, ?_⟩
      · by_cases hr : r = n
        · subst hr; rw [hy] at hx; cases hx; exact hR
        · exact hall r x h1 (by omega) hx
      · simp only [ival]; omega
    · refine hC n w5 (hx1.trans hx5) hn1 hn2 hall fun hle x hx => ?_
      rcases hcf h with h2 | ⟨y, hy, h2⟩
      · exact absurd hle h2
      · rw [hy] at hx; cases hx; exact h2
  · intro J hJ w6 hx6 _ _
    have hm6 := (hm.ext hx1).ext hx6
    simp only [binS_leq, split_dec]
    refine ⟨fun hle => ?_, fun hgt => hJ _ _ ⟨hx6, false, rfl, (fun h => by cases h), fun _ => .inl (by omega)⟩⟩
    · obtain ⟨y, hy⟩ : ∃ y, M[n]? = some y := ⟨_, List.getElem?_eq_getElem (by omega)⟩
      rw [get_kr rfl hm6 ha, get_kr rfl hm6 hy]
      refine less_kr (hMG.at ha) (hMG.at hy) fun q w7 hx7 hq => ?_
      simp only [binS_lss, un_not]
      refine hJ _ _ ⟨hx6.trans hx7, _, rfl, fun h => ⟨by omega, y, hy, ?_⟩, fun h => .inr ⟨y, hy, ?_⟩⟩
      · have h1 : ¬ q < 0 := by simpa using h
        have := mt hq.2 h1
        omega
      · have h1 : q < 0 := by simpa using h
        have := hq.1 h1
        omega

theorem scanDownE {w : World} {g a i j : Nat} {v : Value} {M : List (List Int)} {p : List Int} {C : Value → World → Prop} (hm : KR w g v M) (hMG : KG M) (hlen : M.length ≤ 1000000) (ha : M[a]? = some p) (hij : i ≤ j + 1) (hj : j < M.length) (hi : 0 < i)
    (hC : ∀ (n : Nat) (w1 : World), Ext w w1 → i ≤ n + 1 → n ≤ j → (∀ (r : Nat) (x : List Int), n < r → r ≤ j → M[r]? = some x → numK p < numK x) → (i ≤ n → ∀ x, M[n]? = some x → numK x ≤ numK p) → C (.int .i64 (n : Int)) w1) :
    Loop1 (.int .i64 (j : Int)) w fun iV w4 k =>
      JoinC (α := Value → World → Prop) (fun (t47 : Value) (w5 : World) => Split t47 (RunQ prog (binS .sub T.t_int false true iV (.int .i64 1)) w5 fun t49 => k t49 w5) (C iV w5)) fun J =>
      Drew w4 fun w31 => RunQ prog (binS .leq T.t_int false false (.int .i64 (i : Int)) iV) w31 fun t34 =>
      Split t34 (RunQ prog (Instr.indexAt T.t_sl_tuples_key v (.int .i64 (a : Int))) w31 fun p1 => RunQ prog (Instr.loadAt T.t_tuples_key p1) w31 fun t40 => RunQ prog (Instr.indexAt T.t_sl_tuples_key v iV) w31 fun p1 => RunQ prog (Instr.loadAt T.t_tuples_key p1) w31 fun t44 => CalV prog false cmpF [t40, t44] w31 fun t45 w32 => RunQ prog (binS .lss T.t_int false true t45 (.int .i64 0)) w32 fun t46 => J t46 w32) (J (.bool false) w31) := by
  refine ⟨fun t w1 => ∃ n : Nat, t = .int .i64 (n : Int) ∧ Ext w w1 ∧ i ≤ n + 1 ∧ n ≤ j ∧ ∀ (r : Nat) (x : List Int), n < r → r ≤ j → M[r]? = some x → numK p < numK x, fun t _ => (ival t).toNat, ⟨j, rfl, Ext.refl _, hij, Nat.le_refl _, fun r x h1 h2 => by omega⟩, ?_⟩
  rintro _ w1 ⟨n, rfl, hx1, hn1, hn2, hall⟩
  refine join1 (fun t w5 => Ext w1 w5 ∧ ∃ c, t = .bool c ∧ (c = true → i ≤ n ∧ ∃ y, M[n]? = some y ∧ numK p < numK y) ∧ (c = false → ¬ i ≤ n ∨ ∃ y, M[n]? = some y ∧ numK y ≤ numK p)) ?_ ?_
  · rintro _ w5 ⟨hx5, c, rfl, hct, hcf⟩
    rw [split_bool]
    refine ⟨fun h => ?_, fun h => ?_⟩
    · obtain ⟨hle, y, hy, hR⟩ := hct h
      simp only [binS_sub]
      rw [wrap_i64 (by omega) (by omega)]
      refine ⟨⟨n - 1, by congr 1; omega, hx1.trans hx5, by have := hle; omega, by omega, fun r x h1 h2 hx => ?_⟩, ?_⟩
      · by_cases hr : r = n
        · subst hr; rw [hy] at hx; cases hx; exact hR
        · exact hall r x (by omega) h2 hx
      · simp only [ival]; have := hle; omega
    · refine hC n w5 (hx1.trans hx5) hn1 hn2 hall fun hle x hx => ?_
      rcases hcf h with h2 | ⟨y, hy, h2⟩
      · exact absurd hle h2
      · rw [hy] at hx; cases hx; exact h2
  · intro J hJ w6 hx6 _ _
    have hm6 := (hm.ext hx1).ext hx6
    simp only [binS_leq, split_dec]
    refine ⟨fun hle => ?_, fun hgt => hJ _ _ ⟨hx6, false, rfl, (fun h => by cases h), fun _ => .inl (by omega)⟩⟩
    · obtain ⟨y, hy⟩ : ∃ y, M[n]? = some y := ⟨_, List.getElem?_eq_getElem (by omega)⟩
      rw [get_kr rfl hm6 ha, get_kr rfl hm6 hy]
      refine less_kr (hMG.at ha) (hMG.at hy) fun q w7 hx7 hq => ?_
      rw [binS_lss]
      refine hJ _ _ ⟨hx6.trans hx7, _, rfl, fun h => ⟨by omega, y, hy, ?_⟩, fun h => .inr ⟨y, hy, ?_⟩⟩
      · have h1 : q < 0 := by simpa using h
        have := hq.1 h1
        omega
      · have h1 : ¬ q < 0 := by simpa using h
        have := mt hq.2 h1
        omega

end Go.Proofs.Ytahhkeljejfgfaa
/- Keys sorted: a range cut in two, by its pivot. -/
namespace Go.Proofs.Ytahhkeljejfgfaa
open Go Go.Vc Go.RowKit Go.Proofs Go.Proofs.Try
set_option maxRecDepth 100000

/-- cut at place j -/
def PartR (M : List (List Int)) (a j b : Nat) : Prop := ∃ p, M[j]? = some p ∧ (∀ (r : Nat) (x : List Int), a ≤ r → r < j → M[r]? = some x → numK x ≤ numK p) ∧ (∀ (r : Nat) (x : List Int), j < r → r < b → M[r]? = some x → numK p ≤ numK x)
/-- on the way: what is left of i, what is right of j -/
def CutR (M : List (List Int)) (a i j b : Nat) (p : List Int) : Prop := M[a]? = some p ∧ (∀ (r : Nat) (x : List Int), a < r → r < i → M[r]? = some x → numK x < numK p) ∧ (∀ (r : Nat) (x : List Int), j < r → r < b → M[r]? = some x → numK p ≤ numK x)
theorem CutR.swap {M : List (List Int)} {a n m b : Nat} {p x y : List Int} (h : CutR M a n m b p) (ha : a < n) (hnm : n < m) (hmb : m < b) (hx : M[n]? = some x) (hy : M[m]? = some y) (h1 : numK p ≤ numK x) (h2 : numK y < numK p) :
    CutR ((M.set n y).set m x) a (n + 1) (m - 1) b p := by
  obtain ⟨g1, g2, g3⟩ := h
  refine ⟨by rw [swap_get hx hy, if_neg (by omega), if_neg (by omega)]; exact g1, fun r z hr1 hr2 hz => ?_, fun r z hr1 hr2 hz => ?_⟩
  · rw [swap_get hx hy, if_neg (by omega)] at hz
    split at hz
    · cases hz; exact h2
    · exact g2 r z hr1 (by omega) hz
  · rw [swap_get hx hy] at hz
    split at hz
    · cases hz; exact h1
    · rw [if_neg (by omega)] at hz
      exact g3 r z (by omega) hr2 hz
theorem CutR.done {M : List (List Int)} {a n m b : Nat} {p x : List Int} (h : CutR M a n m b p) (hnm : n = m + 1) (ham : a ≤ m) (hx : M[m]? = some x) : PartR ((M.set m p).set a x) a m b := by
  obtain ⟨g1, g2, g3⟩ := h
  have hg := swap_get hx g1
  refine ⟨p, ?_, fun r z hr1 hr2 hz => ?_, fun r z hr1 hr2 hz => ?_⟩
  · rw [hg]
    by_cases h : m = a
    · rw [if_pos h]; subst h; rw [g1] at hx; exact hx.symm
    · rw [if_neg h, if_pos rfl]
  · rw [hg] at hz
    split at hz
    · cases hz
      have := g2 m _ (by omega) (by omega) hx
      omega
    · rw [if_neg (by omega)] at hz
      have := g2 r z (by omega) (by omega) hz
      omega
  · rw [hg, if_neg (by omega), if_neg (by omega)] at hz
    exact g3 r z hr1 hr2 hz

set_option maxHeartbeats 1600000 in
theorem kPartition {w : World} {g a b pv : Nat} {v : Value} {L : List (List Int)} (h : KR w g v L) (hG : KG L) (hab : a + 12 < b) (hb : b ≤ L.length) (hL : L.length ≤ 1000000) (hp1 : a ≤ pv) (hp2 : pv < b) :
    Cal prog F.slices_partitionCmpFunc_pennyweight_tuples_key [v, .int .i64 (a : Int), .int .i64 (b : Int), .int .i64 (pv : Int), cmpF] w fun r w' => ∃ (j : Nat) (c : Bool), r = .tuple #[.int .i64 (j : Int), .bool c] ∧ a ≤ j ∧ j < b ∧ SortK w g v L a b (fun M => PartR M a j b) w' := by
  apply slices_partitionCmpFunc_pennyweight_tuples_key.enter
  unfold slices_partitionCmpFunc_pennyweight_tuples_key.body
  obtain ⟨y, hy⟩ : ∃ y, L[pv]? = some y := ⟨_, List.getElem?_eq_getElem (by omega)⟩
  obtain ⟨x, hx⟩ : ∃ x, L[a]? = some x := ⟨_, List.getElem?_eq_getElem (by omega)⟩
  intro w1 hx1 _ _
  have h1 := h.ext hx1
  rw [get_kr rfl h1 hy, get_kr rfl h1 hx]
  refine put_kr rfl h1 (by omega) (hG.at hy).1 fun w2 hc2 hm2 => ?_
  refine put_kr rfl hm2 (by simp; omega) (hG.at hx).1 fun w3 hc3 hm3 => ?_
  have hsw3 : SwapR a b L ((L.set a y).set pv x) := .step .refl (by omega) (by omega) (by omega) (by omega) hx hy
  have hc03 : Chg (fun r => leadsTo v r) w w3 := (hx1.chg _).trans (hc2.trans hc3)
  have hpa : ((L.set a y).set pv x)[a]? = some y := by
    rw [swap_get hx hy]
    by_cases hap : a = pv
    · rw [if_pos hap]; subst hap; rw [hx] at hy; exact hy
    · rw [if_neg hap, if_pos rfl]
  generalize (L.set a y).set pv x = M3 at *
  have hl3 := hsw3.len
  have hG3 := hG.perm hsw3.perm
  simp only [binS_add, binS_sub]
  rw [wrap_i64 (x := (a : Int) + 1) (by omega) (by omega), wrap_i64 (x := (b : Int) - 1) (by omega) (by omega), show (a : Int) + 1 = ((a + 1 : Nat) : Int) by omega, show (b : Int) - 1 = ((b - 1 : Nat) : Int) by omega]
  -- the end
  have fin : ∀ {w7 : World} {M : List (List Int)} {n m : Nat} {c : Bool}, Chg (fun r => leadsTo v r) w w7 → KR w7 g v M → SwapR a b L M → CutR M a n m b y → n = m + 1 → a ≤ m → m < b →
      Drew w7 fun w8 => RunQ prog (Instr.indexAt T.t_sl_tuples_key v (.int .i64 (a : Int))) w8 fun t78 => RunQ prog (Instr.loadAt T.t_tuples_key t78) w8 fun t79 => RunQ prog (Instr.indexAt T.t_sl_tuples_key v (.int .i64 (m : Int))) w8 fun t82 => RunQ prog (Instr.loadAt T.t_tuples_key t82) w8 fun t83 =>
        RunQ prog (Instr.indexAt T.t_sl_tuples_key v (.int .i64 (m : Int))) w8 fun t84 => RunC prog (Instr.storeAt T.t_tuples_key t84 t79) w8 fun (_ : Unit) w9 => RunQ prog (Instr.indexAt T.t_sl_tuples_key v (.int .i64 (a : Int))) w9 fun t85 => RunC prog (Instr.storeAt T.t_tuples_key t85 t83) w9 fun (_ : Unit) w10 =>
        ∃ (j : Nat) (c' : Bool), Value.tuple #[.int .i64 (m : Int), .bool c] = .tuple #[.int .i64 (j : Int), .bool c'] ∧ a ≤ j ∧ j < b ∧ SortK w g v L a b (fun M => PartR M a j b) w10 := by
    intro w7 M n m c hc7 hm7 hsw hcut hnm ham hmb w8 hx8 _ _
    have hml := hsw.len
    have hMG := hG.perm hsw.perm
    obtain ⟨z, hz⟩ : ∃ z, M[m]? = some z := ⟨_, List.getElem?_eq_getElem (by omega)⟩
    have hm8 := hm7.ext hx8
    rw [get_kr rfl hm8 hcut.1, get_kr rfl hm8 hz]
    refine put_kr rfl hm8 (by omega) (hMG.at hcut.1).1 fun w9 hc9 hm9 => ?_
    refine put_kr rfl hm9 (by simp; omega) (hMG.at hz).1 fun w10 hc10 hm10 => ?_
    exact ⟨m, c, rfl, ham, hmb, (hc7.trans (hx8.chg _)).trans (hc9.trans hc10), _, hsw.step ham hmb (by omega) (by omega) hz hcut.1, hm10, hcut.done hnm ham hz⟩
  refine scanUpP (a := a) (i := a + 1) (j := b - 1) hm3 hG3 (by omega) hpa (by omega) (by omega) fun n w5 hx5 hn1 hn2 hup hupend => ?_
  have hm5 := hm3.ext hx5
  refine scanDownP (a := a) (i := n) (j := b - 1) hm5 hG3 (by omega) hpa (by omega) (by omega) (by omega) fun m w7 hx7 hm1 hm2' hdn hdnend => ?_
  have hm7 := hm5.ext hx7
  have hc07 := hc03.trans ((hx5.trans hx7).chg _)
  have hcut7 : CutR M3 a n m b y := ⟨hpa, fun r z hr1 hr2 hz => hup r z (by omega) hr2 hz, fun r z hr1 hr2 hz => hdn r z hr1 (by omega) hz⟩
  rw [binS_gtr, split_dec]
  refine ⟨fun hgt => fin hc07 hm7 hsw3 hcut7 (by omega) (by omega) (by omega), fun hle => ?_⟩
  have hnm : n ≤ m := by omega
  obtain ⟨u, hu⟩ : ∃ u, M3[n]? = some u := ⟨_, List.getElem?_eq_getElem (by omega)⟩
  obtain ⟨z, hz⟩ : ∃ z, M3[m]? = some z := ⟨_, List.getElem?_eq_getElem (by omega)⟩
  have c1 := hupend (by omega) u hu
  have c2 := hdnend hnm z hz
  have hne : n ≠ m := fun he => by subst he; rw [hu] at hz; cases hz; omega
  intro w11 hx11 _ _
  have hm11 := hm7.ext hx11
  rw [get_kr rfl hm11 hz, get_kr rfl hm11 hu]
  refine put_kr rfl hm11 (by omega) (hG3.at hz).1 fun w12 hc12 hm12 => ?_
  refine put_kr rfl hm12 (by simp; omega) (hG3.at hu).1 fun w13 hc13 hm13 => ?_
  simp only [binS_add, binS_sub]
  rw [wrap_i64 (x := (n : Int) + 1) (by omega) (by omega), wrap_i64 (x := (m : Int) - 1) (by omega) (by omega), show (n : Int) + 1 = ((n + 1 : Nat) : Int) by omega, show (m : Int) - 1 = ((m - 1 : Nat) : Int) by omega]
  refine ⟨fun s t w14 => ∃ (i j : Nat) (M : List (List Int)), s = .int .i64 (i : Int) ∧ t = .int .i64 (j : Int) ∧ a < i ∧ i ≤ j + 1 ∧ j < b ∧ Chg (fun r => leadsTo v r) w w14 ∧ KR w14 g v M ∧ SwapR a b L M ∧ CutR M a i j b y, fun s t _ => (ival t).toNat + 2 - (ival s).toNat,
    ⟨n + 1, m - 1, _, rfl, rfl, by omega, by omega, by omega, (hc07.trans (hx11.chg _)).trans (hc12.trans hc13), hm13, hsw3.step (by omega) (by omega) (by omega) (by omega) hu hz, hcut7.swap (by omega) (by omega) (by omega) hu hz c1 c2⟩, ?_⟩
  rintro _ _ w14 ⟨i, j, M, rfl, rfl, hai, hij, hjb, hc14, hm14, hsw, hcut⟩
  have hml := hsw.len
  have hMG := hG.perm hsw.perm
  refine scanUpP (a := a) (i := i) (j := j) hm14 hMG (by omega) hcut.1 hij (by omega) fun n w15 hx15 hn1 hn2 hup hupend => ?_
  have hm15 := hm14.ext hx15
  refine scanDownP (a := a) (i := n) (j := j) hm15 hMG (by omega) hcut.1 (by omega) (by omega) (by omega) fun m w18 hx18 hm1 hm2' hdn hdnend => ?_
  have hm18 := hm15.ext hx18
  have hc18 := hc14.trans ((hx15.trans hx18).chg _)
  have hcut18 : CutR M a n m b y := ⟨hcut.1, fun r z hr1 hr2 hz => by
    by_cases hri : r < i
    · exact hcut.2.1 r z hr1 hri hz
    · exact hup r z (by omega) hr2 hz, fun r z hr1 hr2 hz => by
    by_cases hrj : j < r
    · exact hcut.2.2 r z hrj hr2 hz
    · exact hdn r z hr1 (by omega) hz⟩
  rw [binS_gtr, split_dec]
  refine ⟨fun hgt => fin hc18 hm18 hsw hcut18 (by omega) (by omega) (by omega), fun hle => ?_⟩
  have hnm : n ≤ m := by omega
  obtain ⟨u, hu⟩ : ∃ u, M[n]? = some u := ⟨_, List.getElem?_eq_getElem (by omega)⟩
  obtain ⟨z, hz⟩ : ∃ z, M[m]? = some z := ⟨_, List.getElem?_eq_getElem (by omega)⟩
  have c1 := hupend (by omega) u hu
  have c2 := hdnend hnm z hz
  have hne : n ≠ m := fun he => by subst he; rw [hu] at hz; cases hz; omega
  intro w22 hx22 _ _
  have hm22 := hm18.ext hx22
  rw [get_kr rfl hm22 hz, get_kr rfl hm22 hu]
  refine put_kr rfl hm22 (by omega) (hMG.at hz).1 fun w23 hc23 hm23 => ?_
  refine put_kr rfl hm23 (by simp; omega) (hMG.at hu).1 fun w24 hc24 hm24 => ?_
  simp only [binS_add, binS_sub]
  rw [wrap_i64 (x := (n : Int) + 1) (by omega) (by omega), wrap_i64 (x := (m : Int) - 1) (by omega) (by omega)]
  refine ⟨⟨n + 1, m - 1, _, by congr 1, by congr 1; omega, by omega, by omega, by omega, (hc18.trans (hx22.chg _)).trans (hc23.trans hc24), hm24, hsw.step (by omega) (by omega) (by omega) (by omega) hu hz, hcut18.swap (by omega) (by omega) (by omega) hu hz c1 c2⟩, ?_⟩
  simp only [ival]; omega

/-! ### the equal ones ahead -/
def EqR (M : List (List Int)) (a i j b : Nat) (p : List Int) : Prop := M[a]? = some p ∧ (∀ (r : Nat) (x : List Int), a < r → r < i → M[r]? = some x → numK x ≤ numK p) ∧ (∀ (r : Nat) (x : List Int), j < r → r < b → M[r]? = some x → numK p < numK x)
theorem EqR.swap {M : List (List Int)} {a n m b : Nat} {p x y : List Int} (h : EqR M a n m b p) (ha : a < n) (hnm : n < m) (hmb : m < b) (hx : M[n]? = some x) (hy : M[m]? = some y) (h1 : numK p < numK x) (h2 : numK y ≤ numK p) :
    EqR ((M.set n y).set m x) a (n + 1) (m - 1) b p := by
  obtain ⟨g1, g2, g3⟩ := h
  refine ⟨by rw [swap_get hx hy, if_neg (by omega), if_neg (by omega)]; exact g1, fun r z hr1 hr2 hz => ?_, fun r z hr1 hr2 hz => ?_⟩
  · rw [swap_get hx hy, if_neg (by omega)] at hz
    split at hz
    · cases hz; exact h2
    · exact g2 r z hr1 (by omega) hz
  · rw [swap_get hx hy] at hz
    split at hz
    · cases hz; exact h1
    · rw [if_neg (by omega)] at hz
      exact g3 r z (by omega) hr2 hz

set_option maxHeartbeats 1600000 in
theorem kPartEq {w : World} {g a b pv : Nat} {v : Value} {L : List (List Int)} (h : KR w g v L) (hG : KG L) (hab : a + 12 < b) (hb : b ≤ L.length) (hL : L.length ≤ 1000000) (hp1 : a ≤ pv) (hp2 : pv < b) :
    Cal prog F.slices_partitionEqualCmpFunc_pennyweight_tuples_key [v, .int .i64 (a : Int), .int .i64 (b : Int), .int .i64 (pv : Int), cmpF] w fun r w' => ∃ (i : Nat) (p : List Int), r = .int .i64 (i : Int) ∧ a < i ∧ i ≤ b ∧ L[pv]? = some p ∧ SortK w g v L a b (fun M => EqR M a i (i - 1) b p) w' := by
  apply slices_partitionEqualCmpFunc_pennyweight_tuples_key.enter
  unfold slices_partitionEqualCmpFunc_pennyweight_tuples_key.body
  obtain ⟨y, hy⟩ : ∃ y, L[pv]? = some y := ⟨_, List.getElem?_eq_getElem (by omega)⟩
  obtain ⟨x, hx⟩ : ∃ x, L[a]? = some x := ⟨_, List.getElem?_eq_getElem (by omega)⟩
  intro w1 hx1 _ _
  have h1 := h.ext hx1
  rw [get_kr rfl h1 hy, get_kr rfl h1 hx]
  refine put_kr rfl h1 (by omega) (hG.at hy).1 fun w2 hc2 hm2 => ?_
  refine put_kr rfl hm2 (by simp; omega) (hG.at hx).1 fun w3 hc3 hm3 => ?_
  have hsw3 : SwapR a b L ((L.set a y).set pv x) := .step .refl (by omega) (by omega) (by omega) (by omega) hx hy
  have hc03 : Chg (fun r => leadsTo v r) w w3 := (hx1.chg _).trans (hc2.trans hc3)
  have hpa : ((L.set a y).set pv x)[a]? = some y := by
    rw [swap_get hx hy]
    by_cases hap : a = pv
    · rw [if_pos hap]; subst hap; rw [hx] at hy; exact hy
    · rw [if_neg hap, if_pos rfl]
  generalize (L.set a y).set pv x = M3 at *
  have hl3 := hsw3.len
  have hG3 := hG.perm hsw3.perm
  simp only [binS_add, binS_sub]
  rw [wrap_i64 (x := (a : Int) + 1) (by omega) (by omega), wrap_i64 (x := (b : Int) - 1) (by omega) (by omega), show (a : Int) + 1 = ((a + 1 : Nat) : Int) by omega, show (b : Int) - 1 = ((b - 1 : Nat) : Int) by omega]
  refine ⟨fun s t w14 => ∃ (i j : Nat) (M : List (List Int)), s = .int .i64 (i : Int) ∧ t = .int .i64 (j : Int) ∧ a < i ∧ i ≤ j + 1 ∧ j < b ∧ Chg (fun r => leadsTo v r) w w14 ∧ KR w14 g v M ∧ SwapR a b L M ∧ EqR M a i j b y, fun s t _ => (ival t).toNat + 2 - (ival s).toNat,
    ⟨a + 1, b - 1, _, rfl, rfl, by omega, by omega, by omega, hc03, hm3, hsw3, hpa, fun r z h1 h2 => by omega, fun r z h1 h2 => by omega⟩, ?_⟩
  rintro _ _ w14 ⟨i, j, M, rfl, rfl, hai, hij, hjb, hc14, hm14, hsw, hcut⟩
  have hml := hsw.len
  have hMG := hG.perm hsw.perm
  refine scanUpE (a := a) (i := i) (j := j) hm14 hMG (by omega) hcut.1 hij (by omega) fun n w15 hx15 hn1 hn2 hup hupend => ?_
  have hm15 := hm14.ext hx15
  refine scanDownE (a := a) (i := n) (j := j) hm15 hMG (by omega) hcut.1 (by omega) (by omega) (by omega) fun m w18 hx18 hm1 hm2' hdn hdnend => ?_
  have hm18 := hm15.ext hx18
  have hc18 := hc14.trans ((hx15.trans hx18).chg _)
  have hcut18 : EqR M a n m b y := ⟨hcut.1, fun r z hr1 hr2 hz => by
    by_cases hri : r < i
    · exact hcut.2.1 r z hr1 hri hz
    · exact hup r z (by omega) hr2 hz, fun r z hr1 hr2 hz => by
    by_cases hrj : j < r
    · exact hcut.2.2 r z hrj hr2 hz
    · exact hdn r z hr1 (by omega) hz⟩
  rw [binS_gtr, split_dec]
  refine ⟨fun hgt => ⟨n, y, rfl, by omega, by omega, hy, hc18, M, hsw, hm18, by rw [show n - 1 = m by omega]; exact hcut18⟩, fun hle => ?_⟩
  have hnm : n ≤ m := by omega
  obtain ⟨u, hu⟩ : ∃ u, M[n]? = some u := ⟨_, List.getElem?_eq_getElem (by omega)⟩
  obtain ⟨z, hz⟩ : ∃ z, M[m]? = some z := ⟨_, List.getElem?_eq_getElem (by omega)⟩
  have c1 := hupend (by omega) u hu
  have c2 := hdnend hnm z hz
  have hne : n ≠ m := fun he => by subst he; rw [hu] at hz; cases hz; omega
  intro w22 hx22 _ _
  have hm22 := hm18.ext hx22
  rw [get_kr rfl hm22 hz, get_kr rfl hm22 hu]
  refine put_kr rfl hm22 (by omega) (hMG.at hz).1 fun w23 hc23 hm23 => ?_
  refine put_kr rfl hm23 (by simp; omega) (hMG.at hu).1 fun w24 hc24 hm24 => ?_
  simp only [binS_add, binS_sub]
  rw [wrap_i64 (x := (n : Int) + 1) (by omega) (by omega), wrap_i64 (x := (m : Int) - 1) (by omega) (by omega)]
  refine ⟨⟨n + 1, m - 1, _, by congr 1, by congr 1; omega, by omega, by omega, by omega, (hc18.trans (hx22.chg _)).trans (hc23.trans hc24), hm24, hsw.step (by omega) (by omega) (by omega) (by omega) hu hz, hcut18.swap (by omega) (by omega) (by omega) hu hz c1 c2⟩, ?_⟩
  simp only [ival]; omega
end Go.Proofs.Ytahhkeljejfgfaa
/- Keys sorted: a few put in place. -/
namespace Go.Proofs.Ytahhkeljejfgfaa
open Go Go.Vc Go.RowKit Go.Proofs Go.Proofs.Try
set_option maxRecDepth 100000

/-- who stands ahead of the range isn't greater than any in it -/
def PreR (M : List (List Int)) (a b : Nat) : Prop := ∀ (x : List Int), 0 < a → M[a - 1]? = some x → ∀ (r : Nat) (y : List Int), a ≤ r → r < b → M[r]? = some y → numK x ≤ numK y
theorem PreR.swap {L M : List (List Int)} {a b : Nat} (h : PreR L a b) (hs : SwapR a b L M) : PreR M a b := fun x h0 hx => hs.all fun r y h1 h2 hy => h x h0 (by rw [← hs.out (by omega)]; exact hx) r y h1 h2 hy

set_option maxHeartbeats 2000000 in
theorem kPartial {w : World} {g a b : Nat} {v : Value} {L : List (List Int)} (h : KR w g v L) (hG : KG L) (hab : a + 12 < b) (hb : b ≤ L.length) (hL : L.length ≤ 1000000) (hpre : PreR L a b) :
    Cal prog F.slices_partialInsertionSortCmpFunc_pennyweight_tuples_key [v, .int .i64 (a : Int), .int .i64 (b : Int), cmpF] w fun r w' => ∃ c, r = .bool c ∧ SortK w g v L a b (fun M => c = true → UpR numK M a b) w' := by
  apply slices_partialInsertionSortCmpFunc_pennyweight_tuples_key.enter
  unfold slices_partialInsertionSortCmpFunc_pennyweight_tuples_key.body
  rw [binS_add, wrap_i64 (by omega) (by omega)]
  refine ⟨fun _ s t w1 => ∃ (i j : Nat) (M : List (List Int)), s = .int .i64 (i : Int) ∧ t = .int .i64 (j : Int) ∧ j ≤ 5 ∧ a < i ∧ i ≤ b ∧ Chg (fun r => leadsTo v r) w w1 ∧ KR w1 g v M ∧ SwapR a b L M ∧ UpR numK M a i, fun _ _ t _ => 6 - (ival t).toNat,
    ⟨a + 1, 0, L, by congr 1, rfl, by omega, by omega, by omega, Chg.refl _ _, h, .refl, fun p q x y h1 h2 h3 => by omega⟩, ?_⟩
  rintro _ _ _ w1 ⟨i, j, M, rfl, rfl, hj5, hai, hib, hc1, hm1, hsw1, hup1⟩
  simp only [binS_lss, split_dec]
  refine ⟨fun hj => ?_, fun _ => ⟨false, rfl, hc1, M, hsw1, hm1, fun h => by cases h⟩⟩
  refine join2 (fun _ s w2 => ∃ (i : Nat) (M : List (List Int)), s = .int .i64 (i : Int) ∧ a < i ∧ i ≤ b ∧ Chg (fun r => leadsTo v r) w w2 ∧ KR w2 g v M ∧ SwapR a b L M ∧ UpR numK M a i) ?_ ?_
  · rintro _ _ w2 ⟨i, M, rfl, g1, g2, g3, g4, g5, g6⟩
    simp only [binS_add]
    rw [wrap_i64 (by omega) (by omega)]
    refine ⟨⟨i, j + 1, M, rfl, by congr 1, by omega, g1, g2, g3, g4, g5, g6⟩, ?_⟩
    simp only [ival]; omega
  intro J hJ
  refine ⟨fun t w3 => ∃ i : Nat, t = .int .i64 (i : Int) ∧ a < i ∧ i ≤ b ∧ Ext w1 w3 ∧ UpR numK M a i, fun t _ => b + 1 - (ival t).toNat, ⟨i, rfl, hai, hib, Ext.refl _, hup1⟩, ?_⟩
  rintro _ w3 ⟨i, rfl, hai, hib, hx3, hup⟩
  have hml := hsw1.len
  have hMG := hG.perm hsw1.perm
  refine join1 (fun t w4 => Ext w3 w4 ∧ ∃ c, t = .bool c ∧ (c = true → i < b ∧ UpR numK M a (i + 1))) ?_ ?_
  rotate_left
  · intro J1 hJ1 w21 hx21 _ _
    have hm21 := (hm1.ext hx3).ext hx21
    rw [binS_lss, split_dec]
    refine ⟨fun hlt => ?_, fun hge => hJ1 _ _ ⟨hx21, false, rfl, fun h => by cases h⟩⟩
    obtain ⟨y, hy⟩ : ∃ y, M[i]? = some y := ⟨_, List.getElem?_eq_getElem (by omega)⟩
    obtain ⟨x, hx⟩ : ∃ x, M[i - 1]? = some x := ⟨_, List.getElem?_eq_getElem (by omega)⟩
    rw [get_kr rfl hm21 hy, binS_sub, wrap_i64 (by omega) (by omega), show (i : Int) - 1 = ((i - 1 : Nat) : Int) by omega, get_kr rfl hm21 hx]
    refine less_kr (hMG.at hy) (hMG.at hx) fun q w22 hx22 hq => ?_
    simp only [binS_lss, un_not]
    refine hJ1 _ _ ⟨hx21.trans hx22, _, rfl, fun h => ⟨by omega, ?_⟩⟩
    have h1 : ¬ q < 0 := by simpa using h
    have h2 := mt hq.2 h1
    exact barR_stop (upR_bar hup) hai hx hy (by omega)
  rintro _ w4 ⟨hx4, c, rfl, hct⟩
  have hx14 := hx3.trans hx4
  have hc4 := hc1.trans (hx14.chg _)
  have hm4 := hm1.ext hx14
  rw [split_bool]
  refine ⟨fun ht => ?_, fun _ => ?_⟩
  · obtain ⟨hlt, hup'⟩ := hct ht
    rw [binS_add, wrap_i64 (by omega) (by omega)]
    refine ⟨⟨i + 1, by congr 1, by omega, by omega, hx14, hup'⟩, ?_⟩
    simp only [ival]; omega
  simp only [binS_eql, split_dec]
  refine ⟨fun hib' => ?_, fun hne => ?_⟩
  · have : i = b := by omega
    subst this
    exact ⟨true, rfl, hc4, M, hsw1, hm4, fun _ => hup⟩
  have hlt : i < b := by omega
  rw [binS_sub, wrap_i64 (by omega) (by omega)]
  simp only [binS_lss, split_dec]
  refine ⟨fun _ => ⟨false, rfl, hc4, M, hsw1, hm4, fun h => by cases h⟩, fun h50 w5 hx5 _ _ => ?_⟩
  obtain ⟨y, hy⟩ : ∃ y, M[i]? = some y := ⟨_, List.getElem?_eq_getElem (by omega)⟩
  obtain ⟨x, hx⟩ : ∃ x, M[i - 1]? = some x := ⟨_, List.getElem?_eq_getElem (by omega)⟩
  have hm5 := hm4.ext hx5
  have e1 : IntKind.i64.wrap ((i : Int) - 1) = ((i - 1 : Nat) : Int) := by rw [wrap_i64 (by omega) (by omega)]; omega
  simp only [binS_sub, e1]
  rw [get_kr rfl hm5 hx, get_kr rfl hm5 hy]
  refine put_kr rfl hm5 (by omega) (hMG.at hx).1 fun w6 hc6 hm6 => ⟨.inr ⟨by have := stays_subK (P := prog) (w := w6) (t := T.t_int) (cx := false) (cy := true) (k := .i64) (a := (i : Int)) (b := 1); rwa [e1] at this, trivial⟩, ?_⟩
  refine put_kr rfl hm6 (by simp; omega) (hMG.at hy).1 fun w7 hc7 hm7 => ?_
  have hsw7 : SwapR a b L ((M.set i x).set (i - 1) y) := hsw1.step (by omega) (by omega) (by omega) (by omega) hy hx
  have hbar7 : BarR numK ((M.set i x).set (i - 1) y) a (i - 1) (i - 1) := fun p q u z hp hpq hq hne hu hz => by
    rw [swap_get hy hx, if_neg (by omega), if_neg (by omega)] at hu hz
    exact hup p q u z hp hpq (by omega) hu hz
  have hc07 := (hc4.trans (hx5.chg _)).trans (hc6.trans hc7)
  generalize (M.set i x).set (i - 1) y = M7 at *
  -- what comes of the way right
  refine join0 (fun w8 => ∃ M, Chg (fun r => leadsTo v r) w w8 ∧ KR w8 g v M ∧ SwapR a b L M ∧ UpR numK M a i) ?_ ?_
  · rintro w8 ⟨M8, hc8, hm8, hsw8, hup8⟩
    have hml8 := hsw8.len
    simp only [binS_geq, split_dec]
    rw [wrap_i64 (x := (b : Int) - i) (by omega) (by omega)]
    refine ⟨fun h2 => ?_, fun _ => hJ _ _ _ ⟨i, M8, rfl, hai, hib, hc8, hm8, hsw8, hup8⟩⟩
    rw [binS_add, wrap_i64 (by omega) (by omega)]
    refine ⟨fun t w9 => ∃ (j : Nat) (M : List (List Int)), t = .int .i64 (j : Int) ∧ i < j ∧ j ≤ b ∧ Chg (fun r => leadsTo v r) w w9 ∧ KR w9 g v M ∧ SwapR a b L M ∧ UpR numK M a i, fun t _ => b + 1 - (ival t).toNat, ⟨i + 1, M8, by congr 1, by omega, by omega, hc8, hm8, hsw8, hup8⟩, ?_⟩
    rintro _ w9 ⟨j, M9, rfl, hij, hjb, hc9, hm9, hsw9, hup9⟩
    have hml9 := hsw9.len
    have hMG9 := hG.perm hsw9.perm
    simp only [binS_lss, split_dec]
    refine ⟨fun hjlt w10 hx10 _ _ => ?_, fun _ => hJ _ _ _ ⟨i, M9, rfl, hai, hib, hc9, hm9, hsw9, hup9⟩⟩
    have hjlt : j < b := by omega
    obtain ⟨y, hy⟩ : ∃ y, M9[j]? = some y := ⟨_, List.getElem?_eq_getElem (by omega)⟩
    obtain ⟨x, hx⟩ : ∃ x, M9[j - 1]? = some x := ⟨_, List.getElem?_eq_getElem (by omega)⟩
    have e2 : IntKind.i64.wrap ((j : Int) - 1) = ((j - 1 : Nat) : Int) := by rw [wrap_i64 (by omega) (by omega)]; omega
    have hm10 := hm9.ext hx10
    simp only [binS_sub, e2]
    rw [get_kr rfl hm10 hy, get_kr rfl hm10 hx]
    refine less_kr (hMG9.at hy) (hMG9.at hx) fun q w11 hx11 hq => ?_
    have hc11 := (hc9.trans (hx10.chg _)).trans (hx11.chg _)
    have hm11 := hm10.ext hx11
    simp only [binS_lss, un_not, split_bool, Drew]
    refine ⟨fun _ => hJ _ _ _ ⟨i, M9, rfl, hai, hib, hc11, hm11, hsw9, hup9⟩, fun _ w12 hx12 _ _ => ?_⟩
    have hm12 := hm11.ext hx12
    rw [get_kr rfl hm12 hx, get_kr rfl hm12 hy]
    refine put_kr rfl hm12 (by omega) (hMG9.at hx).1 fun w13 hc13 hm13 => ⟨.inr ⟨by have := stays_subK (P := prog) (w := w13) (t := T.t_int) (cx := false) (cy := true) (k := .i64) (a := (j : Int)) (b := 1); rwa [e2] at this, trivial⟩, ?_⟩
    refine put_kr rfl hm13 (by simp; omega) (hMG9.at hy).1 fun w14 hc14 hm14 => ?_
    simp only [binS_add]
    rw [wrap_i64 (by omega) (by omega)]
    refine ⟨⟨j + 1, _, by congr 1, by omega, by omega, (hc11.trans (hx12.chg _)).trans (hc13.trans hc14), hm14, hsw9.step (by omega) (by omega) (by omega) (by omega) hy hx, fun p q u z hp hpq hq hu hz => ?_⟩, ?_⟩
    · rw [swap_get hy hx, if_neg (by omega), if_neg (by omega)] at hu hz
      exact hup9 p q u z hp hpq hq hu hz
    · simp only [ival]; omega
  · intro J2 hJ2
    simp only [binS_geq, split_dec]
    rw [wrap_i64 (x := (i : Int) - a) (by omega) (by omega)]
    refine ⟨fun h2 => ?_, fun h2 => hJ2 _ ⟨M7, hc07, hm7, hsw7, fun p q u z hp hpq hq => by omega⟩⟩
    refine ⟨fun t w15 => ∃ (j : Nat) (M : List (List Int)), t = .int .i64 (j : Int) ∧ a ≤ j ∧ j ≤ i - 1 ∧ Chg (fun r => leadsTo v r) w w15 ∧ KR w15 g v M ∧ SwapR a b L M ∧ BarR numK M a (i - 1) j, fun t _ => (ival t).toNat, ⟨i - 1, M7, rfl, by omega, Nat.le_refl _, hc07, hm7, hsw7, hbar7⟩, ?_⟩
    rintro _ w15 ⟨j, M15, rfl, haj, hji, hc15, hm15, hsw15, hbar⟩
    have hml15 := hsw15.len
    have hMG15 := hG.perm hsw15.perm
    have low : j = a → UpR numK M15 a i := fun he => by
      subst he
      have := barR_low hbar
      rwa [show i - 1 + 1 = i by omega] at this
    simp only [binS_geq, split_dec]
    refine ⟨fun hj1 w16 hx16 _ _ => ?_, fun hj1 => hJ2 _ ⟨M15, hc15, hm15, hsw15, low (by omega)⟩⟩
    obtain ⟨y, hy⟩ : ∃ y, M15[j]? = some y := ⟨_, List.getElem?_eq_getElem (by omega)⟩
    obtain ⟨x, hx⟩ : ∃ x, M15[j - 1]? = some x := ⟨_, List.getElem?_eq_getElem (by omega)⟩
    have e2 : IntKind.i64.wrap ((j : Int) - 1) = ((j - 1 : Nat) : Int) := by rw [wrap_i64 (by omega) (by omega)]; omega
    have hm16 := hm15.ext hx16
    simp only [binS_sub, e2]
    rw [get_kr rfl hm16 hy, get_kr rfl hm16 hx]
    refine less_kr (hMG15.at hy) (hMG15.at hx) fun q w17 hx17 hq => ?_
    have hc17 := (hc15.trans (hx16.chg _)).trans (hx17.chg _)
    have hm17 := hm16.ext hx17
    simp only [binS_lss, un_not, split_bool, Drew]
    refine ⟨fun hn => hJ2 _ ⟨M15, hc17, hm17, hsw15, ?_⟩, fun hl w18 hx18 _ _ => ?_⟩
    · have h1 : ¬ q < 0 := by simpa using hn
      have h3 := mt hq.2 h1
      by_cases hja : j = a
      · exact low hja
      · have := barR_stop hbar (by omega) hx hy (by omega)
        rwa [show i - 1 + 1 = i by omega] at this
    · have h1 : q < 0 := by simpa using hl
      have h3 := hq.1 h1
      have hja : a < j := by
        rcases Nat.lt_or_ge a j with h | h
        · exact h
        · have hje : j = a := by omega
          subst hje
          have := (hpre.swap hsw15) x (by omega) hx j y (Nat.le_refl _) (by omega) hy
          omega
      have hm18 := hm17.ext hx18
      rw [get_kr rfl hm18 hx, get_kr rfl hm18 hy]
      refine put_kr rfl hm18 (by omega) (hMG15.at hx).1 fun w19 hc19 hm19 => ⟨.inr ⟨by have := stays_subK (P := prog) (w := w19) (t := T.t_int) (cx := false) (cy := true) (k := .i64) (a := (j : Int)) (b := 1); rwa [e2] at this, trivial⟩, ?_⟩
      refine put_kr rfl hm19 (by simp; omega) (hMG15.at hy).1 fun w20 hc20 hm20 => ?_
      refine ⟨⟨j - 1, _, rfl, by omega, by omega, (hc17.trans (hx18.chg _)).trans (hc19.trans hc20), hm20, hsw15.step (by omega) (by omega) (by omega) (by omega) hy hx, barR_swap hbar hja hji hx hy h3⟩, ?_⟩
      simp only [ival]; omega
end Go.Proofs.Ytahhkeljejfgfaa
/- Keys sorted by a heap. -/
namespace Go.Proofs.Ytahhkeljejfgfaa
open Go Go.Vc Go.RowKit Go.Proofs Go.Proofs.Try
set_option maxRecDepth 100000

def Child (c i : Nat) : Prop := c = 2 * i + 1 ∨ c = 2 * i + 2
/-- a heap of n, from node lo on -/
def HeapR (M : List (List Int)) (s lo n : Nat) : Prop := ∀ (i c : Nat) (x y : List Int), lo ≤ i → Child c i → c < n → M[s + i]? = some x → M[s + c]? = some y → numK y ≤ numK x
def SiftI (M : List (List Int)) (s lo n root : Nat) : Prop :=
  (∀ (i c : Nat) (x y : List Int), lo ≤ i → i ≠ root → Child c i → c < n → M[s + i]? = some x → M[s + c]? = some y → numK y ≤ numK x) ∧
  (∀ (i c : Nat) (x y : List Int), lo ≤ i → Child root i → Child c root → c < n → M[s + i]? = some x → M[s + c]? = some y → numK y ≤ numK x)
theorem sift_start {M : List (List Int)} {s lo n : Nat} (h : HeapR M s (lo + 1) n) : SiftI M s lo n lo :=
  ⟨fun i c x y h1 h2 h3 h4 h5 h6 => h i c x y (by omega) h3 h4 h5 h6, fun i c x y h1 h2 => by unfold Child at h2; omega⟩
theorem sift_done {M : List (List Int)} {s lo n root : Nat} (h : SiftI M s lo n root) (hr : ∀ (c : Nat) (x y : List Int), Child c root → c < n → M[s + root]? = some x → M[s + c]? = some y → numK y ≤ numK x) : HeapR M s lo n := fun i c x y h1 h3 h4 h5 h6 => by
  by_cases hi : i = root
  · subst hi; exact hr c x y h3 h4 h5 h6
  · exact h.1 i c x y h1 hi h3 h4 h5 h6
theorem sift_step {M : List (List Int)} {s lo n root k : Nat} {x y : List Int} (h : SiftI M s lo n root) (hlo : lo ≤ root) (hk : Child k root) (hkn : k < n) (hx : M[s + root]? = some x) (hy : M[s + k]? = some y) (hxy : numK x < numK y)
    (hbig : ∀ (c : Nat) (z : List Int), Child c root → c < n → M[s + c]? = some z → numK z ≤ numK y) : SiftI ((M.set (s + root) y).set (s + k) x) s lo n k := by
  have hg := swap_get hx hy
  unfold SiftI Child at *
  refine ⟨fun i c u z h1 h2 h3 h4 hu hz => ?_, fun i c u z h1 h2 h3 h4 hu hz => ?_⟩
  · rw [hg, if_neg (by omega)] at hu
    rw [hg] at hz
    by_cases hir : i = root
    · subst hir
      rw [if_pos rfl] at hu
      cases hu
      split at hz
      · cases hz; omega
      · rw [if_neg (by omega)] at hz
        exact hbig c z h3 h4 hz
    · rw [if_neg (by omega)] at hu
      rw [if_neg (by omega)] at hz
      split at hz
      · cases hz
        exact h.2 i k u y h1 (by omega) hk hkn hu hy
      · exact h.1 i c u z h1 hir h3 h4 hu hz
  · have hir : i = root := by omega
    subst hir
    rw [hg, if_neg (by omega), if_pos rfl] at hu
    cases hu
    rw [hg, if_neg (by omega), if_neg (by omega)] at hz
    exact h.1 k c y z (by omega) (by omega) h3 h4 hy hz

set_option maxHeartbeats 1600000 in
theorem kSift {w : World} {g s lo n : Nat} {v : Value} {L : List (List Int)} (h : KR w g v L) (hG : KG L) (hn : s + n ≤ L.length) (hlo : lo ≤ 1000000) (hL : L.length ≤ 1000000) (hheap : HeapR L s (lo + 1) n) :
    Cal prog F.slices_siftDownCmpFunc_pennyweight_tuples_key [v, .int .i64 (lo : Int), .int .i64 (n : Int), .int .i64 (s : Int), cmpF] w fun _ w' => SortK w g v L s (s + n) (fun M => HeapR M s lo n) w' := by
  apply slices_siftDownCmpFunc_pennyweight_tuples_key.enter
  unfold slices_siftDownCmpFunc_pennyweight_tuples_key.body
  refine ⟨fun t w1 => ∃ (root : Nat) (M : List (List Int)), t = .int .i64 (root : Int) ∧ lo ≤ root ∧ (root < n ∨ root = lo) ∧ Chg (fun r => leadsTo v r) w w1 ∧ KR w1 g v M ∧ SwapR s (s + n) L M ∧ SiftI M s lo n root, fun t _ => n + lo + 1 - (ival t).toNat,
    ⟨lo, L, rfl, Nat.le_refl _, .inr rfl, Chg.refl _ _, h, .refl, sift_start hheap⟩, ?_⟩
  rintro _ w1 ⟨root, M, rfl, hlr, hrn, hc1, hm, hsw, hinv⟩
  have hml := hsw.len
  have hMG := hG.perm hsw.perm
  simp only [binS_mul, binS_add]
  have e1 : IntKind.i64.wrap (IntKind.i64.wrap (2 * (root : Int)) + 1) = ((2 * root + 1 : Nat) : Int) := by rw [wrap_i64 (x := 2 * (root : Int)) (by omega) (by omega), wrap_i64 (by omega) (by omega)]; omega
  rw [e1, binS_geq, split_dec]
  refine ⟨fun hge => ⟨hc1, M, hsw, hm, sift_done hinv fun c x y h1 h2 => by unfold Child at h1; omega⟩, fun hlt => ?_⟩
  have hlt : 2 * root + 1 < n := by omega
  obtain ⟨x, hx⟩ : ∃ x, M[s + root]? = some x := ⟨_, List.getElem?_eq_getElem (by omega)⟩
  -- the greater child
  refine join1 (fun t w2 => Ext w1 w2 ∧ ∃ (k : Nat) (y : List Int), t = .int .i64 (k : Int) ∧ Child k root ∧ k < n ∧ M[s + k]? = some y ∧ ∀ (c : Nat) (z : List Int), Child c root → c < n → M[s + c]? = some z → numK z ≤ numK y) ?_ ?_
  · rintro _ w2 ⟨hx2, k, y, rfl, hk, hkn, hy, hbig⟩
    intro w3 hx3 _ _
    have hm3 := (hm.ext hx2).ext hx3
    have er : IntKind.i64.wrap ((s : Int) + (root : Int)) = ((s + root : Nat) : Int) := by rw [wrap_i64 (by omega) (by omega)]; omega
    have ek : IntKind.i64.wrap ((s : Int) + (k : Int)) = ((s + k : Nat) : Int) := by rw [wrap_i64 (by omega) (by omega)]; omega
    rw [er, get_kr rfl hm3 hx, binS_add, ek, get_kr rfl hm3 hy]
    refine less_kr (hMG.at hx) (hMG.at hy) fun q w4 hx4 hq => ?_
    have hx14 := (hx2.trans hx3).trans hx4
    have hc4 := hc1.trans (hx14.chg _)
    have hm4 := hm3.ext hx4
    simp only [binS_lss, un_not, split_bool, Drew]
    refine ⟨fun hno => ⟨hc4, M, hsw, hm4, sift_done hinv fun c u z h1 h2 hu hz => ?_⟩, fun hyes w5 hx5 _ _ => ?_⟩
    · have h1' : ¬ q < 0 := by simpa using hno
      have h3 := mt hq.2 h1'
      rw [hx] at hu; cases hu
      have := hbig c z h1 h2 hz
      omega
    · have h1' : q < 0 := by simpa using hyes
      have h3 := hq.1 h1'
      have hm5 := hm4.ext hx5
      simp only [binS_add, er, ek]
      rw [get_kr rfl hm5 hy, get_kr rfl hm5 hx]
      refine put_kr rfl hm5 (by omega) (hMG.at hy).1 fun w6 hc6 hm6 => ⟨.inr ⟨by have := stays_addK (P := prog) (w := w6) (t := T.t_int) (cx := false) (cy := false) (k := .i64) (a := (s : Int)) (b := (k : Int)); rwa [ek] at this, trivial⟩, ?_⟩
      refine put_kr rfl hm6 (by simp; omega) (hMG.at hx).1 fun w7 hc7 hm7 => ?_
      have hkr : root < k := by unfold Child at hk; omega
      refine ⟨⟨k, _, rfl, by omega, .inl hkn, (hc4.trans (hx5.chg _)).trans (hc6.trans hc7), hm7, hsw.step (by omega) (by omega) (by omega) (by omega) hx hy, sift_step hinv hlr hk hkn hx hy h3 hbig⟩, ?_⟩
      simp only [ival]; omega
  · intro J hJ
    obtain ⟨y1, hy1⟩ : ∃ y, M[s + (2 * root + 1)]? = some y := ⟨_, List.getElem?_eq_getElem (by omega)⟩
    refine join1 (fun t w8 => Ext w1 w8 ∧ ∃ c, t = .bool c ∧ (c = true → 2 * root + 2 < n ∧ ∃ y2, M[s + (2 * root + 2)]? = some y2 ∧ numK y1 ≤ numK y2) ∧ (c = false → 2 * root + 2 < n → ∃ y2, M[s + (2 * root + 2)]? = some y2 ∧ numK y2 ≤ numK y1)) ?_ ?_
    · rintro _ w8 ⟨hx8, c, rfl, hct, hcf⟩
      rw [split_bool]
      refine ⟨fun ht => ?_, fun hf => hJ _ _ ⟨hx8, 2 * root + 1, y1, rfl, .inl rfl, hlt, hy1, fun c z h1 h2 hz => ?_⟩⟩
      · obtain ⟨h2n, y2, hy2, h12⟩ := hct ht
        rw [wrap_i64 (by omega) (by omega)]
        refine hJ _ _ ⟨hx8, 2 * root + 2, y2, by congr 1, .inr rfl, h2n, hy2, fun c z h1 h2 hz => ?_⟩
        rcases h1 with rfl | rfl
        · rw [hy1] at hz; cases hz; exact h12
        · rw [hy2] at hz; cases hz; exact Int.le_refl _
      · rcases h1 with rfl | rfl
        · rw [hy1] at hz; cases hz; exact Int.le_refl _
        · obtain ⟨y2, hy2, h21⟩ := hcf hf h2
          rw [hy2] at hz; cases hz; exact h21
    · intro J1 hJ1 w9 hx9 _ _
      have hm9 := hm.ext hx9
      rw [wrap_i64 (x := ((2 * root + 1 : Nat) : Int) + 1) (by omega) (by omega), binS_lss, split_dec]
      refine ⟨fun h2 => ?_, fun h2 => hJ1 _ _ ⟨hx9, false, rfl, (fun h => by cases h), fun _ h => by omega⟩⟩
      obtain ⟨y2, hy2⟩ : ∃ y, M[s + (2 * root + 2)]? = some y := ⟨_, List.getElem?_eq_getElem (by omega)⟩
      have ec : IntKind.i64.wrap ((s : Int) + ((2 * root + 1 : Nat) : Int)) = ((s + (2 * root + 1) : Nat) : Int) := by rw [wrap_i64 (by omega) (by omega)]; omega
      rw [ec, get_kr rfl hm9 hy1]
      rw [wrap_i64 (by omega) (by omega), get_kr (i := s + (2 * root + 2)) (by omega) hm9 hy2]
      refine less_kr (hMG.at hy1) (hMG.at hy2) fun q w10 hx10 hq => ?_
      rw [binS_lss]
      refine hJ1 _ _ ⟨hx9.trans hx10, _, rfl, fun h => ⟨by omega, y2, hy2, ?_⟩, fun h _ => ⟨y2, hy2, ?_⟩⟩
      · have h1 : q < 0 := by simpa using h
        have := hq.1 h1
        omega
      · have h1 : ¬ q < 0 := by simpa using h
        have := mt hq.2 h1
        omega

theorem heap_max {M : List (List Int)} {s n : Nat} (h : HeapR M s 0 n) (hn : s + n ≤ M.length) : ∀ (k : Nat) (x y : List Int), k < n → M[s]? = some x → M[s + k]? = some y → numK y ≤ numK x := by
  intro k
  induction k using Nat.strongRecOn with
  | ind k ih =>
    intro x y hk hx hy
    by_cases h0 : k = 0
    · subst h0; rw [Nat.add_zero, hx] at hy; cases hy; exact Int.le_refl _
    · obtain ⟨z, hz⟩ : ∃ z, M[s + (k - 1) / 2]? = some z := ⟨_, List.getElem?_eq_getElem (by omega)⟩
      have h1 := h ((k - 1) / 2) k z y (Nat.zero_le _) (by unfold Child; omega) hk hz hy
      have h2 := ih ((k - 1) / 2) (by omega) x z (by omega) hx hz
      omega

set_option maxHeartbeats 1600000 in
theorem kHeapSort {w : World} {g a b : Nat} {v : Value} {L : List (List Int)} (h : KR w g v L) (hG : KG L) (hab : a + 12 < b) (hb : b ≤ L.length) (hL : L.length ≤ 1000000) :
    Cal prog F.slices_heapSortCmpFunc_pennyweight_tuples_key [v, .int .i64 (a : Int), .int .i64 (b : Int), cmpF] w fun _ w' => SortK w g v L a b (fun M => UpR numK M a b) w' := by
  apply slices_heapSortCmpFunc_pennyweight_tuples_key.enter
  unfold slices_heapSortCmpFunc_pennyweight_tuples_key.body
  obtain ⟨n, hn⟩ : ∃ n : Nat, b - a = n := ⟨_, rfl⟩
  have hbn : b = a + n := by omega
  have e0 : ((n : Int) - 1).tdiv 2 = (((n - 1) / 2 : Nat) : Int) := by rw [Int.tdiv_eq_ediv_of_nonneg (by omega)]; omega
  rw [binS_sub, wrap_i64 (by omega) (by omega), show (b : Int) - a = (n : Int) by omega, binS_sub, wrap_i64 (by omega) (by omega), binS_quo (by decide), e0, wrap_i64 (by omega) (by omega)]
  -- the heap is made
  refine ⟨fun t w1 => ∃ (i : Int) (M : List (List Int)), t = .int .i64 i ∧ -1 ≤ i ∧ i ≤ n ∧ Chg (fun r => leadsTo v r) w w1 ∧ KR w1 g v M ∧ SwapR a b L M ∧ HeapR M a (i + 1).toNat n, fun t _ => (ival t + 1).toNat,
    ⟨(((n - 1) / 2 : Nat) : Int), L, rfl, by omega, by omega, Chg.refl _ _, h, .refl, fun i c x y h1 h2 h3 => by unfold Child at h2; omega⟩, ?_⟩
  rintro _ w1 ⟨i, M, rfl, hi1, hin, hc1, hm1, hsw1, hheap⟩
  have hml := hsw1.len
  have hMG := hG.perm hsw1.perm
  simp only [binS_geq, split_dec]
  refine ⟨fun h0 => ?_, fun hneg => ?_⟩
  · obtain ⟨k, rfl⟩ : ∃ k : Nat, i = k := ⟨i.toNat, by omega⟩
    refine (kSift hm1 hMG (s := a) (lo := k) (n := n) (by omega) (by omega) (by omega) (by rwa [show ((k : Int) + 1).toNat = k + 1 by omega] at hheap)).mono ?_
    rintro _ w2 _ ⟨hc2, M2, hsw2, hm2, hh2⟩
    simp only [binS_sub]
    rw [wrap_i64 (by omega) (by omega)]
    refine ⟨⟨(k : Int) - 1, M2, rfl, by omega, by omega, hc1.trans hc2, hm2, hsw1.trans (by rw [hbn]; exact hsw2), by rwa [show ((k : Int) - 1 + 1).toNat = k by omega]⟩, ?_⟩
    simp only [ival]; omega
  have hi : i = -1 := by omega
  subst hi
  have hheap : HeapR M a 0 n := hheap
  rw [binS_sub, wrap_i64 (by omega) (by omega)]
  -- it is taken apart
  refine ⟨fun t w3 => ∃ (m : Nat) (M : List (List Int)), t = .int .i64 ((m : Int) - 1) ∧ m ≤ n ∧ Chg (fun r => leadsTo v r) w w3 ∧ KR w3 g v M ∧ SwapR a b L M ∧ HeapR M a 0 m ∧ ∀ (p q : Nat) (x y : List Int), p < q → q < n → m ≤ q → M[a + p]? = some x → M[a + q]? = some y → numK x ≤ numK y, fun t _ => (ival t + 1).toNat,
    ⟨n, M, rfl, Nat.le_refl _, hc1, hm1, hsw1, hheap, fun p q x y h1 h2 h3 => by omega⟩, ?_⟩
  rintro _ w3 ⟨m, M3, rfl, hmn, hc3, hm3, hsw3, hh3, htail⟩
  have hml3 := hsw3.len
  have hMG3 := hG.perm hsw3.perm
  simp only [binS_geq, split_dec, Drew]
  refine ⟨fun h0 w4 hx4 _ _ => ?_, fun hneg => ⟨hc3, M3, hsw3, hm3, fun p q x y h1 h2 h3 hx hy => ?_⟩⟩
  · obtain ⟨i, rfl⟩ : ∃ i, m = i + 1 := ⟨m - 1, by omega⟩
    have hm4 := hm3.ext hx4
    obtain ⟨y, hy⟩ : ∃ y, M3[a + i]? = some y := ⟨_, List.getElem?_eq_getElem (by omega)⟩
    obtain ⟨x, hx⟩ : ∃ x, M3[a]? = some x := ⟨_, List.getElem?_eq_getElem (by omega)⟩
    have ei : ((i + 1 : Nat) : Int) - 1 = (i : Int) := by omega
    have e1 : IntKind.i64.wrap ((a : Int) + (i : Int)) = ((a + i : Nat) : Int) := by rw [wrap_i64 (by omega) (by omega)]; omega
    simp only [ei, binS_add, e1]
    rw [get_kr rfl hm4 hy, get_kr rfl hm4 hx]
    refine put_kr rfl hm4 (by omega) (hMG3.at hy).1 fun w5 hc5 hm5 => ⟨.inr ⟨by have := stays_addK (P := prog) (w := w5) (t := T.t_int) (cx := false) (cy := false) (k := .i64) (a := (a : Int)) (b := (i : Int)); rwa [e1] at this, trivial⟩, ?_⟩
    refine put_kr rfl hm5 (by simp; omega) (hMG3.at hx).1 fun w6 hc6 hm6 => ?_
    have hsw6 : SwapR a b L ((M3.set a y).set (a + i) x) := hsw3.step (by omega) (by omega) (by omega) (by omega) hx hy
    have hg := swap_get hx hy
    have hmax := heap_max hh3 (by omega)
    have hh6 : HeapR ((M3.set a y).set (a + i) x) a (0 + 1) i := fun j c u z h1 h2 h3 hu hz => by
      unfold Child at h2
      rw [hg, if_neg (by omega), if_neg (by omega)] at hu hz
      exact hh3 j c u z (by omega) h2 (by omega) hu hz
    have hlen6 := hsw6.len
    have hG6 := hG.perm hsw6.perm
    generalize hM6 : (M3.set a y).set (a + i) x = M6 at *
    refine (kSift hm6 hG6 (s := a) (lo := 0) (n := i) (by omega) (by omega) (by omega) hh6).mono ?_
    rintro _ w7 _ ⟨hc7, M7, hsw7, hm7, hh7⟩
    rw [binS_sub, wrap_i64 (by omega) (by omega)]
    have hsw7' : SwapR a b M6 M7 := hsw7.mono (Nat.le_refl _) (by omega)
    refine ⟨⟨i, M7, rfl, by omega, (hc3.trans (hx4.chg _)).trans ((hc5.trans hc6).trans hc7), hm7, hsw6.trans hsw7', hh7, fun p q u z h1 h2 h3 hu hz => ?_⟩, ?_⟩
    · rw [hsw7.out (by omega), hg] at hz
      -- those that are in the heap still
      have low : p < i → (∀ (r : Nat) (t : List Int), r < i + 1 → M3[a + r]? = some t → numK t ≤ numK z) → numK u ≤ numK z := fun hpi hall => by
        refine hsw7.all (p := fun t => numK t ≤ numK z) (fun r t hr1 hr2 ht => ?_) (a + p) u (by omega) (by omega) hu
        rw [hg, if_neg (by omega)] at ht
        split at ht
        · cases ht; exact hall i y (by omega) hy
        · obtain ⟨k, rfl⟩ : ∃ k, r = a + k := ⟨r - a, by omega⟩
          exact hall k t (by omega) ht
      by_cases hqi : q = i
      · subst hqi
        rw [if_pos rfl] at hz
        cases hz
        exact low (by omega) fun r t hr ht => hmax r x t (by omega) hx ht
      · rw [if_neg (by omega), if_neg (by omega)] at hz
        by_cases hpi : p < i
        · exact low hpi fun r t hr ht => htail r q t z (by omega) h2 (by omega) ht hz
        · rw [hsw7.out (by omega), hg] at hu
          by_cases hpe : p = i
          · subst hpe
            rw [if_pos rfl] at hu
            cases hu
            exact htail 0 q _ z (by omega) h2 (by omega) hx hz
          · rw [if_neg (by omega), if_neg (by omega)] at hu
            exact htail p q u z h1 h2 (by omega) hu hz
    · simp only [ival]; omega
  · have hm0 : m = 0 := by omega
    subst hm0
    obtain ⟨p', rfl⟩ : ∃ k, p = a + k := ⟨p - a, by omega⟩
    obtain ⟨q', rfl⟩ : ∃ k, q = a + k := ⟨q - a, by omega⟩
    exact htail p' q' x y (by omega) (by omega) (Nat.zero_le _) hx hy
end Go.Proofs.Ytahhkeljejfgfaa
/- Keys sorted: the whole. -/
namespace Go.Proofs.Ytahhkeljejfgfaa
open Go Go.Vc Go.RowKit Go.Proofs Go.Proofs.Try
set_option maxRecDepth 100000

/-- all is in order but what lies in places c to d -/
def OutR (M : List (List Int)) (a b c d : Nat) : Prop := ∀ (p q : Nat) (x y : List Int), a ≤ p → p < q → q < b → ¬ (c ≤ p ∧ q < d) → M[p]? = some x → M[q]? = some y → numK x ≤ numK y
theorem OutR.swap {M N : List (List Int)} {a b c d : Nat} (h : OutR M a b c d) (hs : SwapR c d M N) (hac : a ≤ c) (hdb : d ≤ b) (hbl : b ≤ M.length) : OutR N a b c d := fun p q x y h1 h2 h3 h4 hx hy => by
  by_cases hp : c ≤ p ∧ p < d
  · rw [hs.out (r := q) (by omega)] at hy
    refine hs.all (p := fun t => numK t ≤ numK y) (fun r t hr1 hr2 ht => ?_) p x hp.1 hp.2 hx
    exact h r q t y (by omega) (by omega) h3 (by omega) ht hy
  · rw [hs.out (r := p) (by omega)] at hx
    by_cases hq : c ≤ q ∧ q < d
    · refine hs.all (p := fun t => numK x ≤ numK t) (fun r t hr1 hr2 ht => ?_) q y hq.1 hq.2 hy
      exact h p r x t h1 (by omega) (by omega) (by omega) hx ht
    · rw [hs.out (r := q) (by omega)] at hy
      exact h p q x y h1 h2 h3 h4 hx hy
theorem OutR.done {M : List (List Int)} {a b c d : Nat} (h : OutR M a b c d) (hu : UpR numK M c d) : UpR numK M a b := fun p q x y h1 h2 h3 hx hy => by
  by_cases hc : c ≤ p ∧ q < d
  · exact hu p q x y hc.1 h2 hc.2 hx hy
  · exact h p q x y h1 h2 h3 hc hx hy
theorem pre_at {L M : List (List Int)} {a b c d : Nat} (hpre : PreR L a b) (hs : SwapR a b L M) (h : OutR M a b c d) (hac : a ≤ c) (hdb : d ≤ b) : PreR M c d := fun x h0 hx r y hr1 hr2 hy => by
  by_cases hca : c = a
  · subst hca
    exact hpre.swap hs x h0 hx r y hr1 (by omega) hy
  · exact h (c - 1) r x y (by omega) (by omega) (by omega) (by omega) hx hy
/-- the left part is in order: what is left lies behind the cut -/
theorem out_left {M : List (List Int)} {a b c d j : Nat} (h : OutR M a b c d) (hp : PartR M c j d) (hu : UpR numK M c j) (hj : j < d) (hbl : b ≤ M.length) (hdb : d ≤ b) : OutR M a b (j + 1) d := fun p q x y h1 h2 h3 h4 hx hy => by
  obtain ⟨z, hz, hlo, hhi⟩ := hp
  by_cases hc : c ≤ p ∧ q < d
  · by_cases hpj : p = j
    · subst hpj; rw [hz] at hx; cases hx; exact hhi q y h2 hc.2 hy
    · have hpj2 : p < j := by omega
      by_cases hqj : q < j
      · exact hu p q x y hc.1 h2 hqj hx hy
      · have e1 := hlo p x hc.1 hpj2 hx
        by_cases hqe : q = j
        · subst hqe; rw [hz] at hy; cases hy; exact e1
        · have e2 := hhi q y (by omega) hc.2 hy
          omega
  · exact h p q x y h1 h2 h3 hc hx hy
theorem out_right {M : List (List Int)} {a b c d j : Nat} (h : OutR M a b c d) (hp : PartR M c j d) (hu : UpR numK M (j + 1) d) (hj : c ≤ j) : OutR M a b c j := fun p q x y h1 h2 h3 h4 hx hy => by
  obtain ⟨z, hz, hlo, hhi⟩ := hp
  by_cases hc : c ≤ p ∧ q < d
  · by_cases hqj : q = j
    · subst hqj; rw [hz] at hy; cases hy; exact hlo p x hc.1 h2 hx
    · have hqj2 : j < q := by omega
      by_cases hpj : j < p
      · exact hu p q x y (by omega) h2 hc.2 hx hy
      · have e1 := hhi q y hqj2 hc.2 hy
        by_cases hpe : p = j
        · subst hpe; rw [hz] at hx; cases hx; exact e1
        · have e2 := hlo p x hc.1 (by omega) hx
          omega
  · exact h p q x y h1 h2 h3 hc hx hy
theorem PartR.swapL {M N : List (List Int)} {c j d : Nat} (h : PartR M c j d) (hs : SwapR c j M N) : PartR N c j d := by
  obtain ⟨z, hz, hlo, hhi⟩ := h
  exact ⟨z, by rw [hs.out (by omega)]; exact hz, hs.all hlo, fun r x h1 h2 hx => hhi r x h1 h2 (by rw [← hs.out (by omega)]; exact hx)⟩
theorem PartR.swapR {M N : List (List Int)} {c j d : Nat} (h : PartR M c j d) (hs : SwapR (j + 1) d M N) : PartR N c j d := by
  obtain ⟨z, hz, hlo, hhi⟩ := h
  refine ⟨z, by rw [hs.out (by omega)]; exact hz, fun r x h1 h2 hx => hlo r x h1 h2 (by rw [← hs.out (by omega)]; exact hx), fun r x h1 h2 hx => ?_⟩
  exact hs.all (p := fun t => numK z ≤ numK t) (fun r t g1 g2 ht => hhi r t (by omega) g2 ht) r x (by omega) h2 hx

set_option maxHeartbeats 4000000 in
theorem kPdq : ∀ (n : Nat) {w : World} {g a b : Nat} {v : Value} {L : List (List Int)} {lim : Int}, b - a < n → KR w g v L → KG L → a ≤ b → b ≤ L.length → L.length < 256 → PreR L a b →
    Cal prog F.slices_pdqsortCmpFunc_pennyweight_tuples_key [v, .int .i64 (a : Int), .int .i64 (b : Int), .int .i64 lim, cmpF] w fun _ w' => SortK w g v L a b (fun M => UpR numK M a b) w' := by
  intro n
  induction n with
  | zero => intro w g a b v L lim h; omega
  | succ n IH =>
  intro w g a b v L lim hn h hG hab hb hL hpre
  apply slices_pdqsortCmpFunc_pennyweight_tuples_key.enter
  unfold slices_pdqsortCmpFunc_pennyweight_tuples_key.body
  refine ⟨fun s t u p q w1 => ∃ (c d : Nat) (M : List (List Int)) (lim : Int) (wb wp : Bool), s = .int .i64 (c : Int) ∧ t = .int .i64 (d : Int) ∧ u = .int .i64 lim ∧ p = .bool wb ∧ q = .bool wp ∧ a ≤ c ∧ c ≤ d ∧ d ≤ b ∧ Chg (fun r => leadsTo v r) w w1 ∧ KR w1 g v M ∧ SwapR a b L M ∧ OutR M a b c d, fun s t _ _ _ _ => (ival t).toNat - (ival s).toNat,
    ⟨a, b, L, lim, true, true, rfl, rfl, rfl, rfl, rfl, Nat.le_refl _, hab, Nat.le_refl _, Chg.refl _ _, h, .refl, fun p q x y h1 h2 h3 h4 => absurd ⟨h1, h3⟩ h4⟩, ?_⟩
  rintro _ _ _ _ _ w1 ⟨c, d, M, lim, wb, wp, rfl, rfl, rfl, rfl, rfl, hac, hcd, hdb, hc1, hm1, hsw1, hout⟩
  have hml := hsw1.len
  have hMG := hG.perm hsw1.perm
  have hpre1 : PreR M c d := pre_at hpre hsw1 hout hac hdb
  -- sorted at last
  have fin : ∀ {w2 w3 : World} {N : List (List Int)}, Chg (fun r => leadsTo v r) w w3 → KR w3 g v N → SwapR c d M N → UpR numK N c d → SortK w g v L a b (fun M => UpR numK M a b) w3 := fun {w2 w3 N} hc hm hs hu =>
    ⟨hc, N, hsw1.trans (hs.mono hac hdb), hm, (hout.swap hs hac hdb (by omega)).done hu⟩
  rw [binS_sub, wrap_i64 (by omega) (by omega), binS_leq, split_dec]
  refine ⟨fun h12 => ?_, fun h12 => ?_⟩
  · refine (kInsSort hm1 hMG hcd (by omega) (by omega)).mono ?_
    rintro _ w2 _ ⟨hc2, N, hs, hu, hm2⟩
    exact fin (w2 := w2) (hc1.trans hc2) hm2 hs hu
  have h12 : c + 12 < d := by omega
  rw [binS_eql, split_dec]
  refine ⟨fun _ => ?_, fun _ => ?_⟩
  · refine (kHeapSort hm1 hMG h12 (by omega) (by omega)).mono ?_
    rintro _ w3 _ ⟨hc3, N, hs, hm3, hu⟩
    exact fin (w2 := w3) (hc1.trans hc3) hm3 hs hu
  -- patterns broken
  refine join1 (fun t w4 => ∃ (l : Int) (N : List (List Int)), t = .int .i64 l ∧ Chg (fun r => leadsTo v r) w w4 ∧ KR w4 g v N ∧ SwapR c d M N) ?_ ?_
  rotate_left
  · intro J hJ
    simp only [un_not, split_bool]
    refine ⟨fun _ => ?_, fun _ => hJ _ _ ⟨lim, M, rfl, hc1, hm1, .refl⟩⟩
    refine (kBreak hm1 hMG h12 (by omega) (by omega)).mono ?_
    rintro _ w18 _ ⟨hc18, N, hs, hm18, _⟩
    rw [binS_sub]
    exact hJ _ _ ⟨_, N, rfl, hc1.trans hc18, hm18, hs⟩
  rintro _ w4 ⟨lim2, M4, rfl, hc4, hm4, hs4⟩
  have hl4 := hs4.len
  have hG4 := hMG.perm hs4.perm
  refine (kChoose hm4 hG4 h12 (by omega) (by omega)).mono ?_
  rintro _ w5 _ ⟨hx5, hm5, pv, hint, rfl, hpv1, hpv2⟩
  rw [extract_tuple (v := .int .i64 (pv : Int)) rfl, extract_tuple (v := .int .i64 hint) rfl]
  have hc5 := hc4.trans (hx5.chg _)
  refine join2 (fun s t w6 => ∃ (pv : Nat) (hint : Int) (N : List (List Int)), s = .int .i64 (pv : Int) ∧ t = .int .i64 hint ∧ c ≤ pv ∧ pv < d ∧ Chg (fun r => leadsTo v r) w w6 ∧ KR w6 g v N ∧ SwapR c d M N) ?_ ?_
  rotate_left
  · intro J1 hJ1
    simp only [binS_eql, split_dec]
    refine ⟨fun _ => ?_, fun _ => hJ1 _ _ _ ⟨pv, hint, M4, rfl, rfl, hpv1, hpv2, hc5, hm5, hs4⟩⟩
    refine (kReverse hm5 hG4 (by omega) (by omega) (by omega)).mono ?_
    rintro _ w17 _ ⟨hc17, N, hs, hm17, _⟩
    simp only [binS_sub]
    rw [wrap_i64 (x := (d : Int) - 1) (by omega) (by omega), wrap_i64 (x := (pv : Int) - c) (by omega) (by omega), wrap_i64 (by omega) (by omega)]
    exact hJ1 _ _ _ ⟨d - 1 - (pv - c), 1, N, by congr 1; omega, rfl, by omega, by omega, hc5.trans hc17, hm17, hs4.trans hs⟩
  rintro _ _ w6 ⟨pv, hint, M6, rfl, rfl, hpv1, hpv2, hc6, hm6, hs6⟩
  have hl6 := hs6.len
  have hG6 := hMG.perm hs6.perm
  refine join0 (fun w7 => ∃ N, Chg (fun r => leadsTo v r) w w7 ∧ KR w7 g v N ∧ SwapR c d M N) ?_ ?_
  rotate_left
  · intro J2 hJ2
    refine join1 (fun t w15 => w6 = w15 ∧ ∃ c, t = .bool c) ?_ ?_
    · rintro _ _ ⟨rfl, cc, rfl⟩
      rw [split_bool]
      refine ⟨fun _ => ?_, fun _ => hJ2 _ ⟨M6, hc6, hm6, hs6⟩⟩
      refine (kPartial hm6 hG6 h12 (by omega) (by omega) (hpre1.swap hs6)).mono ?_
      rintro _ w16 _ ⟨e, rfl, hc16, N, hs, hm16, hu⟩
      rw [split_bool]
      exact ⟨fun ht => fin (w2 := w16) (hc6.trans hc16) hm16 (hs6.trans hs) (hu ht), fun _ => hJ2 _ ⟨N, hc6.trans hc16, hm16, hs6.trans hs⟩⟩
    · intro J4 hJ4
      simp only [split_bool, binS_eql]
      exact ⟨fun _ => ⟨fun _ => hJ4 _ _ ⟨rfl, _, rfl⟩, fun _ => hJ4 _ _ ⟨rfl, _, rfl⟩⟩, fun _ => hJ4 _ _ ⟨rfl, _, rfl⟩⟩
  rintro w7 ⟨M7, hc7, hm7, hs7⟩
  have hl7 := hs7.len
  have hG7 := hMG.perm hs7.perm
  have hsw7 : SwapR a b L M7 := hsw1.trans (hs7.mono hac hdb)
  have hpre7 : PreR M7 c d := hpre1.swap hs7
  obtain ⟨pk, hpk⟩ : ∃ k, M7[pv]? = some k := ⟨_, List.getElem?_eq_getElem (by omega)⟩
  refine join1 (fun t w8 => Ext w7 w8 ∧ ∃ e, t = .bool e ∧ (e = true → 0 < c ∧ ∃ x, M7[c - 1]? = some x ∧ numK pk ≤ numK x)) ?_ ?_
  rotate_left
  · intro J3 hJ3 w13 hx13 _ _
    have hm13 := hm7.ext hx13
    simp only [binS_gtr, split_dec]
    refine ⟨fun h0 => ?_, fun _ => hJ3 _ _ ⟨hx13, false, rfl, fun h => by cases h⟩⟩
    obtain ⟨x, hx⟩ : ∃ k, M7[c - 1]? = some k := ⟨_, List.getElem?_eq_getElem (by omega)⟩
    rw [binS_sub, wrap_i64 (by omega) (by omega), get_kr (i := c - 1) (by omega) hm13 hx, get_kr rfl hm13 hpk]
    refine less_kr (hG7.at hx) (hG7.at hpk) fun q w14 hx14 hq => ?_
    simp only [binS_lss, un_not]
    refine hJ3 _ _ ⟨hx13.trans hx14, _, rfl, fun h => ⟨by omega, x, hx, ?_⟩⟩
    have h1 : ¬ q < 0 := by simpa using h
    have := mt hq.2 h1
    omega
  rintro _ w8 ⟨hx8, e, rfl, hee⟩
  have hc8 := hc7.trans (hx8.chg _)
  have hm8 := hm7.ext hx8
  rw [split_bool]
  refine ⟨fun het => ?_, fun _ => ?_⟩
  · -- the equal ones
    obtain ⟨h0, x, hx, hpx⟩ := hee het
    refine (kPartEq hm8 hG7 h12 (by omega) (by omega) hpv1 hpv2).mono ?_
    rintro _ w9 _ ⟨i, p, rfl, hi1, hi2, hpp, hc9, M9, hs9, hm9, heq⟩
    rw [hpk] at hpp
    cases hpp
    have hs79 := hs7.trans hs9
    have hout9 : OutR M9 a b c d := hout.swap hs79 hac hdb (by omega)
    have hpre9 : PreR M9 c d := hpre7.swap hs9
    have hx9 : M9[c - 1]? = some x := by rw [hs9.out (by omega)]; exact hx
    refine ⟨⟨i, d, M9, lim2, wb, wp, rfl, rfl, rfl, rfl, rfl, by omega, hi2, hdb, hc8.trans hc9, hm9, hsw1.trans (hs79.mono hac hdb), fun p q u z g1 g2 g3 g4 hu hz => ?_⟩, ?_⟩
    · by_cases hcq : c ≤ p ∧ q < d
      · have hpi : p < i := by omega
        have e1 : numK u ≤ numK pk := by
          by_cases hpc : p = c
          · subst hpc; rw [heq.1] at hu; cases hu; exact Int.le_refl _
          · exact heq.2.1 p u (by omega) hpi hu
        have e2 := hpre9 x h0 hx9 q z (by omega) hcq.2 hz
        omega
      · exact hout9 p q u z g1 g2 g3 hcq hu hz
    · simp only [ival]; omega
  · refine (kPartition hm8 hG7 h12 (by omega) (by omega) hpv1 hpv2).mono ?_
    rintro _ w10 _ ⟨j, e2, rfl, hj1, hj2, hc10, M10, hs10, hm10, hpart⟩
    rw [extract_tuple (v := .int .i64 (j : Int)) rfl, extract_tuple (v := .bool e2) rfl]
    have hs710 := hs7.trans hs10
    have hl10 := hs710.len
    have hG10 := hMG.perm hs710.perm
    have hout10 : OutR M10 a b c d := hout.swap hs710 hac hdb (by omega)
    have hpre10 : PreR M10 c d := hpre7.swap hs10
    have hc010 := hc8.trans hc10
    simp only [binS_sub]
    rw [wrap_i64 (x := (j : Int) - c) (by omega) (by omega), wrap_i64 (x := (d : Int) - j) (by omega) (by omega), binS_quo (by decide)]
    simp only [binS_lss, binS_geq, split_dec]
    refine ⟨fun _ => ?_, fun _ => ?_⟩
    · refine (IH (a := c) (b := j) (by omega) hm10 hG10 hj1 (by omega) (by omega) (fun x h0 hx r y g1 g2 hy => hpre10 x h0 hx r y g1 (by omega) hy)).mono ?_
      rintro _ w11 _ ⟨hc11, M11, hs11, hm11, hu11⟩
      have hs711 := hs710.trans (hs11.mono (Nat.le_refl _) (by omega))
      have hl11 := hs711.len
      rw [binS_add, wrap_i64 (by omega) (by omega)]
      refine ⟨⟨j + 1, d, M11, lim2, _, e2, by congr 1, rfl, rfl, rfl, rfl, by omega, by omega, hdb, hc010.trans hc11, hm11, hsw1.trans (hs711.mono hac hdb), out_left (hout.swap hs711 hac hdb (by omega)) (hpart.swapL hs11) hu11 hj2 (by omega) hdb⟩, ?_⟩
      simp only [ival]; omega
    · rw [binS_add, wrap_i64 (by omega) (by omega), show (j : Int) + 1 = ((j + 1 : Nat) : Int) by omega]
      obtain ⟨z, hz, hlo, hhi⟩ := id hpart
      refine (IH (a := j + 1) (b := d) (by omega) hm10 hG10 (by omega) (by omega) (by omega) (fun x h0 hx r y g1 g2 hy => by
        rw [Nat.add_sub_cancel, hz] at hx; cases hx; exact hhi r y (by omega) g2 hy)).mono ?_
      rintro _ w12 _ ⟨hc12, M12, hs12, hm12, hu12⟩
      have hs712 := hs710.trans (hs12.mono (by omega) (Nat.le_refl _))
      have hl12 := hs712.len
      refine ⟨⟨c, j, M12, lim2, _, e2, rfl, rfl, rfl, rfl, rfl, hac, hj1, by omega, hc010.trans hc12, hm12, hsw1.trans (hs712.mono hac hdb), out_right (hout.swap hs712 hac hdb (by omega)) (hpart.swapR hs12) hu12 hj1⟩, ?_⟩
      simp only [ival]; omega

/-- sorted: the list is the only one in order that has these keys -/
theorem kSortFunc {w : World} {g : Nat} {v : Value} {L : List (List Int)} (h : KR w g v L) (hG : KG L) (hL : L.length < 256) :
    Cal prog F.slices_SortFunc_pennyweight_tuples_key_pennyweight_tuples_key [v, cmpF] w fun _ w' => Chg (fun r => leadsTo v r) w w' ∧ ∃ M, M.Perm L ∧ UpR numK M 0 M.length ∧ KR w' g v M := by
  apply slices_SortFunc_pennyweight_tuples_key_pennyweight_tuples_key.enter
  unfold slices_SortFunc_pennyweight_tuples_key_pennyweight_tuples_key.body
  rw [len_rm T.t_sl_tuples_key.u h, conv_int T.t_int.u T.t_uint.u, wrap_u64 (by omega) (by omega)]
  refine (bLenX hL).mono ?_
  rintro _ w1 _ ⟨rfl, hx1⟩
  refine (kPdq (L.length + 1) (a := 0) (b := L.length) (by omega) (h.ext hx1) hG (Nat.zero_le _) (Nat.le_refl _) hL (fun x h0 => by omega)).mono ?_
  rintro _ w2 _ ⟨hc2, M, hs, hm2, hu⟩
  exact ⟨(hx1.chg _).trans hc2, M, hs.perm, by rw [hs.len]; exact hu, hm2⟩
end Go.Proofs.Ytahhkeljejfgfaa

