/- Keys sorted: the small steps, and by insertion. -/
import Derived.Test.YtahhkeljejfgfaaU5
import Derived.Test.YtahhkeljejfgfaaPa
namespace Go.Proofs.Ytahhkeljejfgfaa
open Go Go.Vc Go.RowKit Go.Proofs Go.Proofs.Try
set_option maxRecDepth 100000

def KG (L : List (List Int)) : Prop := ∀ ks ∈ L, KeyL ks
theorem KG.perm {L M : List (List Int)} (h : KG L) (hp : M.Perm L) : KG M := fun ks hk => h ks (hp.mem_iff.1 hk)
theorem KG.at {L : List (List Int)} (h : KG L) {i : Nat} {ks : List Int} (hi : L[i]? = some ks) : KeyL ks := h ks (List.mem_of_getElem? hi)
theorem stays_subK {P : Program} {w : World} {t : TypeId} {cx cy : Bool} {k : IntKind} {a b : Int} : Stays P (binS .sub t cx cy (.int k a) (.int k b)) (.int k (k.wrap (a - b))) w := fun w' _ => by simp [binS, eqGuard, binOp, Op.intArith]
theorem stays_addK {P : Program} {w : World} {t : TypeId} {cx cy : Bool} {k : IntKind} {a b : Int} : Stays P (binS .add t cx cy (.int k a) (.int k b)) (.int k (k.wrap (a + b))) w := fun w' _ => by simp [binS, eqGuard, binOp, Op.intArith]
/-- a key is read out of a row -/
theorem get_kr {w : World} {g : Nat} {v : Value} {L : List (List Int)} {i : Nat} {y : Int} {ks : List Int} {K : Value → Prop} (hy : y = (i : Int)) (h : KR w g v L) (hi : L[i]? = some ks) :
    RunQ prog (Instr.indexAt T.t_sl_tuples_key v (.int .i64 y)) w (fun p => RunQ prog (Instr.loadAt T.t_tuples_key p) w K) = K (keyV ks) := by
  have hl : ks.length = 6 := by have := h.2 ks (List.mem_of_getElem? hi); simpa using this
  rw [idx_rm hy T.t_sl_tuples_key.u T.t_tuples_key.i h (List.getElem?_eq_some_iff.1 hi).1, load_key hl (h.range hi)]
/-- a key is written into a row -/
theorem put_kr {w : World} {g : Nat} {v : Value} {L : List (List Int)} {i : Nat} {y : Int} {ks : List Int} {K : Unit → World → Prop} (hy : y = (i : Int)) (h : KR w g v L) (hi : i < L.length) (hk : ks.length = 6)
    (hK : ∀ w', Chg (fun r => leadsTo v r) w w' → KR w' g v (L.set i ks) → K () w') : RunQ prog (Instr.indexAt T.t_sl_tuples_key v (.int .i64 y)) w fun p => RunC prog (Instr.storeAt T.t_tuples_key p (keyV ks)) w K := by
  rw [idx_rm hy T.t_sl_tuples_key.u T.t_tuples_key.i h hi]
  exact store_rm (f := ints .i8) T.t_tuples_key.i h (by simp [hk]) ints_one hi fun w' hc _ h' => hK w' hc h'
abbrev cmpF : Value := .func (.func F.P_tuples_Tuples_Lines_c1) #[] #[]
/-- two keys are compared -/
theorem less_kr {w : World} {a b : List Int} {K : Value → World → Prop} (ha : KeyL a) (hb : KeyL b) (hK : ∀ r w', Ext w w' → (r < 0 ↔ numK a < numK b) → K (.int .i64 r) w') : CalV prog false cmpF [keyV a, keyV b] w K := by
  show Cal prog F.P_tuples_Tuples_Lines_c1 [keyV a, keyV b] w K
  refine (kLess ha hb).mono ?_
  rintro _ w' _ ⟨hx, r, rfl, hr⟩
  exact hK r w' hx hr

set_option maxHeartbeats 800000 in
theorem kInsSort {w : World} {g a b : Nat} {v : Value} {L : List (List Int)} (h : KR w g v L) (hG : KG L) (hab : a ≤ b) (hb : b ≤ L.length) (hL : L.length ≤ 1000000) :
    Cal prog F.slices_insertionSortCmpFunc_pennyweight_tuples_key [v, .int .i64 (a : Int), .int .i64 (b : Int), cmpF] w fun _ w' => Chg (fun r => leadsTo v r) w w' ∧ ∃ M, SwapR a b L M ∧ UpR numK M a b ∧ KR w' g v M := by
  apply slices_insertionSortCmpFunc_pennyweight_tuples_key.enter
  unfold slices_insertionSortCmpFunc_pennyweight_tuples_key.body
  rw [binS_add, wrap_i64 (by omega) (by omega)]
  refine ⟨fun t w1 => ∃ (i : Nat) (M : List (List Int)), t = .int .i64 (i : Int) ∧ a + 1 ≤ i ∧ (i ≤ b ∨ i = a + 1) ∧ SwapR a b L M ∧ UpR numK M a i ∧ Chg (fun r => leadsTo v r) w w1 ∧ KR w1 g v M, fun t _ => b + 1 - (ival t).toNat,
    ⟨a + 1, L, by congr 1, by omega, .inr rfl, .refl, fun p q x y h1 h2 h3 => by omega, Chg.refl _ _, h⟩, ?_⟩
  rintro _ w1 ⟨i, M, rfl, hi1, hil, hsw, hup, hc1, hm⟩
  have hml := hsw.len
  simp only [binS_lss, split_dec]
  refine ⟨fun hlt => ?_, fun hge => ?_⟩
  · have hlt : i < b := by omega
    refine ⟨fun t w2 => ∃ (j : Nat) (M : List (List Int)), t = .int .i64 (j : Int) ∧ a ≤ j ∧ j ≤ i ∧ SwapR a b L M ∧ BarR numK M a i j ∧ Chg (fun r => leadsTo v r) w w2 ∧ KR w2 g v M, fun t _ => (ival t).toNat, ⟨i, M, rfl, by omega, Nat.le_refl _, hsw, upR_bar hup, hc1, hm⟩, ?_⟩
    rintro _ w2 ⟨j, M, rfl, haj, hji, hsw, hbar, hc2, hm⟩
    have hml := hsw.len
    have hMG := hG.perm hsw.perm
    refine join1 (fun c w3 => Ext w2 w3 ∧ ∃ c', c = .bool c' ∧ (c' = true → a < j ∧ ∃ x y, M[j - 1]? = some x ∧ M[j]? = some y ∧ numK y < numK x) ∧ (c' = false → j = a ∨ a < j ∧ ∃ x y, M[j - 1]? = some x ∧ M[j]? = some y ∧ numK x ≤ numK y)) ?_ ?_
    · rintro _ w3 ⟨hx3, c, rfl, hct, hcf⟩
      rw [split_bool]
      refine ⟨fun h => ?_, fun h => ?_⟩
      · obtain ⟨h0, x, y, hx, hy, hxy⟩ := hct h
        intro w4 hx4 _ _
        have hm4 := (hm.ext hx3).ext hx4
        have e : IntKind.i64.wrap ((j : Int) - 1) = ((j - 1 : Nat) : Int) := by rw [wrap_i64 (by omega) (by omega)]; omega
        simp only [binS_sub, e]
        rw [get_kr rfl hm4 hx, get_kr rfl hm4 hy]
        refine put_kr rfl hm4 (by omega) (hMG.at hx).1 fun w5 hc5 hm5 => ⟨.inr ⟨by have := stays_subK (P := prog) (w := w5) (t := T.t_int) (cx := false) (cy := true) (k := .i64) (a := (j : Int)) (b := 1); rwa [e] at this, trivial⟩, ?_⟩
        refine put_kr rfl hm5 (by simp; omega) (hMG.at hy).1 fun w6 hc6 hm6 => ?_
        refine ⟨⟨j - 1, _, rfl, by omega, by omega, hsw.step (by omega) (by omega) (by omega) (by omega) hy hx, barR_swap hbar h0 hji hx hy hxy, ((hc2.trans ((hx3.trans hx4).chg _)).trans hc5).trans hc6, hm6⟩, ?_⟩
        simp only [ival]; omega
      · simp only [binS_add]
        rw [wrap_i64 (by omega) (by omega)]
        refine ⟨⟨i + 1, M, rfl, by omega, .inl (by omega), hsw, ?_, hc2.trans (hx3.chg _), hm.ext hx3⟩, ?_⟩
        · rcases hcf h with rfl | ⟨h0, x, y, hx, hy, hxy⟩
          · exact barR_low hbar
          · exact barR_stop hbar h0 hx hy hxy
        · simp only [ival]; omega
    · intro J hJ w7 hx7 _ _
      have hm7 := hm.ext hx7
      simp only [binS_gtr, split_dec]
      refine ⟨fun h0 => ?_, fun h0 => hJ _ _ ⟨hx7, false, rfl, (fun h => by cases h), fun _ => .inl (by omega)⟩⟩
      have e : IntKind.i64.wrap ((j : Int) - 1) = ((j - 1 : Nat) : Int) := by rw [wrap_i64 (by omega) (by omega)]; omega
      obtain ⟨y, hy⟩ : ∃ y, M[j]? = some y := ⟨_, List.getElem?_eq_getElem (by omega)⟩
      obtain ⟨x, hx⟩ : ∃ x, M[j - 1]? = some x := ⟨_, List.getElem?_eq_getElem (by omega)⟩
      rw [get_kr rfl hm7 hy]
      simp only [binS_sub, e]
      rw [get_kr rfl hm7 hx]
      refine less_kr (hMG.at hy) (hMG.at hx) fun r w8 hx8 hr => ?_
      rw [binS_lss]
      refine hJ _ _ ⟨hx7.trans hx8, _, rfl, fun h => ⟨by omega, x, y, hx, hy, hr.1 (by simpa using h)⟩, fun h => .inr ⟨by omega, x, y, hx, hy, ?_⟩⟩
      have h1 : ¬ r < 0 := by simpa using h
      have := mt hr.2 h1
      omega
  · exact ⟨hc1, M, hsw, fun p q x y h1 h2 h3 h4 h5 => hup p q x y h1 h2 (by omega) h4 h5, hm⟩
end Go.Proofs.Ytahhkeljejfgfaa

