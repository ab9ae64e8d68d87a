/- Keys sorted: a range cut in two. -/
import Derived.Test.YtahhkeljejfgfaaU8
namespace Go.Proofs.Ytahhkeljejfgfaa
open Go Go.Vc Go.RowKit Go.Proofs Go.Proofs.Try
set_option maxRecDepth 100000

theorem scanUpP {w : World} {g a i j : Nat} {v : Value} {M : List (List Int)} {p : List Int} {C : Value → World → Prop} (hm : KR w g v M) (hMG : KG M) (hlen : M.length ≤ 1000000) (ha : M[a]? = some p) (hij : i ≤ j + 1) (hj : j < M.length)
    (hC : ∀ (n : Nat) (w1 : World), Ext w w1 → i ≤ n → n ≤ j + 1 → (∀ (r : Nat) (x : List Int), i ≤ r → r < n → M[r]? = some x → numK x < numK p) → (n ≤ j → ∀ x, M[n]? = some x → numK p ≤ numK x) → C (.int .i64 (n : Int)) w1) :
    Loop1 (.int .i64 (i : Int)) w fun iV w4 k =>
      JoinC (α := Value → World → Prop) (fun (t47 : Value) (w5 : World) => Split t47 (RunQ prog (binS .add T.t_int false true iV (.int .i64 1)) w5 fun t49 => k t49 w5) (C iV w5)) fun J =>
      Drew w4 fun w31 => RunQ prog (binS .leq T.t_int false false iV (.int .i64 (j : Int))) w31 fun t34 =>
      Split t34 (RunQ prog (Instr.indexAt T.t_sl_tuples_key v iV) w31 fun p1 => RunQ prog (Instr.loadAt T.t_tuples_key p1) w31 fun t40 => RunQ prog (Instr.indexAt T.t_sl_tuples_key v (.int .i64 (a : Int))) w31 fun p1 => RunQ prog (Instr.loadAt T.t_tuples_key p1) w31 fun t44 => CalV prog false cmpF [t40, t44] w31 fun t45 w32 => RunQ prog (binS .lss T.t_int false true t45 (.int .i64 0)) w32 fun t46 => J t46 w32) (J (.bool false) w31) := by
  refine ⟨fun t w1 => ∃ n : Nat, t = .int .i64 (n : Int) ∧ Ext w w1 ∧ i ≤ n ∧ n ≤ j + 1 ∧ ∀ (r : Nat) (x : List Int), i ≤ r → r < n → M[r]? = some x → numK x < numK p, fun t _ => j + 2 - (ival t).toNat, ⟨i, rfl, Ext.refl _, Nat.le_refl _, hij, fun r x h1 h2 => by omega⟩, ?_⟩
  rintro _ w1 ⟨n, rfl, hx1, hn1, hn2, hall⟩
  refine join1 (fun t w5 => Ext w1 w5 ∧ ∃ c, t = .bool c ∧ (c = true → n ≤ j ∧ ∃ y, M[n]? = some y ∧ numK y < numK p) ∧ (c = false → ¬ n ≤ j ∨ ∃ y, M[n]? = some y ∧ numK p ≤ numK y)) ?_ ?_
  · rintro _ w5 ⟨hx5, c, rfl, hct, hcf⟩
    rw [split_bool]
    refine ⟨fun h => ?_, fun h => ?_⟩
    · obtain ⟨hle, y, hy, hR⟩ := hct h
      simp only [binS_add]
      rw [wrap_i64 (by omega) (by omega)]
      refine ⟨⟨n + 1, by congr 1, hx1.trans hx5, by omega, by have := hle; omega, fun r x h1 h2 hx => ?_⟩, ?_⟩
      · by_cases hr : r = n
        · subst hr; rw [hy] at hx; cases hx; exact hR
        · exact hall r x h1 (by omega) hx
      · simp only [ival]; omega
    · refine hC n w5 (hx1.trans hx5) hn1 hn2 hall fun hle x hx => ?_
      rcases hcf h with h2 | ⟨y, hy, h2⟩
      · exact absurd hle h2
      · rw [hy] at hx; cases hx; exact h2
  · intro J hJ w6 hx6 _ _
    have hm6 := (hm.ext hx1).ext hx6
    simp only [binS_leq, split_dec]
    refine ⟨fun hle => ?_, fun hgt => hJ _ _ ⟨hx6, false, rfl, (fun h => by cases h), fun _ => .inl (by omega)⟩⟩
    · obtain ⟨y, hy⟩ : ∃ y, M[n]? = some y := ⟨_, List.getElem?_eq_getElem (by omega)⟩
      rw [get_kr rfl hm6 hy, get_kr rfl hm6 ha]
      refine less_kr (hMG.at hy) (hMG.at ha) fun q w7 hx7 hq => ?_
      rw [binS_lss]
      refine hJ _ _ ⟨hx6.trans hx7, _, rfl, fun h => ⟨by omega, y, hy, ?_⟩, fun h => .inr ⟨y, hy, ?_⟩⟩
      · have h1 : q < 0 := by simpa using h
        have := hq.1 h1
        omega
      · have h1 : ¬ q < 0 := by simpa using h
        have := mt hq.2 h1
        omega

theorem scanDownP {w : World} {g a i j : Nat} {v : Value} {M : List (List Int)} {p : List Int} {C : Value → World → Prop} (hm : KR w g v M) (hMG : KG M) (hlen : M.length ≤ 1000000) (ha : M[a]? = some p) (hij : i ≤ j + 1) (hj : j < M.length) (hi : 0 < i)
    (hC : ∀ (n : Nat) (w1 : World), Ext w w1 → i ≤ n + 1 → n ≤ j → (∀ (r : Nat) (x : List Int), n < r → r ≤ j → M[r]? = some x → numK p ≤ numK x) → (i ≤ n → ∀ x, M[n]? = some x → numK x < numK p) → C (.int .i64 (n : Int)) w1) :
    Loop1 (.int .i64 (j : Int)) w fun iV w4 k =>
      JoinC (α := Value → World → Prop) (fun (t47 : Value) (w5 : World) => Split t47 (RunQ prog (binS .sub T.t_int false true iV (.int .i64 1)) w5 fun t49 => k t49 w5) (C iV w5)) fun J =>
      Drew w4 fun w31 => RunQ prog (binS .leq T.t_int false false (.int .i64 (i : Int)) iV) w31 fun t34 =>
      Split t34 (RunQ prog (Instr.indexAt T.t_sl_tuples_key v iV) w31 fun p1 => RunQ prog (Instr.loadAt T.t_tuples_key p1) w31 fun t40 => RunQ prog (Instr.indexAt T.t_sl_tuples_key v (.int .i64 (a : Int))) w31 fun p1 => RunQ prog (Instr.loadAt T.t_tuples_key p1) w31 fun t44 => CalV prog false cmpF [t40, t44] w31 fun t45 w32 => RunQ prog (binS .lss T.t_int false true t45 (.int .i64 0)) w32 fun t46 => RunQ prog (Op.unary .not t46) w32 fun t47 => J t47 w32) (J (.bool false) w31) := by
  refine ⟨fun t w1 => ∃ n : Nat, t = .int .i64 (n : Int) ∧ Ext w w1 ∧ i ≤ n + 1 ∧ n ≤ j ∧ ∀ (r : Nat) (x : List Int), n < r → r ≤ j → M[r]? = some x → numK p ≤ numK x, fun t _ => (ival t).toNat, ⟨j, rfl, Ext.refl _, hij, Nat.le_refl _, fun r x h1 h2 => by omega⟩, ?_⟩
  rintro _ w1 ⟨n, rfl, hx1, hn1, hn2, hall⟩
  refine join1 (fun t w5 => Ext w1 w5 ∧ ∃ c, t = .bool c ∧ (c = true → i ≤ n ∧ ∃ y, M[n]? = some y ∧ numK p ≤ numK y) ∧ (c = false → ¬ i ≤ n ∨ ∃ y, M[n]? = some y ∧ numK y < numK p)) ?_ ?_
  · rintro _ w5 ⟨hx5, c, rfl, hct, hcf⟩
    rw [split_bool]
    refine ⟨fun h => ?_, fun h => ?_⟩
    · obtain ⟨hle, y, hy, hR⟩ := hct h
      simp only [binS_sub]
      rw [wrap_i64 (by omega) (by omega)]
      refine ⟨⟨n - 1, by congr 1; omega, hx1.trans hx5, by have := hle; omega, by omega, fun r x h1 h2 hx => ?_⟩, ?_⟩
      · by_cases hr : r = n
        · subst hr; rw [hy] at hx; cases hx; exact hR
        · exact hall r x (by omega) h2 hx
      · simp only [ival]; have := hle; omega
    · refine hC n w5 (hx1.trans hx5) hn1 hn2 hall fun hle x hx => ?_
      rcases hcf h with h2 | ⟨y, hy, h2⟩
      · exact absurd hle h2
      · rw [hy] at hx; cases hx; exact h2
  · intro J hJ w6 hx6 _ _
    have hm6 := (hm.ext hx1).ext hx6
    simp only [binS_leq, split_dec]
    refine ⟨fun hle => ?_, fun hgt => hJ _ _ ⟨hx6, false, rfl, (fun h => by cases h), fun _ => .inl (by omega)⟩⟩
    · obtain ⟨y, hy⟩ : ∃ y, M[n]? = some y := ⟨_, List.getElem?_eq_getElem (by omega)⟩
      rw [get_kr rfl hm6 hy, get_kr rfl hm6 ha]
      refine less_kr (hMG.at hy) (hMG.at ha) fun q w7 hx7 hq => ?_
      simp only [binS_lss, un_not]
      refine hJ _ _ ⟨hx6.trans hx7, _, rfl, fun h => ⟨by omega, y, hy, ?_⟩, fun h => .inr ⟨y, hy, ?_⟩⟩
      · have h1 : ¬ q < 0 := by simpa using h
        have := mt hq.2 h1
        omega
      · have h1 : q < 0 := by simpa using h
        have := hq.1 h1
        omega

theorem scanUpE {w : World} {g a i j : Nat} {v : Value} {M : List (List Int)} {p : List Int} {C : Value → World → Prop} (hm : KR w g v M) (hMG : KG M) (hlen : M.length ≤ 1000000) (ha : M[a]? = some p) (hij : i ≤ j + 1) (hj : j < M.length)
    (hC : ∀ (n : Nat) (w1 : World), Ext w w1 → i ≤ n → n ≤ j + 1 → (∀ (r : Nat) (x : List Int), i ≤ r → r < n → M[r]? = some x → numK x ≤ numK p) → (n ≤ j → ∀ x, M[n]? = some x → numK p < numK x) → C (.int .i64 (n : Int)) w1) :
    Loop1 (.int .i64 (i : Int)) w fun iV w4 k =>
      JoinC (α := Value → World → Prop) (fun (t47 : Value) (w5 : World) => Split t47 (RunQ prog (binS .add T.t_int false true iV (.int .i64 1)) w5 fun t49 => k t49 w5) (C iV w5)) fun J =>
      Drew w4 fun w31 => RunQ prog (binS .leq T.t_int false false iV (.int .i64 (j : Int))) w31 fun t34 =>
      Split t34 (RunQ prog (Instr.indexAt T.t_sl_tuples_key v (.int .i64 (a : Int))) w31 fun p1 => RunQ prog (Instr.loadAt T.t_tuples_key p1) w31 fun t40 => RunQ prog (Instr.indexAt T.t_sl_tuples_key v iV) w31 fun p1 => RunQ prog (Instr.loadAt T.t_tuples_key p1) w31 fun t44 => CalV prog false cmpF [t40, t44] w31 fun t45 w32 => RunQ prog (binS .lss T.t_int false true t45 (.int .i64 0)) w32 fun t46 => RunQ prog (Op.unary .not t46) w32 fun t47 => J t47 w32) (J (.bool false) w31) := by
  refine ⟨fun t w1 => ∃ n : Nat, t = .int .i64 (n : Int) ∧ Ext w w1 ∧ i ≤ n ∧ n ≤ j + 1 ∧ ∀ (r : Nat) (x : List Int), i ≤ r → r < n → M[r]? = some x → numK x ≤ numK p, fun t _ => j + 2 - (ival t).toNat, ⟨i, rfl, Ext.refl _, Nat.le_refl _, hij, fun r x h1 h2 => by omega⟩, ?_⟩
  rintro _ w1 ⟨n, rfl, hx1, hn1, hn2, hall⟩
  refine join1 (fun t w5 => Ext w1 w5 ∧ ∃ c, t = .bool c ∧ (c = true → n ≤ j ∧ ∃ y, M[n]? = some y ∧ numK y ≤ numK p) ∧ (c = false → ¬ n ≤ j ∨ ∃ y, M[n]? = some y ∧ numK p < numK y)) ?_ ?_
  · rintro _ w5 ⟨hx5, c, rfl, hct, hcf⟩
    rw [split_bool]
    refine ⟨fun h => ?_, fun h => ?_⟩
    · obtain ⟨hle, y, hy, hR⟩ := hct h
      simp only [binS_add]
      rw [wrap_i64 (by omega) (by omega)]
      refine ⟨⟨n + 1, by congr 1, hx1.trans hx5, by omega, by have := hle; omega, fun r x h1 h2 hx => ?_⟩, ?_⟩
      · by_cases hr : r = n
        · subst hr; rw [hy] at hx; cases hx; exact hR
        · exact hall r x h1 (by omega) hx
      · simp only [ival]; omega
    · refine hC n w5 (hx1.trans hx5) hn1 hn2 hall fun hle x hx => ?_
      rcases hcf h with h2 | ⟨y, hy, h2⟩
      · exact absurd hle h2
      · rw [hy] at hx; cases hx; exact h2
  · intro J hJ w6 hx6 _ _
    have hm6 := (hm.ext hx1).ext hx6
    simp only [binS_leq, split_dec]
    refine ⟨fun hle => ?_, fun hgt => hJ _ _ ⟨hx6, false, rfl, (fun h => by cases h), fun _ => .inl (by omega)⟩⟩
    · obtain ⟨y, hy⟩ : ∃ y, M[n]? = some y := ⟨_, List.getElem?_eq_getElem (by omega)⟩
      rw [get_kr rfl hm6 ha, get_kr rfl hm6 hy]
      refine less_kr (hMG.at ha) (hMG.at hy) fun q w7 hx7 hq => ?_
      simp only [binS_lss, un_not]
      refine hJ _ _ ⟨hx6.trans hx7, _, rfl, fun h => ⟨by omega, y, hy, ?_⟩, fun h => .inr ⟨y, hy, ?_⟩⟩
      · have h1 : ¬ q < 0 := by simpa using h
        have := mt hq.2 h1
        omega
      · have h1 : q < 0 := by simpa using h
        have := hq.1 h1
        omega

theorem scanDownE {w : World} {g a i j : Nat} {v : Value} {M : List (List Int)} {p : List Int} {C : Value → World → Prop} (hm : KR w g v M) (hMG : KG M) (hlen : M.length ≤ 1000000) (ha : M[a]? = some p) (hij : i ≤ j + 1) (hj : j < M.length) (hi : 0 < i)
    (hC : ∀ (n : Nat) (w1 : World), Ext w w1 → i ≤ n + 1 → n ≤ j → (∀ (r : Nat) (x : List Int), n < r → r ≤ j → M[r]? = some x → numK p < numK x) → (i ≤ n → ∀ x, M[n]? = some x → numK x ≤ numK p) → C (.int .i64 (n : Int)) w1) :
    Loop1 (.int .i64 (j : Int)) w fun iV w4 k =>
      JoinC (α := Value → World → Prop) (fun (t47 : Value) (w5 : World) => Split t47 (RunQ prog (binS .sub T.t_int false true iV (.int .i64 1)) w5 fun t49 => k t49 w5) (C iV w5)) fun J =>
      Drew w4 fun w31 => RunQ prog (binS .leq T.t_int false false (.int .i64 (i : Int)) iV) w31 fun t34 =>
      Split t34 (RunQ prog (Instr.indexAt T.t_sl_tuples_key v (.int .i64 (a : Int))) w31 fun p1 => RunQ prog (Instr.loadAt T.t_tuples_key p1) w31 fun t40 => RunQ prog (Instr.indexAt T.t_sl_tuples_key v iV) w31 fun p1 => RunQ prog (Instr.loadAt T.t_tuples_key p1) w31 fun t44 => CalV prog false cmpF [t40, t44] w31 fun t45 w32 => RunQ prog (binS .lss T.t_int false true t45 (.int .i64 0)) w32 fun t46 => J t46 w32) (J (.bool false) w31) := by
  refine ⟨fun t w1 => ∃ n : Nat, t = .int .i64 (n : Int) ∧ Ext w w1 ∧ i ≤ n + 1 ∧ n ≤ j ∧ ∀ (r : Nat) (x : List Int), n < r → r ≤ j → M[r]? = some x → numK p < numK x, fun t _ => (ival t).toNat, ⟨j, rfl, Ext.refl _, hij, Nat.le_refl _, fun r x h1 h2 => by omega⟩, ?_⟩
  rintro _ w1 ⟨n, rfl, hx1, hn1, hn2, hall⟩
  refine join1 (fun t w5 => Ext w1 w5 ∧ ∃ c, t = .bool c ∧ (c = true → i ≤ n ∧ ∃ y, M[n]? = some y ∧ numK p < numK y) ∧ (c = false → ¬ i ≤ n ∨ ∃ y, M[n]? = some y ∧ numK y ≤ numK p)) ?_ ?_
  · rintro _ w5 ⟨hx5, c, rfl, hct, hcf⟩
    rw [split_bool]
    refine ⟨fun h => ?_, fun h => ?_⟩
    · obtain ⟨hle, y, hy, hR⟩ := hct h
      simp only [binS_sub]
      rw [wrap_i64 (by omega) (by omega)]
      refine ⟨⟨n - 1, by congr 1; omega, hx1.trans hx5, by have := hle; omega, by omega, fun r x h1 h2 hx => ?_⟩, ?_⟩
      · by_cases hr : r = n
        · subst hr; rw [hy] at hx; cases hx; exact hR
        · exact hall r x (by omega) h2 hx
      · simp only [ival]; have := hle; omega
    · refine hC n w5 (hx1.trans hx5) hn1 hn2 hall fun hle x hx => ?_
      rcases hcf h with h2 | ⟨y, hy, h2⟩
      · exact absurd hle h2
      · rw [hy] at hx; cases hx; exact h2
  · intro J hJ w6 hx6 _ _
    have hm6 := (hm.ext hx1).ext hx6
    simp only [binS_leq, split_dec]
    refine ⟨fun hle => ?_, fun hgt => hJ _ _ ⟨hx6, false, rfl, (fun h => by cases h), fun _ => .inl (by omega)⟩⟩
    · obtain ⟨y, hy⟩ : ∃ y, M[n]? = some y := ⟨_, List.getElem?_eq_getElem (by omega)⟩
      rw [get_kr rfl hm6 ha, get_kr rfl hm6 hy]
      refine less_kr (hMG.at ha) (hMG.at hy) fun q w7 hx7 hq => ?_
      rw [binS_lss]
      refine hJ _ _ ⟨hx6.trans hx7, _, rfl, fun h => ⟨by omega, y, hy, ?_⟩, fun h => .inr ⟨y, hy, ?_⟩⟩
      · have h1 : q < 0 := by simpa using h
        have := hq.1 h1
        omega
      · have h1 : ¬ q < 0 := by simpa using h
        have := mt hq.2 h1
        omega

end Go.Proofs.Ytahhkeljejfgfaa

