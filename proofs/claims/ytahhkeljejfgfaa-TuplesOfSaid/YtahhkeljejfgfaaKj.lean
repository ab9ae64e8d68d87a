/- Lemma kit, part j: loops that count; numbers as lists of one's own. -/
import Derived.Test.YtahhkeljejfgfaaKi
namespace Go.Vc
open Go Go.RowKit

/-! ### a loop that counts from 0 up to n; the counter stands last -/
theorem Loop1.range  {w : World} {B : Value → World → (Value → World → Prop) → Prop} (n : Nat) (I : Nat → World → Prop)
    (hn : n ≤ 9223372036854775807) (h0 : I 0  w)
    (hlt : ∀ (i : Nat) (w : World) (k : Value → World → Prop), i < n → I i  w → (∀ w', I (i + 1)  w' → k  (.int .i64 (IntKind.i64.wrap ((i : Int) + 1))) w') → B  (.int .i64 (i : Int)) w k)
    (hge : ∀ (w : World) (k : Value → World → Prop), I n  w → B  (.int .i64 (n : Int)) w k) : Loop1  (.int .i64 0) w B := by
  refine ⟨fun t w => ∃ i : Nat, t = .int .i64 (i : Int) ∧ i ≤ n ∧ I i  w, fun  t _ => n - (ival t).toNat, ⟨0, rfl, Nat.zero_le _, h0⟩, ?_⟩
  rintro _ w ⟨i, rfl, hi, h⟩
  by_cases hl : i < n
  · refine hlt i  w _ hl h fun  w' h' => ⟨⟨i + 1, ?_, hl, h'⟩, ?_⟩
    · rw [wrap_i64 (by omega) (by omega)]; rfl
    · rw [wrap_i64 (by omega) (by omega)]; simp only [ival]; omega
  · have : i = n := by omega
    subst this
    exact hge  w _ h
theorem Loop2.range {a : Value} {w : World} {B : Value → Value → World → (Value → Value → World → Prop) → Prop} (n : Nat) (I : Nat → Value → World → Prop)
    (hn : n ≤ 9223372036854775807) (h0 : I 0 a w)
    (hlt : ∀ (i : Nat) (a : Value) (w : World) (k : Value → Value → World → Prop), i < n → I i a w → (∀ a' w', I (i + 1) a' w' → k a' (.int .i64 (IntKind.i64.wrap ((i : Int) + 1))) w') → B a (.int .i64 (i : Int)) w k)
    (hge : ∀ (a : Value) (w : World) (k : Value → Value → World → Prop), I n a w → B a (.int .i64 (n : Int)) w k) : Loop2 a (.int .i64 0) w B := by
  refine ⟨fun a t w => ∃ i : Nat, t = .int .i64 (i : Int) ∧ i ≤ n ∧ I i a w, fun a t _ => n - (ival t).toNat, ⟨0, rfl, Nat.zero_le _, h0⟩, ?_⟩
  rintro a _ w ⟨i, rfl, hi, h⟩
  by_cases hl : i < n
  · refine hlt i a w _ hl h fun a' w' h' => ⟨⟨i + 1, ?_, hl, h'⟩, ?_⟩
    · rw [wrap_i64 (by omega) (by omega)]; rfl
    · rw [wrap_i64 (by omega) (by omega)]; simp only [ival]; omega
  · have : i = n := by omega
    subst this
    exact hge a w _ h
theorem Loop3.range {a b : Value} {w : World} {B : Value → Value → Value → World → (Value → Value → Value → World → Prop) → Prop} (n : Nat) (I : Nat → Value → Value → World → Prop)
    (hn : n ≤ 9223372036854775807) (h0 : I 0 a b w)
    (hlt : ∀ (i : Nat) (a b : Value) (w : World) (k : Value → Value → Value → World → Prop), i < n → I i a b w → (∀ a' b' w', I (i + 1) a' b' w' → k a' b' (.int .i64 (IntKind.i64.wrap ((i : Int) + 1))) w') → B a b (.int .i64 (i : Int)) w k)
    (hge : ∀ (a b : Value) (w : World) (k : Value → Value → Value → World → Prop), I n a b w → B a b (.int .i64 (n : Int)) w k) : Loop3 a b (.int .i64 0) w B := by
  refine ⟨fun a b t w => ∃ i : Nat, t = .int .i64 (i : Int) ∧ i ≤ n ∧ I i a b w, fun a b t _ => n - (ival t).toNat, ⟨0, rfl, Nat.zero_le _, h0⟩, ?_⟩
  rintro a b _ w ⟨i, rfl, hi, h⟩
  by_cases hl : i < n
  · refine hlt i a b w _ hl h fun a' b' w' h' => ⟨⟨i + 1, ?_, hl, h'⟩, ?_⟩
    · rw [wrap_i64 (by omega) (by omega)]; rfl
    · rw [wrap_i64 (by omega) (by omega)]; simp only [ival]; omega
  · have : i = n := by omega
    subst this
    exact hge a b w _ h
theorem Loop4.range {a b c : Value} {w : World} {B : Value → Value → Value → Value → World → (Value → Value → Value → Value → World → Prop) → Prop} (n : Nat) (I : Nat → Value → Value → Value → World → Prop)
    (hn : n ≤ 9223372036854775807) (h0 : I 0 a b c w)
    (hlt : ∀ (i : Nat) (a b c : Value) (w : World) (k : Value → Value → Value → Value → World → Prop), i < n → I i a b c w → (∀ a' b' c' w', I (i + 1) a' b' c' w' → k a' b' c' (.int .i64 (IntKind.i64.wrap ((i : Int) + 1))) w') → B a b c (.int .i64 (i : Int)) w k)
    (hge : ∀ (a b c : Value) (w : World) (k : Value → Value → Value → Value → World → Prop), I n a b c w → B a b c (.int .i64 (n : Int)) w k) : Loop4 a b c (.int .i64 0) w B := by
  refine ⟨fun a b c t w => ∃ i : Nat, t = .int .i64 (i : Int) ∧ i ≤ n ∧ I i a b c w, fun a b c t _ => n - (ival t).toNat, ⟨0, rfl, Nat.zero_le _, h0⟩, ?_⟩
  rintro a b c _ w ⟨i, rfl, hi, h⟩
  by_cases hl : i < n
  · refine hlt i a b c w _ hl h fun a' b' c' w' h' => ⟨⟨i + 1, ?_, hl, h'⟩, ?_⟩
    · rw [wrap_i64 (by omega) (by omega)]; rfl
    · rw [wrap_i64 (by omega) (by omega)]; simp only [ival]; omega
  · have : i = n := by omega
    subst this
    exact hge a b c w _ h
theorem Loop5.range {a b c d : Value} {w : World} {B : Value → Value → Value → Value → Value → World → (Value → Value → Value → Value → Value → World → Prop) → Prop} (n : Nat) (I : Nat → Value → Value → Value → Value → World → Prop)
    (hn : n ≤ 9223372036854775807) (h0 : I 0 a b c d w)
    (hlt : ∀ (i : Nat) (a b c d : Value) (w : World) (k : Value → Value → Value → Value → Value → World → Prop), i < n → I i a b c d w → (∀ a' b' c' d' w', I (i + 1) a' b' c' d' w' → k a' b' c' d' (.int .i64 (IntKind.i64.wrap ((i : Int) + 1))) w') → B a b c d (.int .i64 (i : Int)) w k)
    (hge : ∀ (a b c d : Value) (w : World) (k : Value → Value → Value → Value → Value → World → Prop), I n a b c d w → B a b c d (.int .i64 (n : Int)) w k) : Loop5 a b c d (.int .i64 0) w B := by
  refine ⟨fun a b c d t w => ∃ i : Nat, t = .int .i64 (i : Int) ∧ i ≤ n ∧ I i a b c d w, fun a b c d t _ => n - (ival t).toNat, ⟨0, rfl, Nat.zero_le _, h0⟩, ?_⟩
  rintro a b c d _ w ⟨i, rfl, hi, h⟩
  by_cases hl : i < n
  · refine hlt i a b c d w _ hl h fun a' b' c' d' w' h' => ⟨⟨i + 1, ?_, hl, h'⟩, ?_⟩
    · rw [wrap_i64 (by omega) (by omega)]; rfl
    · rw [wrap_i64 (by omega) (by omega)]; simp only [ival]; omega
  · have : i = n := by omega
    subst this
    exact hge a b c d w _ h
theorem Loop6.range {a b c d e : Value} {w : World} {B : Value → Value → Value → Value → Value → Value → World → (Value → Value → Value → Value → Value → Value → World → Prop) → Prop} (n : Nat) (I : Nat → Value → Value → Value → Value → Value → World → Prop)
    (hn : n ≤ 9223372036854775807) (h0 : I 0 a b c d e w)
    (hlt : ∀ (i : Nat) (a b c d e : Value) (w : World) (k : Value → Value → Value → Value → Value → Value → World → Prop), i < n → I i a b c d e w → (∀ a' b' c' d' e' w', I (i + 1) a' b' c' d' e' w' → k a' b' c' d' e' (.int .i64 (IntKind.i64.wrap ((i : Int) + 1))) w') → B a b c d e (.int .i64 (i : Int)) w k)
    (hge : ∀ (a b c d e : Value) (w : World) (k : Value → Value → Value → Value → Value → Value → World → Prop), I n a b c d e w → B a b c d e (.int .i64 (n : Int)) w k) : Loop6 a b c d e (.int .i64 0) w B := by
  refine ⟨fun a b c d e t w => ∃ i : Nat, t = .int .i64 (i : Int) ∧ i ≤ n ∧ I i a b c d e w, fun a b c d e t _ => n - (ival t).toNat, ⟨0, rfl, Nat.zero_le _, h0⟩, ?_⟩
  rintro a b c d e _ w ⟨i, rfl, hi, h⟩
  by_cases hl : i < n
  · refine hlt i a b c d e w _ hl h fun a' b' c' d' e' w' h' => ⟨⟨i + 1, ?_, hl, h'⟩, ?_⟩
    · rw [wrap_i64 (by omega) (by omega)]; rfl
    · rw [wrap_i64 (by omega) (by omega)]; simp only [ival]; omega
  · have : i = n := by omega
    subst this
    exact hge a b c d e w _ h
theorem Loop7.range {a b c d e f : Value} {w : World} {B : Value → Value → Value → Value → Value → Value → Value → World → (Value → Value → Value → Value → Value → Value → Value → World → Prop) → Prop} (n : Nat) (I : Nat → Value → Value → Value → Value → Value → Value → World → Prop)
    (hn : n ≤ 9223372036854775807) (h0 : I 0 a b c d e f w)
    (hlt : ∀ (i : Nat) (a b c d e f : Value) (w : World) (k : Value → Value → Value → Value → Value → Value → Value → World → Prop), i < n → I i a b c d e f w → (∀ a' b' c' d' e' f' w', I (i + 1) a' b' c' d' e' f' w' → k a' b' c' d' e' f' (.int .i64 (IntKind.i64.wrap ((i : Int) + 1))) w') → B a b c d e f (.int .i64 (i : Int)) w k)
    (hge : ∀ (a b c d e f : Value) (w : World) (k : Value → Value → Value → Value → Value → Value → Value → World → Prop), I n a b c d e f w → B a b c d e f (.int .i64 (n : Int)) w k) : Loop7 a b c d e f (.int .i64 0) w B := by
  refine ⟨fun a b c d e f t w => ∃ i : Nat, t = .int .i64 (i : Int) ∧ i ≤ n ∧ I i a b c d e f w, fun a b c d e f t _ => n - (ival t).toNat, ⟨0, rfl, Nat.zero_le _, h0⟩, ?_⟩
  rintro a b c d e f _ w ⟨i, rfl, hi, h⟩
  by_cases hl : i < n
  · refine hlt i a b c d e f w _ hl h fun a' b' c' d' e' f' w' h' => ⟨⟨i + 1, ?_, hl, h'⟩, ?_⟩
    · rw [wrap_i64 (by omega) (by omega)]; rfl
    · rw [wrap_i64 (by omega) (by omega)]; simp only [ival]; omega
  · have : i = n := by omega
    subst this
    exact hge a b c d e f w _ h
theorem Loop8.range {a b c d e f g : Value} {w : World} {B : Value → Value → Value → Value → Value → Value → Value → Value → World → (Value → Value → Value → Value → Value → Value → Value → Value → World → Prop) → Prop} (n : Nat) (I : Nat → Value → Value → Value → Value → Value → Value → Value → World → Prop)
    (hn : n ≤ 9223372036854775807) (h0 : I 0 a b c d e f g w)
    (hlt : ∀ (i : Nat) (a b c d e f g : Value) (w : World) (k : Value → Value → Value → Value → Value → Value → Value → Value → World → Prop), i < n → I i a b c d e f g w → (∀ a' b' c' d' e' f' g' w', I (i + 1) a' b' c' d' e' f' g' w' → k a' b' c' d' e' f' g' (.int .i64 (IntKind.i64.wrap ((i : Int) + 1))) w') → B a b c d e f g (.int .i64 (i : Int)) w k)
    (hge : ∀ (a b c d e f g : Value) (w : World) (k : Value → Value → Value → Value → Value → Value → Value → Value → World → Prop), I n a b c d e f g w → B a b c d e f g (.int .i64 (n : Int)) w k) : Loop8 a b c d e f g (.int .i64 0) w B := by
  refine ⟨fun a b c d e f g t w => ∃ i : Nat, t = .int .i64 (i : Int) ∧ i ≤ n ∧ I i a b c d e f g w, fun a b c d e f g t _ => n - (ival t).toNat, ⟨0, rfl, Nat.zero_le _, h0⟩, ?_⟩
  rintro a b c d e f g _ w ⟨i, rfl, hi, h⟩
  by_cases hl : i < n
  · refine hlt i a b c d e f g w _ hl h fun a' b' c' d' e' f' g' w' h' => ⟨⟨i + 1, ?_, hl, h'⟩, ?_⟩
    · rw [wrap_i64 (by omega) (by omega)]; rfl
    · rw [wrap_i64 (by omega) (by omega)]; simp only [ival]; omega
  · have : i = n := by omega
    subst this
    exact hge a b c d e f g w _ h

section
variable {P : Program} {w : World} {m : Bool} {S R : Bs}
/-- numbers as data -/
theorem flat_map_ints {k : IntKind} (l : List Int) : (l.map fun x => [Value.int k x]).flatten = ints k l := by
  induction l with
  | nil => rfl
  | cons x l ih => simp only [List.map_cons, List.flatten_cons, ih]; rfl
theorem lm_own {e : TypeId} {g : Nat} {v : Value} {l : List Int} (h : LM .i64 e w g v l) : Owns (fun r => r = g) R w [v] l := by
  have hf : (l.map fun x => [Value.int .i64 x]).flatten = ints .i64 l := flat_map_ints l
  refine ⟨v, rfl, l.map fun x => [.int .i64 x], g, fun _ _ => False, ⟨fun _ _ h => h.elim, fun _ _ h => h, fun _ _ _ _ _ h => h.elim⟩, ⟨by simp, fun i c a hc ha => ?_⟩, ?_, fun _ => ⟨.inr rfl, e, ?_⟩⟩
  · rw [List.getElem?_map, ha] at hc
    simp at hc; exact hc.symm
  · rw [hf]; exact mine_sls h (.inr (.inl rfl))
  · rw [hf]; exact h
/-- numbers of another kind, read -/
def Num.val {k : IntKind} (x : Num k) : Int := x
theorem num_cells {k : IntKind} {c : List Value} {a : Num k} (h : Dat.rep m S R w c a) : c = [.int k a.val] := h
theorem num_ls {k : IntKind} {v : Value} {l : List (Num k)} (h : Dat.rep m S R w [v] l) : LS k w v (l.map Num.val) := by
  obtain ⟨vs, g, F, _, he, hs, _⟩ := rep_list h
  have hf : vs = (l.map Num.val).map fun x => [Value.int k x] := by
    apply List.ext_getElem
    · simp [he.1]
    · intro i h1 h2
      have hl : i < l.length := by simpa using h2
      have := num_cells (he.2 i _ _ (List.getElem?_eq_getElem h1) (List.getElem?_eq_getElem hl))
      rw [List.getElem_map, List.getElem_map]; exact this
  have := hs.sl
  rw [hf, flat_map_ints] at this
  have hl : l.length = (l.map Num.val).length := by simp
  rw [hl] at this
  exact this
/-- one's own list of numbers, as a row -/
theorem own_lm {v : Value} {l : List Int} (h : Owns S R w [v] l) : ∃ g e, LM .i64 e w g v l ∧ (v = .slice none 0 0 ∨ S g) := by
  obtain ⟨vs, g, F, _, he, hs, hm⟩ := rep_list h
  obtain ⟨h1, e, h2⟩ := hm rfl
  rw [flat_ints he] at h2
  exact ⟨g, e, h2, h1⟩
end
end Go.Vc
