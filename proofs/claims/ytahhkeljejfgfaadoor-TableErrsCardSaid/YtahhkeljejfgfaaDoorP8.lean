/- Lists that rise, and a list in order without its doubles. -/
import Derived.WalkKit
namespace Go.Proofs.YtahhkeljejfgfaaDoor
open Go

/-- a list that rises from place to place -/
def Up (l : List Int) : Prop := ∀ (i j : Nat) (x y : Int), i < j → l[i]? = some x → l[j]? = some y → x < y
theorem Up.inj {l : List Int} (h : Up l) {i j : Nat} {x : Int} (hi : l[i]? = some x) (hj : l[j]? = some x) : i = j := by
  rcases Nat.lt_trichotomy i j with h1 | h1 | h1
  · have := h i j x x h1 hi hj; omega
  · exact h1
  · have := h j i x x h1 hj hi; omega

/-- the first j entries, without an entry that is its forerunner's like -/
def dedup (l : List Int) : Nat → List Int
  | 0 => []
  | j + 1 => if 0 < j ∧ l[j]? = l[j - 1]? then dedup l j else dedup l j ++ [l.getD j 0]
theorem dedup_len (l : List Int) : ∀ j, (dedup l j).length ≤ j
  | 0 => Nat.le_refl _
  | j + 1 => by
    have := dedup_len l j
    unfold dedup
    split
    · omega
    · simp; omega
theorem dedup_same {l : List Int} {j : Nat} (h0 : 0 < j) (h : l[j]? = l[j - 1]?) : dedup l (j + 1) = dedup l j := by
  rw [dedup, if_pos ⟨h0, h⟩]
theorem dedup_new {l : List Int} {j : Nat} {x : Int} (hx : l[j]? = some x) (h : 0 < j → l[j]? ≠ l[j - 1]?) : dedup l (j + 1) = dedup l j ++ [x] := by
  rw [dedup, if_neg (fun hc => h hc.1 hc.2), List.getD_eq_getElem?_getD, hx]; rfl
theorem dedup_all {l : List Int} : ∀ {j : Nat}, j ≤ l.length → (∀ i, i < j → 0 < i → l[i]? ≠ l[i - 1]?) → dedup l j = l.take j
  | 0, _, _ => by simp [dedup]
  | j + 1, hj, h => by
    have hx : l[j]? = some l[j] := List.getElem?_eq_getElem (by omega)
    rw [dedup_new hx (h j (by omega)), dedup_all (by omega) (fun i hi h0 => h i (by omega) h0), List.take_add_one, hx]; rfl
theorem dedup_facts {l : List Int} (hs : l.Pairwise (· ≤ ·)) : ∀ {j : Nat}, j ≤ l.length → (Up (dedup l j) ∧ ∀ x, x ∈ dedup l j ↔ x ∈ l.take j)
  | 0, _ => ⟨fun i j x y _ h => by simp [dedup] at h, fun x => by simp [dedup]⟩
  | j + 1, hj => by
    obtain ⟨h1, h2⟩ := dedup_facts hs (j := j) (by omega)
    have hx : l[j]? = some l[j] := List.getElem?_eq_getElem (by omega)
    by_cases hc : 0 < j ∧ l[j]? = l[j - 1]?
    · rw [dedup_same hc.1 hc.2]
      refine ⟨h1, fun x => ?_⟩
      rw [h2, List.take_add_one, hx]
      simp only [Option.toList_some, List.mem_append, List.mem_singleton]
      refine ⟨.inl, fun h => h.elim id fun he => ?_⟩
      subst he
      have h3 : (l.take j)[j - 1]? = some l[j] := by rw [List.getElem?_take_of_lt (by omega), ← hc.2, hx]
      exact List.mem_of_getElem? h3
    · have hn : 0 < j → l[j]? ≠ l[j - 1]? := fun h0 he => hc ⟨h0, he⟩
      rw [dedup_new hx hn]
      have hlt : ∀ x ∈ dedup l j, x < l[j] := fun x hxm => by
        obtain ⟨i, hi, he⟩ := List.getElem_of_mem ((h2 x).1 hxm)
        have hij : i < j := by rw [List.length_take] at hi; omega
        rw [List.getElem_take] at he
        subst he
        have h3 : l[i] ≤ l[j - 1] := by
          by_cases h4 : i = j - 1
          · subst h4; exact Int.le_refl _
          · exact List.pairwise_iff_getElem.1 hs i (j - 1) (by omega) (by omega) (by omega)
        have h4 := List.pairwise_iff_getElem.1 hs (j - 1) j (by omega) (by omega) (by omega)
        have h5 := hn (by omega)
        rw [hx, List.getElem?_eq_getElem (show j - 1 < l.length by omega)] at h5
        have h6 : l[j] ≠ l[j - 1] := fun h => h5 (by rw [h])
        omega
      refine ⟨fun a b x y hab ha hb => ?_, fun x => ?_⟩
      · have hbl := (List.getElem?_eq_some_iff.1 hb).1
        simp only [List.length_append, List.length_cons, List.length_nil] at hbl
        rw [List.getElem?_append_left (by omega)] at ha
        by_cases hbe : b = (dedup l j).length
        · subst hbe
          rw [List.getElem?_append_right (Nat.le_refl _), Nat.sub_self] at hb
          simp at hb; subst hb
          exact hlt x (List.mem_of_getElem? ha)
        · rw [List.getElem?_append_left (by omega)] at hb
          exact h1 a b x y hab ha hb
      · rw [List.take_add_one, hx]
        simp only [Option.toList_some, List.mem_append, List.mem_singleton, h2]
end Go.Proofs.YtahhkeljejfgfaaDoor
