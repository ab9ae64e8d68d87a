/- Rows that are sorted, by a number of each element: swaps in a range; what is in order. -/
import Derived.Test.YtahhkeljejfgfaaM2
namespace Go.Proofs.Ytahhkeljejfgfaa
open Go Go.Vc
set_option maxRecDepth 100000

section
variable {α : Type}
/-- M comes of L by swaps in places a to b -/
inductive SwapR (a b : Nat) (L : List α) : List α → Prop
  | refl : SwapR a b L L
  | step {M : List α} {i j : Nat} {x y : α} : SwapR a b L M → a ≤ i → i < b → a ≤ j → j < b → M[i]? = some x → M[j]? = some y → SwapR a b L ((M.set i y).set j x)
theorem swap_get {M : List α} {i j : Nat} {x y : α} (hi : M[i]? = some x) (hj : M[j]? = some y) (r : Nat) : ((M.set i y).set j x)[r]? = if r = j then some x else if r = i then some y else M[r]? := by
  have li := (List.getElem?_eq_some_iff.1 hi).1
  have lj := (List.getElem?_eq_some_iff.1 hj).1
  by_cases h : r = j
  · subst h; rw [List.getElem?_set_self (by simpa using lj), if_pos rfl]
  · rw [List.getElem?_set_ne (Ne.symm h), if_neg h]
    by_cases h' : r = i
    · subst h'; rw [List.getElem?_set_self li, if_pos rfl]
    · rw [List.getElem?_set_ne (Ne.symm h'), if_neg h']
theorem swap_perm2 {M : List α} {i j : Nat} {x y : α} (hi : M[i]? = some x) (hj : M[j]? = some y) : ((M.set i y).set j x).Perm M := by
  have li := List.getElem?_eq_some_iff.1 hi
  have lj := List.getElem?_eq_some_iff.1 hj
  have := List.set_set_perm li.1 lj.1
  rw [li.2, lj.2] at this
  exact this
theorem SwapR.perm {a b : Nat} {L M : List α} (h : SwapR a b L M) : M.Perm L := by
  induction h with
  | refl => exact .refl _
  | step _ _ _ _ _ hi hj ih => exact (swap_perm2 hi hj).trans ih
theorem SwapR.len {a b : Nat} {L M : List α} (h : SwapR a b L M) : M.length = L.length := h.perm.length_eq
theorem SwapR.trans {a b : Nat} {L M N : List α} (h : SwapR a b L M) (k : SwapR a b M N) : SwapR a b L N := by
  induction k with
  | refl => exact h
  | step _ h1 h2 h3 h4 h5 h6 ih => exact .step ih h1 h2 h3 h4 h5 h6
theorem SwapR.mono {a b c d : Nat} {L M : List α} (h : SwapR a b L M) (h1 : c ≤ a) (h2 : b ≤ d) : SwapR c d L M := by
  induction h with
  | refl => exact .refl
  | step _ g1 g2 g3 g4 g5 g6 ih => exact .step ih (by omega) (by omega) (by omega) (by omega) g5 g6
theorem SwapR.out {a b : Nat} {L M : List α} (h : SwapR a b L M) {r : Nat} (hr : r < a ∨ b ≤ r) : M[r]? = L[r]? := by
  induction h with
  | refl => rfl
  | step _ g1 g2 g3 g4 g5 g6 ih => rw [swap_get g5 g6, if_neg (by omega), if_neg (by omega)]; exact ih
/-- what holds of all in the range holds of all behind it -/
theorem SwapR.all {a b : Nat} {L M : List α} (h : SwapR a b L M) {p : α → Prop} (hp : ∀ (r : Nat) (x : α), a ≤ r → r < b → L[r]? = some x → p x) : ∀ (r : Nat) (x : α), a ≤ r → r < b → M[r]? = some x → p x := by
  induction h with
  | refl => exact hp
  | step _ g1 g2 g3 g4 g5 g6 ih =>
    intro r x h1 h2 hx
    rw [swap_get g5 g6] at hx
    split at hx
    · cases hx; exact ih _ _ g1 g2 g5
    · split at hx
      · cases hx; exact ih _ _ g3 g4 g6
      · exact ih r x h1 h2 hx

variable (f : α → Int)
/-- in order from a up to i -/
def UpR (L : List α) (a i : Nat) : Prop := ∀ (p q : Nat) (x y : α), a ≤ p → p < q → q < i → L[p]? = some x → L[q]? = some y → f x ≤ f y
/-- but for place j -/
def BarR (L : List α) (a i j : Nat) : Prop := ∀ (p q : Nat) (x y : α), a ≤ p → p < q → q ≤ i → q ≠ j → L[p]? = some x → L[q]? = some y → f x ≤ f y
variable {f}
theorem upR_bar {L : List α} {a i : Nat} (h : UpR f L a i) : BarR f L a i i := fun p q x y h0 h1 h2 h3 h4 h5 => h p q x y h0 h1 (by omega) h4 h5
theorem barR_low {L : List α} {a i : Nat} (h : BarR f L a i a) : UpR f L a (i + 1) := fun p q x y h0 h1 h2 h4 h5 => h p q x y h0 h1 (by omega) (by omega) h4 h5
theorem barR_stop {L : List α} {a i j : Nat} {u v : α} (h : BarR f L a i j) (h0 : a < j) (hu : L[j - 1]? = some u) (hv : L[j]? = some v) (huv : f u ≤ f v) : UpR f L a (i + 1) := by
  intro p q x y hp h1 h2 h4 h5
  by_cases hq : q = j
  · subst hq
    rw [hv] at h5; cases h5
    by_cases hp1 : p = q - 1
    · subst hp1; rw [hu] at h4; cases h4; exact huv
    · have := h p (q - 1) x u hp (by omega) (by omega) (by omega) h4 hu
      omega
  · exact h p q x y hp h1 (by omega) hq h4 h5
theorem barR_swap {L : List α} {a i j : Nat} {u v : α} (h : BarR f L a i j) (h0 : a < j) (hi : j ≤ i) (hu : L[j - 1]? = some u) (hv : L[j]? = some v) (huv : f v < f u) : BarR f ((L.set j u).set (j - 1) v) a i (j - 1) := by
  intro p q x y hp h1 h2 h3 h4 h5
  rw [swap_get hv hu] at h4 h5
  rw [if_neg h3] at h5
  by_cases hq : q = j
  · rw [if_pos hq] at h5; cases h5
    split at h4
    · cases h4; omega
    · split at h4
      · omega
      · exact h p (j - 1) x u hp (by omega) (by omega) (by omega) h4 hu
  · rw [if_neg hq] at h5
    split at h4
    · cases h4
      have := h j q v y
      by_cases hjq : j < q
      · exact this (by omega) hjq h2 hq hv h5
      · omega
    · split at h4
      · rename_i hp2; subst hp2
        cases h4
        exact h (p - 1) q u y (by omega) (by omega) h2 hq hu h5
      · exact h p q x y hp h1 h2 hq h4 h5
end
end Go.Proofs.Ytahhkeljejfgfaa

