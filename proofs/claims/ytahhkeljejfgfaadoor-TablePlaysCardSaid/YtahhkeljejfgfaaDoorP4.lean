/- Plain facts: a table without a place. -/
import Derived.Test.YtahhkeljejfgfaaDoorP3
namespace Go.Proofs.YtahhkeljejfgfaaDoor
open Go Go.Vc

theorem prod_erase : ∀ {s : List Int} {i : Nat} {x : Int}, s[i]? = some x → prodN s = x * prodN (s.take i ++ s.drop (i + 1))
  | y :: s, 0, x, h => by simp at h; subst h; simp [prodN]
  | y :: s, i + 1, x, h => by
    simp only [List.getElem?_cons_succ] at h
    simp only [prodN, List.take_succ_cons, List.drop_succ_cons, List.cons_append, prod_erase h]
    rw [← Int.mul_assoc, ← Int.mul_assoc, Int.mul_comm y x]
theorem Sizes.erase {s : List Int} (h : Sizes s) (i : Nat) : Sizes (s.take i ++ s.drop (i + 1)) :=
  ⟨by have := h.1; simp; omega, fun x hx => by
    rcases List.mem_append.1 hx with hx | hx
    · exact h.2 x (List.mem_of_mem_take hx)
    · exact h.2 x (List.mem_of_mem_drop hx)⟩
theorem prod_erase_le {s : List Int} (h : Sizes s) {i : Nat} (hi : i < s.length) : prodN (s.take i ++ s.drop (i + 1)) ≤ prodN s := by
  have hx := h.2 s[i] (List.getElem_mem hi)
  have hp := prod_bound (h.erase i)
  rw [prod_erase (List.getElem?_eq_getElem hi)]
  have := Int.mul_le_mul_of_nonneg_right hx.1 (show 0 ≤ prodN (s.take i ++ s.drop (i + 1)) by omega)
  omega

/-- a cost, by its tuple -/
def getC (s cs t : List Int) : Int := match idxN s t 0 with
  | some n => cs.getD n.toNat 0
  | none => 0
def insT (x : List Int) (i : Nat) (v : Int) : List Int := x.take i ++ [v] ++ x.drop i
def outF (f : Int → Int) (a : Int × Int) (v : Int) : Int × Int := if a.1 < 0 ∨ f v < a.2 then (v, f v) else a
/-- the least over some values, and which has it -/
def outAt (s cs : List Int) (k : Int) (i : Nat) (vals : List Int) (x : List Int) : Int × Int := vals.foldl (outF fun v => getC s cs (insT x i v)) (-1, k)
def outS (s : List Int) (i : Nat) : List Int := s.take i ++ s.drop (i + 1)
def outL (s cs : List Int) (k : Int) (i : Nat) (vals : List Int) : List (Int × Int) := (List.range (prodN (outS s i)).toNat).map fun (q : Nat) => outAt s cs k i vals (tupN (outS s i) q)
/-- as far as it was done -/
def upto {α : Type} (l : List α) (d : α) (i : Nat) : List α := l.take i ++ List.replicate (l.length - i) d
theorem upto_length {α : Type} (l : List α) (d : α) (i : Nat) : (upto l d i).length = l.length := by simp [upto]; omega
theorem upto_zero {α : Type} (l : List α) (d : α) : upto l d 0 = List.replicate l.length d := by simp [upto]
theorem upto_all {α : Type} (l : List α) (d : α) : upto l d l.length = l := by simp [upto]
theorem upto_get {α : Type} {l : List α} {d : α} {i : Nat} (h : i < l.length) : (upto l d i)[i]? = some d := by
  unfold upto
  rw [List.getElem?_append_right (by simp; omega), List.getElem?_replicate, if_pos (by simp; omega)]
theorem upto_set {α : Type} {l : List α} {d x : α} {i : Nat} (h : l[i]? = some x) : (upto l d i).set i x = upto l d (i + 1) := by
  have hi := (List.getElem?_eq_some_iff.1 h).1
  unfold upto
  rw [List.set_append_right _ _ (by simp; omega), List.take_add_one, h]
  have e : i - (l.take i).length = 0 := by simp; omega
  obtain ⟨m, hm⟩ : ∃ m, l.length - i = m + 1 := ⟨l.length - i - 1, by omega⟩
  rw [e, hm, show l.length - (i + 1) = m by omega]
  simp [List.replicate_succ]
theorem set_same {α : Type} {l : List α} {i : Nat} {x : α} (h : l[i]? = some x) : l.set i x = l := by
  apply List.ext_getElem?
  intro j
  rw [List.getElem?_set]
  split
  · rename_i hj; subst hj; rw [if_pos (List.getElem?_eq_some_iff.1 h).1, h]
  · rfl
end Go.Proofs.YtahhkeljejfgfaaDoor
