/- Plain facts of sizes: all tuples. -/
import Derived.Test.YtahhkeljejfgfaaDoorP1
namespace Go.Proofs.YtahhkeljejfgfaaDoor
open Go Go.Vc

/-- all tuples of sizes, in their order -/
def allT : List Int → List (List Int)
  | [] => [[]]
  | k :: s => (List.range k.toNat).flatMap fun (v : Nat) => (allT s).map fun t => (v : Int) :: t
theorem allT_length : ∀ {s : List Int}, (∀ x ∈ s, 1 ≤ x ∧ x ≤ 32) → (allT s).length = (prodN s).toNat
  | [], _ => rfl
  | k :: s, h => by
    have ih := allT_length (s := s) fun x hx => h x (.tail _ hx)
    have hk := h k (.head _)
    have hp := (prod_bound' s fun x hx => h x (.tail _ hx)).1
    simp only [allT, prodN, List.length_flatMap, List.length_map, ih]
    rw [List.map_const', List.length_range, List.sum_replicate_nat, Int.toNat_mul (by omega) (by omega)]
theorem allT_mem_len : ∀ {s x : List Int}, x ∈ allT s → x.length = s.length
  | [], x, h => by simp [allT] at h; subst h; rfl
  | k :: s, x, h => by
    simp only [allT, List.mem_flatMap, List.mem_map] at h
    obtain ⟨v, _, t, ht, rfl⟩ := h
    simp [allT_mem_len ht]
theorem allT_len {s x : List Int} {j : Nat} (h : (allT s)[j]? = some x) : x.length = s.length := allT_mem_len (List.mem_of_getElem? h)
theorem prod_small {l : List Int} (h3 : l.length ≤ 3) (h4 : ∀ x ∈ l, 1 ≤ x ∧ x ≤ 4) : 1 ≤ prodN l ∧ prodN l ≤ 64 := by
  have g : ∀ {r : List Int} (n : Nat), (∀ x ∈ r, 1 ≤ x ∧ x ≤ 4) → 1 ≤ prodN r ∧ prodN r ≤ 4 ^ r.length := by
    intro r n h
    induction r with
    | nil => simp [prodN]
    | cons x r ih =>
      obtain ⟨h1, h2⟩ := ih fun y hy => h y (.tail _ hy)
      obtain ⟨h3, h4⟩ := h x (.head _)
      simp only [prodN, List.length_cons]
      constructor
      · have := Int.mul_le_mul h3 h1 (by omega) (by omega)
        simpa using this
      · have := Int.mul_le_mul h4 h2 (by omega) (by omega)
        rw [Int.pow_succ, Int.mul_comm (4 ^ r.length) 4]; exact this
  obtain ⟨h1, h2⟩ := g 0 h4
  refine ⟨h1, Int.le_trans h2 ?_⟩
  match l.length, h3 with
  | 0, _ => decide
  | 1, _ => decide
  | 2, _ => decide
  | 3, _ => decide
end Go.Proofs.YtahhkeljejfgfaaDoor
