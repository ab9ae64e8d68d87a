/- Plain facts of sizes: their product. -/
import Derived.Test.YtahhkeljejfgfaaDoorKe
namespace Go.Proofs.YtahhkeljejfgfaaDoor
open Go Go.Vc

def prodN : List Int → Int
  | [] => 1
  | x :: r => x * prodN r
theorem prodN_append : ∀ (a b : List Int), prodN (a ++ b) = prodN a * prodN b
  | [], b => by simp [prodN]
  | x :: a, b => by simp [prodN, prodN_append a b, Int.mul_assoc]
theorem prodN_take {l : List Int} {i : Nat} {x : Int} (h : l[i]? = some x) : prodN (l.take (i + 1)) = prodN (l.take i) * x := by
  rw [List.take_add_one, h, prodN_append]; simp [prodN]
/-- sizes as they may be -/
def Sizes (l : List Int) : Prop := l.length ≤ 6 ∧ ∀ x ∈ l, 1 ≤ x ∧ x ≤ 32
theorem Sizes.take {l : List Int} (h : Sizes l) (i : Nat) : Sizes (l.take i) := ⟨by rw [List.length_take]; have := h.1; omega, fun x hx => h.2 x (List.mem_of_mem_take hx)⟩
theorem Sizes.drop {l : List Int} (h : Sizes l) (i : Nat) : Sizes (l.drop i) := ⟨by rw [List.length_drop]; have := h.1; omega, fun x hx => h.2 x (List.mem_of_mem_drop hx)⟩
theorem prod_bound' : ∀ (l : List Int), (∀ x ∈ l, 1 ≤ x ∧ x ≤ 32) → 1 ≤ prodN l ∧ prodN l ≤ 32 ^ l.length
  | [], _ => by simp [prodN]
  | x :: r, h => by
    obtain ⟨h1, h2⟩ := prod_bound' r fun y hy => h y (.tail _ hy)
    obtain ⟨h3, h4⟩ := h x (.head _)
    simp only [prodN, List.length_cons]
    constructor
    · have := Int.mul_le_mul h3 h1 (by omega) (by omega)
      simpa using this
    · have := Int.mul_le_mul h4 h2 (by omega) (by omega)
      rw [Int.pow_succ]
      rw [Int.mul_comm (32 ^ r.length) 32]; exact this
theorem prod_bound {l : List Int} (h : Sizes l) : 1 ≤ prodN l ∧ prodN l ≤ 1073741824 := by
  obtain ⟨h1, h2⟩ := prod_bound' l h.2
  refine ⟨h1, Int.le_trans h2 ?_⟩
  have : (32 : Int) ^ l.length ≤ 32 ^ 6 := by
    have hl := h.1
    match l.length, hl with
    | 0, _ => decide
    | 1, _ => decide
    | 2, _ => decide
    | 3, _ => decide
    | 4, _ => decide
    | 5, _ => decide
    | 6, _ => decide
  simpa using this

/-- a tuple's number, with n ahead -/
def idxN : List Int → List Int → Int → Option Int
  | [], [], n => some n
  | k :: s, v :: t, n => if 0 ≤ v ∧ v < k then idxN s t (n * k + v) else none
  | _, _, _ => none
theorem idxN_len : ∀ (s t : List Int) (n : Int), s.length ≠ t.length → idxN s t n = none
  | [], [], _, h => absurd rfl h
  | [], _ :: _, _, _ => rfl
  | _ :: _, [], _, _ => rfl
  | k :: s, v :: t, n, h => by
    unfold idxN; split
    · exact idxN_len s t _ (by simpa using h)
    · rfl

/-- tuple number n of sizes -/
def tupN : List Int → Int → List Int
  | [], _ => []
  | k :: s, n => (n / prodN s) % k :: tupN s n
theorem tupN_length : ∀ (s : List Int) (n : Int), (tupN s n).length = s.length
  | [], _ => rfl
  | _ :: s, n => by simp [tupN, tupN_length s n]
theorem tupN_get : ∀ {s : List Int} {n : Int} {i : Nat} {k : Int}, s[i]? = some k → (tupN s n)[i]? = some ((n / prodN (s.drop (i + 1))) % k)
  | k0 :: s, n, 0, k, h => by simp at h; subst h; simp [tupN]
  | k0 :: s, n, i + 1, k, h => by
    simp only [List.getElem?_cons_succ] at h
    simp only [tupN, List.getElem?_cons_succ, List.drop_succ_cons]
    exact tupN_get h

theorem idxN_bound : ∀ {s t : List Int} {m n : Int}, (∀ x ∈ s, 1 ≤ x ∧ x ≤ 32) → idxN s t m = some n → m * prodN s ≤ n ∧ n < (m + 1) * prodN s
  | [], [], m, n, _, h => by simp [idxN] at h; subst h; simp [prodN]; omega
  | k :: s, v :: t, m, n, hs, h => by
    unfold idxN at h
    split at h
    · rename_i hv
      have ih := idxN_bound (fun x hx => hs x (.tail _ hx)) h
      have hp := (prod_bound' s fun x hx => hs x (.tail _ hx)).1
      simp only [prodN]
      have e1 : m * (k * prodN s) = m * k * prodN s := (Int.mul_assoc _ _ _).symm
      have e2 : (m + 1) * (k * prodN s) = (m * k + k) * prodN s := by rw [← Int.mul_assoc, Int.add_mul, Int.one_mul]
      rw [e1, e2]
      constructor
      · refine Int.le_trans ?_ ih.1
        exact Int.mul_le_mul_of_nonneg_right (by omega) (by omega)
      · refine Int.lt_of_lt_of_le ih.2 ?_
        exact Int.mul_le_mul_of_nonneg_right (by omega) (by omega)
    · cases h
  | [], _ :: _, _, _, _, h => by cases h
  | _ :: _, [], _, _, _, h => by cases h
end Go.Proofs.YtahhkeljejfgfaaDoor
