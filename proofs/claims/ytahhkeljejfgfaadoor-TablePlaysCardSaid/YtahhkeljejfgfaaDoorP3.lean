/- Plain facts of sizes: a tuple's number, and the list of all. -/
import Derived.Test.YtahhkeljejfgfaaDoorP2
namespace Go.Proofs.YtahhkeljejfgfaaDoor
open Go Go.Vc

abbrev SZ (s : List Int) : Prop := ∀ x ∈ s, 1 ≤ x ∧ x ≤ 32
theorem SZ.tail {k : Int} {s : List Int} (h : SZ (k :: s)) : SZ s := fun x hx => h x (.tail _ hx)
theorem prod_pos {s : List Int} (h : SZ s) : 1 ≤ prodN s := (prod_bound' s h).1

theorem idxN_shift : ∀ (s t : List Int) (m : Int), idxN s t m = (idxN s t 0).map fun n => n + m * prodN s
  | [], [], m => by simp [idxN, prodN]
  | k :: s, v :: t, m => by
    unfold idxN
    split
    · rw [idxN_shift s t (m * k + v), idxN_shift s t (0 * k + v)]
      simp only [Option.map_map, prodN]
      congr 1; funext n
      simp only [Function.comp]
      rw [Int.add_mul, Int.add_mul, ← Int.mul_assoc]; simp; omega
    · rfl
  | [], _ :: _, _ => rfl
  | _ :: _, [], _ => rfl

theorem rows_get {L j : Nat} {rest : List (List Int)} (hL : rest.length = L) : ∀ {kn v : Nat}, v < kn → ∀ {x : List Int}, rest[j]? = some x →
    ((List.range kn).flatMap fun (v : Nat) => rest.map fun t => (v : Int) :: t)[v * L + j]? = some ((v : Int) :: x)
  | 0, v, h, _, _ => by omega
  | kn + 1, v, h, x, hx => by
    have hj := (List.getElem?_eq_some_iff.1 hx).1
    have hlen : ((List.range kn).flatMap fun (v : Nat) => rest.map fun t => (v : Int) :: t).length = kn * L := by
      simp only [List.length_flatMap, List.length_map, hL]
      rw [List.map_const', List.length_range, List.sum_replicate_nat]
    rw [List.range_succ, List.flatMap_append]
    by_cases hv : v < kn
    · have : (v + 1) * L ≤ kn * L := Nat.mul_le_mul_right _ hv
      rw [Nat.add_mul] at this
      rw [List.getElem?_append_left (by rw [hlen]; omega)]
      exact rows_get hL hv hx
    · have hv : v = kn := by omega
      subst hv
      rw [List.getElem?_append_right (by rw [hlen]; omega), hlen, show v * L + j - v * L = j by omega]
      simp [hx]

/-- where it stands is its number -/
theorem all_idx : ∀ {s : List Int}, SZ s → ∀ {i : Nat} {t : List Int}, (allT s)[i]? = some t → idxN s t 0 = some (i : Int)
  | [], _, i, t, h => by
    cases i with
    | zero => simp [allT] at h; subst h; rfl
    | succ i => simp [allT] at h
  | k :: s, hs, i, t, h => by
    have hk := hs k (.head _)
    have hl := allT_length hs.tail
    have hp := prod_pos hs.tail
    obtain ⟨kn, rfl⟩ : ∃ kn : Nat, k = kn := ⟨k.toNat, by omega⟩
    have hi := (List.getElem?_eq_some_iff.1 h).1
    rw [allT_length hs, prodN, Int.toNat_mul (by omega) (by omega), ← hl, Int.toNat_natCast] at hi
    have hL : 0 < (allT s).length := by omega
    have hv : i / (allT s).length < kn := Nat.div_lt_of_lt_mul (by rw [Nat.mul_comm]; exact hi)
    have hj : i % (allT s).length < (allT s).length := Nat.mod_lt _ hL
    obtain ⟨x, hx⟩ : ∃ x, (allT s)[i % (allT s).length]? = some x := ⟨_, List.getElem?_eq_getElem hj⟩
    have hg := rows_get (kn := kn) rfl hv hx
    rw [Nat.mul_comm, Nat.div_add_mod] at hg
    have h' : ((List.range ((kn : Int).toNat)).flatMap fun (v : Nat) => (allT s).map fun t => (v : Int) :: t)[i]? = some t := h
    rw [Int.toNat_natCast, hg] at h'
    cases h'
    unfold idxN
    rw [if_pos ⟨Int.natCast_nonneg _, Int.ofNat_lt.2 hv⟩, idxN_shift, all_idx hs.tail hx]
    simp only [Option.map_some, Option.some.injEq, Int.zero_mul, Int.zero_add]
    have hl' : prodN s = ((allT s).length : Int) := by rw [hl]; omega
    rw [hl', ← Int.natCast_mul, ← Int.natCast_add]
    congr 1
    rw [Nat.mul_comm, Nat.add_comm, Nat.div_add_mod]
theorem idx_all : ∀ {s : List Int}, SZ s → ∀ {t : List Int} {n : Int}, idxN s t 0 = some n → (allT s)[n.toNat]? = some t
  | [], _, [], n, h => by simp [idxN] at h; subst h; rfl
  | k :: s, hs, v :: t, n, h => by
    have hk := hs k (.head _)
    have hl := allT_length hs.tail
    have hp := prod_pos hs.tail
    obtain ⟨kn, rfl⟩ : ∃ kn : Nat, k = kn := ⟨k.toNat, by omega⟩
    unfold idxN at h
    split at h
    · rename_i hv
      rw [idxN_shift] at h
      cases hq : idxN s t 0 with
      | none => rw [hq] at h; cases h
      | some q =>
        rw [hq] at h
        simp only [Option.map_some, Option.some.injEq, Int.zero_mul, Int.zero_add] at h
        have hq0 := idxN_bound hs.tail hq
        simp only [Int.zero_mul, Int.zero_add, Int.one_mul] at hq0
        obtain ⟨vn, rfl⟩ : ∃ vn : Nat, v = vn := ⟨v.toNat, by omega⟩
        have hg := rows_get (kn := kn) (v := vn) rfl (by omega) (idx_all hs.tail hq)
        have e : n.toNat = vn * (allT s).length + q.toNat := by
          rw [← h, hl]
          have : ((vn * (prodN s).toNat : Nat) : Int) = (vn : Int) * prodN s := by rw [Int.natCast_mul, Int.toNat_of_nonneg (by omega)]
          omega
        rw [e]
        show ((List.range ((kn : Int).toNat)).flatMap fun (v : Nat) => (allT s).map fun t => (v : Int) :: t)[_]? = _
        rw [Int.toNat_natCast]; exact hg
    · cases h
  | [], _, _ :: _, _, h => by cases h
  | _ :: _, _, [], _, h => by cases h

theorem tupN_mod : ∀ (s : List Int), SZ s → ∀ (n c : Int), tupN s (n + c * prodN s) = tupN s n
  | [], _, _, _ => rfl
  | k :: s, hs, n, c => by
    have hp := prod_pos hs.tail
    simp only [tupN, prodN]
    rw [← Int.mul_assoc, tupN_mod s hs.tail, Int.add_mul_ediv_right _ _ (by omega), Int.add_mul_emod_self_right]
theorem idx_tup : ∀ {s : List Int}, SZ s → ∀ {n : Int}, 0 ≤ n → n < prodN s → idxN s (tupN s n) 0 = some n
  | [], _, n, h0, h1 => by simp [prodN] at h1; simp [tupN, idxN]; omega
  | k :: s, hs, n, h0, h1 => by
    have hk := hs k (.head _)
    have hp := prod_pos hs.tail
    simp only [tupN, prodN] at h1 ⊢
    have hd : n / prodN s < k := Int.ediv_lt_of_lt_mul (by omega) h1
    have hd0 : 0 ≤ n / prodN s := Int.ediv_nonneg h0 (by omega)
    have hm : n / prodN s % k = n / prodN s := Int.emod_eq_of_lt hd0 hd
    rw [hm]
    unfold idxN
    rw [if_pos ⟨hd0, hd⟩, idxN_shift]
    have e : tupN s n = tupN s (n % prodN s) := by
      have := tupN_mod s hs.tail (n % prodN s) (n / prodN s)
      rw [← this]
      congr 1
      have := Int.emod_add_mul_ediv n (prodN s)
      rw [Int.mul_comm (n / prodN s)]; omega
    rw [e, idx_tup hs.tail (Int.emod_nonneg _ (by omega)) (Int.emod_lt_of_pos _ (by omega))]
    simp only [Option.map_some, Option.some.injEq, Int.zero_mul, Int.zero_add]
    have := Int.emod_add_mul_ediv n (prodN s)
    rw [Int.mul_comm (n / prodN s)]; omega
/-- the list of all, by number -/
theorem all_tup {s : List Int} (hs : SZ s) {i : Nat} (h : (i : Int) < prodN s) : (allT s)[i]? = some (tupN s i) := by
  have := idx_all hs (idx_tup hs (n := (i : Int)) (by omega) h)
  simpa using this
end Go.Proofs.YtahhkeljejfgfaaDoor
