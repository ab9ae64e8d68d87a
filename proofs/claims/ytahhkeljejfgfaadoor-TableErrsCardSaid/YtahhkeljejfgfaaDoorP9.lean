/- Joins, the document's way: variables one by one, and a tuple's parts. -/
import Derived.Test.YtahhkeljejfgfaaDoorL27
namespace Go.Proofs.YtahhkeljejfgfaaDoor
open Go Go.Vc Go.RowKit Go.Proofs Go.Proofs.Tryd
set_option maxRecDepth 100000

/-- the variables below n of either scope -/
def upV (va vb : List Int) (n : Nat) : List Int := (rng n).filter fun v => decide (v ∈ va ∨ v ∈ vb)
theorem rng_succ (n : Nat) : rng (n + 1) = rng n ++ [(n : Int)] := by simp [rng, List.range_succ]
theorem rng_mem {n : Nat} {x : Int} : x ∈ rng n ↔ 0 ≤ x ∧ x < n := by
  simp only [rng, List.mem_map, List.mem_range]
  exact ⟨fun ⟨a, h1, h2⟩ => by omega, fun h => ⟨x.toNat, by omega, by omega⟩⟩
theorem upV_zero (va vb : List Int) : upV va vb 0 = [] := rfl
theorem upV_none {va vb : List Int} {n : Nat} (h : ¬ ((n : Int) ∈ va ∨ (n : Int) ∈ vb)) : upV va vb (n + 1) = upV va vb n := by
  unfold upV
  rw [rng_succ, List.filter_append, List.filter_cons_of_neg (by simpa using h), List.filter_nil, List.append_nil]
theorem upV_some {va vb : List Int} {n : Nat} (h : (n : Int) ∈ va ∨ (n : Int) ∈ vb) : upV va vb (n + 1) = upV va vb n ++ [(n : Int)] := by
  unfold upV
  rw [rng_succ, List.filter_append, List.filter_cons_of_pos (by simpa using h), List.filter_nil]
theorem upV_mem {va vb : List Int} {n : Nat} {x : Int} : x ∈ upV va vb n ↔ (0 ≤ x ∧ x < n) ∧ (x ∈ va ∨ x ∈ vb) := by
  unfold upV
  rw [List.mem_filter, rng_mem, decide_eq_true_iff]
theorem pair_up {l : List Int} (h : l.Pairwise (· < ·)) : Up l := fun i j x y hij hx hy => by
  have hi := List.getElem?_eq_some_iff.1 hx
  have hj := List.getElem?_eq_some_iff.1 hy
  have := List.pairwise_iff_getElem.1 h i j hi.1 hj.1 hij
  rw [hi.2, hj.2] at this
  exact this
theorem upV_up (va vb : List Int) (n : Nat) : Up (upV va vb n) := pair_up ((rng_up n).pair.filter _)
theorem upV_len (va vb : List Int) (n : Nat) : (upV va vb n).length ≤ n := by
  have := List.length_filter_le (fun v : Int => decide (v ∈ va ∨ v ∈ vb)) (rng n)
  rw [rng_length] at this
  exact this
theorem upV_join {va vb : List Int} {n : Nat} (ha : ∀ x ∈ va, 0 ≤ x ∧ x < n) (hb : ∀ x ∈ vb, 0 ≤ x ∧ x < n) : JoinVars va vb (upV va vb n) :=
  ⟨upV_up _ _ _, fun x => by rw [upV_mem]; exact ⟨fun h => h.2, fun h => ⟨h.elim (ha x) (hb x), h⟩⟩⟩
theorem joinVars_eq {va vb l m : List Int} (h1 : JoinVars va vb l) (h2 : JoinVars va vb m) : l = m := up_eq h1.1 h2.1 fun x => by rw [h1.2, h2.2]
theorem joinVars_turn {va vb l : List Int} (h : JoinVars va vb l) : JoinVars vb va l := ⟨h.1, fun x => by rw [h.2]; exact Or.comm⟩
theorem joinS_append (s1 va s2 vb vars ws : List Int) : joinS s1 va s2 vb (vars ++ ws) = joinS s1 va s2 vb vars ++ joinS s1 va s2 vb ws := List.map_append
theorem joinS_turn (s1 va s2 vb vars : List Int) : joinS s1 va s2 vb vars = joinS s2 vb s1 va vars := by
  unfold joinS
  refine List.map_congr_left fun p _ => ?_
  rw [Int.max_comm]
theorem joinC_turn (s1 c1 va s2 c2 vb vars : List Int) (k : Int) : joinC s1 c1 va s2 c2 vb vars k = joinC s2 c2 vb s1 c1 va vars k := by
  unfold joinC
  rw [joinS_turn]
  refine List.map_congr_left fun q _ => ?_
  rw [Int.add_comm]
theorem joinOk_turn {s1 va s2 vb vars : List Int} (h : JoinOk s1 va s2 vb vars) : JoinOk s2 vb s1 va vars := fun p hp h1 h2 => (h p hp h2 h1).symm

/-- the part of a tuple, up to a place -/
def partF (x vars va : List Int) (i : Nat) : List Int := partL x vars ((vars.take i).filter fun v => decide (v ∈ va))
theorem partF_zero (x vars va : List Int) : partF x vars va 0 = [] := by simp [partF, partL]
theorem partF_none {x vars va : List Int} {i : Nat} {v : Int} (hv : vars[i]? = some v) (h : v ∉ va) : partF x vars va (i + 1) = partF x vars va i := by
  unfold partF
  rw [List.take_add_one, hv, List.filter_append]
  simp [h]
theorem partF_some {x vars va : List Int} {i : Nat} {v u : Int} (hu : Up vars) (hv : vars[i]? = some v) (hx : x[i]? = some u) (h : v ∈ va) : partF x vars va (i + 1) = partF x vars va i ++ [u] := by
  unfold partF partL
  rw [List.take_add_one, hv, List.filter_append, List.map_append]
  have hm : v ∈ vars := List.mem_of_getElem? hv
  have h2 := List.idxOf_lt_length_of_mem hm
  have h3 : vars.idxOf v = i := hu.inj (by rw [List.getElem?_eq_getElem h2, List.getElem_idxOf h2]) hv
  simp [h, h3, hx]
theorem partF_len (x vars va : List Int) (i : Nat) : (partF x vars va i).length ≤ i := by
  unfold partF
  rw [partL_length]
  refine Nat.le_trans (List.length_filter_le _ _) ?_
  rw [List.length_take]; omega
theorem partF_all {x vars va : List Int} (hu : Up vars) (ha : Up va) (hin : ∀ p ∈ va, p ∈ vars) : partF x vars va vars.length = partL x vars va := by
  unfold partF
  rw [List.take_length]
  congr 1
  refine up_eq (pair_up (hu.pair.filter _)) ha fun y => ?_
  rw [List.mem_filter, decide_eq_true_iff]
  exact ⟨fun h => h.2, fun h => ⟨hin y h, h⟩⟩
theorem sizeAt_nat {s : List Int} {j : Nat} {a : Int} (h : s[j]? = some a) : sizeAt s j = a := by
  unfold sizeAt
  rw [if_pos (by omega), List.getD_eq_getElem?_getD, Int.toNat_natCast, h]; rfl
theorem sizeAt_none {s va : List Int} {p : Int} (h : p ∉ va) : sizeAt s (idxI va p) = 0 := by
  unfold sizeAt
  rw [idxI_none h, if_neg (by omega)]
/-- the size of a variable in the joined table is that of the first one's place -/
theorem join_size {s1 s2 va vb vars : List Int} {j : Nat} {p a : Int} (h1 : SZ s1) (hua : Up va) (hok : JoinOk s1 va s2 vb vars) (hp : p ∈ vars) (hv : va[j]? = some p) (ha : s1[j]? = some a) : max (sizeAt s1 (idxI va p)) (sizeAt s2 (idxI vb p)) = a := by
  have hpa : p ∈ va := List.mem_of_getElem? hv
  have e1 : sizeAt s1 (idxI va p) = a := by rw [idxI_at hua hv]; exact sizeAt_nat ha
  have hapos := (h1 a (List.mem_of_getElem? ha)).1
  by_cases hpb : p ∈ vb
  · have := hok p hp hpa hpb
    rw [e1] at this ⊢
    omega
  · rw [e1, sizeAt_none hpb]; omega
theorem part_val {s1 s2 va vb vars x : List Int} (h1 : SZ s1) (hl : va.length = s1.length) (hua : Up va) (hu : Up vars) (hin : ∀ p ∈ va, p ∈ vars) (hok : JoinOk s1 va s2 vb vars) (hx : Val (joinS s1 va s2 vb vars) x) : Val s1 (partL x vars va) := by
  rw [val_iff] at hx ⊢
  refine ⟨by rw [partL_length, hl], fun j a v ha hv => ?_⟩
  unfold partL at hv
  rw [List.getElem?_map] at hv
  obtain ⟨p, hp, hv⟩ := Option.map_eq_some_iff.1 hv
  have hm := hin p (List.mem_of_getElem? hp)
  have h2 := List.idxOf_lt_length_of_mem hm
  have hg : vars[vars.idxOf p]? = some p := by rw [List.getElem?_eq_getElem h2, List.getElem_idxOf h2]
  have hxl := hx.1
  rw [joinS_length] at hxl
  obtain ⟨u, hu'⟩ : ∃ u, x[vars.idxOf p]? = some u := ⟨_, List.getElem?_eq_getElem (by omega)⟩
  have hjs : (joinS s1 va s2 vb vars)[vars.idxOf p]? = some a := by
    unfold joinS
    rw [List.getElem?_map, hg, Option.map_some, join_size h1 hua hok hm hp ha]
  have := hx.2 _ _ _ hjs hu'
  rw [List.getD_eq_getElem?_getD, hu'] at hv
  simp only [Option.getD_some] at hv
  omega
theorem sizeAt_small {s : List Int} (h4 : ∀ x ∈ s, 1 ≤ x ∧ x ≤ 4) (i : Int) : 0 ≤ sizeAt s i ∧ sizeAt s i ≤ 4 := by
  unfold sizeAt
  split
  · rw [List.getD_eq_getElem?_getD]
    cases hq : s[i.toNat]? with
    | none => simp
    | some x => have := h4 x (List.mem_of_getElem? hq); simp only [Option.getD_some]; omega
  · omega
theorem join_small {s1 s2 va vb vars : List Int} (h1 : ∀ x ∈ s1, 1 ≤ x ∧ x ≤ 4) (h2 : ∀ x ∈ s2, 1 ≤ x ∧ x ≤ 4) (l1 : va.length = s1.length) (l2 : vb.length = s2.length) (hua : Up va) (hub : Up vb) (hv : ∀ p ∈ vars, p ∈ va ∨ p ∈ vb) : ∀ x ∈ joinS s1 va s2 vb vars, 1 ≤ x ∧ x ≤ 4 := fun x hx => by
  unfold joinS at hx
  obtain ⟨p, hp, rfl⟩ := List.mem_map.1 hx
  have b1 := sizeAt_small h1 (idxI va p)
  have b2 := sizeAt_small h2 (idxI vb p)
  have at1 : ∀ {s v : List Int}, (∀ x ∈ s, 1 ≤ x ∧ x ≤ 4) → v.length = s.length → Up v → p ∈ v → 1 ≤ sizeAt s (idxI v p) := fun {s v} hs hl hu hm => by
    obtain ⟨i, hi, he⟩ := List.getElem_of_mem hm
    have hg : v[i]? = some p := by rw [List.getElem?_eq_getElem hi, he]
    obtain ⟨a, ha⟩ : ∃ a, s[i]? = some a := ⟨_, List.getElem?_eq_getElem (by omega)⟩
    rw [idxI_at hu hg, sizeAt_nat ha]
    exact (hs a (List.mem_of_getElem? ha)).1
  rcases hv p hp with h | h
  · have := at1 h1 l1 hua h; omega
  · have := at1 h2 l2 hub h; omega
theorem prod_pow4 : ∀ (l : List Int), (∀ x ∈ l, 1 ≤ x ∧ x ≤ 4) → 1 ≤ prodN l ∧ prodN l ≤ 4 ^ l.length
  | [], _ => by simp [prodN]
  | a :: l, h => by
    have ih := prod_pow4 l fun x hx => h x (.tail _ hx)
    have ha := h a (.head _)
    simp only [prodN, List.length_cons]
    have hp : (4 : Int) ^ (l.length + 1) = 4 * 4 ^ l.length := by rw [Int.pow_succ, Int.mul_comm]
    rw [hp]
    refine ⟨?_, ?_⟩
    · have := Int.mul_le_mul ha.1 ih.1 (by omega) (by omega); omega
    · exact Int.mul_le_mul ha.2 ih.2 (by omega) (by omega)
theorem up_len {va vb vars : List Int} (hu : Up vars) (hv : ∀ p ∈ vars, p ∈ va ∨ p ∈ vb) : vars.length ≤ va.length + vb.length := by
  have hn : vars.Nodup := hu.pair.imp fun h => by omega
  have h := List.Nodup.length_le_of_subset (l₁ := vars) (l₂ := va ++ vb) hn
  rw [List.length_append] at h
  exact h fun p hp => List.mem_append.2 (hv p hp)
theorem join_sizes {s1 s2 va vb vars : List Int} (h1 : ∀ x ∈ s1, 1 ≤ x ∧ x ≤ 4) (h2 : ∀ x ∈ s2, 1 ≤ x ∧ x ≤ 4) (n1 : s1.length ≤ 3) (n2 : s2.length ≤ 3) (l1 : va.length = s1.length) (l2 : vb.length = s2.length) (hua : Up va) (hub : Up vb) (hj : JoinVars va vb vars) : Sizes (joinS s1 va s2 vb vars) ∧ prodN (joinS s1 va s2 vb vars) ≤ 4096 := by
  have hs := join_small h1 h2 l1 l2 hua hub fun p hp => (hj.2 p).1 hp
  have hl := up_len hj.1 fun p hp => (hj.2 p).1 hp
  have hle : (joinS s1 va s2 vb vars).length ≤ 6 := by rw [joinS_length]; omega
  refine ⟨⟨hle, fun x hx => by have := hs x hx; omega⟩, ?_⟩
  have h4 := (prod_pow4 _ hs).2
  have h5 : (4 : Int) ^ (joinS s1 va s2 vb vars).length ≤ 4 ^ 6 := by
    have := Nat.pow_le_pow_right (n := 4) (by omega) hle
    exact_mod_cast this
  have h6 : (4 : Int) ^ 6 = 4096 := by decide
  omega
end Go.Proofs.YtahhkeljejfgfaaDoor
