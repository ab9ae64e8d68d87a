/- The scope 0, 1, 2, .. of the laws, and what a join over it gives. -/
import Derived.Test.YtahhkeljejfgfaaDoorL24
namespace Go.Proofs.YtahhkeljejfgfaaDoor
open Go Go.Vc Go.RowKit Go.Proofs Go.Proofs.Tryd
set_option maxRecDepth 100000

def rng (n : Nat) : List Int := (List.range n).map fun (x : Nat) => (x : Int)
theorem rng_length (n : Nat) : (rng n).length = n := by simp [rng]
theorem rng_get {n i : Nat} (h : i < n) : (rng n)[i]? = some (i : Int) := by simp [rng, h]
theorem rng_some {n i : Nat} {x : Int} (h : (rng n)[i]? = some x) : i < n ∧ x = i := by
  have h1 := (List.getElem?_eq_some_iff.1 h).1
  rw [rng_length] at h1
  rw [rng_get h1] at h
  exact ⟨h1, (Option.some.inj h).symm⟩
theorem rng_up (n : Nat) : Up (rng n) := fun i j x y hij hx hy => by
  have := rng_some hx
  have := rng_some hy
  omega
theorem rng_rise (n : Nat) : Rise (rng n) := up_rise (rng_up n) fun x hx => by
  obtain ⟨y, _, rfl⟩ := List.mem_map.1 hx
  omega
theorem Up.pair {l : List Int} (h : Up l) : l.Pairwise (· < ·) := List.pairwise_iff_getElem.2 fun i j hi hj hij => h i j _ _ hij (List.getElem?_eq_getElem hi) (List.getElem?_eq_getElem hj)
theorem up_eq {l m : List Int} (hl : Up l) (hm : Up m) (h : ∀ x, x ∈ l ↔ x ∈ m) : l = m := by
  have n1 : l.Nodup := hl.pair.imp fun h => by omega
  have n2 : m.Nodup := hm.pair.imp fun h => by omega
  exact List.Perm.eq_of_pairwise (le := (· ≤ ·)) (fun a b _ _ h1 h2 => Int.le_antisymm h1 h2) (hl.pair.imp fun h => Int.le_of_lt h) (hm.pair.imp fun h => Int.le_of_lt h) ((List.perm_ext_iff_of_nodup n1 n2).2 h)
theorem joinVars_same {l vars : List Int} (h : JoinVars l l vars) (hu : Up l) : vars = l := up_eq h.1 hu fun x => by rw [h.2]; simp
theorem partL_rng {x : List Int} {n : Nat} (h : x.length = n) : partL x (rng n) (rng n) = x := by
  refine List.ext_getElem? fun i => ?_
  by_cases hi : i < n
  · have hm : (i : Int) ∈ rng n := List.mem_of_getElem? (rng_get hi)
    have h2 := List.idxOf_lt_length_of_mem hm
    have h3 : (rng n).idxOf (i : Int) = i := (rng_up n).inj (by rw [List.getElem?_eq_getElem h2, List.getElem_idxOf h2]) (rng_get hi)
    unfold partL
    rw [List.getElem?_map, rng_get hi, Option.map_some, h3, List.getD_eq_getElem?_getD, List.getElem?_eq_getElem (show i < x.length by omega)]
    rfl
  · rw [List.getElem?_eq_none (by rw [partL_length, rng_length]; omega), List.getElem?_eq_none (by omega)]
theorem joinS_rng {s : List Int} : joinS s (rng s.length) s (rng s.length) (rng s.length) = s := by
  refine List.ext_getElem? fun i => ?_
  by_cases hi : i < s.length
  · unfold joinS
    rw [List.getElem?_map, rng_get hi, Option.map_some, idxI_at (rng_up _) (rng_get hi), Int.max_self, List.getElem?_eq_getElem hi]
    unfold sizeAt
    rw [if_pos (by omega), List.getD_eq_getElem?_getD, Int.toNat_natCast, List.getElem?_eq_getElem hi]; rfl
  · rw [List.getElem?_eq_none (by rw [joinS_length, rng_length]; omega), List.getElem?_eq_none (by omega)]
/-- the costs added, place by place -/
def addC (s a b : List Int) (k : Int) : List Int := (List.range (prodN s).toNat).map fun (q : Nat) => min (getC s a (tupN s q) + getC s b (tupN s q)) k
theorem joinC_rng {s a b : List Int} {k : Int} : joinC s a (rng s.length) s b (rng s.length) (rng s.length) k = addC s a b k := by
  unfold joinC addC
  rw [joinS_rng]
  apply List.map_congr_left
  intro q _
  rw [partL_rng (tupN_length s q)]
theorem addC_length (s a b : List Int) (k : Int) : (addC s a b k).length = (prodN s).toNat := by simp [addC]
theorem addC_get {s a b t : List Int} {k : Int} (hs : SZ s) (h : Val s t) : getC s (addC s a b k) t = min (getC s a t + getC s b t) k := getC_list hs (f := fun t => min (getC s a t + getC s b t) k) h
theorem addC_in {s a b : List Int} {k : Int} (hk : right k) (ha : ∀ x ∈ a, inK x k) (hb : ∀ x ∈ b, inK x k) : ∀ x ∈ addC s a b k, inK x k := fun x hx => by
  obtain ⟨q, _, rfl⟩ := List.mem_map.1 hx
  have h1 := getC_in (s := s) (t := tupN s q) hk ha
  have h2 := getC_in (s := s) (t := tupN s q) hk hb
  have h3 := h1.2
  have h4 := h2.2
  exact ⟨hk, by omega, by omega⟩
theorem addC_turn {s a b c : List Int} {k : Int} (hs : SZ s) (hk : right k) (ha : ∀ x ∈ a, inK x k) (hb : ∀ x ∈ b, inK x k) (hc : ∀ x ∈ c, inK x k) : addC s (addC s a b k) c k = addC s (addC s c b k) a k :=
  lists_eq hs (addC_length _ _ _ _) (addC_length _ _ _ _) fun t ht => by
    rw [addC_get hs ht, addC_get hs ht, addC_get hs ht, addC_get hs ht]
    have h1 := (getC_in (s := s) (t := t) hk ha).2
    have h2 := (getC_in (s := s) (t := t) hk hb).2
    have h3 := (getC_in (s := s) (t := t) hk hc).2
    omega

theorem lScopeNil {n : Nat} {w : World} (hn : n ≤ 1000) : Cal prog F.law04_scope [.int .i64 (n : Int), .slice none 0 0] w fun v w' => Ext w w' ∧ ∃ g, w.heap.size ≤ g ∧ LM .i64 T.t_int w' g v (rng n) := by
  apply law04_scope.enter
  unfold law04_scope.body
  refine Loop3.range n (fun i out atv w1 => Ext w w1 ∧ atv = .int .i64 (i : Int) ∧ ∃ g, w.heap.size ≤ g ∧ LM .i64 T.t_int w1 g out (rng i)) (by omega) ⟨Ext.refl _, rfl, w.heap.size, Nat.le_refl _, LM.nil _ _ _ _⟩ ?_ ?_
  · rintro i out _ w1 kk hi ⟨hx1, rfl, g, hg, hm⟩ hkk
    simp only [binS_lss, split_dec]
    refine ⟨fun _ => ?_, fun h => by omega⟩
    refine join1 (fun v w2 => v = .int .i64 (i : Int) ∧ w1 = w2) ?_ ?_
    · rintro _ _ ⟨rfl, rfl⟩
      refine one_c T.t_sl_int.u T.t_int.i rfl fun a ga w3 hga hx3 ha => ?_
      have hil := rng_length i
      refine push_lm T.t_sl_int.u T.t_int.i rfl (hm.ext hx3) ha.ls (by simp only [List.length_cons, List.length_nil]; omega) (by simp only [List.length_cons, List.length_nil]; omega) fun v' g' w4 hg' hv' hc4 => ?_
      have s1 := hx1.size
      have s3 := hx3.size
      simp only [binS_add]
      refine hkk _ _ _ ⟨(hx1.trans hx3).then hc4 (by rintro r hr rfl; omega), by rw [wrap_i64 (by omega) (by omega)]; rfl, g', by omega, ?_⟩
      have e : rng (i + 1) = rng i ++ [(i : Int)] := by simp [rng, List.range_succ]
      rw [e]; exact hv'
    · intro J hJ
      rw [len_slice T.t_sl_uint8.u]
      simp only [binS_lss, split_dec]
      exact ⟨fun h => by omega, fun _ => hJ _ _ ⟨rfl, rfl⟩⟩
  · rintro out _ w1 kk ⟨hx1, rfl, g, hg, hm⟩
    simp only [binS_lss, split_dec]
    exact ⟨fun h => by omega, fun _ => ⟨hx1, g, hg, hm⟩⟩
end Go.Proofs.YtahhkeljejfgfaaDoor
