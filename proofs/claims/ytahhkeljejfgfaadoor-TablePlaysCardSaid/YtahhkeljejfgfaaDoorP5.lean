/- Plain facts: places go out in whichever order. -/
import Derived.Test.YtahhkeljejfgfaaDoorP4
import Derived.Test.YtahhkeljejfgfaaDoorPb
namespace Go.Proofs.YtahhkeljejfgfaaDoor
open Go Go.Vc

/-- the least of some -/
def minL : List Int → Int
  | [] => 0
  | x :: l => l.foldl min x
/-- the least of those that are so -/
def Least (P : Int → Prop) (m : Int) : Prop := P m ∧ ∀ x, P x → m ≤ x
theorem Least.eq {P Q : Int → Prop} {a b : Int} (h1 : Least P a) (h2 : Least Q b) (h : ∀ x, P x ↔ Q x) : a = b := by
  have := h1.2 b ((h b).2 h2.1)
  have := h2.2 a ((h a).1 h1.1)
  omega
theorem Least.comp {α : Type} {A : α → Prop} {P : α → Int → Prop} {f : α → Int} {m : Int} (h : Least (fun c => ∃ a, A a ∧ c = f a) m) (hf : ∀ a, A a → Least (P a) (f a)) : Least (fun c => ∃ a, A a ∧ P a c) m := by
  obtain ⟨⟨a, ha, rfl⟩, h2⟩ := h
  refine ⟨⟨a, ha, (hf a ha).1⟩, fun x ⟨b, hb, hx⟩ => ?_⟩
  have := h2 _ ⟨b, hb, rfl⟩
  have := (hf b hb).2 x hx
  omega

theorem outF_least {f : Int → Int} : ∀ (vals : List Int) (a : Int × Int), 0 ≤ a.1 → (∀ v ∈ vals, 0 ≤ v) → Least (fun c => c = a.2 ∨ ∃ v, v ∈ vals ∧ c = f v) (vals.foldl (outF f) a).2
  | [], a, _, _ => ⟨.inl rfl, fun x h => by
    rcases h with rfl | ⟨_, h, _⟩
    · exact Int.le_refl _
    · cases h⟩
  | v :: vals, a, ha, hv => by
    have h0 := hv v (.head _)
    rw [List.foldl_cons]
    by_cases hc : a.1 < 0 ∨ f v < a.2
    · have e : outF f a v = (v, f v) := by unfold outF; rw [if_pos hc]
      rw [e]
      obtain ⟨h1, h2⟩ := outF_least (f := f) vals (v, f v) h0 fun u hu => hv u (.tail _ hu)
      refine ⟨?_, fun x hx => ?_⟩
      · rcases h1 with h1 | ⟨u, hu, h1⟩
        · exact .inr ⟨v, .head _, h1⟩
        · exact .inr ⟨u, .tail _ hu, h1⟩
      · rcases hx with rfl | ⟨u, hu, rfl⟩
        · have := h2 _ (.inl rfl)
          simp only at this; omega
        · cases hu with
          | head => exact h2 _ (.inl rfl)
          | tail _ hu => exact h2 _ (.inr ⟨u, hu, rfl⟩)
    · have e : outF f a v = a := by unfold outF; rw [if_neg hc]
      rw [e]
      obtain ⟨h1, h2⟩ := outF_least (f := f) vals a ha fun u hu => hv u (.tail _ hu)
      refine ⟨?_, fun x hx => ?_⟩
      · rcases h1 with h1 | ⟨u, hu, h1⟩
        · exact .inl h1
        · exact .inr ⟨u, .tail _ hu, h1⟩
      · rcases hx with rfl | ⟨u, hu, rfl⟩
        · exact h2 _ (.inl rfl)
        · cases hu with
          | head => have := h2 _ (.inl rfl); omega
          | tail _ hu => exact h2 _ (.inr ⟨u, hu, rfl⟩)
theorem outAt_least {s cs : List Int} {k : Int} {i : Nat} {vals x : List Int} (h0 : vals ≠ []) (hv : ∀ v ∈ vals, 0 ≤ v) : Least (fun c => ∃ v, v ∈ vals ∧ c = getC s cs (insT x i v)) (outAt s cs k i vals x).2 := by
  obtain ⟨v, r, rfl⟩ : ∃ v r, vals = v :: r := by cases vals with
    | nil => exact absurd rfl h0
    | cons v r => exact ⟨v, r, rfl⟩
  unfold outAt
  rw [List.foldl_cons]
  have e : outF (fun v => getC s cs (insT x i v)) (-1, k) v = (v, getC s cs (insT x i v)) := by unfold outF; rw [if_pos (.inl (by simp))]
  rw [e]
  obtain ⟨h1, h2⟩ := outF_least (f := fun v => getC s cs (insT x i v)) r (v, getC s cs (insT x i v)) (hv v (.head _)) fun u hu => hv u (.tail _ hu)
  refine ⟨?_, fun y ⟨u, hu, hy⟩ => ?_⟩
  · rcases h1 with h1 | ⟨u, hu, h1⟩
    · exact ⟨v, .head _, h1⟩
    · exact ⟨u, .tail _ hu, h1⟩
  · cases hu with
    | head => exact h2 _ (.inl hy)
    | tail _ hu => exact h2 _ (.inr ⟨u, hu, hy⟩)

/-- tuples that there are -/
def Val (s t : List Int) : Prop := ∃ n, idxN s t 0 = some n
theorem idxN_cons (k v : Int) (s t : List Int) : idxN (k :: s) (v :: t) 0 = if 0 ≤ v ∧ v < k then (idxN s t 0).map (fun n => n + (0 * k + v) * prodN s) else none := by
  conv => lhs; unfold idxN
  rw [idxN_shift]
theorem val_cons {k v : Int} {s t : List Int} : Val (k :: s) (v :: t) ↔ (0 ≤ v ∧ v < k) ∧ Val s t := by
  unfold Val
  rw [idxN_cons]
  constructor
  · rintro ⟨n, h⟩
    split at h
    · rename_i hv
      cases hq : idxN s t 0 with
      | none => rw [hq] at h; cases h
      | some q => exact ⟨hv, q, rfl⟩
    · cases h
  · rintro ⟨hv, q, hq⟩
    rw [if_pos hv, hq]
    exact ⟨_, rfl⟩
theorem val_nil {t : List Int} : Val [] t ↔ t = [] := by
  cases t with
  | nil => exact ⟨fun _ => rfl, fun _ => ⟨0, rfl⟩⟩
  | cons v t =>
    constructor
    · rintro ⟨_, h⟩; cases h
    · intro h; cases h
theorem val_len {s t : List Int} (h : Val s t) : s.length = t.length := by
  obtain ⟨n, h⟩ := h
  rcases Nat.decEq s.length t.length with hn | hn
  · rw [idxN_len s t 0 hn] at h; cases h
  · exact hn

theorem tup_idx {s t : List Int} (hs : SZ s) {n : Int} (h : idxN s t 0 = some n) : tupN s n = t := by
  have hb := idxN_bound hs h
  have h1 := idx_all hs h
  simp only [Int.zero_mul, Int.zero_add, Int.one_mul] at hb
  have h2 := all_tup hs (i := n.toNat) (by omega)
  rw [h1] at h2
  have e : ((n.toNat : Nat) : Int) = n := by omega
  rw [e] at h2
  exact (Option.some.inj h2).symm
theorem getC_list {s : List Int} (hs : SZ s) {f : List Int → Int} {t : List Int} (h : Val s t) : getC s ((List.range (prodN s).toNat).map fun (q : Nat) => f (tupN s q)) t = f t := by
  obtain ⟨n, hn⟩ := h
  have hb := idxN_bound hs hn
  simp only [Int.zero_mul, Int.zero_add, Int.one_mul] at hb
  unfold getC
  rw [hn]
  simp only
  rw [List.getD_eq_getElem?_getD, List.getElem?_map, List.getElem?_range (by omega)]
  simp only [Option.map_some, Option.getD_some]
  have e : ((n.toNat : Nat) : Int) = n := by omega
  rw [e, tup_idx hs hn]
theorem list_getC {s cs : List Int} (hs : SZ s) (hl : cs.length = (prodN s).toNat) : cs = (List.range (prodN s).toNat).map fun (q : Nat) => getC s cs (tupN s q) := by
  apply List.ext_getElem
  · simp [hl]
  · intro i h1 h2
    rw [List.getElem_map, List.getElem_range]
    have hp := prod_pos hs
    have hi : (i : Int) < prodN s := by omega
    unfold getC
    rw [idx_tup hs (by omega) hi]
    simp only [Int.toNat_natCast]
    rw [List.getD_eq_getElem?_getD, List.getElem?_eq_getElem h1]; rfl
theorem tup_val {s : List Int} (hs : SZ s) {q : Nat} (hq : q < (prodN s).toNat) : Val s (tupN s q) := ⟨_, idx_tup hs (by omega) (by have := prod_pos hs; omega)⟩
theorem lists_eq {s cs ds : List Int} (hs : SZ s) (hc : cs.length = (prodN s).toNat) (hd : ds.length = (prodN s).toNat) (h : ∀ t, Val s t → getC s cs t = getC s ds t) : cs = ds := by
  rw [list_getC hs hc, list_getC hs hd]
  apply List.map_congr_left
  intro q hq
  exact h _ (tup_val hs (by simpa using hq))

/-- costs without a place -/
def outC (s cs : List Int) (k : Int) (i : Nat) (vals : List Int) : List Int := (outL s cs k i vals).map (·.2)
theorem outC_length (s cs : List Int) (k : Int) (i : Nat) (vals : List Int) : (outC s cs k i vals).length = (prodN (outS s i)).toNat := by simp [outC, outL]
theorem outC_get {s cs : List Int} {k : Int} {i : Nat} {vals t : List Int} (hs : SZ (outS s i)) (h : Val (outS s i) t) : getC (outS s i) (outC s cs k i vals) t = (outAt s cs k i vals t).2 := by
  unfold outC outL
  rw [List.map_map]
  exact getC_list hs (f := fun t => (outAt s cs k i vals t).2) h

/-- all values -/
theorem full_mem {n : Nat} {v : Int} : v ∈ (valsN (2 ^ n - 1) n).map (fun (x : Nat) => (x : Int)) ↔ 0 ≤ v ∧ v < n := by
  simp only [List.mem_map, valsN_mem, Nat.testBit_two_pow_sub_one]
  constructor
  · rintro ⟨a, ⟨h, _⟩, rfl⟩; omega
  · rintro ⟨h1, h2⟩
    exact ⟨v.toNat, ⟨by omega, by simp; omega⟩, by omega⟩

theorem out_least {s cs : List Int} {k : Int} {i n : Nat} {vals t : List Int} (hs : SZ (outS s i)) (hn : 0 < n) (hm : ∀ v, v ∈ vals ↔ 0 ≤ v ∧ v < (n : Int)) (h : Val (outS s i) t) :
    Least (fun c => ∃ v, (0 ≤ v ∧ v < (n : Int)) ∧ c = getC s cs (insT t i v)) (getC (outS s i) (outC s cs k i vals) t) := by
  rw [outC_get hs h]
  have h0 : vals ≠ [] := by
    intro he
    have := (hm 0).2 ⟨by omega, by omega⟩
    rw [he] at this; cases this
  have := outAt_least (s := s) (cs := cs) (k := k) (i := i) (x := t) h0 fun v hv => ((hm v).1 hv).1
  refine ⟨?_, fun x ⟨v, hv, hx⟩ => this.2 x ⟨v, (hm v).2 hv, hx⟩⟩
  obtain ⟨v, hv, hx⟩ := this.1
  exact ⟨v, (hm v).1 hv, hx⟩

theorem minL_least {l : List Int} (h : l ≠ []) : Least (fun c => c ∈ l) (minL l) := by
  obtain ⟨x, r, rfl⟩ : ∃ v r, l = v :: r := by cases l with
    | nil => exact absurd rfl h
    | cons v r => exact ⟨v, r, rfl⟩
  clear h
  show Least (fun c => c ∈ x :: r) (r.foldl min x)
  induction r generalizing x with
  | nil => exact ⟨.head _, fun y hy => by simp at hy; simp [hy]⟩
  | cons y r ih =>
    rw [List.foldl_cons]
    obtain ⟨h1, h2⟩ := ih (min x y)
    refine ⟨?_, fun z hz => ?_⟩
    · rcases List.mem_cons.1 h1 with h1 | h1
      · rw [h1]
        rcases Int.le_total x y with h | h
        · rw [Int.min_eq_left h]; exact .head _
        · rw [Int.min_eq_right h]; exact .tail _ (.head _)
      · exact .tail _ (.tail _ h1)
    · rcases List.mem_cons.1 hz with rfl | hz
      · have := h2 _ (.head _); omega
      · rcases List.mem_cons.1 hz with rfl | hz
        · have := h2 _ (.head _); omega
        · exact h2 _ (.tail _ hz)
theorem mem_getC {s cs : List Int} (hs : SZ s) (hl : cs.length = (prodN s).toNat) {c : Int} : c ∈ cs ↔ ∃ t, Val s t ∧ c = getC s cs t := by
  constructor
  · intro h
    rw [list_getC hs hl] at h
    obtain ⟨q, hq, rfl⟩ := List.mem_map.1 h
    exact ⟨_, tup_val hs (by simpa using hq), rfl⟩
  · rintro ⟨t, ⟨n, hn⟩, rfl⟩
    have hb := idxN_bound hs hn
    simp only [Int.zero_mul, Int.zero_add, Int.one_mul] at hb
    unfold getC
    rw [hn]
    simp only
    rw [List.getD_eq_getElem?_getD, List.getElem?_eq_getElem (by omega)]
    exact List.getElem_mem _

/-! ### two places go -/
theorem outS_zero (a : Int) (r : List Int) : outS (a :: r) 0 = r := by simp [outS]
theorem outS_one (a b : Int) (r : List Int) : outS (a :: b :: r) 1 = a :: r := by simp [outS]
theorem insT_zero (x : List Int) (v : Int) : insT x 0 v = v :: x := by simp [insT]
theorem insT_one (u v : Int) (x : List Int) : insT (u :: x) 1 v = u :: v :: x := by simp [insT]

/-- every value of a place -/
def fullV (a : Int) : List Int := (valsN (2 ^ a.toNat - 1) a.toNat).map fun (x : Nat) => (x : Int)
theorem fullV_mem {a v : Int} (h : 1 ≤ a) : v ∈ fullV a ↔ 0 ≤ v ∧ v < ((a.toNat : Nat) : Int) := full_mem

theorem out0_least {a : Int} {r cs t : List Int} {k : Int} (hs : SZ (a :: r)) (h : Val r t) : Least (fun c => ∃ v, (0 ≤ v ∧ v < a) ∧ c = getC (a :: r) cs (v :: t)) (getC r (outC (a :: r) cs k 0 (fullV a)) t) := by
  have ha := hs a (.head _)
  have := out_least (s := a :: r) (cs := cs) (k := k) (i := 0) (n := a.toNat) (vals := fullV a) (t := t) (by rw [outS_zero]; exact hs.tail) (by omega) (fun v => fullV_mem ha.1) (by rw [outS_zero]; exact h)
  rw [outS_zero] at this
  simp only [insT_zero] at this
  refine ⟨?_, fun x ⟨v, hv, hx⟩ => this.2 x ⟨v, ⟨hv.1, by omega⟩, hx⟩⟩
  obtain ⟨v, hv, hx⟩ := this.1
  exact ⟨v, ⟨hv.1, by omega⟩, hx⟩
theorem out1_least {a b u : Int} {r cs t : List Int} {k : Int} (hs : SZ (a :: b :: r)) (h : Val (a :: r) (u :: t)) : Least (fun c => ∃ v, (0 ≤ v ∧ v < b) ∧ c = getC (a :: b :: r) cs (u :: v :: t)) (getC (a :: r) (outC (a :: b :: r) cs k 1 (fullV b)) (u :: t)) := by
  have hb := hs b (.tail _ (.head _))
  have hs' : SZ (a :: r) := fun x hx => by
    rcases List.mem_cons.1 hx with rfl | hx
    · exact hs _ (.head _)
    · exact hs _ (.tail _ (.tail _ hx))
  have := out_least (s := a :: b :: r) (cs := cs) (k := k) (i := 1) (n := b.toNat) (vals := fullV b) (t := u :: t) (by rw [outS_one]; exact hs') (by omega) (fun v => fullV_mem hb.1) (by rw [outS_one]; exact h)
  rw [outS_one] at this
  simp only [insT_one] at this
  refine ⟨?_, fun x ⟨v, hv, hx⟩ => this.2 x ⟨v, ⟨hv.1, by omega⟩, hx⟩⟩
  obtain ⟨v, hv, hx⟩ := this.1
  exact ⟨v, ⟨hv.1, by omega⟩, hx⟩

/-- the first goes, then the second -/
theorem out00 {a b : Int} {r cs t : List Int} {k : Int} (hs : SZ (a :: b :: r)) (h : Val r t) :
    Least (fun c => ∃ v, (0 ≤ v ∧ v < b) ∧ ∃ u, (0 ≤ u ∧ u < a) ∧ c = getC (a :: b :: r) cs (u :: v :: t)) (getC r (outC (b :: r) (outC (a :: b :: r) cs k 0 (fullV a)) k 0 (fullV b)) t) :=
  (out0_least hs.tail h).comp fun v hv => out0_least hs (val_cons.2 ⟨hv, h⟩)
/-- the second goes, then the first -/
theorem out10 {a b : Int} {r cs t : List Int} {k : Int} (hs : SZ (a :: b :: r)) (h : Val r t) :
    Least (fun c => ∃ u, (0 ≤ u ∧ u < a) ∧ ∃ v, (0 ≤ v ∧ v < b) ∧ c = getC (a :: b :: r) cs (u :: v :: t)) (getC r (outC (a :: r) (outC (a :: b :: r) cs k 1 (fullV b)) k 0 (fullV a)) t) := by
  have hs' : SZ (a :: r) := fun x hx => by
    rcases List.mem_cons.1 hx with rfl | hx
    · exact hs _ (.head _)
    · exact hs _ (.tail _ (.tail _ hx))
  exact (out0_least hs' h).comp fun u hu => out1_least hs (val_cons.2 ⟨hu, h⟩)
theorem out_swap {a b : Int} {r cs : List Int} {k : Int} (hs : SZ (a :: b :: r)) :
    outC (b :: r) (outC (a :: b :: r) cs k 0 (fullV a)) k 0 (fullV b) = outC (a :: r) (outC (a :: b :: r) cs k 1 (fullV b)) k 0 (fullV a) := by
  refine lists_eq hs.tail.tail (by rw [outC_length, outS_zero]) (by rw [outC_length, outS_zero]) fun t ht => ?_
  refine (out00 hs ht).eq (out10 hs ht) fun x => ?_
  constructor
  · rintro ⟨v, hv, u, hu, rfl⟩; exact ⟨u, hu, v, hv, rfl⟩
  · rintro ⟨v, hv, u, hu, rfl⟩; exact ⟨u, hu, v, hv, rfl⟩
/-- of two places: the least of all -/
theorem least2 {a b : Int} {cs : List Int} {k : Int} (hs : SZ [a, b]) (hl : cs.length = (prodN [a, b]).toNat) : getC [] (outC [b] (outC [a, b] cs k 0 (fullV a)) k 0 (fullV b)) [] = minL cs := by
  have hp := prod_pos hs
  refine (out00 hs (val_nil.2 rfl)).eq (minL_least (by intro h; rw [h] at hl; simp at hl; omega)) fun x => ?_
  rw [mem_getC hs hl]
  constructor
  · rintro ⟨v, hv, u, hu, rfl⟩; exact ⟨[u, v], val_cons.2 ⟨hu, val_cons.2 ⟨hv, val_nil.2 rfl⟩⟩, rfl⟩
  · rintro ⟨t, ht, rfl⟩
    match t, val_len ht with
    | [u, v], _ =>
      obtain ⟨hu, ht⟩ := val_cons.1 ht
      exact ⟨v, (val_cons.1 ht).1, u, hu, rfl⟩
/-- of three -/
theorem least3 {a b c : Int} {cs : List Int} {k : Int} (hs : SZ [a, b, c]) (hl : cs.length = (prodN [a, b, c]).toNat) :
    getC [] (outC [c] (outC [b, c] (outC [a, b, c] cs k 0 (fullV a)) k 0 (fullV b)) k 0 (fullV c)) [] = minL cs := by
  have hp := prod_pos hs
  refine ((out0_least hs.tail.tail (val_nil.2 rfl)).comp fun q hq => out00 hs (val_cons.2 ⟨hq, val_nil.2 rfl⟩)).eq (minL_least (by intro h; rw [h] at hl; simp at hl; omega)) fun x => ?_
  rw [mem_getC hs hl]
  constructor
  · rintro ⟨q, hq, v, hv, u, hu, rfl⟩; exact ⟨[u, v, q], val_cons.2 ⟨hu, val_cons.2 ⟨hv, val_cons.2 ⟨hq, val_nil.2 rfl⟩⟩⟩, rfl⟩
  · rintro ⟨t, ht, rfl⟩
    match t, val_len ht with
    | [u, v, q], _ =>
      obtain ⟨hu, ht⟩ := val_cons.1 ht
      obtain ⟨hv, ht⟩ := val_cons.1 ht
      exact ⟨q, (val_cons.1 ht).1, v, hv, u, hu, rfl⟩
end Go.Proofs.YtahhkeljejfgfaaDoor
