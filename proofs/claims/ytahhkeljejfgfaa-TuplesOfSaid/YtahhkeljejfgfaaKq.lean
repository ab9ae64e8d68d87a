/- Lemma kit, part q: rows of one's own whose elements are several cells each. -/
import Derived.Test.YtahhkeljejfgfaaKp
namespace Go.Vc
open Go Go.RowKit
set_option maxRecDepth 100000

def leadsTo (v : Value) (r : Nat) : Prop := ∃ a n c, v = .slice (some a) n c ∧ a.block = r
theorem nil_leadsTo {r : Nat} (h : leadsTo (.slice none 0 0) r) : False := by
  obtain ⟨a, n, c, h, _⟩ := h
  cases h

section
variable {α : Type} {f : α → List Value} {k : Nat}
theorem flatM_len : ∀ {L : List α}, (∀ a ∈ L, (f a).length = k) → (L.flatMap f).length = L.length * k
  | [], _ => by simp
  | a :: L, h => by
    rw [List.flatMap_cons, List.length_append, h a (.head _), flatM_len fun b hb => h b (.tail _ hb), List.length_cons, Nat.add_mul]
    omega
theorem flatM_take : ∀ {L : List α} (i : Nat), (∀ a ∈ L, (f a).length = k) → (L.flatMap f).take (i * k) = (L.take i).flatMap f
  | [], i, _ => by simp
  | a :: L, 0, _ => by simp
  | a :: L, i + 1, h => by
    have ha := h a (.head _)
    rw [List.flatMap_cons, List.take_succ_cons, List.flatMap_cons, ← flatM_take i fun b hb => h b (.tail _ hb), Nat.add_mul, Nat.one_mul, Nat.add_comm, List.take_append, ha]
    congr 1
    · exact List.take_of_length_le (by omega)
    · congr 1; omega
theorem flatM_drop : ∀ {L : List α} (i : Nat), (∀ a ∈ L, (f a).length = k) → (L.flatMap f).drop (i * k) = (L.drop i).flatMap f
  | [], i, _ => by simp
  | a :: L, 0, _ => by simp
  | a :: L, i + 1, h => by
    have ha := h a (.head _)
    rw [List.flatMap_cons, List.drop_succ_cons, ← flatM_drop i fun b hb => h b (.tail _ hb), Nat.add_mul, Nat.one_mul, Nat.add_comm, List.drop_append, ha]
    rw [List.drop_of_length_le (by omega), List.nil_append]
    congr 1; omega
theorem flatM_part {L : List α} {i : Nat} {a : α} (h : ∀ a ∈ L, (f a).length = k) (hi : L[i]? = some a) {j : Nat} {v : Value} (hj : (f a)[j]? = some v) : (L.flatMap f)[i * k + j]? = some v := by
  have hl := (List.getElem?_eq_some_iff.1 hj).1
  rw [← List.getElem?_drop, flatM_drop i h]
  have hil := List.getElem?_eq_some_iff.1 hi
  rw [List.drop_eq_getElem_cons hil.1, hil.2, List.flatMap_cons, List.getElem?_append_left hl]
  exact hj
theorem flatM_set {L : List α} {i : Nat} {a : α} (h : ∀ a ∈ L, (f a).length = k) (ha : (f a).length = k) (hi : i < L.length) : over (L.flatMap f) (i * k) (f a) = (L.set i a).flatMap f := by
  have hl := flatM_len h
  have hle : (i + 1) * k ≤ L.length * k := Nat.mul_le_mul_right _ hi
  rw [Nat.add_mul, Nat.one_mul] at hle
  rw [over_eq (by omega), ha, flatM_take i h, show i * k + k = (i + 1) * k by rw [Nat.add_mul, Nat.one_mul], flatM_drop (i + 1) h, List.set_eq_take_append_cons_drop, if_pos hi, List.flatMap_append, List.flatMap_cons, List.append_assoc]

theorem over_take {cs vs : List Value} {o m : Nat} (h1 : o + vs.length ≤ m) (h2 : m ≤ cs.length) : (over cs o vs).take m = over (cs.take m) o vs := by
  rw [over_eq (by omega), over_eq (by rw [List.length_take]; omega), List.append_assoc, List.append_assoc, List.take_append, List.take_append, List.take_take, List.take_take, List.drop_take, List.length_take]
  rw [show min m o = o by omega, show min o m = o by omega, show min o cs.length = o by omega, List.take_of_length_le (l := vs) (by omega)]
  congr 3
  omega
/-- a row of one's own; f tells an element's k cells -/
def RM (f : α → List Value) (k : Nat) (e : TypeId) (w : World) (g : Nat) (v : Value) (L : List α) : Prop := Mine w g e k v L.length (L.flatMap f) ∧ ∀ a ∈ L, (f a).length = k
variable {P : Program} {w : World} {e : TypeId} {g : Nat} {v : Value} {L : List α}
theorem RM.nil (f : α → List Value) (k : Nat) (e : TypeId) (w : World) (g : Nat) : RM f k e w g (.slice none 0 0) [] := ⟨Mine.nil w g e k, fun a h => by cases h⟩
theorem RM.leads (h : RM f k e w g v L) {r : Nat} (hr : leadsTo v r) : r = g ∧ g < w.heap.size := by
  obtain ⟨_, ⟨rfl, _⟩ | ⟨cap, cs, rfl, hb, _⟩⟩ := h.1
  · exact (nil_leadsTo hr).elim
  · obtain ⟨a, n, c, h1, h2⟩ := hr
    cases h1
    exact ⟨h2.symm, hb.lt⟩
theorem RM.chg {S : Nat → Prop} {w' : World} (h : RM f k e w g v L) (hx : Chg S w w') (hS : ∀ r, leadsTo v r → ¬ S r) : RM f k e w' g v L :=
  ⟨⟨h.1.1, h.1.2.imp id fun ⟨cap, cs, h1, h2, h3⟩ => ⟨cap, cs, h1, h2.chg hx (hS g ⟨_, _, _, h1, rfl⟩), h3⟩⟩, h.2⟩
theorem RM.ext {w' : World} (h : RM f k e w g v L) (hx : Ext w w') : RM f k e w' g v L := h.chg (hx.chg fun _ => False) fun _ _ h => h
theorem RM.sl (h : RM f k e w g v L) : Sl w k v L.length (L.flatMap f) := h.1.sl
theorem RM.le (h : RM f k e w g v L) : L.length ≤ 9223372036854775807 := by
  have := Sl.le h.sl
  simpa [maxLen] using this
theorem len_rm {t ty : TypeId} {K : Value → Prop} (ht : P.underlying t = some (.slice e)) (h : RM f k e w g v L) : RunQ P (Builtin.len_ #[t] ty #[v]) w K = K (.int .i64 L.length) := by
  obtain ⟨_, _, _, _, _, rfl, _⟩ := h.sl
  exact len_slice ht
/-- an element's place -/
theorem idx_rm {t : TypeId} {q : IntKind} {b : Nat} {z : Value} {i : Nat} {y : Int} {K : Value → Prop} (hy : y = (i : Int)) (ht : P.underlying t = some (.slice e)) (hi : Inf P e k b z) (h : RM f k e w g v L) (hl : i < L.length) :
    RunQ P (Instr.indexAt t v (.int q y)) w K = K (.pointer (some ⟨g, i * k, none⟩)) := by
  subst hy
  obtain ⟨_, ⟨rfl, h0⟩ | ⟨cap, cs, rfl, hb, h2⟩⟩ := h.1
  · omega
  · rw [index_nat ht hi hl (fun _ => rfl), Nat.zero_add]
theorem RM.range {i : Nat} {a : α} (h : RM f k e w g v L) (hi : L[i]? = some a) : w.rangeAt g (i * k) (f a) := fun j u hu => by
  have h1 := flatM_part h.2 hi hu
  have hil := (List.getElem?_eq_some_iff.1 hi).1
  obtain ⟨_, ⟨rfl, h0⟩ | ⟨cap, cs, rfl, hb, _, _, h4, h5⟩⟩ := h.1
  · omega
  · have hj := (List.getElem?_eq_some_iff.1 h1).1
    rw [flatM_len h.2] at hj
    rw [← h5, List.getElem?_take_of_lt hj] at h1
    exact hb.cell h1
/-- an element is written -/
theorem store_rm {t : TypeId} {b : Nat} {z : Value} {i : Nat} {a : α} {K : Unit → World → Prop} (hi : Inf P t k b z) (h : RM f k e w g v L) (ha : (f a).length = k) (h1 : ∀ u ∈ f a, u.oneCell' = true) (hl : i < L.length)
    (hK : ∀ w', Chg (fun r => leadsTo v r) w w' → w'.heap.size = w.heap.size → RM f k e w' g v (L.set i a) → K () w') : RunC P (Instr.storeAt t (.pointer (some ⟨g, i * k, none⟩)) (.agg (f a).toArray)) w K := by
  have hlen := flatM_len h.2
  have hle : (i + 1) * k ≤ L.length * k := Nat.mul_le_mul_right _ hl
  rw [Nat.add_mul, Nat.one_mul] at hle
  obtain ⟨⟨hxl, ⟨rfl, h0⟩ | ⟨cap, cs, rfl, hb, h2, h3, h4, h5⟩⟩, hall⟩ := h
  · omega
  · have hcs : L.length * k ≤ cs.length := by rw [h4]; exact Nat.mul_le_mul_right _ h2
    refine store_agg hi ha h1 hb (by omega) fun w' hc hs hb' => hK w' (hc.mono fun r _ he => ⟨_, _, _, rfl, he.symm⟩) hs ⟨⟨?_, .inr ⟨cap, _, by simp, hb', by simpa using h2, h3, by rw [over_length, h4], ?_⟩⟩, fun b hb2 => ?_⟩
    · rw [flatM_len (L := L.set i a) fun b hb2 => by
        rcases List.mem_or_eq_of_mem_set hb2 with h | rfl
        · exact hall b h
        · exact ha]
    · rw [List.length_set, ← flatM_set hall ha hl, ← h5, over_take (by rw [ha]; omega) hcs]
    · rcases List.mem_or_eq_of_mem_set hb2 with h | rfl
      · exact hall b h
      · exact ha
/-- an element is appended -/
theorem push_rm {t ty : TypeId} {b : Nat} {z x : Value} {a : α} {K : Value → World → Prop} (ht : P.underlying t = some (.slice e)) (hi : Inf P e k b z) (hz : z.cells.size = k) (h : RM f k e w g v L) (hx : Sl w k x 1 (f a)) (h1 : ∀ a, ∀ u ∈ f a, u.oneCell' = true)
    (hb : (L.length + 1) * b ≤ 140737488355328) (h63 : L.length + 1 ≤ 9223372036854775807)
    (hK : ∀ v' g' w', RM f k e w' g' v' (L ++ [a]) → (∀ r, leadsTo v' r → leadsTo v r ∨ w.heap.size ≤ r) → Chg (fun r => leadsTo v r) w w' → K v' w') : RunC P (Builtin.append_ #[t, t] ty #[v, x]) w K := by
  have hxl : (f a).length = k := by have := hx.1; omega
  have fin : ∀ v' g' w', Mine w' g' e k v' (L.length + 1) (L.flatMap f ++ f a) → RM f k e w' g' v' (L ++ [a]) := fun v' g' w' hm => ⟨by simpa using hm, fun b hb => by
    rcases List.mem_append.1 hb with h' | h'
    · exact h.2 b h'
    · rw [List.mem_singleton.1 h']; exact hxl⟩
  rcases h.1.2 with ⟨hv, hn⟩ | ⟨cap, cs, hv, hbk, _⟩
  · have hm : Mine w w.heap.size e k v L.length (L.flatMap f) := ⟨h.1.1, .inl ⟨hv, hn⟩⟩
    subst hv
    refine append_own ht ht hi hz hm hx (h1 a) (by simpa using hb) (by simpa [maxLen] using h63) fun v' g' w' hg hm' hc => hK v' g' w' (fin _ _ _ hm') (fun r hr => .inr ?_) (hc.mono fun r hr h => by omega)
    have := ((fin _ _ _ hm').leads hr).1
    omega
  · refine append_own ht ht hi hz h.1 hx (h1 a) (by simpa using hb) (by simpa [maxLen] using h63) fun v' g' w' hg hm' hc => hK v' g' w' (fin _ _ _ hm') (fun r hr => ?_) (hc.mono fun r hr h => ⟨_, _, _, hv, h.symm⟩)
    have := ((fin _ _ _ hm').leads hr).1
    rcases hg with hg | hg
    · exact .inl ⟨_, _, _, hv, by show g = r; omega⟩
    · exact .inr (by omega)
/-- a row of one element -/
theorem one_rm {t : TypeId} {b : Nat} {z : Value} {a : α} {x : Value} {K : Value → World → Prop} (ht : P.underlying t = some (.slice e)) (hi : Inf P e k b z) (hn : k ≤ 100000) (hx : x.cells = (f a).toArray) (hl : (f a).length = k)
    (hK : ∀ v g w', g = w.heap.size → Ext w w' → RM f k e w' g v [a] → K v w') : RunC P (Instr.buildSlice t 1 #[(0, x)]) w K :=
  buildSlice_c ht hi (by omega) (cs := x.cells) (fill_one (by simp) (by rw [hx]; simpa using hl)) fun g w' hg hx' hb => by
    have hb : Blk w' g e (f a) := by rw [hx] at hb; simpa using hb
    exact hK _ g w' hg hx' ⟨by simpa using Mine.full (k := k) (n := 1) hb (by omega) (by simp [maxLen]), fun c hc => by rw [List.mem_singleton.1 hc]; exact hl⟩
end
end Go.Vc
