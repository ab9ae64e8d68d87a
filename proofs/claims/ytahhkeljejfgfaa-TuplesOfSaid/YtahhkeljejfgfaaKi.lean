/- Lemma kit, part i: lists made, and written. -/
import Derived.Test.YtahhkeljejfgfaaKh
namespace Go.Vc
open Go Go.RowKit

theorem fold_set : ∀ (c : List Value) (i : Nat) (z : Array Value), (i + c.length ≤ z.size) → ((c.zipIdx i).foldl (fun cs (x : Value × Nat) => cs.setIfInBounds x.2 x.1) z).toList = z.toList.take i ++ c ++ z.toList.drop (i + c.length)
  | [], i, z, h => by simp
  | x :: r, i, z, h => by
    simp only [List.length_cons] at h
    rw [List.zipIdx_cons, List.foldl_cons, fold_set r (i + 1) _ (by simp; omega)]
    simp only [Array.toList_setIfInBounds, List.length_cons]
    rw [List.drop_set_of_lt (by omega), List.take_set, List.take_add_one, List.getElem?_eq_getElem (by simp; omega)]
    simp only [Option.toList_some]
    rw [List.set_append_right _ _ (by simp; omega)]
    have e : i - (z.toList.take i).length = 0 := by simp; omega
    rw [e, show i + 1 + r.length = i + (r.length + 1) by omega]
    simp
theorem fill_one {k : Nat} {z : Array Value} {v : Value} (hz : z.size = k) (hv : v.cells.size = k) : Instr.fill (fun j => some (j * k, k)) z [(0, v)] = some v.cells := by
  have h := fold_set v.cells.toList 0 z (by simp; omega)
  simp only [Instr.fill, Nat.zero_mul, Nat.zero_add]
  rw [if_neg (by simp; omega)]
  congr 1
  apply Array.toList_inj.1
  rw [← Array.foldl_toList, Array.toList_zipIdx, h]
  simp
  omega

section
variable {P : Program} {w : World} {α β : Type} [Dat α] [Dat β] {m : Bool} {S R : Bs}

/-- a list of one element -/
theorem one_dat {t e : TypeId} {b : Nat} {z x : Value} {cs : List Value} {a : α} {A : Bs} {K : Value → World → Prop} (ht : P.underlying t = some (.slice e)) (hi : Inf P e (Dat.n α) b z) (hn : Dat.n α ≤ 100000)
    (hx : x.cells = cs.toArray) (ha : Owns A R w cs a)
    (hK : ∀ v w', Ext w w' → Owns (fun r => A r ∨ w.heap.size ≤ r) R w' [v] [a] → Sl w' (Dat.n α) v 1 cs → K v w') : RunC P (Instr.buildSlice t 1 #[(0, x)]) w K := by
  have hl := Dat.len ha
  refine buildSlice_c ht hi (by omega) (cs := x.cells) (fill_one (by simp) (by rw [hx]; simpa using hl)) fun g w' hg hx' hb => ?_
  have hb : Blk w' g e cs := by rw [hx] at hb; simpa using hb
  have hm : Mine w' g e (Dat.n α) (.slice (some ⟨g, 0, none⟩) 1 1) 1 cs := Mine.full hb (by omega) (by simp [maxLen])
  refine hK _ w' hx' ⟨_, rfl, [cs], g, fun i r => i = 0 ∧ A r ∧ r < w.heap.size, ⟨fun i r h => .inl h.2.1, fun _ i h => by omega, fun _ i j r hij h1 h2 => hij (h1.1.trans h2.1.symm)⟩, ⟨rfl, fun i c a' hc ha' => ?_⟩, ?_, fun _ => ⟨.inr (.inr (by omega)), e, by simpa using hm⟩⟩ hm.sl
  · have hi0 : i = 0 := by simpa using (List.getElem?_eq_some_iff.1 hc).1
    subst hi0
    simp at hc ha'; subst hc ha'
    exact rep_ext (Dat.mono ha (fun r hr h => ⟨rfl, h, hr⟩) fun _ _ h => h) hx'
  · have := mine_sls (S := fun r => (A r ∨ w.heap.size ≤ r) ∨ R r) hm (.inr (.inl (.inr (by omega))))
    simpa using this
end
end Go.Vc
