/- Lemma kit, part m: one's own lists of numbers, written; what stays. -/
import Derived.Test.YtahhkeljejfgfaaKl
namespace Go.Vc
open Go Go.RowKit
section
variable {P : Program} {w : World}

theorem idx_lm {t e e' : TypeId} {kk k : IntKind} {i b g : Nat} {y : Int} {z v : Value} {l : List Int} {K : Value → Prop} (hy : y = (i : Int)) (ht : P.underlying t = some (.slice e)) (hi : Inf P e 1 b z)
    (h : LM k e' w g v l) (hl : i < l.length) : RunQ P (Instr.indexAt t v (.int kk y)) w K = K (.pointer (some ⟨g, i, none⟩)) := by
  subst hy
  obtain ⟨_, ⟨_, h0⟩ | ⟨cap, cs, rfl, _⟩⟩ := h
  · omega
  · rw [index_nat ht hi hl (fun _ => rfl)]; simp
theorem at_ls {t e : TypeId} {kk k : IntKind} {i b : Nat} {y x : Int} {z v : Value} {l : List Int} {K : Value → Prop} (hy : y = (i : Int)) (ht : P.underlying t = some (.slice e)) (hi : Inf P e 1 b z)
    (h : LS k w v l) (hx : l[i]? = some x) (hK : ∀ b o, w.cell? ⟨b, o, none⟩ = some (.int k x) → K (.pointer (some ⟨b, o, none⟩))) : RunQ P (Instr.indexAt t v (.int kk y)) w K := by
  subst hy
  have hlt := (List.getElem?_eq_some_iff.1 hx).1
  obtain ⟨_, _, _, _, _, rfl, _, _, hb, hr⟩ := h
  rw [index_nat ht hi hlt hb, Nat.mul_one]
  exact hK _ _ (hr i _ (ints_get hx))
theorem store_lm {e e' : TypeId} {k : IntKind} {i b g : Nat} {x : Int} {z v : Value} {l : List Int} {K : Unit → World → Prop} (hi : Inf P e 1 b z)
    (h : LM k e' w g v l) (hl : i < l.length) (hK : ∀ w', Chg (fun r => r = g) w w' → w'.heap.size = w.heap.size → LM k e' w' g v (l.set i x) → K () w') : RunC P (Instr.storeAt e (.pointer (some ⟨g, i, none⟩)) (.int k x)) w K := by
  obtain ⟨hlen, ⟨_, h0⟩ | ⟨cap, full, rfl, hb, h3, h4, h5, h6⟩⟩ := h
  · omega
  · have hfl : i < full.length := by simp at h5; omega
    refine store_cell hi rfl rfl hb hfl fun w' hc hs hb' => hK w' hc hs ⟨by simp, .inr ⟨cap, full.set i (.int k x), by simp, hb', by simpa using h3, h4, by simpa using h5, ?_⟩⟩
    simp only [List.length_set, Nat.mul_one] at h6 ⊢
    rw [List.take_set, h6, ints, ints, List.map_set]
theorem stays_cell {t : TypeId} {b o : Nat} {v : Value} (ht : oneCellT P t = true) (h : w.cell? ⟨b, o, none⟩ = some v) : Stays P (Instr.loadAt t (.pointer (some ⟨b, o, none⟩))) v w := fun w' hx => by
  have h' := cell?_ext hx h
  unfold oneCellT at ht
  cases hu : P.underlying t with
  | none => rw [hu] at ht; cases ht
  | some d =>
    rw [hu] at ht
    cases d <;> first | (cases ht; done) | simp [Instr.loadAt, Instr.sureAddr, loadVar, isAgg, run_underlying hu, h']
theorem LS_chg {k : IntKind} {S : Bs} {w' : World} {v : Value} {l : List Int} (h : LS k w v l) (hx : Chg S w w') (hS : ∀ r, S r → ∀ a n c, v = .slice (some a) n c → a.block ≠ r) : LS k w' v l := by
  obtain ⟨h1, b, o, base, cap, rfl, h3, h4, h5, h6⟩ := h
  refine ⟨h1, b, o, base, cap, rfl, h3, h4, h5, ?_⟩
  rcases Nat.eq_zero_or_pos l.length with h0 | h0
  · intro j u hu
    have := (List.getElem?_eq_some_iff.1 hu).1
    simp at this; omega
  · have hb := h5 h0
    subst hb
    exact range_chg hx (fun h => hS _ h _ _ _ rfl rfl) h6
end
end Go.Vc
