/- Lemma kit, part h: operations on data of any kind. -/
import Derived.Test.YtahhkeljejfgfaaKg
namespace Go.Vc
open Go Go.RowKit
section
variable {P : Program} {w : World} {α β : Type} [Dat α] [Dat β] {m : Bool} {S R : Bs}

theorem rep_list {v : Value} {l : List α} (h : Dat.rep m S R w [v] l) : ∃ (vs : List (List Value)) (g : Nat) (F : Nat → Bs), Parts m S g F ∧ Elems m R F w vs l ∧ SlS (fun r => S r ∨ R r) w (Dat.n α) v l.length vs.flatten ∧
    (m = true → (v = .slice none 0 0 ∨ S g) ∧ ∃ e, Mine w g e (Dat.n α) v l.length vs.flatten) := by
  obtain ⟨_, h0, h⟩ := h
  cases h0; exact h
theorem dat_one {v : Value} {a : α} (h : Dat.rep m S R w [v] a) : v.oneCell' = true := Dat.one h v (.head _)
theorem list_cells {v : Value} {l : List α} (h : Dat.rep m S R w [v] l) : v.cells = #[v] := by
  obtain ⟨_, _, _, _, _, ⟨_, _, _, _, _, rfl, _⟩, _⟩ := rep_list h; rfl
theorem list_le {v : Value} {l : List α} (h : Dat.rep m S R w [v] l) : l.length ≤ 9223372036854775807 := by
  obtain ⟨_, _, _, _, _, h, _⟩ := rep_list h
  have := h.sl.le; simpa [maxLen] using this
theorem list_nil : Dat.rep m S R w [.slice none 0 0] ([] : List α) :=
  ⟨_, rfl, [], 0, fun _ _ => False, ⟨fun _ _ h => h.elim, fun _ _ h => h, fun _ _ _ _ _ h => h.elim⟩, ⟨rfl, fun i c a hc => by simp at hc⟩,
    ⟨by simp, 0, 0, none, 0, rfl, Nat.le_refl _, Nat.zero_le _, fun h => absurd h (Nat.lt_irrefl _), fun h => by simp at h, fun j v h => by simp at h⟩,
    fun _ => ⟨.inl rfl, 0, Mine.nil w 0 0 _⟩⟩

/-- lists of numbers, as they were told before -/
theorem rep_int {k : IntKind} {c : List Value} {a : Num k} (h : Dat.rep m S R w c a) : c = [.int k a] := h
theorem flat_ints {F : Nat → Bs} {vs : List (List Value)} {l : List Int} (h : Elems m R F w vs l) : vs.flatten = ints .i64 l := by
  have : vs = l.map fun x => [Value.int .i64 x] := by
    apply List.ext_getElem
    · simp [h.1]
    · intro i h1 h2
      have hl : i < l.length := by simpa using h2
      have := h.2 i _ _ (List.getElem?_eq_getElem h1) (List.getElem?_eq_getElem hl)
      rw [List.getElem_map]; exact this
  subst this
  clear h
  induction l with
  | nil => rfl
  | cons x l ih => simp only [List.map_cons, List.flatten_cons, ih]; rfl
theorem see_ls {v : Value} {l : List Int} (h : Dat.rep m S R w [v] l) : LS .i64 w v l := by
  obtain ⟨vs, g, F, _, he, hs, _⟩ := rep_list h
  have := hs.sl
  rw [flat_ints he] at this
  exact this

theorem len_dat {t e ty : TypeId} {v : Value} {l : List α} {K : Value → Prop} (ht : P.underlying t = some (.slice e)) (h : Dat.rep m S R w [v] l) :
    RunQ P (Builtin.len_ #[t] ty #[v]) w K = K (.int .i64 l.length) := by
  obtain ⟨_, _, _, _, _, ⟨_, _, _, _, _, rfl, _⟩, _⟩ := rep_list h
  exact len_slice ht

/-- where element i lies -/
theorem at_dat {t e : TypeId} {kk : IntKind} {i b : Nat} {y : Int} {z v : Value} {l : List α} {a : α} {K : Value → Prop} (hy : y = (i : Int)) (ht : P.underlying t = some (.slice e)) (hi : Inf P e (Dat.n α) b z)
    (h : Dat.rep m S R w [v] l) (ha : l[i]? = some a) (hK : ∀ b o cs, w.rangeAt b o cs → Dat.rep m S R w cs a → K (.pointer (some ⟨b, o, none⟩))) : RunQ P (Instr.indexAt t v (.int kk y)) w K := by
  subst hy
  obtain ⟨vs, g, F, hp, he, ⟨_, b, o, base, cap, rfl, _, _, hb, _, hr⟩, _⟩ := rep_list h
  have hlt := (List.getElem?_eq_some_iff.1 ha).1
  rw [index_nat ht hi hlt hb]
  obtain ⟨c, hc⟩ : ∃ c, vs[i]? = some c := ⟨_, List.getElem?_eq_getElem (by rw [he.1]; exact hlt)⟩
  have hca := he.2 i c a hc ha
  have hcl := Dat.len hca
  refine hK _ _ c (fun j u hu => ?_) (Dat.mono hca (fun r _ h => hp.sub i r h) fun _ _ h => h)
  have hj := (List.getElem?_eq_some_iff.1 hu).1
  rw [Nat.add_assoc]
  refine hr (i * Dat.n α + j) u ?_
  rw [flat_get he.len hc (by omega)]; exact hu
/-- element i, of one cell -/
theorem get_dat {t e : TypeId} {kk : IntKind} {i b : Nat} {y : Int} {z v : Value} {l : List α} {a : α} {K : Value → Prop} (hn : Dat.n α = 1) (hy : y = (i : Int)) (ht : P.underlying t = some (.slice e)) (hi : Inf P e (Dat.n α) b z)
    (h1 : oneCellT P e = true) (h : Dat.rep m S R w [v] l) (ha : l[i]? = some a) (hK : ∀ u, Dat.rep m S R w [u] a → K u) :
    RunQ P (Instr.indexAt t v (.int kk y)) w fun p => RunQ P (Instr.loadAt e p) w K := by
  refine at_dat hy ht hi h ha fun b o cs hr hc => ?_
  have hl := Dat.len hc
  rw [hn] at hl
  obtain ⟨u, rfl⟩ := List.length_eq_one_iff.1 hl
  rw [load_cell h1 (by have := hr 0 u rfl; simpa using this)]
  exact hK u hc
/-- element i, a struct -/
theorem get_agg {t e : TypeId} {pl : List (Nat × Nat)} {kk : IntKind} {i b : Nat} {y : Int} {z v : Value} {l : List α} {a : α} {K : Value → Prop} (hu : Plc P e pl) (hy : y = (i : Int)) (ht : P.underlying t = some (.slice e)) (hi : Inf P e (Dat.n α) b z)
    (h : Dat.rep m S R w [v] l) (ha : l[i]? = some a) (hK : ∀ cs, Dat.rep m S R w cs a → K (.agg cs.toArray)) :
    RunQ P (Instr.indexAt t v (.int kk y)) w fun p => RunQ P (Instr.loadAt e p) w K := by
  refine at_dat hy ht hi h ha fun b o cs hr hc => ?_
  rw [load_struct hu hi (Dat.len hc) hr]
  exact hK cs hc

theorem mine_sls {g : Nat} {e : TypeId} {k : Nat} {v : Value} {n : Nat} {xs : List Value} (h : Mine w g e k v n xs) (hg : v = .slice none 0 0 ∨ S g) : SlS S w k v n xs := by
  obtain ⟨h1, ⟨rfl, rfl⟩ | ⟨cap, cs, rfl, hb, h2, h3, h4, h5⟩⟩ := h
  · have : xs = [] := List.eq_nil_of_length_eq_zero (by simpa using h1)
    subst this
    exact ⟨by simp, 0, 0, none, 0, rfl, Nat.le_refl _, Nat.zero_le _, fun h => absurd h (Nat.lt_irrefl _), fun h => by simp at h, fun j v h => by simp at h⟩
  · refine ⟨h1, g, 0, _, cap, rfl, h2, h3, fun _ => rfl, fun _ => hg.resolve_left (by simp), fun j v hv => ?_⟩
    rw [Nat.zero_add]
    have hj := (List.getElem?_eq_some_iff.1 hv).1
    rw [← h5, List.getElem?_take_of_lt (by omega)] at hv
    exact hb.cell hv

open Classical in
/-- elements more -/
theorem append_dat {t tx e e' ty : TypeId} {b : Nat} {z v x : Value} {us : List (List Value)} {l l' : List α} {G : Nat → Bs} {K : Value → World → Prop} (ht : P.underlying t = some (.slice e)) (htx : P.underlying tx = some (.slice e')) (hi : Inf P e (Dat.n α) b z) (hz : z.cells.size = Dat.n α)
    (h : Owns S R w [v] l) (hx : Sl w (Dat.n α) x l'.length us.flatten) (ha : Elems true R G w us l') (hG : ∀ i j r, i ≠ j → G i r → ¬ G j r)
    (hd : ∀ r, r < w.heap.size → S r → (∀ i, ¬ G i r) ∧ ¬ R r) (hb : (l.length + l'.length) * b ≤ 140737488355328) (h63 : l.length + l'.length ≤ 9223372036854775807)
    (hK : ∀ v' w', Owns (fun r => S r ∨ (∃ i, G i r) ∨ w.heap.size ≤ r) R w' [v'] (l ++ l') → Chg S w w' → K v' w') : RunC P (Builtin.append_ #[t, tx] ty #[v, x]) w K := by
  obtain ⟨vs, g, F, hp, he, hs, hm⟩ := rep_list h
  obtain ⟨hg, e0, hmine⟩ := hm rfl
  refine append_any ht htx hi hz hmine hx ha.one hb (by simpa [maxLen] using h63) ?_
  intro v' g' w' e1 hg' hm' hc
  have hsub : ∀ r, r = g ∧ v ≠ .slice none 0 0 → S r := fun r ⟨h1, h2⟩ => h1 ▸ hg.resolve_left h2
  have hmine0 := hmine
  -- where the row lies now
  have htop : (v' = .slice none 0 0) ∨ (g' = g ∧ S g ∧ g < w.heap.size) ∨ g' = w.heap.size := by
    rcases hg' with ⟨h1, _, h2 | h2⟩ | ⟨h1, _⟩
    · rcases hg with h3 | h3
      · exact .inl (h2 ▸ h3)
      · obtain ⟨_, ⟨h4, _⟩ | ⟨_, _, _, h4, _⟩⟩ := hmine0
        · exact .inl (h2 ▸ h4)
        · exact .inr (.inl ⟨h1, h3, h4.lt⟩)
    · exact .inr (.inl ⟨h1, hg.resolve_left h2.2, h2.1⟩)
    · exact .inr (.inr h1)
  refine hK v' w' ⟨v', rfl, vs ++ us, if v' = .slice none 0 0 then w.heap.size else g', fun i r => if i < l.length then F i r ∧ r < w.heap.size else G (i - l.length) r ∧ r < w.heap.size, ⟨fun i r h => ?_, fun _ i h => ?_, fun _ i j r hij h1 h2 => ?_⟩, ⟨by simp [he.1, ha.1], fun i c a hi hl => ?_⟩, ?_, fun _ => ⟨?_, e1, ?_⟩⟩ (hc.mono fun r _ h => hsub r h)
  · split at h
    · exact .inl (hp.sub i r h.1)
    · exact .inr (.inl ⟨_, h.1⟩)
  · have hlt : (if v' = .slice none 0 0 then w.heap.size else g') < w.heap.size := by split at h <;> exact h.2
    split at hlt
    · omega
    · rename_i hv
      rw [if_neg hv] at h
      rcases htop with h1 | ⟨rfl, h2, h3⟩ | h1
      · exact hv h1
      · split at h
        · exact hp.top rfl i h.1
        · exact (hd _ h3 h2).1 _ h.1
      · omega
  · split at h1 <;> split at h2
    · exact hp.dis rfl i j r hij h1.1 h2.1
    · exact (hd r h1.2 (hp.sub i r h1.1)).1 _ h2.1
    · exact (hd r h1.2 (hp.sub j r h2.1)).1 _ h1.1
    · exact hG (i - l.length) (j - l.length) r (by omega) h1.1 h2.1
  · have hRg : ∀ r, r < w.heap.size → R r → ¬ (r = g ∧ v ≠ .slice none 0 0) := fun r hr h1 h2 => (hd r hr (hsub r h2)).2 h1
    by_cases hlt : i < l.length
    · rw [List.getElem?_append_left (by rw [he.1]; exact hlt)] at hi
      rw [List.getElem?_append_left hlt] at hl
      simp only [if_pos hlt]
      refine Dat.chg (rep_old (he.2 i c a hi hl)) hc fun r hr h1 h2 => ?_
      rcases h1 with h1 | h1
      · exact hp.top rfl i (h2.1 ▸ h1.1)
      · exact hRg r hr h1 h2
    · rw [List.getElem?_append_right (by rw [he.1]; omega), he.1] at hi
      rw [List.getElem?_append_right (by omega)] at hl
      simp only [if_neg hlt]
      refine Dat.chg (rep_old (ha.2 _ c a hi hl)) hc fun r hr h1 h2 => ?_
      rcases h1 with h1 | h1
      · exact (hd r hr (hsub r h2)).1 _ h1.1
      · exact hRg r hr h1 h2
  · rw [List.length_append, List.flatten_append]
    refine mine_sls hm' ?_
    rcases htop with h1 | ⟨rfl, h2, _⟩ | rfl
    · exact .inl h1
    · exact .inr (.inl (.inl h2))
    · exact .inr (.inl (.inr (.inr (Nat.le_refl _))))
  · rcases htop with h1 | ⟨rfl, h2, _⟩ | rfl
    · exact .inl h1
    · by_cases hv : v' = .slice none 0 0
      · exact .inl hv
      · rw [if_neg hv]; exact .inr (.inl h2)
    · split
      · exact .inr (.inr (.inr (Nat.le_refl _)))
      · exact .inr (.inr (.inr (Nat.le_refl _)))
  · rw [List.length_append, List.flatten_append]
    by_cases hv : v' = .slice none 0 0
    · subst hv
      obtain ⟨h3, ⟨_, h4⟩ | ⟨_, _, h4, _⟩⟩ := hm'
      · exact ⟨h3, .inl ⟨rfl, h4⟩⟩
      · cases h4
    · rw [if_neg hv]; exact hm'

/-- one element more -/
theorem push_dat {t e ty : TypeId} {b : Nat} {z v x : Value} {cs : List Value} {l : List α} {a : α} {A : Bs} {K : Value → World → Prop} (ht : P.underlying t = some (.slice e)) (hi : Inf P e (Dat.n α) b z) (hz : z.cells.size = Dat.n α)
    (h : Owns S R w [v] l) (hx : Sl w (Dat.n α) x 1 cs) (ha : Owns A R w cs a) (hd : ∀ r, r < w.heap.size → S r → ¬ (A r ∨ R r)) (hb : (l.length + 1) * b ≤ 140737488355328) (h63 : l.length + 1 ≤ 9223372036854775807)
    (hK : ∀ v' w', Owns (fun r => S r ∨ A r ∨ w.heap.size ≤ r) R w' [v'] (l ++ [a]) → Chg S w w' → K v' w') : RunC P (Builtin.append_ #[t, t] ty #[v, x]) w K := by
  refine append_dat (l' := [a]) (us := [cs]) (G := fun i r => i = 0 ∧ A r) ht ht hi hz h (by simpa using hx) ⟨rfl, fun i c b hc hb => ?_⟩ (fun i j r hij h1 h2 => hij (h1.1.trans h2.1.symm)) (fun r hr hs => ⟨fun i h => hd r hr hs (.inl h.2), fun h => hd r hr hs (.inr h)⟩) (by simpa using hb) (by simpa using h63)
    fun v' w' h1 h2 => hK v' w' (Dat.mono h1 (fun r _ h => h.imp id (Or.imp (fun ⟨_, h⟩ => h.2) id)) fun _ _ h => h) h2
  have hi0 := (List.getElem?_eq_some_iff.1 hc).1
  have hi0 : i = 0 := by simpa using hi0
  subst hi0
  simp at hc hb; subst hc hb
  exact Dat.mono ha (fun r _ h => ⟨rfl, h⟩) fun _ _ h => h
end
end Go.Vc
