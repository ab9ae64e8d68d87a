/- Lemma kit, part n: data that came in. -/
import Derived.Test.YtahhkeljejfgfaaKm
import Derived.Test.YtahhkeljejfgfaaKd
import Derived.OpenShut
namespace Go.Vc
open Go Go.RowKit Go.ChangeShapes Go.WideShapes

/-- what is read of a type shows data of a kind, and good ones -/
structure Opens (P : Program) (t : TypeId) (α : Type) [Dat α] (G : α → Prop) : Prop where
  op : ∀ {H : Type} {enc : TypeId × Value → H} {w : World} {base : Nat} {spare : Nat → Bool} {held : Bool} {fuel : Nat} {cs : List Value} {x : DataW H × List MemPlace},
    DataW.trod enc P w base spare held fuel t cs = some x → ∃ a : α, Seen Every w cs a ∧ G a

section
variable {P : Program} {α β : Type} [Dat α] [Dat β]

theorem wf_range {k : IntKind} {n : Int} (h : (Lit.int k n).wf = true) : k.min ≤ n ∧ n ≤ k.max := by simpa [Lit.wf] using h
theorem opens_num {t : TypeId} {k : IntKind} (ht : P.underlying t = some (.int k)) : Opens P t (Num k) fun n => k.min ≤ n.val ∧ n.val ≤ k.max := ⟨fun h => by
  obtain ⟨n, rfl, _, hw⟩ := DataW.trod_int ht h
  exact ⟨(n : Int), rfl, wf_range hw⟩⟩
theorem opens_int {t : TypeId} (ht : P.underlying t = some (.int .i64)) : Opens P t Int fun n => IntKind.i64.min ≤ n ∧ n ≤ IntKind.i64.max := ⟨fun h => by
  obtain ⟨n, rfl, _, hw⟩ := DataW.trod_int ht h
  exact ⟨n, rfl, wf_range hw⟩⟩
theorem opens_bool {t : TypeId} (ht : P.underlying t = some .bool) : Opens P t Bool fun _ => True := ⟨fun h => by
  obtain ⟨b, rfl, _⟩ := DataW.trod_bool ht h
  exact ⟨b, rfl, trivial⟩⟩
theorem opens_string {t : TypeId} (ht : P.underlying t = some .string) : Opens P t ByteArray fun s => s.size ≤ maxLen := ⟨fun h => by
  obtain ⟨s, rfl, _, hw⟩ := DataW.trod_string ht h
  exact ⟨s, rfl, hw⟩⟩

theorem addr_add_add (a : Addr) (m n : Nat) : (a.add m).add n = a.add (m + n) := by
  unfold Addr.add
  by_cases hm : m = 0 <;> by_cases hn : n = 0 <;> simp [hm, hn, Nat.add_assoc]
theorem cells_get {w : World} {base : Nat} {a : Addr} {n : Nat} {cs : List Value} (h : w.cells? base a n = some cs) : cs.length = n ∧ ∀ j v, cs[j]? = some v → w.cell? (a.add j) = some v := by
  unfold World.cells? at h
  split at h
  · have hl : cs.length = n := by
      have := mapM_some_length h
      simpa using this
    refine ⟨hl, fun j v hv => ?_⟩
    have hj := (List.getElem?_eq_some_iff.1 hv).1
    have := mapM_some_get h j j (List.getElem?_range (by omega))
    rw [this, hv]
  · cases h

theorem opens_slice {t e : TypeId} {G : α → Prop} (ht : P.underlying t = some (.slice e)) (he : Opens P e α G) (hc : P.cellsOf e = Dat.n α) (hn : 0 < Dat.n α) : Opens P t (List α) fun l => ∀ a ∈ l, G a := by
  constructor
  intro H enc w base spare held fuel cs x h
  rcases DataW.trod_slice ht h with ⟨rfl, _⟩ | ⟨a, len, cap, elems, rest, n, _, rfl, rfl, hb, hl, hm, hlen, hel, _, _⟩
  · exact ⟨[], list_nil, fun _ h => by cases h⟩
  · -- the elements, one by one
    have each : ∀ i, i < len → ∃ (c : List Value) (y : α), c.length = Dat.n α ∧ (∀ j v, c[j]? = some v → w.cell? (a.add (i * Dat.n α + j)) = some v) ∧ Seen Every w c y ∧ G y := by
      intro i hi
      have h1 := hel i hi
      rw [List.getElem?_eq_getElem (by omega), hc, Option.bind_eq_some_iff] at h1
      obtain ⟨c, h2, h3⟩ := h1
      obtain ⟨h4, h5⟩ := cells_get h2
      obtain ⟨y, h6, h7⟩ := he.op h3
      exact ⟨c, y, h4, fun j v hv => by have := h5 j v hv; rwa [addr_add_add] at this, h6, h7⟩
    have all : ∀ m, m ≤ len → ∃ (vs : List (List Value)) (l : List α), vs.length = m ∧ l.length = m ∧ (∀ c ∈ vs, c.length = Dat.n α) ∧ (∀ (j : Nat) (v : Value), vs.flatten[j]? = some v → w.cell? (a.add j) = some v) ∧
        (∀ (i : Nat) (c : List Value) (y : α), vs[i]? = some c → l[i]? = some y → Seen Every w c y) ∧ ∀ y ∈ l, G y := by
      intro m
      induction m with
      | zero => exact fun _ => ⟨[], [], rfl, rfl, (fun _ h => by cases h), (fun j v h => by simp at h), (fun i c y h => by simp at h), (fun _ h => by cases h)⟩
      | succ m ih =>
        intro hm
        obtain ⟨vs, l, h1, h2, h3, h4, h5, h6⟩ := ih (by omega)
        obtain ⟨c, y, g1, g2, g3, g4⟩ := each m (by omega)
        refine ⟨vs ++ [c], l ++ [y], by simp [h1], by simp [h2], fun d hd => ?_, fun j v hv => ?_, fun i d z hd hz => ?_, fun z hz => ?_⟩
        · rcases List.mem_append.1 hd with hd | hd
          · exact h3 d hd
          · simp at hd; subst hd; exact g1
        · have hfl := flat_len h3
          rw [h1] at hfl
          rw [List.flatten_append] at hv
          by_cases hj : j < m * Dat.n α
          · rw [List.getElem?_append_left (by omega)] at hv; exact h4 j v hv
          · rw [List.getElem?_append_right (by omega), hfl] at hv
            simp at hv
            have := g2 _ v hv
            rwa [show m * Dat.n α + (j - m * Dat.n α) = j by omega] at this
        · by_cases hi : i < m
          · rw [List.getElem?_append_left (by omega)] at hd hz; exact h5 i d z hd hz
          · have hi0 := (List.getElem?_eq_some_iff.1 hd).1
            simp [h1] at hi0
            have hi0 : i = m := by omega
            subst hi0
            rw [List.getElem?_append_right (by omega), h1] at hd
            rw [List.getElem?_append_right (by omega), h2] at hz
            simp at hd hz; subst hd hz; exact g3
        · rcases List.mem_append.1 hz with hz | hz
          · exact h6 z hz
          · simp at hz; subst hz; exact g4
    obtain ⟨vs, l, h1, h2, h3, h4, h5, h6⟩ := all len (Nat.le_refl _)
    have hfl := flat_len h3
    rw [h1] at hfl
    have hspot : 0 < len → a = ⟨a.block, a.off, none⟩ := fun h0 => by
      obtain ⟨c, y, g1, g2, _⟩ := each 0 (by omega)
      have := g2 0 c[0] (List.getElem?_eq_getElem (by omega))
      rw [Nat.zero_mul] at this
      exact spot_none this
    refine ⟨l, ⟨_, rfl, vs, 0, fun _ _ => False, ⟨fun _ _ h => h.elim, (fun h => by cases h), (fun h => by cases h)⟩, ⟨by omega, h5⟩, ⟨by rw [hfl, h2], a.block, a.off, some a, cap, by rw [h2], by omega, hm, fun h0 => congrArg some (hspot (by omega)), fun _ => .inr trivial, fun j v hv => ?_⟩, fun h => by cases h⟩, h6⟩
    have := h4 j v hv
    have hj := (List.getElem?_eq_some_iff.1 hv).1
    have h0 : 0 < len := by
      rcases Nat.eq_zero_or_pos len with h | h
      · rw [h, Nat.zero_mul] at hfl; omega
      · exact h
    rw [hspot h0, Addr.add_mid] at this
    exact this

/-- fields that lie one behind the other, from a place on -/
structure FOpens (P : Program) (fs : List Field) (off : Nat) (α : Type) [Dat α] (G : α → Prop) : Prop where
  op : ∀ {H : Type} {enc : TypeId × Value → H} {w : World} {base : Nat} {spare : Nat → Bool} {held : Bool} {n : Nat} {cs : List Value}, cs.length = off + Dat.n α →
    (∀ f ∈ fs, ∃ x, DataW.trod enc P w base spare held n f.type ((cs.drop f.offset).take (P.cellsOf f.type)) = some x) → ∃ a : α, Seen Every w (cs.drop off) a ∧ G a
theorem fopens_one {f : Field} {off : Nat} {G : α → Prop} (h : Opens P f.type α G) (ho : f.offset = off) (hc : P.cellsOf f.type = Dat.n α) : FOpens P [f] off α G := by
  constructor
  intro H enc w base spare held n cs hl hf
  obtain ⟨x, hx⟩ := hf f (.head _)
  obtain ⟨a, h1, h2⟩ := h.op hx
  rw [ho, hc, List.take_of_length_le (by simp; omega)] at h1
  exact ⟨a, h1, h2⟩
theorem fopens_cons {f : Field} {fs : List Field} {off : Nat} {G : α → Prop} {G' : β → Prop} (h : Opens P f.type α G) (ho : f.offset = off) (hc : P.cellsOf f.type = Dat.n α) (hr : FOpens P fs (off + Dat.n α) β G') :
    FOpens P (f :: fs) off (α × β) fun p => G p.1 ∧ G' p.2 := by
  constructor
  intro H enc w base spare held n cs hl hf
  obtain ⟨x, hx⟩ := hf f (.head _)
  obtain ⟨a, h1, h2⟩ := h.op hx
  rw [ho, hc] at h1
  have hn : Dat.n (α × β) = Dat.n α + Dat.n β := rfl
  obtain ⟨b, h3, h4⟩ := hr.op (by omega) fun g hg => hf g (.tail _ hg)
  refine ⟨(a, b), ⟨(cs.drop off).take (Dat.n α), cs.drop (off + Dat.n α), fun _ => False, fun _ => False, ?_, fun _ h => h, fun _ h => h, (fun h => by cases h), h1, h3⟩, h2, h4⟩
  rw [← List.drop_drop, List.take_append_drop]
theorem opens_struct {t : TypeId} {fs : List Field} {G : α → Prop} (ht : P.underlying t = some (.struct fs.toArray)) (hf : FOpens P fs 0 α G) (hc : P.cellsOf t = Dat.n α) : Opens P t α G := by
  constructor
  intro H enc w base spare held fuel cs x h
  obtain ⟨xs, n, _, rfl, hl, hlen, hg⟩ := DataW.trod_struct ht h
  have := hf.op (enc := enc) (w := w) (base := base) (spare := spare) (held := held) (n := n) (cs := cs) (by omega) fun f hfm => by
    obtain ⟨i, hi, rfl⟩ := List.mem_iff_getElem.1 hfm
    have hi' : i < xs.length := by simpa [hlen] using hi
    have := hg i fs[i] (by simp [hi])
    rw [List.getElem?_eq_getElem hi'] at this
    exact ⟨_, this⟩
  simpa using this
end
end Go.Vc
