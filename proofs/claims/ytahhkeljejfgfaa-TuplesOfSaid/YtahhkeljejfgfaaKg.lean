/- Lemma kit, part g: data as they lie in memory, of any kind. -/
import Derived.Test.YtahhkeljejfgfaaKe
namespace Go.Vc
open Go Go.RowKit

/-- sets of blocks -/
abbrev Bs := Nat → Prop

/-- slices, with the blocks that are read -/
def SlS (S : Bs) (w : World) (k : Nat) (v : Value) (n : Nat) (cs : List Value) : Prop :=
  cs.length = n * k ∧ ∃ b o base cap, v = .slice base n cap ∧ n ≤ cap ∧ cap ≤ maxLen ∧ (0 < n → base = some ⟨b, o, none⟩) ∧ (0 < cs.length → S b) ∧ w.rangeAt b o cs
theorem SlS.sl {S : Bs} {w : World} {k : Nat} {v : Value} {n : Nat} {cs : List Value} (h : SlS S w k v n cs) : Sl w k v n cs := by
  obtain ⟨h1, b, o, base, cap, h2, h3, h4, h5, _, h6⟩ := h
  exact ⟨h1, b, o, base, cap, h2, h3, h4, h5, h6⟩
theorem Sl.sls {w : World} {k : Nat} {v : Value} {n : Nat} {cs : List Value} (h : Sl w k v n cs) : SlS (fun _ => True) w k v n cs := by
  obtain ⟨h1, b, o, base, cap, h2, h3, h4, h5, h6⟩ := h
  exact ⟨h1, b, o, base, cap, h2, h3, h4, h5, fun _ => trivial, h6⟩
theorem range_lt {w : World} {b o : Nat} {cs : List Value} (h : w.rangeAt b o cs) (h0 : 0 < cs.length) : b < w.heap.size := by
  have := h 0 cs[0] (List.getElem?_eq_getElem h0)
  obtain ⟨c, e, f, hc, _⟩ := cell?_some this
  exact (Array.getElem?_eq_some_iff.1 hc).1
theorem SlS.chg {S T : Bs} {w w' : World} {k : Nat} {v : Value} {n : Nat} {cs : List Value} (h : SlS S w k v n cs) (hx : Chg T w w') (hS : ∀ r, r < w.heap.size → S r → ¬ T r) : SlS S w' k v n cs := by
  obtain ⟨h1, b, o, base, cap, h2, h3, h4, h5, h6, h7⟩ := h
  refine ⟨h1, b, o, base, cap, h2, h3, h4, h5, h6, ?_⟩
  rcases Nat.eq_zero_or_pos cs.length with h0 | h0
  · intro j v hv; have := (List.getElem?_eq_some_iff.1 hv).1; omega
  · exact range_chg hx (hS b (range_lt h7 h0) (h6 h0)) h7
theorem SlS.mono {S T : Bs} {w : World} {k : Nat} {v : Value} {n : Nat} {cs : List Value} (h : SlS S w k v n cs) (hS : ∀ r, r < w.heap.size → S r → T r) : SlS T w k v n cs := by
  obtain ⟨h1, b, o, base, cap, h2, h3, h4, h5, h6, h7⟩ := h
  exact ⟨h1, b, o, base, cap, h2, h3, h4, h5, fun h0 => hS b (range_lt h7 h0) (h6 h0), h7⟩

/-- data of a kind: how many cells, and when cells show it; m: it is one's own; S: the blocks that are one's own; R: those that are only read -/
class Dat (α : Type) where
  n : Nat
  rep : Bool → Bs → Bs → World → List Value → α → Prop
  len : ∀ {m S R w cs a}, rep m S R w cs a → cs.length = n
  one : ∀ {m S R w cs a}, rep m S R w cs a → ∀ u ∈ cs, u.oneCell' = true
  chg : ∀ {m S R T w w' cs a}, rep m S R w cs a → Chg T w w' → (∀ r, r < w.heap.size → S r ∨ R r → ¬ T r) → rep m S R w' cs a
  mono : ∀ {m S S' R R' w cs a}, rep m S R w cs a → (∀ r, r < w.heap.size → S r → S' r) → (∀ r, r < w.heap.size → R r → R' r) → rep m S' R' w cs a
  weak : ∀ {m S R w cs a}, rep m S R w cs a → rep false (fun _ => False) (fun r => S r ∨ R r) w cs a

section
variable {α β : Type} [Dat α] [Dat β] {m : Bool} {S R T : Bs} {w w' : World}

/-- one's own; what is only read -/
abbrev Owns (S R : Bs) (w : World) (cs : List Value) (a : α) : Prop := Dat.rep true S R w cs a
abbrev Seen (R : Bs) (w : World) (cs : List Value) (a : α) : Prop := Dat.rep false (fun _ => False) R w cs a
abbrev Every : Bs := fun _ => True
theorem rep_ext {cs : List Value} {a : α} (h : Dat.rep m S R w cs a) (hx : Ext w w') : Dat.rep m S R w' cs a := Dat.chg h (hx.chg fun _ => False) fun _ _ _ h => h
/-- what there was already -/
theorem rep_old {cs : List Value} {a : α} (h : Dat.rep m S R w cs a) : Dat.rep m (fun r => S r ∧ r < w.heap.size) R w cs a := Dat.mono h (fun _ h1 h2 => ⟨h2, h1⟩) fun _ _ h => h
theorem rep_see {cs : List Value} {a : α} (h : Dat.rep m S R w cs a) : Seen Every w cs a := Dat.mono (Dat.weak h) (fun _ _ h => h.elim) fun _ _ _ => trivial
theorem rep_sees {cs : List Value} {a : α} {Q : Bs} (h : Dat.rep m S R w cs a) (hq : ∀ r, r < w.heap.size → S r ∨ R r → Q r) : Seen Q w cs a := Dat.mono (Dat.weak h) (fun _ _ h => h.elim) hq

instance : Dat Int where
  n := 1
  rep _ _ _ _ cs a := cs = [.int .i64 a]
  len h := by subst h; rfl
  one h := by subst h; intro u hu; simp at hu; subst hu; rfl
  chg h _ _ := h
  mono h _ _ := h
  weak h := h
instance : Dat Bool where
  n := 1
  rep _ _ _ _ cs a := cs = [.bool a]
  len h := by subst h; rfl
  one h := by subst h; intro u hu; simp at hu; subst hu; rfl
  chg h _ _ := h
  mono h _ _ := h
  weak h := h
instance : Dat ByteArray where
  n := 1
  rep _ _ _ _ cs a := cs = [.string a]
  len h := by subst h; rfl
  one h := by subst h; intro u hu; simp at hu; subst hu; rfl
  chg h _ _ := h
  mono h _ _ := h
  weak h := h
/-- numbers of other kinds -/
def Num (_ : IntKind) : Type := Int
instance (k : IntKind) : Dat (Num k) where
  n := 1
  rep _ _ _ _ cs a := cs = [.int k a]
  len h := by subst h; rfl
  one h := by subst h; intro u hu; simp at hu; subst hu; rfl
  chg h _ _ := h
  mono h _ _ := h
  weak h := h
/-- what is only read -/
def Rd (α : Type) : Type := α
instance instRd : Dat (Rd α) where
  n := Dat.n α
  rep _ _ R w cs a := Dat.rep (α := α) false (fun _ => False) R w cs a
  len h := Dat.len (α := α) h
  one h := Dat.one (α := α) h
  chg h hx hS := Dat.chg (α := α) h hx fun r hr h => hS r hr (.inr (h.elim False.elim id))
  mono h _ hR := Dat.mono (α := α) h (fun _ _ h => h) hR
  weak h := Dat.mono (α := α) h (fun _ _ h => h) fun _ _ h => .inr h

instance instPair : Dat (α × β) where
  n := Dat.n α + Dat.n β
  rep m S R w cs a := ∃ c d A B, cs = c ++ d ∧ (∀ r, A r → S r) ∧ (∀ r, B r → S r) ∧ (m = true → ∀ r, A r → ¬ B r) ∧ Dat.rep m A R w c a.1 ∧ Dat.rep m B R w d a.2
  len := by
    rintro m S R w cs a ⟨c, d, A, B, rfl, _, _, _, h1, h2⟩
    simp [Dat.len h1, Dat.len h2]
  one := by
    rintro m S R w cs a ⟨c, d, A, B, rfl, _, _, _, h1, h2⟩ u hu
    rcases List.mem_append.1 hu with hu | hu
    · exact Dat.one h1 u hu
    · exact Dat.one h2 u hu
  chg := by
    rintro m S R T w w' cs a ⟨c, d, A, B, rfl, hA, hB, hd, h1, h2⟩ hx hS
    exact ⟨c, d, A, B, rfl, hA, hB, hd, Dat.chg h1 hx fun r hr h => hS r hr (h.imp (hA r) id), Dat.chg h2 hx fun r hr h => hS r hr (h.imp (hB r) id)⟩
  mono := by
    rintro m S S' R R' w cs a ⟨c, d, A, B, rfl, hA, hB, hd, h1, h2⟩ hS hR
    exact ⟨c, d, fun r => A r ∧ r < w.heap.size, fun r => B r ∧ r < w.heap.size, rfl, fun r h => hS r h.2 (hA r h.1), fun r h => hS r h.2 (hB r h.1), fun hm r h k => hd hm r h.1 k.1,
      Dat.mono h1 (fun r hr h => ⟨h, hr⟩) hR, Dat.mono h2 (fun r hr h => ⟨h, hr⟩) hR⟩
  weak := by
    rintro m S R w cs a ⟨c, d, A, B, rfl, hA, hB, hd, h1, h2⟩
    exact ⟨c, d, fun _ => False, fun _ => False, rfl, fun _ h => h.elim, fun _ h => h.elim, (fun h => by cases h), Dat.mono (Dat.weak h1) (fun _ _ h => h) fun r _ h => h.imp (hA r) id,
      Dat.mono (Dat.weak h2) (fun _ _ h => h) fun r _ h => h.imp (hB r) id⟩

/-- elements, each in blocks of its own -/
def Elems (m : Bool) (R : Bs) (F : Nat → Bs) (w : World) (vs : List (List Value)) (l : List α) : Prop :=
  vs.length = l.length ∧ ∀ (i : Nat) (c : List Value) (a : α), vs[i]? = some c → l[i]? = some a → Dat.rep m (F i) R w c a
/-- the blocks of the parts -/
structure Parts (m : Bool) (S : Bs) (g : Nat) (F : Nat → Bs) : Prop where
  sub : ∀ i r, F i r → S r
  top : m = true → ∀ i, ¬ F i g
  dis : m = true → ∀ i j r, i ≠ j → F i r → ¬ F j r

theorem Elems.len {F : Nat → Bs} {vs : List (List Value)} {l : List α} (h : Elems m R F w vs l) : ∀ c ∈ vs, c.length = Dat.n α := by
  intro c hc
  obtain ⟨i, hi, rfl⟩ := List.mem_iff_getElem.1 hc
  exact Dat.len (h.2 i _ _ (List.getElem?_eq_getElem hi) (List.getElem?_eq_getElem (h.1 ▸ hi)))
theorem Elems.one {F : Nat → Bs} {vs : List (List Value)} {l : List α} (h : Elems m R F w vs l) : ∀ u ∈ vs.flatten, u.oneCell' = true := by
  intro u hu
  obtain ⟨c, hc, hu⟩ := List.mem_flatten.1 hu
  obtain ⟨i, hi, rfl⟩ := List.mem_iff_getElem.1 hc
  exact Dat.one (h.2 i _ _ (List.getElem?_eq_getElem hi) (List.getElem?_eq_getElem (h.1 ▸ hi))) u hu
theorem flat_len {k : Nat} : ∀ {vs : List (List Value)}, (∀ c ∈ vs, c.length = k) → vs.flatten.length = vs.length * k
  | [], _ => by simp
  | c :: r, h => by
    have := flat_len (vs := r) fun x hx => h x (.tail _ hx)
    simp only [List.flatten_cons, List.length_append, this, h c (.head _), List.length_cons, Nat.add_mul]; omega
theorem flat_get {k : Nat} : ∀ {vs : List (List Value)}, (∀ c ∈ vs, c.length = k) → ∀ {i j : Nat} {c : List Value}, vs[i]? = some c → j < k → vs.flatten[i * k + j]? = c[j]?
  | c0 :: r, h, 0, j, c, hc, hj => by
    simp only [List.getElem?_cons_zero, Option.some.injEq] at hc
    subst hc
    rw [List.flatten_cons, List.getElem?_append_left (by rw [h _ (.head _)]; omega)]; simp
  | c0 :: r, h, i + 1, j, c, hc, hj => by
    simp only [List.getElem?_cons_succ] at hc
    have h0 := h c0 (.head _)
    rw [List.flatten_cons, List.getElem?_append_right (by rw [h0, Nat.add_mul]; omega), h0, Nat.add_mul, show i * k + 1 * k + j - k = i * k + j by omega]
    exact flat_get (fun x hx => h x (.tail _ hx)) hc hj
  | [], _, i, _, c, hc, _ => by simp at hc

instance instList : Dat (List α) where
  n := 1
  rep m S R w cs l := ∃ v, cs = [v] ∧ ∃ (vs : List (List Value)) (g : Nat) (F : Nat → Bs), Parts m S g F ∧ Elems m R F w vs l ∧ SlS (fun r => S r ∨ R r) w (Dat.n α) v l.length vs.flatten ∧
    (m = true → (v = .slice none 0 0 ∨ S g) ∧ ∃ e, Mine w g e (Dat.n α) v l.length vs.flatten)
  len := by rintro m S R w cs a ⟨v, rfl, _⟩; rfl
  one := by
    rintro m S R w cs a ⟨v, rfl, vs, g, F, _, _, ⟨_, _, _, _, _, rfl, _⟩, _⟩ u hu
    simp at hu; subst hu; rfl
  chg := by
    rintro m S R T w w' cs a ⟨v, rfl, vs, g, F, hp, he, hs, hm⟩ hx hS
    refine ⟨v, rfl, vs, g, F, hp, ⟨he.1, fun i c a hc ha => Dat.chg (he.2 i c a hc ha) hx fun r hr h => hS r hr (h.imp (hp.sub i r) id)⟩, hs.chg hx hS, fun h => ?_⟩
    obtain ⟨h1, e, h2⟩ := hm h
    refine ⟨h1, e, ?_⟩
    rcases h1 with rfl | h1
    · obtain ⟨h3, ⟨_, h4⟩ | ⟨_, _, h4, _⟩⟩ := h2
      · exact ⟨h3, .inl ⟨rfl, h4⟩⟩
      · cases h4
    · exact h2.chg hx fun hr => hS g hr (.inl h1)
  mono := by
    rintro m S S' R R' w cs a ⟨v, rfl, vs, g, F, hp, he, hs, hm⟩ hS hR
    refine ⟨v, rfl, vs, g, fun i r => F i r ∧ r < w.heap.size, ⟨fun i r h => hS r h.2 (hp.sub i r h.1), fun h i h2 => hp.top h i h2.1, fun h i j r hij h1 h2 => hp.dis h i j r hij h1.1 h2.1⟩,
      ⟨he.1, fun i c a hc ha => Dat.mono (he.2 i c a hc ha) (fun r hr h => ⟨h, hr⟩) hR⟩, hs.mono fun r hr h => h.imp (hS r hr) (hR r hr), fun h => ?_⟩
    obtain ⟨h1, e, h2⟩ := hm h
    refine ⟨?_, e, h2⟩
    obtain ⟨_, ⟨h4, _⟩ | ⟨_, _, h4, h5, _⟩⟩ := h2
    · exact .inl h4
    · rcases h1 with h1 | h1
      · exact .inl h1
      · exact .inr (hS g h5.lt h1)
  weak := by
    rintro m S R w cs a ⟨v, rfl, vs, g, F, hp, he, hs, hm⟩
    exact ⟨v, rfl, vs, g, fun _ _ => False, ⟨fun _ _ h => h, (fun h => by cases h), fun h => by cases h⟩,
      ⟨he.1, fun i c a hc ha => Dat.mono (Dat.weak (he.2 i c a hc ha)) (fun _ _ h => h) fun r _ h => h.imp (hp.sub i r) id⟩, hs.mono fun r _ h => .inr h, fun h => by cases h⟩

/-- pointers to data -/
def Ptr (α : Type) : Type := Option α
instance instPtr : Dat (Ptr α) where
  n := 1
  rep m S R w cs p := match p with
    | none => cs = [.pointer none]
    | some a => ∃ g e cs' A, cs = [.pointer (some ⟨g, 0, none⟩)] ∧ (S g ∨ m = false ∧ R g) ∧ Blk w g e cs' ∧ (∀ r, A r → S r) ∧ (m = true → ¬ A g) ∧ Dat.rep m A R w cs' a
  len := by
    rintro m S R w cs (_ | a) h
    · subst h; rfl
    · obtain ⟨_, _, _, _, rfl, _⟩ := h; rfl
  one := by
    rintro m S R w cs (_ | a) h u hu
    · subst h; simp at hu; subst hu; rfl
    · obtain ⟨_, _, _, _, rfl, _⟩ := h; simp at hu; subst hu; rfl
  chg := by
    rintro m S R T w w' cs (_ | a) h hx hS
    · exact h
    · obtain ⟨g, e, cs', A, rfl, hg, hb, hA, hd, h⟩ := h
      exact ⟨g, e, cs', A, rfl, hg, hb.chg hx (hS g hb.lt (hg.imp id And.right)), hA, hd, Dat.chg h hx fun r hr hr' => hS r hr (hr'.imp (hA r) id)⟩
  mono := by
    rintro m S S' R R' w cs (_ | a) h hS hR
    · exact h
    · obtain ⟨g, e, cs', A, rfl, hg, hb, hA, hd, h⟩ := h
      exact ⟨g, e, cs', fun r => A r ∧ r < w.heap.size, rfl, hg.imp (hS g hb.lt) (And.imp id (hR g hb.lt)), hb, fun r h => hS r h.2 (hA r h.1), fun hm h => hd hm h.1, Dat.mono h (fun r hr h => ⟨h, hr⟩) hR⟩
  weak := by
    rintro m S R w cs (_ | a) h
    · exact h
    · obtain ⟨g, e, cs', A, rfl, hg, hb, hA, hd, h⟩ := h
      exact ⟨g, e, cs', fun _ => False, rfl, .inr ⟨rfl, hg.imp id And.right⟩, hb, fun _ h => h, (fun h => by cases h), Dat.mono (Dat.weak h) (fun _ _ h => h) fun r _ h => h.imp (hA r) id⟩

end
end Go.Vc
