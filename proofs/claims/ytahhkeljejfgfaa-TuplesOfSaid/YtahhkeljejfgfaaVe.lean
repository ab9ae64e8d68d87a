/- Shallow verification conditions, part e: they are sound. -/
import Derived.Test.YtahhkeljejfgfaaVd
namespace Go.Vc
open Go Go.RowKit

theorem ns_putObj {n : Nat} {w0 w : World} (h : NsB n w0 w) {l : Nat} (hl : w0.heap.size ≤ l) (o : Obj) : NsB n w0 (w.putObj l o) :=
  ⟨h.os, h.tape, h.output, by simpa using h.size, fun r x hr hs => by
    have hlt := (Array.getElem?_eq_some_iff.1 hr).1
    rw [World.putObj_heap_other (by omega)]; exact h.keep r x hr hs, fun r x hn hr hs => by
    have hlt := (Array.getElem?_eq_some_iff.1 hr).1
    rw [World.putObj_heap_other (by omega)]; exact h.old r x hn hr hs⟩
theorem its_putObj {w0 w : World} (h : Its w0 w) {l : Nat} {o0 : Obj} (hl : w.heap[l]? = some o0) (h0 : isIt o0 = false) (o : Obj) : Its w0 (w.putObj l o) := fun r x hr hs => by
  have h1 := h r x hr hs
  by_cases hrl : r = l
  · subst hrl; rw [hl] at h1; cases h1; rw [h0] at hs; cases hs
  · rw [World.putObj_heap_other hrl]; exact h1

theorem ext_putObj {w : World} {l : Nat} {o0 : Obj} (hl : w.heap[l]? = some o0) (h0 : solid o0 = false) (o : Obj) : Ext w (w.putObj l o) :=
  ⟨by simp, fun r x hr hs => by
    by_cases hrl : r = l
    · subst hrl; rw [hl] at hr; cases hr; rw [h0] at hs; cases hs
    · rw [World.putObj_heap_other hrl]; exact hr⟩

theorem ext_putObj' {w : World} {l : Nat} {o : Obj} (ho : solid o = false) : Ext (w.putObj l o) w :=
  ⟨by simp, fun r x hr hs => by
    by_cases hrl : r = l
    · subst hrl
      rcases Nat.lt_or_ge r w.heap.size with h | h
      · rw [World.putObj_heap_same h] at hr; cases hr; rw [ho] at hs; cases hs
      · rw [Array.getElem?_eq_none (by simpa using h)] at hr; cases hr
    · rw [World.putObj_heap_other hrl] at hr; exact hr⟩

theorem ext_alloc (w : World) (o : Obj) : Ext w (w.alloc o) := ext_push w o
theorem ns_alloc (w : World) (o : Obj) : Ns w (w.alloc o) := ns_push w o

def mkD (D : Nat) : Deferred := { target := .collected D, args := #[] }

/-- the deferred calls are marks of loops, and their blocks are there -/
def DefOk (w : World) (ds : List Deferred) : Prop := ∃ ms : List Nat, ds = ms.map mkD ∧ ms.Nodup ∧ ∀ D ∈ ms, w.heap[D]? = some (.deferred (some []))

theorem DefOk.ns {n : Nat} {w w' : World} {ds : List Deferred} (h : DefOk w ds) (hn : NsB n w w') : DefOk w' ds := by
  obtain ⟨ms, h1, h2, h3⟩ := h
  exact ⟨ms, h1, h2, fun D hD => hn.keep D _ (h3 D hD) rfl⟩

section
variable {P : Program} {N : Nat}

/-- the marks that came are of new blocks -/
def Mks (w : World) (ds ds' : List Deferred) : Prop := ∃ ms : List Nat, ds' = ms.map mkD ++ ds ∧ ∀ D ∈ ms, w.heap.size ≤ D

/-- from world w, deferred calls ds, to w', ds' -/
def Str (n : Nat) (w : World) (ds : List Deferred) (w' : World) (ds' : List Deferred) : Prop := NsB n w w' ∧ DefOk w' ds' ∧ Mks w ds ds'
theorem Str.refl {n : Nat} {w : World} {ds : List Deferred} (h : DefOk w ds) : Str n w ds w ds := ⟨NsB.refl _ _, h, [], rfl, fun _ h => by cases h⟩
theorem Str.trans {n : Nat} {w w1 w' : World} {ds ds1 ds' : List Deferred} (h : Str n w ds w1 ds1) (k : Str n w1 ds1 w' ds') : Str n w ds w' ds' := by
  obtain ⟨a1, a2, m1, a3, a4⟩ := h
  obtain ⟨b1, b2, m2, b3, b4⟩ := k
  refine ⟨a1.trans b1, b2, m2 ++ m1, by simp [b3, a3], fun D hD => ?_⟩
  rcases List.mem_append.1 hD with h | h
  · exact Nat.le_trans a1.size (b4 D h)
  · exact a4 D h
theorem Str.same {n : Nat} {w w' : World} {ds : List Deferred} (h : DefOk w ds) (hn : NsB n w w') : Str n w ds w' ds := ⟨hn, h.ns hn, [], rfl, fun _ h => by cases h⟩

/-- an end that no code of ours has -/
def okX : Exit → Bool
  | .panic _ => false
  | .outgrown => false
  | .goto _ => false
  | _ => true

def Post (N : Nat) (free : Md) (nr : Bool) (K : Exit → Env → World → Prop) (D : List Nat) (a : Act) (w : World) (ex : Exit) (a' : Act) (w' : World) : Prop :=
  okX ex = true ∧ ∃ e', K ex e' w' ∧ Holds N e' a' ∧ (∀ t, t ∉ D → a'.tmps.getD t undef = a.tmps.getD t undef) ∧ (nr = true → a'.defers = a.defers) ∧
    (free.1 = false → Str free.2 w a.defers w' a'.defers)

theorem Post.step {free : Md} {nr nr' : Bool} {K : Exit → Env → World → Prop} {D D' : List Nat} {a a1 a' : Act} {w w1 w' : World} {ex : Exit} (h : Post N free nr' K D' a1 w1 ex a' w')
    (hD : ∀ t, t ∈ D' → t ∈ D) (hk : ∀ t, t ∉ D → a1.tmps.getD t undef = a.tmps.getD t undef) (hr : nr = true → nr' = true) (hf : nr = true → a1.defers = a.defers)
    (hn : free.1 = false → Str free.2 w a.defers w1 a1.defers) : Post N free nr K D a w ex a' w' := by
  obtain ⟨h0, e', h1, h2, h3, h4, h5⟩ := h
  exact ⟨h0, e', h1, h2, fun t ht => (h3 t fun h => ht (hD t h)).trans (hk t ht), fun h => (h4 (hr h)).trans (hf h), fun h => (hn h).trans (h5 h)⟩

theorem without_look {D : List Nat} {t : Nat} {x : EV} : ∀ {e : Env}, look (without D e) t = some x → look e t = some x ∧ t ∉ D
  | [], h => by cases h
  | (s, y) :: r, h => by
    simp only [without] at h
    cases hm : memN s D with
    | true =>
      rw [hm] at h
      simp only [cond_true] at h
      obtain ⟨h1, h2⟩ := without_look h
      refine ⟨?_, h2⟩
      simp only [look]
      cases hb : Nat.beq s t with
      | true => exact absurd (memN_iff.1 hm) (by rw [Nat.eq_of_beq_eq_true hb]; exact h2)
      | false => exact h1
    | false =>
      rw [hm] at h
      simp only [cond_false, look] at h ⊢
      cases hb : Nat.beq s t with
      | true =>
        rw [hb] at h
        refine ⟨h, fun ht => ?_⟩
        rw [← Nat.eq_of_beq_eq_true hb] at ht
        rw [memN_iff.2 ht] at hm; cases hm
      | false =>
        rw [hb] at h
        exact without_look h

theorem holds_bind {a : Act} {e : Env} : ∀ {S : List Nat} {vs : List Value}, Holds N e a → (∀ p ∈ S.zip vs, a.tmps.getD p.1 undef = p.2) → Holds N (bindSlots S vs e) a
  | [], _, h, _ => by simpa [bindSlots] using h
  | t :: r, [], h, _ => by simpa [bindSlots] using h
  | t :: r, v :: vs, h, hz => by
    have ih := holds_bind (S := r) (vs := vs) h fun p hp => hz p (by simp [hp])
    refine ⟨ih.1, fun s x hs => ?_⟩
    simp only [bindSlots, look] at hs
    cases hb : Nat.beq t s with
    | true =>
      rw [hb] at hs
      simp only [cond_true, Option.some.injEq] at hs
      subst hs
      rw [← Nat.eq_of_beq_eq_true hb]
      exact hz (t, v) (by simp)
    | false => rw [hb] at hs; exact ih.2 s x hs

theorem valsOf_spec {e : Env} {a : Act} (hH : Holds N e a) : ∀ {S : List Nat} {vs : List Value}, valsOf e S = some vs → vs.length = S.length ∧ ∀ p ∈ S.zip vs, a.tmps.getD p.1 undef = p.2
  | [], vs, h => by simp [valsOf] at h; subst h; simp
  | t :: r, vs, h => by
    simp only [valsOf] at h
    cases hl : look e t with
    | none => rw [hl] at h; cases h
    | some x =>
      rw [hl] at h; simp only at h
      cases hv : valsOf e r with
      | none => rw [hv] at h; cases h
      | some us =>
        rw [hv] at h
        simp only [Option.some.injEq] at h
        subst h
        obtain ⟨h1, h2⟩ := valsOf_spec hH hv
        refine ⟨by simp [h1], fun p hp => ?_⟩
        simp only [List.zip_cons_cons, List.mem_cons] at hp
        rcases hp with rfl | hp
        · exact hH.2 t x hl
        · exact h2 p hp

theorem holds_without {a a' : Act} {e e' : Env} {D : List Nat} (hH : Holds N e a) (hH' : Holds N e' a') (hk : ∀ t, t ∉ D → a'.tmps.getD t undef = a.tmps.getD t undef) : Holds N (without D e) a' :=
  ⟨hH'.1, fun t x h => by
    obtain ⟨h1, h2⟩ := without_look h
    rw [hk t h2]; exact hH.2 t x h1⟩

theorem opDsts_mem {o : Oper} {t : Nat} (hd : o.dst = some t) (l : List Oper) (hm : o ∈ l) : t ∈ opDsts l := by
  induction l with
  | nil => cases hm
  | cons o' l ih =>
    simp only [opDsts]
    rcases List.mem_cons.1 hm with h | h
    · rw [← h, hd]; simp
    · have := ih h
      cases o'.dst with
      | none => exact this
      | some d => exact .tail _ this

theorem post_region {free : Md} {nr : Bool} {K : Exit → Env → World → Prop} {D : List Nat} {a a' : Act} {w w' : World} (hd : free.1 = false → DefOk w a.defers) (h : RegPost N free (K .normal) D a w a' w') :
    Post N free nr K D a w .normal a' w' := by
  obtain ⟨e', h1, h2, h3, h4⟩ := h
  exact ⟨rfl, e', h1, h2, h3.2, fun _ => h3.1, fun hf => by rw [h3.1]; exact Str.same (hd hf) (h4 hf)⟩

theorem bind_snoc : ∀ (ps : List Nat) (vs : List Value) (p : Nat) (v : Value) (e : Env), ps.length = vs.length → bindSlots (ps ++ [p]) (vs ++ [v]) e = bindSlots ps vs ((p, .v v) :: e)
  | [], [], _, _, _, _ => rfl
  | [], _ :: _, _, _, _, h => by simp at h
  | _ :: _, [], _, _, _, h => by simp at h
  | q :: ps, u :: vs, p, v, e, h => by
    simp only [List.cons_append, bindSlots]
    rw [bind_snoc ps vs p v e (by simpa using h)]

theorem roundTmps : ∀ (ps : List Nat) (vs : List Value) (tm : Array Value) (e : Env), ps.length = vs.length → (ps.all fun t => Nat.blt t N) = true → Holds N e { tmps := tm, defers := [] } →
    Holds N (bindSlots ps.reverse vs.reverse e) { tmps := (ps.zip vs).foldl (fun tm (p : Nat × Value) => tm.setIfInBounds p.1 p.2) tm, defers := [] }
  | [], [], _, _, _, _, h => h
  | [], _ :: _, _, _, h, _, _ => by simp at h
  | _ :: _, [], _, _, h, _, _ => by simp at h
  | p :: ps, v :: vs, tm, e, hl, hb, h => by
    have hl' : ps.length = vs.length := by simpa using hl
    simp only [List.all_cons, Bool.and_eq_true] at hb
    simp only [List.zip_cons_cons, List.foldl_cons, List.reverse_cons]
    rw [bind_snoc _ _ _ _ _ (by simpa using hl')]
    exact roundTmps ps vs _ _ hl' hb.2 (h.put (d := some p) (x := .v v) (v := v) hb.1 rfl)

/-- no mark comes of it -/
def nrOf (free : Md) (c : Code) : Bool := free.1 || !hasRange c

theorem nr_l : ∀ f a b : Bool, (f || !(a || b)) = true → (f || !a) = true := by decide
theorem nr_r : ∀ f a b : Bool, (f || !(a || b)) = true → (f || !b) = true := by decide

def exitCode : Exit → Option Code
  | .ret => some .ret
  | .exit id => some (.exit id)
  | _ => none

end
end Go.Vc
