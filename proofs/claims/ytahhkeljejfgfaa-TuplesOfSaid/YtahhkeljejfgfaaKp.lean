/- Lemma kit, part p: maps in memory: made, looked up, written, deleted from, ranged over. -/
import Derived.Test.YtahhkeljejfgfaaKn
import Derived.MapKept
import Derived.Carry
import Derived.WideKeyArr
import Derived.WideKeyMaps
import Derived.Laws.IdiomRangeMap
namespace Go.Vc
open Go Go.RowKit
set_option maxRecDepth 100000

section
variable {P : Program} {w : World}
/-- what a step leaves of the bookkeeping may be used behind it -/
theorem RunC.ns {α : Type} {s : Sem α} {K : α → World → Prop} (h : RunC P s w fun v w' => Ns w w' → K v w') : RunC P s w K := by
  obtain ⟨v, w', h1, h2, h3⟩ := h
  exact ⟨v, w', h1, h2, h3 h2⟩

/-- what a map's keys may be -/
structure Keys (P : Program) (k : TypeId) (G : Value → Prop) : Prop where
  check : ∀ (w : World) (em : Bool) {v : Value}, G v → (Instr.checkKey em 10000 k v).run P w = .ok () w
  find : ∀ (w : World) {x : Value}, G x → ∀ es : List MapEntry, (∀ e ∈ es, G e.key) →
    ((Instr.findKey k x es).run P w = .ok none w ∧ ∀ e ∈ es, e.key ≠ x) ∨ ∃ j e, (Instr.findKey k x es).run P w = .ok (some (j, e.val)) w ∧ es[j]? = some e ∧ e.key = x
  stays : ∀ (w : World) {v : Value}, G v → (Instr.keyThatStays v v).run P w = .ok v w
theorem Keys.law {k : TypeId} (K : WideMaps.KeyLaw P k) : Keys P k fun v => ∃ l, keyOf P k v = some l :=
  ⟨fun w em _ ⟨_, h⟩ => K.check w em h, fun w _ ⟨_, h⟩ es hes => K.find w h es hes, fun w _ ⟨_, h⟩ => K.stays w h⟩
theorem Keys.int {k : TypeId} {ik : IntKind} (hk : P.underlying k = some (.int ik)) : Keys P k fun v => ∃ n, v = .int ik n := by
  have key : ∀ n, MapKept.IsKey (.int ik) (.int ik n) := fun n => rfl
  refine ⟨fun w em v ⟨n, h⟩ => ?_, fun w x ⟨n, h⟩ es hes => ?_, fun w v ⟨n, h⟩ => ?_⟩
  · subst h; exact MapKept.run_checkKey hk (key n) em 9999
  · subst h
    rcases MapKept.findNow_spec (key n) es 0 (fun e he => by obtain ⟨m, h⟩ := hes e he; rw [h]; exact key m) with ⟨h1, h2⟩ | ⟨j, e, h1, h2, h3⟩
    · exact .inl ⟨MapKept.run_findKey hk h1, h2⟩
    · exact .inr ⟨j, e, by have := MapKept.run_findKey (P := P) (w := w) hk h1; simpa using this, h2, h3⟩
  · subst h; exact MapKept.run_keyThatStays (d := .int ik) (key n)

def ent (e : MapEntry) : Value × Value := (e.key, e.val)
/-- a map in block m -/
def MapIs (w : World) (m : Nat) (d : List (Value × Value)) : Prop := ∃ es clock, w.heap[m]? = some (.map es clock) ∧ MapKept.Stamped es clock ∧ es.toList.map ent = d
theorem MapIs.ext {w' : World} {m : Nat} {d : List (Value × Value)} (h : MapIs w m d) (hx : Ext w w') : MapIs w' m d := by
  obtain ⟨es, c, h1, h2⟩ := h
  exact ⟨es, c, hx.keep m _ h1 rfl, h2⟩
theorem MapIs.chg {S : Nat → Prop} {w' : World} {m : Nat} {d : List (Value × Value)} (h : MapIs w m d) (hx : Chg S w w') (hS : ¬ S m) : MapIs w' m d := by
  obtain ⟨es, c, h1, h2⟩ := h
  exact ⟨es, c, hx.keep m _ h1 rfl hS, h2⟩
theorem MapIs.lt {m : Nat} {d : List (Value × Value)} (h : MapIs w m d) : m < w.heap.size := by
  obtain ⟨es, c, h1, h2⟩ := h
  exact (Array.getElem?_eq_some_iff.1 h1).1
theorem MapIs.nodup {m : Nat} {d : List (Value × Value)} (h : MapIs w m d) : (d.map (·.1)).Nodup := by
  obtain ⟨es, c, _, ⟨_, _, h3⟩, rfl⟩ := h
  rw [List.map_map]; exact h3
theorem nodup_inj {α : Type} {l : List α} (h : l.Nodup) {i j : Nat} {x : α} (hi : l[i]? = some x) (hj : l[j]? = some x) : i = j := by
  have l1 := List.getElem?_eq_some_iff.1 hi
  have l2 := List.getElem?_eq_some_iff.1 hj
  have hp := List.pairwise_iff_getElem.1 h
  rcases Nat.lt_trichotomy i j with hlt | rfl | hlt
  · exact absurd (l1.2.trans l2.2.symm) (hp i j l1.1 l2.1 hlt)
  · rfl
  · exact absurd (l2.2.trans l1.2.symm) (hp j i l2.1 l1.1 hlt)
theorem erase_map {α β : Type} (f : α → β) : ∀ (l : List α) (i : Nat), (l.map f).eraseIdx i = (l.eraseIdx i).map f
  | [], _ => by simp
  | _ :: _, 0 => rfl
  | x :: l, i + 1 => by simp [erase_map f l i]
theorem MapIs.uniq {m : Nat} {d : List (Value × Value)} (h : MapIs w m d) {i j : Nat} {p q : Value × Value} (hi : d[i]? = some p) (hj : d[j]? = some q) (he : p.1 = q.1) : i = j := by
  have hn := h.nodup
  have h1 : (d.map (·.1))[i]? = some p.1 := by rw [List.getElem?_map, hi]; rfl
  have h2 : (d.map (·.1))[j]? = some p.1 := by rw [List.getElem?_map, hj, he]; rfl
  exact nodup_inj hn h1 h2

/-- a map's block is written anew -/
theorem setMap_facts {m : Nat} {es : Array MapEntry} {c : Nat} (hb : w.heap[m]? = some (.map es c)) (es' : Array MapEntry) (c' : Nat) :
    Chg (fun r => r = m) w { w with heap := w.heap.setIfInBounds m (.map es' c') } ∧ Ns w { w with heap := w.heap.setIfInBounds m (.map es' c') } ∧ ({ w with heap := w.heap.setIfInBounds m (.map es' c') } : World).heap[m]? = some (.map es' c') := by
  have hs := MapKept.heap_set (o' := .map es' c') hb
  refine ⟨⟨by simp, fun r o hr hso hS => ?_⟩, ⟨rfl, rfl, rfl, by simp, fun r o hr hso => ?_⟩, hs.1⟩
  · show (w.heap.setIfInBounds m _)[r]? = some o
    rw [hs.2 r hS]; exact hr
  · show (w.heap.setIfInBounds m _)[r]? = some o
    by_cases hrm : r = m
    · subst hrm; rw [hb] at hr; cases hr; cases hso
    · rw [hs.2 r hrm]; exact hr

theorem make_map {t : TypeId} {K : Value → World → Prop} (h : ∀ m w', m = w.heap.size → Ext w w' → MapIs w' m [] → K (.map (some m)) w') : RunC P (Instr.makeMap t none) w K := by
  refine .of (run_makeMap t w) (ns_alloc w _) (h _ _ rfl (ext_alloc w _) ⟨#[], 0, ?_, MapKept.stamped_empty 0, rfl⟩)
  exact heap_alloc_new w _

variable {k e : TypeId} {G : Value → Prop}
theorem look_map_some {t : TypeId} {c : Bool} {m : Nat} {d : List (Value × Value)} {x v : Value} {K : Value → Prop} (ht : P.underlying t = some (.map k e)) (hk : Keys P k G) (hm : MapIs w m d) (hG : ∀ p ∈ d, G p.1) (hx : G x) {j : Nat} (hd : d[j]? = some (x, v)) :
    RunQ P (Instr.lookup t (.map (some m)) x c) w K = K (if c then .tuple #[v, .bool true] else v) := RunQ.of fun w' hx' => by
  obtain ⟨es, cl, hb, hst, rfl⟩ := hm.ext hx'
  have hGe : ∀ e ∈ es.toList, G e.key := fun e he => hG (ent e) (List.mem_map.2 ⟨e, he, rfl⟩)
  rcases hk.find w' hx es.toList hGe with ⟨_, h2⟩ | ⟨i, e0, h1, h2, h3⟩
  · rw [List.getElem?_map] at hd
    obtain ⟨e1, he1, hent⟩ := Option.map_eq_some_iff.1 hd
    exact absurd (congrArg Prod.fst hent) (h2 e1 (List.mem_of_getElem? he1))
  · have hv : e0.val = v := by
      have hi : (es.toList.map ent)[i]? = some (ent e0) := by rw [List.getElem?_map, h2]; rfl
      have hm' : MapIs w' m (es.toList.map ent) := ⟨es, cl, hb, hst, rfl⟩
      have := hm'.uniq hi hd h3
      subst this
      rw [hi] at hd
      exact congrArg Prod.snd (Option.some.inj hd)
    simp only [Instr.lookup, Sem.run_bind, run_underlying ht, Result.andThen, MapKept.run_getObj_map hb, Sem.run_pure, hk.check w' _ hx, h1, hv]
theorem look_map_none {t : TypeId} {c : Bool} {m : Nat} {d : List (Value × Value)} {x z : Value} {K : Value → Prop} (ht : P.underlying t = some (.map k e)) (hk : Keys P k G) (hz : ∃ s b, Inf P e s b z) (hm : MapIs w m d) (hG : ∀ p ∈ d, G p.1) (hx : G x) (hd : ∀ p ∈ d, p.1 ≠ x) :
    RunQ P (Instr.lookup t (.map (some m)) x c) w K = K (if c then .tuple #[z, .bool false] else z) := RunQ.of fun w' hx' => by
  obtain ⟨es, cl, hb, hst, rfl⟩ := hm.ext hx'
  have hGe : ∀ e ∈ es.toList, G e.key := fun e he => hG (ent e) (List.mem_map.2 ⟨e, he, rfl⟩)
  have hzr : (zeroValue e).run P w' = .ok z w' := by
    obtain ⟨s, b, i, hi, _, _, hz⟩ := hz
    simp [zeroValue, typeInfo, hi, hz]
  rcases hk.find w' hx es.toList hGe with ⟨h1, h2⟩ | ⟨i, e0, h1, h2, h3⟩
  · simp only [Instr.lookup, Sem.run_bind, run_underlying ht, Result.andThen, MapKept.run_getObj_map hb, Sem.run_pure, hk.check w' _ hx, h1, hzr]
  · exact absurd h3 (hd (ent e0) (List.mem_map.2 ⟨e0, List.mem_of_getElem? h2, rfl⟩))

theorem modify_map {es : Array MapEntry} {j : Nat} {e0 : MapEntry} {f : MapEntry → MapEntry} (h : es[j]? = some e0) : (es.modify j f).toList.map ent = (es.toList.map ent).set j (ent (f e0)) := by
  refine List.ext_getElem? fun i => ?_
  simp only [List.getElem?_map, Array.getElem?_toList, Array.getElem?_modify, List.getElem?_set, List.length_map, Array.length_toList]
  by_cases hij : j = i
  · subst hij
    have := (Array.getElem?_eq_some_iff.1 h)
    simp [this.1, this.2]
  · simp [hij]
theorem upd_map {t : TypeId} {m : Nat} {d : List (Value × Value)} {x v : Value} {K : Unit → World → Prop} (ht : P.underlying t = some (.map k e)) (hk : Keys P k G) (hm : MapIs w m d) (hG : ∀ p ∈ d, G p.1) (hx : G x)
    (h1 : ∀ j v0 w', d[j]? = some (x, v0) → MapIs w' m (d.set j (x, v)) → Chg (fun r => r = m) w w' → K () w')
    (h2 : ∀ w', (∀ p ∈ d, p.1 ≠ x) → MapIs w' m (d ++ [(x, v)]) → Chg (fun r => r = m) w w' → K () w') : RunC P (Instr.mapUpdate t (.map (some m)) x v) w K := by
  obtain ⟨es, cl, hb, hst, rfl⟩ := hm
  have hGe : ∀ e ∈ es.toList, G e.key := fun e he => hG (ent e) (List.mem_map.2 ⟨e, he, rfl⟩)
  rcases hk.find w hx es.toList hGe with ⟨hf, hno⟩ | ⟨i, e0, hf, hi, he⟩
  · obtain ⟨c1, c2, c3⟩ := setMap_facts hb (es.push { key := x, val := v, born := cl }) (cl + 1)
    refine .of (v := ()) (w' := _) ?_ c2 (h2 _ (fun p hp => ?_) ⟨_, _, c3, MapKept.stamped_push hst hno, by simp [ent]⟩ c1)
    · simp only [Instr.mapUpdate, Sem.run_bind, run_underlying ht, Result.andThen, MapKept.run_getObj_map hb, hk.check w _ hx, hf, MapKept.run_setObj_map _ hb]
    · obtain ⟨e1, he1, rfl⟩ := List.mem_map.1 hp
      exact hno e1 he1
  · have hi' : es[i]? = some e0 := by simpa using hi
    obtain ⟨c1, c2, c3⟩ := setMap_facts hb (es.modify i fun e => { e with key := x, val := v }) cl
    refine .of (v := ()) (w' := _) ?_ c2 (h1 i e0.val _ (by rw [List.getElem?_map, hi]; simp [ent, he]) ⟨_, _, c3, MapKept.stamped_modify hst _ _ (fun _ _ => rfl) (fun e' _ he' => by rw [hi'] at he'; cases he'; exact he.symm), modify_map hi'⟩ c1)
    simp only [Instr.mapUpdate, Sem.run_bind, run_underlying ht, Result.andThen, MapKept.run_getObj_map hb, hk.check w _ hx, hf, hi', Option.map_some, Option.getD_some, he, hk.stays w hx, MapKept.run_setObj_map _ hb]

theorem del_map {t kt ty : TypeId} {m : Nat} {d : List (Value × Value)} {x : Value} {K : Value → World → Prop} (ht : P.underlying t = some (.map k e)) (hk : Keys P k G) (hm : MapIs w m d) (hG : ∀ p ∈ d, G p.1) (hx : G x)
    (h1 : ∀ j v0 w', d[j]? = some (x, v0) → MapIs w' m (d.eraseIdx j) → Chg (fun r => r = m) w w' → K (.tuple #[]) w')
    (h2 : ∀ w', (∀ p ∈ d, p.1 ≠ x) → MapIs w' m d → Chg (fun r => r = m) w w' → K (.tuple #[]) w') : RunC P (Builtin.delete_ #[t, kt] ty #[.map (some m), x]) w K := by
  obtain ⟨es, cl, hb, hst, rfl⟩ := hm
  have hGe : ∀ e ∈ es.toList, G e.key := fun e he => hG (ent e) (List.mem_map.2 ⟨e, he, rfl⟩)
  rcases hk.find w hx es.toList hGe with ⟨hf, hno⟩ | ⟨i, e0, hf, hi, he⟩
  · obtain ⟨c1, c2, c3⟩ := setMap_facts hb es cl
    refine .of (v := .tuple #[]) (w' := _) ?_ c2 (h2 _ (fun p hp => ?_) ⟨_, _, c3, hst, rfl⟩ c1)
    · simp only [Builtin.delete_, List.getElem?_toArray, List.getElem?_cons_zero, List.getElem?_cons_succ, Sem.run_bind, run_underlying ht, Result.andThen, MapKept.run_getObj_map hb, hk.check w _ hx, hf, MapKept.run_setObj_map _ hb, Sem.run_pure]
    · obtain ⟨e1, he1, rfl⟩ := List.mem_map.1 hp
      exact hno e1 he1
  · obtain ⟨c1, c2, c3⟩ := setMap_facts hb (es.eraseIdxIfInBounds i) cl
    refine .of (v := .tuple #[]) (w' := _) ?_ c2 (h1 i e0.val _ (by rw [List.getElem?_map, hi]; simp [ent, he]) ⟨_, _, c3, MapKept.stamped_erase hst _, by rw [erase_map]; simp⟩ c1)
    simp only [Builtin.delete_, List.getElem?_toArray, List.getElem?_cons_zero, List.getElem?_cons_succ, Sem.run_bind, run_underlying ht, Result.andThen, MapKept.run_getObj_map hb, hk.check w _ hx, hf, MapKept.run_setObj_map _ hb, Sem.run_pure]

theorem len_map {t ty : TypeId} {m : Nat} {d : List (Value × Value)} {K : Value → Prop} (ht : P.underlying t = some (.map k e)) (hm : MapIs w m d) : RunQ P (Builtin.len_ #[t] ty #[.map (some m)]) w K = K (.int .i64 d.length) := RunQ.of fun w' hx' => by
  obtain ⟨es, cl, hb, hst, rfl⟩ := hm.ext hx'
  simp [Builtin.len_, run_underlying ht, MapKept.run_getObj_map hb, goInt]

/-! ### a range over a map -/
/-- the range in block it over the map in block m: what is left, what came last -/
def ItIs (w : World) (it m : Nat) (d left : List (Value × Value)) (cur : Option (Value × Value)) : Prop := ∃ es clock seen c0, w.heap[m]? = some (.map es clock) ∧ MapKept.Stamped es clock ∧ es.toList.map ent = d ∧
  w.heap[it]? = some (.mapIter (some m) clock seen c0) ∧ clock ≤ c0 ∧ (leftOf es seen).toList.map ent = left ∧ ∀ p, cur = some p → c0 = clock ∧ ∃ e0, es.toList.find? (fun e => e.born == seen.back?.getD 0) = some e0 ∧ seen.back? = some e0.born ∧ ent e0 = p
theorem ItIs.map {it m : Nat} {d left : List (Value × Value)} {cur : Option (Value × Value)} (h : ItIs w it m d left cur) : MapIs w m d := by
  obtain ⟨es, c, _, _, h1, h2, h3, _⟩ := h
  exact ⟨es, c, h1, h2, h3⟩
theorem ItIs.keep {w' : World} {it m : Nat} {d left : List (Value × Value)} {cur : Option (Value × Value)} (h : ItIs w it m d left cur) {S : Nat → Prop} (hx : Chg S w w') (hm : ¬ S m) (hi : Its w w') : ItIs w' it m d left cur := by
  obtain ⟨es, c, s, c0, h1, h2, h3, h4, h5⟩ := h
  exact ⟨es, c, s, c0, hx.keep m _ h1 rfl hm, h2, h3, hi it _ h4 rfl, h5⟩
theorem ItIs.ext {w' : World} {it m : Nat} {d left : List (Value × Value)} {cur : Option (Value × Value)} (h : ItIs w it m d left cur) (hx : Ext w w') (hi : Its w w') : ItIs w' it m d left cur :=
  h.keep (hx.chg fun _ => False) (fun h => h) hi

theorem left_all (es : Array MapEntry) : leftOf es #[] = es := by
  unfold leftOf
  exact Array.filter_eq_self.2 fun x hx => by simp
theorem range_map {t : TypeId} {m : Nat} {d : List (Value × Value)} {K : Value → World → Prop} (ht : P.underlying t = some (.map k e)) (hm : MapIs w m d)
    (h : ∀ it w', it = w.heap.size → Ext w w' → Its w w' → ItIs w' it m d d none → K (.pointer (some ⟨it, 0, none⟩)) w') : RunC P (Instr.range t (.map (some m))) w K := by
  obtain ⟨es, cl, hb, hst, rfl⟩ := hm
  refine .of (run_range_map w t k e m es cl ht hb) (ns_alloc w _) (h _ _ rfl (ext_alloc w _) (ns_alloc w _).its ⟨es, cl, #[], cl, (ext_alloc w _).keep m _ hb rfl, hst, rfl, heap_alloc_new w _, Nat.le_refl _, by rw [left_all], fun p hp => by cases hp⟩)

theorem erase_born : ∀ (l : List MapEntry) (j : Nat) (e0 : MapEntry), (l.map (·.born)).Nodup → l[j]? = some e0 → l.filter (fun x => !(x.born == e0.born)) = l.eraseIdx j
  | [], j, e0, _, h => by simp at h
  | x :: l, 0, e0, hn, h => by
    simp at h; subst h
    have hn' := List.nodup_cons.1 (by simpa using hn : (x.born :: l.map (·.born)).Nodup)
    simp only [List.filter_cons, beq_self_eq_true, Bool.not_true, Bool.false_eq_true, if_false, List.eraseIdx_cons_zero]
    refine List.filter_eq_self.2 fun y hy => ?_
    have : y.born ≠ x.born := fun he => hn'.1 (he ▸ List.mem_map.2 ⟨y, hy, rfl⟩)
    simpa using this
  | x :: l, j + 1, e0, hn, h => by
    simp at h
    have hn' := List.nodup_cons.1 (by simpa using hn : (x.born :: l.map (·.born)).Nodup)
    have hx : x.born ≠ e0.born := fun he => hn'.1 (he ▸ List.mem_map.2 ⟨e0, List.mem_of_getElem? h, rfl⟩)
    have ih := erase_born l j e0 hn'.2 h
    simp only [List.filter_cons, List.eraseIdx_cons_succ, ih]
    simp [hx]

theorem next_map {free : Md} {it m : Nat} {d left : List (Value × Value)} {cur : Option (Value × Value)} {K : Value → World → Prop} (h : ItIs w it m d left cur) (hf : free.1 = false → free.2 ≤ it)
    (h0 : left = [] → K (.tuple #[.bool false]) w)
    (h1 : ∀ j p w', left[j]? = some p → Ext w w' → NsB it w w' → ItIs w' it m d (left.eraseIdx j) (some p) → K (.tuple #[.bool true, p.1, p.2]) w') : RunN P free (Instr.next (.pointer (some ⟨it, 0, none⟩)) false 0) w K := by
  obtain ⟨es, cl, seen, c0, hb, hst, rfl, hi, hc, rfl, _⟩ := h
  have hold : ∀ x ∈ es.toList, x.born < cl := hst.1
  have hnd := hst.2.1
  have hmem : ∀ x ∈ (leftOf es seen).toList, x.born < cl := fun x hx => hold x (mem_left hx).1
  have hset : ∀ (w1 : World) (o' : Obj), w1.heap = w.heap → (setObj it o').run P w1 = .ok () { w1 with heap := w1.heap.setIfInBounds it o' } := fun w1 o' he => by
    simp only [setObj, Sem.run]
    rw [he, hi]
  unfold RunN
  simp only [Instr.next, getObj, Sem.run_bind, Sem.run, hi, hb, Result.andThen, next_test_false seen es cl c0 hold hc, Bool.false_eq_true, if_false]
  have hL : Array.filter (fun e => !seen.contains e.born) es = leftOf es seen := rfl
  rw [hL]
  have hndL : ((leftOf es seen).toList.map (·.born)).Nodup := by
    unfold leftOf
    rw [Array.toList_filter]
    exact (List.Sublist.map _ List.filter_sublist).nodup hnd
  have hfil : ∀ e0 : MapEntry, leftOf es (seen.push e0.born) = (leftOf es seen).filter fun x => !(x.born == e0.born) := fun e0 => by
    unfold leftOf
    rw [Array.filter_filter]
    congr 1
    funext x
    rw [contains_push]
    cases seen.contains x.born <;> cases x.born == e0.born <;> rfl
  generalize hLg : leftOf es seen = L at *
  have e1 : L.filter (fun x => decide (x.born < cl)) = L := Array.filter_eq_self.2 (fun x hx => by simpa using hmem x (by simpa using hx))
  have e2 : L.filter (fun x => decide (x.born ≥ cl)) = #[] := by
    rw [Array.filter_eq_empty_iff]
    intro x hx
    have := hmem x (by simpa using hx)
    simp
    omega
  simp only [e1, e2, Array.append_empty]
  by_cases hz : L.size = 0
  · have hLe : L = #[] := Array.eq_empty_of_size_eq_zero hz
    subst hLe
    refine ⟨.tuple #[.bool false], w, ?_, fun _ => NsB.refl _ _, h0 rfl⟩
    simp [choose, Sem.run, Question.forced]
  · have hne : L.isEmpty = false := by simp [Array.isEmpty, hz]
    simp only [hne, Bool.false_eq_true, if_false, Array.empty_append, Array.size_map]
    have hch : ∃ (j : Nat) (n : Nat), j < L.size ∧ (choose (Question.mapNext L.size)).run P w = .ok j { w with drawn := n } := by
      by_cases hf : L.size ≤ 1
      · exact ⟨0, w.drawn, by omega, by simp [choose, Sem.run, Question.forced, hf]⟩
      · exact ⟨_, w.drawn + 1, Nat.mod_lt _ (by omega), by
          simp only [choose, Sem.run, Question.forced, decide_eq_true_eq, hf, if_false, Question.cut]
          rfl⟩
    obtain ⟨j, n, hj, hrunc⟩ := hch
    have hgj : L.toList[j]? = some L[j] := by simp [hj]
    have hin : L[j] ∈ es.toList := (mem_left (seen := seen) (by rw [hLg]; exact Array.mem_toList_iff.2 (Array.getElem_mem hj))).1
    refine ⟨.tuple #[.bool true, L[j].key, L[j].val], { w with drawn := n, heap := w.heap.setIfInBounds it (.mapIter (some m) cl (seen.push L[j].born) cl) }, ?_, ?_, ?_⟩
    · have hs := hset { w with drawn := n } (.mapIter (some m) cl (seen.push L[j].born) cl) rfl
      simp only [hrunc, Array.getElem?_map, Array.getElem?_eq_getElem hj, Option.map_some, Sem.run_bind, hs, Result.andThen, Sem.run_pure]
    · intro hff
      have := hf hff
      refine ⟨rfl, rfl, rfl, by simp, fun r o hr hbk => ?_, fun r o hrn hr hso => ?_⟩
      · show (w.heap.setIfInBounds it _)[r]? = some o
        by_cases hri : r = it
        · subst hri; rw [hi] at hr; cases hr; cases hbk
        · rw [(MapKept.heap_set hi).2 r hri]; exact hr
      · show (w.heap.setIfInBounds it _)[r]? = some o
        rw [(MapKept.heap_set hi).2 r (by omega)]; exact hr
    · refine h1 j (ent L[j]) _ (by rw [List.getElem?_map, hgj]; rfl) ⟨by simp, fun r o hr hso => ?_⟩ ⟨rfl, rfl, rfl, by simp, fun r o hr hbk => ?_, fun r o hrn hr hso => ?_⟩ ⟨es, cl, seen.push L[j].born, cl, ?_, hst, rfl, ?_, Nat.le_refl _, ?_, fun p hp => ⟨rfl, L[j], ?_, by simp, Option.some.inj hp⟩⟩
      · show (w.heap.setIfInBounds it _)[r]? = some o
        by_cases hri : r = it
        · subst hri; rw [hi] at hr; cases hr; cases hso
        · rw [(MapKept.heap_set hi).2 r hri]; exact hr
      · show (w.heap.setIfInBounds it _)[r]? = some o
        by_cases hri : r = it
        · subst hri; rw [hi] at hr; cases hr; cases hbk
        · rw [(MapKept.heap_set hi).2 r hri]; exact hr
      · show (w.heap.setIfInBounds it _)[r]? = some o
        rw [(MapKept.heap_set hi).2 r (by omega)]; exact hr
      · show (w.heap.setIfInBounds it _)[m]? = _
        rw [(MapKept.heap_set hi).2 m (fun he => by subst he; rw [hi] at hb; cases hb)]; exact hb
      · exact (MapKept.heap_set hi).1
      · rw [hfil, Array.toList_filter, erase_born _ _ _ hndL hgj, erase_map]
      · simp only [Array.back?_push, Option.getD_some]
        exact find_born _ _ hnd hin
/-- the entry that came -/
theorem entry_map {it m : Nat} {d left : List (Value × Value)} {p : Value × Value} {K : Value → World → Prop} (h : ItIs w it m d left (some p)) (hK : K (.tuple #[p.1, p.2]) w) : RunC P (Instr.entry (.pointer (some ⟨it, 0, none⟩))) w K := by
  obtain ⟨es, cl, seen, c0, hb, hst, rfl, hi, hc, rfl, hcur⟩ := h
  obtain ⟨rfl, e0, h1, h2, rfl⟩ := hcur p rfl
  refine .of (v := .tuple #[e0.key, e0.val]) (w' := w) ?_ (Ns.refl _) hK
  rw [h2] at h1
  simp only [Instr.entry, getObj, Sem.run_bind, Sem.run, hi, hb, Result.andThen, h2, bne_self_eq_false, Bool.false_eq_true, if_false, ← Array.find?_toList]
  simp only [Option.getD_some] at h1
  rw [h1]
  rfl
end
end Go.Vc
