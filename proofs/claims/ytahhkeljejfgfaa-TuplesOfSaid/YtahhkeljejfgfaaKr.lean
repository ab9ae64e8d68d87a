/- Lemma kit, part r: a map's entry is asked for, and written. -/
import Derived.Test.YtahhkeljejfgfaaKp
import Derived.WideKeyEntry
namespace Go.Vc
open Go Go.RowKit
set_option maxRecDepth 100000

section
variable {P : Program} {w : World}
theorem stays_of {s : Sem Value} {v : Value} (h : ∀ K : Value → Prop, RunQ P s w K = K v) : Stays P s v w := by
  have h1 : RunQ P s w (fun u => u = v) := (h fun u => u = v).mpr rfl
  obtain ⟨u, hu, rfl⟩ := h1
  exact hu

theorem equalIn_nil_ptr (w : World) (d : Nat) {t e : TypeId} {a : Addr} (h : P.underlying t = some (.pointer e)) : (Op.equalIn (d + 1) t (.pointer none) (.pointer (some a))).run P w = .ok false w := by
  simp [Op.equalIn, run_underlying h]
theorem ptr_nil_eq {t e : TypeId} {cx cy : Bool} {a : Addr} {K : Value → Prop} (ht : P.underlying t = some (.pointer e)) :
    RunQ P (binS .eql t cx cy (.pointer none) (.pointer (some a))) w K = K (.bool false) := binS_eql' (fun _ => rfl) rfl fun w' _ => equalIn_nil_ptr w' 9999 ht
/-- an entry's stamp -/
def EntAt (w : World) (m : Nat) (d : List (Value × Value)) (j : Nat) (st : Int) : Prop := ∃ es clock e, w.heap[m]? = some (.map es clock) ∧ MapKept.Stamped es clock ∧ es.toList.map ent = d ∧ es[j]? = some e ∧ st = (e.born : Int)
theorem EntAt.map {m : Nat} {d : List (Value × Value)} {j : Nat} {st : Int} (h : EntAt w m d j st) : MapIs w m d := by
  obtain ⟨es, c, e, h1, h2, h3, _⟩ := h
  exact ⟨es, c, h1, h2, h3⟩

variable {k e : TypeId} {G : Value → Prop}
theorem entry_at {t : TypeId} {m : Nat} {d : List (Value × Value)} {x z : Value} {K : Value → World → Prop} (ht : P.underlying t = some (.map k e)) (hk : Keys P k G) (hz : ∃ s b, Inf P e s b z) (hm : MapIs w m d) (hG : ∀ p ∈ d, G p.1) (hx : G x)
    (h1 : ∀ j v0 st w', d[j]? = some (x, v0) → EntAt w' m d j st → Chg (fun r => r = m) w w' → K (.tuple #[v0, .int .i64 st]) w')
    (h2 : ∀ st w', (∀ p ∈ d, p.1 ≠ x) → EntAt w' m (d ++ [(x, z)]) d.length st → Chg (fun r => r = m) w w' → K (.tuple #[z, .int .i64 st]) w') : RunC P (Instr.mapEntry t (.map (some m)) x) w K := by
  obtain ⟨es, cl, hb, hst, rfl⟩ := hm
  have hGe : ∀ e ∈ es.toList, G e.key := fun e he => hG (ent e) (List.mem_map.2 ⟨e, he, rfl⟩)
  have hzr : ∀ w', (zeroValue e).run P w' = .ok z w' := fun w' => by
    obtain ⟨s, b, i, hi, _, _, hz⟩ := hz
    simp [zeroValue, typeInfo, hi, hz]
  rcases hk.find w hx es.toList hGe with ⟨hf, hno⟩ | ⟨i, e0, hf, hi, he⟩
  · obtain ⟨c1, c2, c3⟩ := setMap_facts hb (es.push { key := x, val := z, born := cl }) (cl + 1)
    refine .of (v := .tuple #[z, .int .i64 cl]) (w' := _) ?_ c2 (h2 cl _ (fun p hp => ?_) ⟨_, _, { key := x, val := z, born := cl }, c3, MapKept.stamped_push hst hno, by simp [ent], by simp, rfl⟩ c1)
    · simp only [Instr.mapEntry, Sem.run_bind, run_underlying ht, Result.andThen, MapKept.run_getObj_map hb, hk.check w _ hx, hf, hzr, MapKept.run_setObj_map _ hb, Sem.run_pure, goInt]
    · obtain ⟨e1, he1, rfl⟩ := List.mem_map.1 hp
      exact hno e1 he1
  · have hi' : es[i]? = some e0 := by simpa using hi
    obtain ⟨c1, c2, c3⟩ := setMap_facts hb (es.modify i fun e => { e with key := x }) cl
    have hmod : (es.modify i fun e => { e with key := x }).toList.map ent = es.toList.map ent := by
      rw [modify_map hi', show ent { e0 with key := x } = ent e0 by simp [ent, he]]
      refine List.ext_getElem? fun q => ?_
      by_cases hq : i = q
      · subst hq
        rw [List.getElem?_set_self (by simpa using (List.getElem?_eq_some_iff.1 hi).1), List.getElem?_map, hi]; rfl
      · rw [List.getElem?_set_ne hq]
    refine .of (v := .tuple #[e0.val, .int .i64 e0.born]) (w' := _) ?_ c2 (h1 i e0.val e0.born _ (by rw [List.getElem?_map, hi]; simp [ent, he]) ⟨_, _, { e0 with key := x }, c3, MapKept.stamped_modify hst _ _ (fun _ _ => rfl) (fun e' _ he' => by rw [hi'] at he'; cases he'; exact he.symm), hmod, by simp [Array.getElem?_modify, hi'], rfl⟩ c1)
    simp only [Instr.mapEntry, Sem.run_bind, run_underlying ht, Result.andThen, MapKept.run_getObj_map hb, hk.check w _ hx, hf, hi', Option.map_some, Option.getD_some, he, hk.stays w hx, MapKept.run_setObj_map _ hb, Sem.run_pure, goInt]
theorem store_at {t : TypeId} {m : Nat} {d : List (Value × Value)} {j : Nat} {st : Int} {x v0 v : Value} {K : Unit → World → Prop} (h : EntAt w m d j st) (hd : d[j]? = some (x, v0))
    (hK : ∀ w', MapIs w' m (d.set j (x, v)) → Chg (fun r => r = m) w w' → K () w') : RunC P (Instr.entryStore t (.map (some m)) (.int .i64 st) v) w K := by
  obtain ⟨es, cl, e0, hb, hst, rfl, hj, rfl⟩ := h
  obtain ⟨c1, c2, c3⟩ := setMap_facts hb (es.modify j fun e => { e with val := v }) cl
  have hidx : es.findIdx? (fun e => ((e.born : Nat) : Int) == ((e0.born : Nat) : Int)) = some j := by
    rw [WideElems.findIdx_arr]
    exact WideElems.findIdx_born hst.2.1 (by simpa using hj)
  have hx : e0.key = x := by
    have hj' : es.toList[j]? = some e0 := by simpa using hj
    rw [List.getElem?_map, hj'] at hd
    exact congrArg Prod.fst (Option.some.inj hd)
  refine .of (v := ()) (w' := _) ?_ c2 (hK _ ⟨_, _, c3, MapKept.stamped_modify hst _ _ (fun _ _ => rfl) (fun _ _ _ => rfl), by rw [modify_map hj]; simp [ent, hx]⟩ c1)
  simp [Instr.entryStore, MapKept.run_getObj_map hb, asInt, asIntOf, hidx, MapKept.run_setObj_map _ hb, Result.andThen]
end
end Go.Vc
