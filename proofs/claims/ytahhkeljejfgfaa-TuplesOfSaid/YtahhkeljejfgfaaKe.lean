/- Lemma kit, part e: lists of numbers in slices. -/
import Derived.Test.YtahhkeljejfgfaaKd
import Derived.Laws.MakeOwn
namespace Go.Vc
open Go Go.RowKit

/-- a slice shows a list of numbers -/
def LS (k : IntKind) (w : World) (v : Value) (l : List Int) : Prop := Sl w 1 v l.length (ints k l)
/-- a row of one's own, in block g -/
def LM (k : IntKind) (e : TypeId) (w : World) (g : Nat) (v : Value) (l : List Int) : Prop := Mine w g e 1 v l.length (ints k l)

theorem LS.ext {k : IntKind} {w w' : World} {v : Value} {l : List Int} (h : LS k w v l) (hx : Ext w w') : LS k w' v l := Sl.ext h hx
theorem LM.ext {k : IntKind} {e : TypeId} {w w' : World} {g : Nat} {v : Value} {l : List Int} (h : LM k e w g v l) (hx : Ext w w') : LM k e w' g v l := Mine.ext h hx
theorem LM.chg {k : IntKind} {e : TypeId} {S : Nat → Prop} {w w' : World} {g : Nat} {v : Value} {l : List Int} (h : LM k e w g v l) (hx : Chg S w w') (hS : g < w.heap.size → ¬ S g) : LM k e w' g v l := Mine.chg h hx hS
theorem LM.ls {k : IntKind} {e : TypeId} {w : World} {g : Nat} {v : Value} {l : List Int} (h : LM k e w g v l) : LS k w v l := Mine.sl h
theorem LS.of {k : IntKind} {w : World} {v : Value} {n : Nat} {l : List Int} (h : Sl w 1 v n (ints k l)) : LS k w v l := by
  have : l.length = n := by simpa using h.1
  unfold LS; rw [this]; exact h
theorem LM.of {k : IntKind} {e : TypeId} {w : World} {g : Nat} {v : Value} {n : Nat} {l : List Int} (h : Mine w g e 1 v n (ints k l)) : LM k e w g v l := by
  have : l.length = n := by simpa using h.1
  unfold LM; rw [this]; exact h
theorem LS.le {k : IntKind} {w : World} {v : Value} {l : List Int} (h : LS k w v l) : l.length ≤ 9223372036854775807 := by
  have := Sl.le h
  simpa [maxLen] using this
theorem LS.cells {k : IntKind} {w : World} {v : Value} {l : List Int} (h : LS k w v l) : v.cells = #[v] ∧ v.oneCell' = true := by
  obtain ⟨_, _, _, _, _, rfl, _⟩ := h; exact ⟨rfl, rfl⟩
theorem Sl.cells {k n : Nat} {w : World} {v : Value} {l : List Value} (h : Sl w k v n l) : v.cells = #[v] ∧ v.oneCell' = true := by
  obtain ⟨_, _, _, _, _, rfl, _⟩ := h; exact ⟨rfl, rfl⟩
theorem LS.nil (k : IntKind) (w : World) : LS k w (.slice none 0 0) [] := Sl.nil w 1
theorem LM.nil (k : IntKind) (e : TypeId) (w : World) (g : Nat) : LM k e w g (.slice none 0 0) [] := Mine.nil w g e 1

section
variable {P : Program} {w : World}
theorem len_ls {t e ty : TypeId} {k : IntKind} {v : Value} {l : List Int} {K : Value → Prop} (ht : P.underlying t = some (.slice e)) (h : LS k w v l) :
    RunQ P (Builtin.len_ #[t] ty #[v]) w K = K (.int .i64 l.length) := by
  obtain ⟨_, _, _, _, _, rfl, _⟩ := h; exact len_slice ht
theorem len_sl {t e ty : TypeId} {k n : Nat} {v : Value} {l : List Value} {K : Value → Prop} (ht : P.underlying t = some (.slice e)) (h : Sl w k v n l) :
    RunQ P (Builtin.len_ #[t] ty #[v]) w K = K (.int .i64 n) := by
  obtain ⟨_, _, _, _, _, rfl, _⟩ := h; exact len_slice ht
/-- l[i], read -/
theorem get_ls {t e : TypeId} {k kk : IntKind} {b : Nat} {z v : Value} {l : List Int} {i : Nat} {x : Int} {K : Value → Prop} (ht : P.underlying t = some (.slice e)) (hi : Inf P e 1 b z) (h1 : oneCellT P e = true)
    (h : LS k w v l) (hx : l[i]? = some x) : RunQ P (Instr.indexAt t v (.int kk (i : Int))) w (fun p => RunQ P (Instr.loadAt e p) w K) = K (.int k x) := by
  have hlt := (List.getElem?_eq_some_iff.1 hx).1
  obtain ⟨_, _, _, _, _, rfl, _, _, hb, hr⟩ := h
  rw [index_nat ht hi hlt hb, Nat.mul_one, load_cell h1 (hr i _ (ints_get hx))]
theorem get_ls_at {t e : TypeId} {k kk : IntKind} {b : Nat} {z v : Value} {l : List Int} {i : Nat} {y x : Int} {K : Value → Prop} (hy : y = (i : Int)) (ht : P.underlying t = some (.slice e)) (hi : Inf P e 1 b z) (h1 : oneCellT P e = true)
    (h : LS k w v l) (hx : l[i]? = some x) : RunQ P (Instr.indexAt t v (.int kk y)) w (fun p => RunQ P (Instr.loadAt e p) w K) = K (.int k x) := by
  subst hy; exact get_ls ht hi h1 h hx
/-- one number more -/
theorem push_lm {t e ty : TypeId} {k : IntKind} {b g : Nat} {z v x : Value} {l m : List Int} {K : Value → World → Prop} (ht : P.underlying t = some (.slice e)) (hi : Inf P e 1 b z) (hz : z.cells.size = 1)
    (h : LM k e w g v l) (hx : LS k w x m) (hb : (l.length + m.length) * b ≤ 140737488355328) (h63 : l.length + m.length ≤ 9223372036854775807)
    (hK : ∀ v' g' w', (g' = g ∨ w.heap.size ≤ g') → LM k e w' g' v' (l ++ m) → Chg (fun r => r = g) w w' → K v' w') : RunC P (Builtin.append_ #[t, t] ty #[v, x]) w K :=
  append_own ht ht hi hz h hx (one_ints _ _) hb (by simpa [maxLen] using h63) fun v' g' w' h1 h2 h3 => hK v' g' w' h1 (LM.of (by rw [ints, List.map_append]; exact h2)) h3
/-- a list of one number -/
theorem one_c {t e : TypeId} {k : IntKind} {b : Nat} {z : Value} {x : Int} {K : Value → World → Prop} (ht : P.underlying t = some (.slice e)) (hi : Inf P e 1 b z) (hz : z.cells.size = 1)
    (h : ∀ v g w', g = w.heap.size → Ext w w' → LM k e w' g v [x] → K v w') : RunC P (Instr.buildSlice t 1 #[(0, .int k x)]) w K :=
  buildSlice_c ht hi (by omega) (cs := #[.int k x]) (by
      have hs : ∀ (a : Array Value), a.size = 1 → a.setIfInBounds 0 (.int k x) = #[.int k x] := fun a ha => by
        apply Array.ext
        · simp [ha]
        · intro i h1 h2
          have : i = 0 := by simp [ha] at h1; exact h1
          subst this; simp
      simp only [Instr.fill, Value.cells, List.zipIdx]
      simp
      exact hs _ (by simp)) fun g w' hg hx hb => h _ g w' hg hx (LM.of (n := 1) (Mine.full hb rfl (by simp [maxLen])))
theorem Cal.free {f : FuncId} {args : List Value} {K : Value → World → Prop} (h : Cal P f args w K) : CalF P f args w fun v w' => Ns w w' ∧ K v w' := by
  cases h with
  | code h1 h2 => exact .code h1 (h2.mono fun _ w' ⟨v, h1, hn, h2⟩ => ⟨v, h1, hn, h2⟩)
  | ext v w' h1 h2 h3 => exact .ext v w' h1 ⟨h2, h3⟩
theorem nil_check {a : Addr} {K : Value → Prop} : RunQ P (nilS (.pointer (some a))) w K = K (.pointer (some a)) := RunQ.of fun _ _ => by
  simp [nilS, valS, execOp]
theorem make_c {t e : TypeId} {kl kc : IntKind} {n : Nat} {k by_ : Nat} {z : Value} {K : Value → World → Prop} (ht : P.underlying t = some (.slice e)) (hi : Inf P e k by_ z) (hn : n * by_ ≤ 281474976710656) (h63 : n ≤ 9223372036854775807)
    (h : ∀ g w', g = w.heap.size → Ext w w' → Blk w' g e (zeros z.cells (n * k)) → K (.slice (some ⟨g, 0, none⟩) n n) w') : RunC P (Instr.makeSlice t (.int kl (n : Int)) (.int kc (n : Int))) w K := by
  obtain ⟨i, hi, rfl, rfl, hz⟩ := hi
  have hbb : (i.bytes : Int) * (n : Int) ≤ 281474976710656 := by
    rw [Int.mul_comm]
    have h : ((n * i.bytes : Nat) : Int) ≤ 281474976710656 := by omega
    rwa [Int.natCast_mul] at h
  have hr := run_make (P := P) w t e i z ht hi hz kl kc n n (by omega) (Int.le_refl _) hbb (by omega)
  have hm : madeCells z.cells ((n : Int).toNat * i.size) = (zeros z.cells (n * i.size)).toArray := by rw [zeros, Array.toArray_toList]; rfl
  rw [hm] at hr
  obtain ⟨h1, h2, h3⟩ := new_facts w (zeros z.cells (n * i.size)) e
  exact .of hr h3 (h _ _ rfl h2 h1)
theorem zeros_one (v : Value) (n : Nat) : zeros #[v] n = List.replicate n v := by
  apply List.ext_getElem
  · simp [zeros]
  · intro i h1 h2
    simp [zeros, Nat.mod_one]
/-- .. of numbers -/
theorem make_ints {t e : TypeId} {kl kc k : IntKind} {n : Nat} {by_ : Nat} {K : Value → World → Prop} (ht : P.underlying t = some (.slice e)) (hi : Inf P e 1 by_ (.int k 0)) (hn : n * by_ ≤ 281474976710656) (h63 : n ≤ 9223372036854775807)
    (h : ∀ g w', g = w.heap.size → Ext w w' → Blk w' g e (ints k (List.replicate n 0)) → K (.slice (some ⟨g, 0, none⟩) n n) w') : RunC P (Instr.makeSlice t (.int kl (n : Int)) (.int kc (n : Int))) w K :=
  make_c ht hi hn h63 fun g w' hg hx hb => h g w' hg hx (by
    have e : zeros (Value.int k 0).cells (n * 1) = ints k (List.replicate n 0) := by rw [Nat.mul_one]; show zeros #[_] n = _; rw [zeros_one]; simp [ints]
    rw [← e]; exact hb)
/-- a result that is kept in a variable -/
theorem res_struct {t : TypeId} {pl : List (Nat × Nat)} {b o k by_ : Nat} {z : Value} {cs : List Value} {K : Value → Prop} (hu : Plc P t pl) (hi : Inf P t k by_ z) (hl : cs.length = k)
    (h : w.rangeAt b o cs) : RunQ P (do loadVar t (← asAddr (.pointer (some ⟨b, o, none⟩)))) w K = K (.agg cs.toArray) := RunQ.of fun w' hx => by
  obtain ⟨fs, hu, _⟩ := hu
  have := run_loadVar_mid (P := P) w' b o t cs (.struct fs) (range_ext hx h) hu rfl (by rw [hi.size, hl])
  simp only [asAddr, Sem.run_bind, Sem.run_pure, Result.andThen_ok, this]
theorem over_all {cs vs : List Value} (h : vs.length = cs.length) : over cs 0 vs = vs := by
  rw [over_eq (by omega)]; simp [h]
/-- a variable of a struct is written, whole -/
theorem store_whole {t e : TypeId} {k by_ g : Nat} {z : Value} {cs vs : List Value} {K : Unit → World → Prop} (hi : Inf P t k by_ z) (hl : vs.length = k) (hc : cs.length = k) (hv : ∀ v ∈ vs, v.oneCell' = true) (hb : Blk w g e cs)
    (h : ∀ w', Chg (fun r => r = g) w w' → w'.heap.size = w.heap.size → Blk w' g e vs → K () w') : RunC P (Instr.storeAt t (.pointer (some ⟨g, 0, none⟩)) (.agg vs.toArray)) w K :=
  store_agg hi hl hv hb (by omega) fun w' h1 h2 h3 => h w' h1 h2 (by rw [over_all (by omega)] at h3; exact h3)
end
end Go.Vc
