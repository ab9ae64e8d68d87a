/- Lemma kit, part b: what is stored, made, appended. -/
import Derived.Test.YtahhkeljejfgfaaKa
namespace Go.Vc
open Go Go.RowKit
section
variable {P : Program} {w : World}

/-! ### one block changes -/
/-- all but block g is the same, to the letter -/
structure Put (g : Nat) (w w' : World) : Prop where
  os : w'.os = w.os
  tape : w'.tape = w.tape
  output : w'.output = w.output
  size : w'.heap.size = w.heap.size
  keep : ∀ r, r ≠ g → w'.heap[r]? = w.heap[r]?
theorem Put.refl (g : Nat) (w : World) : Put g w w := ⟨rfl, rfl, rfl, rfl, fun _ _ => rfl⟩
theorem Put.trans {g : Nat} {a b c : World} (h : Put g a b) (k : Put g b c) : Put g a c :=
  ⟨k.os.trans h.os, k.tape.trans h.tape, k.output.trans h.output, k.size.trans h.size, fun r hr => (k.keep r hr).trans (h.keep r hr)⟩
theorem Put.chg {g : Nat} {w w' : World} (h : Put g w w') : Chg (fun r => r = g) w w' := ⟨Nat.le_of_eq h.size.symm, fun r o hr _ hg => by rw [h.keep r hg]; exact hr⟩
theorem Put.ns {g : Nat} {w w' : World} (h : Put g w w') {e : TypeId} {cs : List Value} (hb : Blk w g e cs) : Ns w w' :=
  ⟨h.os, h.tape, h.output, Nat.le_of_eq h.size.symm, fun r o hr hs => by
    by_cases hg : r = g
    · subst hg; unfold Blk at hb; rw [hb] at hr; cases hr; simp [solid] at hs
    · rw [h.keep r hg]; exact hr⟩

theorem setCell_blk {g : Nat} {e : TypeId} {cs : List Value} (h : Blk w g e cs) (o : Nat) (v : Value) : Blk (w.setCell ⟨g, o, none⟩ v) g e (cs.set o v) ∧ Put g w (w.setCell ⟨g, o, none⟩ v) := by
  unfold Blk at h
  refine ⟨?_, rfl, rfl, rfl, by simp [World.setCell], fun r hr => ?_⟩
  · simp [Blk, World.setCell, Array.getElem?_modify, h]
  · simp [World.setCell, Array.getElem?_modify, Ne.symm hr]

/-- vs laid over cs from o on -/
def over (cs : List Value) : Nat → List Value → List Value
  | _, [] => cs
  | o, v :: r => over (cs.set o v) (o + 1) r
theorem over_length : ∀ (vs cs : List Value) (o : Nat), (over cs o vs).length = cs.length
  | [], _, _ => rfl
  | v :: r, cs, o => by simp [over, over_length r]
theorem over_get : ∀ (vs cs : List Value) (o : Nat), o + vs.length ≤ cs.length → ∀ j, (over cs o vs)[j]? = if o ≤ j ∧ j < o + vs.length then vs[j - o]? else cs[j]?
  | [], cs, o, _, j => by simp [over]; intro h1 h2; omega
  | v :: r, cs, o, h, j => by
    simp only [List.length_cons] at h
    rw [over, over_get r (cs.set o v) (o + 1) (by simp; omega) j]
    simp only [List.length_cons]
    by_cases h1 : o + 1 ≤ j ∧ j < o + 1 + r.length
    · rw [if_pos h1, if_pos (by omega)]
      rw [show j - o = (j - (o + 1)) + 1 by omega, List.getElem?_cons_succ]
    · rw [if_neg h1]
      by_cases h2 : j = o
      · subst h2
        rw [if_pos (by omega), List.getElem?_set_self (by omega)]
        simp
      · rw [if_neg (by omega), List.getElem?_set_ne (Ne.symm h2)]
theorem over_eq {vs cs : List Value} {o : Nat} (h : o + vs.length ≤ cs.length) : over cs o vs = cs.take o ++ vs ++ cs.drop (o + vs.length) := by
  apply List.ext_getElem?
  intro j
  rw [over_get vs cs o h]
  by_cases h1 : j < o
  · rw [if_neg (by omega), List.getElem?_append_left (by simp; omega), List.getElem?_append_left (by simp; omega), List.getElem?_take_of_lt h1]
  · by_cases h2 : j < o + vs.length
    · rw [if_pos (by omega), List.getElem?_append_left (by simp; omega), List.getElem?_append_right (by simp; omega)]
      congr 1; simp; omega
    · rw [if_neg (by omega), List.getElem?_append_right (by simp; omega), List.getElem?_drop]
      congr 1; simp; omega

theorem setCells_blk {g : Nat} {e : TypeId} : ∀ (vs : List Value) (cs : List Value) (o : Nat) (w : World), Blk w g e cs → Blk (w.setCells g o vs) g e (over cs o vs) ∧ Put g w (w.setCells g o vs)
  | [], cs, o, w, h => ⟨h, Put.refl _ _⟩
  | v :: r, cs, o, w, h => by
    obtain ⟨h1, h2⟩ := setCell_blk h o v
    obtain ⟨h3, h4⟩ := setCells_blk r (cs.set o v) (o + 1) _ h1
    exact ⟨h3, h2.trans h4⟩

/-! ### what is new -/
theorem new_facts (w : World) (c : List Value) (e : TypeId) : Blk (w.alloc (.cells c.toArray e)) w.heap.size e c ∧ Ext w (w.alloc (.cells c.toArray e)) ∧ Ns w (w.alloc (.cells c.toArray e)) :=
  ⟨heap_alloc_new w _, ext_push w _, ns_push w _⟩

theorem alloc_c {t : TypeId} {k by_ : Nat} {z : Value} {K : Value → World → Prop} (hi : Inf P t k by_ z)
    (h : ∀ g w', g = w.heap.size → Ext w w' → Blk w' g t z.cells.toList → K (.pointer (some ⟨g, 0, none⟩)) w') : RunC P (Instr.alloc t true (.tuple #[])) w K := by
  obtain ⟨i, hi, _, _, hz⟩ := hi
  obtain ⟨h1, h2, h3⟩ := new_facts w z.cells.toList t
  refine .of ?_ h3 (h _ _ rfl h2 h1)
  simp [Instr.alloc, zeroValue, typeInfo, hi, hz, newVar, newRow]
theorem box_c {t : TypeId} {v : Value} {K : Value → World → Prop}
    (h : ∀ g w', g = w.heap.size → Ext w w' → Blk w' g t v.cells.toList → K (.pointer (some ⟨g, 0, none⟩)) w') : RunC P (Instr.box t v) w K := by
  obtain ⟨h1, h2, h3⟩ := new_facts w v.cells.toList t
  refine .of ?_ h3 (h _ _ rfl h2 h1)
  simp [Instr.box, newVar, newRow]

/-- n zeros of k cells -/
def zeros (z : Array Value) (n : Nat) : List Value := ((Array.range n).map (z[· % z.size]!)).toList
theorem zeros_length (z : Array Value) (n : Nat) : (zeros z n).length = n := by simp [zeros]

theorem buildSlice_c {t e : TypeId} {k by_ : Nat} {z : Value} {n : Nat} {parts : Array (Nat × Value)} {cs : Array Value} {K : Value → World → Prop} (ht : P.underlying t = some (.slice e)) (hi : Inf P e k by_ z)
    (hn : n * k ≤ 2 ^ 24) (hf : Instr.fill (fun j => some (j * k, k)) ((Array.range (n * k)).map ((if n * k = 0 then #[] else z.cells)[· % (if n * k = 0 then #[] else z.cells).size]!)) parts.toList = some cs)
    (h : ∀ g w', g = w.heap.size → Ext w w' → Blk w' g e cs.toList → K (.slice (some ⟨g, 0, none⟩) n n) w') : RunC P (Instr.buildSlice t n parts) w K := by
  obtain ⟨i, hi, rfl, _, hz⟩ := hi
  obtain ⟨h1, h2, h3⟩ := new_facts w cs.toList e
  refine .of ?_ h3 (h _ _ rfl h2 h1)
  have hn' : ¬ (16777216 < n * i.size) := by omega
  by_cases h0 : n * i.size = 0
  · simp only [h0, if_true] at hf
    simp [Instr.buildSlice, run_underlying ht, sizeOf, typeInfo, hi, h0, newRow]
    simp at hf
    simp [hf]
  · simp only [h0, if_false] at hf
    simp [Instr.buildSlice, run_underlying ht, sizeOf, typeInfo, hi, hn', h0, newRow, zeroValue, hz, hf]

theorem store_cell {t : TypeId} {by_ g o : Nat} {z : Value} {e : TypeId} {cs : List Value} {v : Value} {K : Unit → World → Prop} (hi : Inf P t 1 by_ z) (h1 : v.cells = #[v]) (hv : v.oneCell' = true) (hb : Blk w g e cs) (ho : o < cs.length)
    (h : ∀ w', Chg (fun r => r = g) w w' → w'.heap.size = w.heap.size → Blk w' g e (cs.set o v) → K () w') : RunC P (Instr.storeAt t (.pointer (some ⟨g, o, none⟩)) v) w K := by
  obtain ⟨i, hi, hs, _⟩ := hi
  obtain ⟨h2, h3⟩ := setCell_blk hb o v
  refine .of (w' := w.setCell ⟨g, o, none⟩ v) ?_ (h3.ns hb) (h _ h3.chg h3.size h2)
  have hc := hb.cell (List.getElem?_eq_getElem ho)
  have ha : (⟨g, o, none⟩ : Addr).add 0 = ⟨g, o, none⟩ := rfl
  simp [Instr.storeAt, Instr.sureAddr, storeVar, sizeOf, typeInfo, hi, hs, h1, storeCells, ha, run_store P w _ v _ hv, hc, hb.frozen]
theorem store_agg {t : TypeId} {k by_ g o : Nat} {z : Value} {e : TypeId} {cs vs : List Value} {K : Unit → World → Prop} (hi : Inf P t k by_ z) (hl : vs.length = k) (hv : ∀ v ∈ vs, v.oneCell' = true) (hb : Blk w g e cs) (ho : o + vs.length ≤ cs.length)
    (h : ∀ w', Chg (fun r => r = g) w w' → w'.heap.size = w.heap.size → Blk w' g e (over cs o vs) → K () w') : RunC P (Instr.storeAt t (.pointer (some ⟨g, o, none⟩)) (.agg vs.toArray)) w K := by
  obtain ⟨h2, h3⟩ := setCells_blk vs cs o w hb
  refine .of (w' := w.setCells g o vs) ?_ (h3.ns hb) (h _ h3.chg h3.size h2)
  exact run_storeAt_mid (P := P) w g o t vs.toArray (fun j hj => ⟨by rw [hb.cell (List.getElem?_eq_getElem (show o + j < cs.length by simp at hj; omega))]; rfl, hb.frozen _ _⟩) (by rw [hi.size]; simp [hl]) (by simpa using hv)

/-! ### rows that are the function's own -/
def Mine (w : World) (g : Nat) (e : TypeId) (k : Nat) (v : Value) (n : Nat) (xs : List Value) : Prop :=
  xs.length = n * k ∧ ((v = .slice none 0 0 ∧ n = 0) ∨ ∃ cap cs, v = .slice (some ⟨g, 0, none⟩) n cap ∧ Blk w g e cs ∧ n ≤ cap ∧ cap ≤ maxLen ∧ cs.length = cap * k ∧ cs.take (n * k) = xs)
theorem Mine.nil (w : World) (g : Nat) (e : TypeId) (k : Nat) : Mine w g e k (.slice none 0 0) 0 [] := ⟨by simp, .inl ⟨rfl, rfl⟩⟩
theorem Mine.full {g : Nat} {e : TypeId} {k n : Nat} {cs : List Value} (h : Blk w g e cs) (hl : cs.length = n * k) (hn : n ≤ maxLen) : Mine w g e k (.slice (some ⟨g, 0, none⟩) n n) n cs :=
  ⟨hl, .inr ⟨n, cs, rfl, h, Nat.le_refl _, hn, hl, by rw [← hl, List.take_length]⟩⟩
theorem Mine.chg {g : Nat} {e : TypeId} {k : Nat} {v : Value} {n : Nat} {xs : List Value} {S : Nat → Prop} {w' : World} (h : Mine w g e k v n xs) (hx : Chg S w w') (hS : g < w.heap.size → ¬ S g) : Mine w' g e k v n xs :=
  ⟨h.1, h.2.imp id fun ⟨cap, cs, h1, h2, h3⟩ => ⟨cap, cs, h1, h2.chg hx (hS h2.lt), h3⟩⟩
theorem Mine.ext {g : Nat} {e : TypeId} {k : Nat} {v : Value} {n : Nat} {xs : List Value} {w' : World} (h : Mine w g e k v n xs) (hx : Ext w w') : Mine w' g e k v n xs := h.chg (hx.chg fun _ => False) (fun _ h => h)
theorem Mine.sl {g : Nat} {e : TypeId} {k : Nat} {v : Value} {n : Nat} {xs : List Value} (h : Mine w g e k v n xs) : Sl w k v n xs := by
  obtain ⟨h1, ⟨rfl, rfl⟩ | ⟨cap, cs, rfl, hb, h2, h3, h4, h5⟩⟩ := h
  · have : xs = [] := List.eq_nil_of_length_eq_zero (by simpa using h1)
    subst this; exact Sl.nil w k
  · refine ⟨h1, g, 0, _, cap, rfl, h2, h3, fun _ => rfl, fun j v hv => ?_⟩
    rw [Nat.zero_add]
    have hj := (List.getElem?_eq_some_iff.1 hv).1
    rw [← h5, List.getElem?_take_of_lt (by omega)] at hv
    exact hb.cell hv

theorem Sl.src {k : Nat} {x : Value} {m : Nat} {news : List Value} {tx e' : TypeId} (hs : Sl w k x m news) (hk : P.underlying tx = some (.slice e')) (h1 : ∀ u ∈ news, u.oneCell' = true) (h0 : 0 < m) : Src P k tx x m news w := by
  obtain ⟨hl, b, o, base, cap, rfl, _, _, hb, hr⟩ := hs
  have hb := hb h0
  subst hb
  exact Src.ofSlice w hk ⟨b, o, none⟩ m cap news hl (fun j u hu => by rw [Addr.add_mid]; exact hr j u hu) h1
theorem Sl.src0 {k : Nat} {x : Value} {news : List Value} {tx e' : TypeId} (hs : Sl w k x 0 news) (hk : P.underlying tx = some (.slice e')) : Src P k tx x 0 [] w := by
  obtain ⟨hl, b, o, base, cap, rfl, _, _, hb, hr⟩ := hs
  cases base with
  | none => exact Src.ofNil w hk cap
  | some a => exact Src.ofSlice w hk a 0 cap [] (by simp) (by simp) (by simp)

theorem append_any {t tx ty e e0 e' : TypeId} {z : Value} {k by_ g n m : Nat} {v x : Value} {xs news : List Value} {K : Value → World → Prop}
    (ht : P.underlying t = some (.slice e)) (htx : P.underlying tx = some (.slice e')) (hi : Inf P e k by_ z) (hzs : z.cells.size = k)
    (hown : Mine w g e0 k v n xs) (hs : Sl w k x m news) (h1 : ∀ u ∈ news, u.oneCell' = true) (hb : (n + m) * by_ ≤ 140737488355328) (h63 : n + m ≤ maxLen)
    (h : ∀ v' g' w' e1, (g' = g ∧ e1 = e0 ∧ (v = v' ∨ g < w.heap.size ∧ v ≠ .slice none 0 0) ∨ g' = w.heap.size ∧ e1 = e) → Mine w' g' e1 k v' (n + m) (xs ++ news) → Chg (fun r => r = g ∧ v ≠ .slice none 0 0) w w' → K v' w') :
    RunC P (Builtin.append_ #[t, tx] ty #[v, x]) w K := by
  obtain ⟨i, hi, rfl, rfl, hz⟩ := hi
  have hsl := hown.sl
  obtain ⟨hxl, hown'⟩ := hown
  have hnl := hs.1
  -- what comes of a growth
  have grow : ∀ (base : Option Addr) (cap : Nat), v = .slice base n cap → cap < n + m → 0 < m → (Builtin.firstCells i.size n (.slice base n cap)).run P w.drew = .ok xs.toArray w.drew → RunC P (Builtin.append_ #[t, tx] ty #[v, x]) w K := by
    rintro base cap rfl hc hm hold
    have hr := run_append_grow_src (P := P) w t tx ty e i z ht hi hz base n cap xs hold x m news (hs.src htx h1 hm) hc (by simp only [maxLen] at h63; omega) (growslice_fits hc hb)
    have hge : n + m ≤ grownCap w (n + m) cap e := grownCap_ge w _ _ _
    have hle : grownCap w (n + m) cap e ≤ maxLen := grownCap_le_maxLen w (n + m) cap e h63
    have hext : Ext w (w.drew.alloc (.cells ((xs ++ news).toArray ++ Builtin.zeroCells z.cells (grownCap w (n + m) cap e - (n + m))) e)) := (ext_drew w _).trans (ext_push _ _)
    refine .of hr ((ns_drew w _).trans (ns_push _ _)) (h _ w.heap.size _ _ (.inr ⟨rfl, rfl⟩) ⟨by simp [hxl, hnl, Nat.add_mul], .inr ⟨_, ((xs ++ news).toArray ++ Builtin.zeroCells z.cells (grownCap w (n + m) cap e - (n + m))).toList, rfl, ?_, hge, hle, ?_, ?_⟩⟩ (hext.chg _))
    · show _ = _
      rw [Array.toArray_toList]
      exact heap_alloc_new w.drew _
    · simp [hxl, hnl, size_zeroCells, hzs, ← Nat.add_mul]
      congr 1; omega
    · rw [Array.toList_append, List.toList_toArray, Nat.add_mul, ← hxl, ← hnl, ← List.length_append]
      exact List.take_left
  rcases Nat.eq_zero_or_pos m with rfl | hm
  · have hnews : news = [] := List.eq_nil_of_length_eq_zero (by simpa using hnl)
    subst hnews
    have hsrc := hs.src0 htx
    have fin : ∀ base cap, v = .slice base n cap → n ≤ cap → RunC P (Builtin.append_ #[t, tx] ty #[v, x]) w K := by
      rintro base cap rfl hle
      refine .of (run_append_nothing (P := P) w t tx ty e i ht hi base n cap hle x hsrc) (Ns.refl _) (h _ g _ _ (.inl ⟨rfl, rfl, .inl rfl⟩) ?_ (Chg.refl _ _))
      rw [Nat.add_zero, List.append_nil]
      exact ⟨hxl, hown'⟩
    obtain ⟨rfl, rfl⟩ | ⟨cap, cs, rfl, _, h2, _⟩ := hown'
    · exact fin _ _ rfl (Nat.le_refl _)
    · exact fin _ _ rfl h2
  · obtain ⟨rfl, rfl⟩ | ⟨cap, cs, rfl, hblk, h2, h3, h4, h5⟩ := hown'
    · have hxs : xs = [] := List.eq_nil_of_length_eq_zero (by simpa using hxl)
      subst hxs
      exact grow none 0 rfl (by omega) hm (run_firstCells_none w.drew i.size 0 0 0)
    · by_cases hroom : n + m ≤ cap
      · have hfit : n * i.size + news.length ≤ cs.length := by rw [hnl, h4, ← Nat.add_mul]; exact Nat.mul_le_mul_right _ hroom
        have hr := run_append_room_src (P := P) w t tx ty e i ht hi g 0 n cap x m news (hs.src htx h1 hm) hroom
          (fun j hj => by rw [hblk.cell (List.getElem?_eq_getElem (show 0 + n * i.size + j < cs.length by omega))]; rfl) (fun j _ => hblk.frozen _ _)
        obtain ⟨h6, h7⟩ := setCells_blk news cs (n * i.size) w hblk
        rw [Nat.zero_add] at hr
        refine .of hr (h7.ns hblk) (h _ g _ _ (.inl ⟨rfl, rfl, .inr ⟨hblk.lt, by simp⟩⟩) ⟨by simp [hxl, hnl, Nat.add_mul], .inr ⟨cap, _, rfl, h6, hroom, h3, by rw [over_length, h4], ?_⟩⟩ (h7.chg.mono fun r _ h => ⟨h, by simp⟩))
        rw [over_eq hfit, h5, Nat.add_mul, ← hxl, ← hnl, ← List.length_append]
        exact List.take_left
      · refine grow _ cap rfl (by omega) hm (run_firstCells_some w.drew i.size n _ n cap xs hxl fun j u hu => ?_)
        rw [Addr.add_mid]
        obtain ⟨_, b, o, base, cap', he, _, _, hb', hr⟩ := hsl
        cases he
        have hn0 : 0 < n := by
          rcases Nat.eq_zero_or_pos n with rfl | h0
          · simp at hxl; subst hxl; simp at hu
          · exact h0
        have := hb' hn0
        cases this
        simpa using hr j u hu

theorem append_own {t tx ty e e' : TypeId} {z : Value} {k by_ g n m : Nat} {v x : Value} {xs news : List Value} {K : Value → World → Prop}
    (ht : P.underlying t = some (.slice e)) (htx : P.underlying tx = some (.slice e')) (hi : Inf P e k by_ z) (hzs : z.cells.size = k)
    (hown : Mine w g e k v n xs) (hs : Sl w k x m news) (h1 : ∀ u ∈ news, u.oneCell' = true) (hb : (n + m) * by_ ≤ 140737488355328) (h63 : n + m ≤ maxLen)
    (h : ∀ v' g' w', (g' = g ∨ w.heap.size ≤ g') → Mine w' g' e k v' (n + m) (xs ++ news) → Chg (fun r => r = g) w w' → K v' w') :
    RunC P (Builtin.append_ #[t, tx] ty #[v, x]) w K :=
  append_any ht htx hi hzs hown hs h1 hb h63 fun v' g' w' e1 hg hm hc => by
    refine h v' g' w' (hg.imp And.left fun h => Nat.le_of_eq h.1.symm) ?_ (hc.mono fun r _ h => h.1)
    obtain ⟨_, rfl, _⟩ | ⟨_, rfl⟩ := hg <;> exact hm

/-- a row that is appended to, known by its cells -/
theorem copy_blk {dT sT ty e : TypeId} {by_ g o dLen dCap n : Nat} {z : Value} {x : Value} {base : Option Addr} {cs xs : List Value} {e0 : TypeId} {K : Value → World → Prop} (ht : P.underlying dT = some (.slice e)) (hi : Inf P e 1 by_ z)
    (hblk : Blk w g e0 cs) (hbase : 0 < dLen → base = some ⟨g, o, none⟩) (hfit : o + dLen ≤ cs.length) (hs : Sl w 1 x n xs) (h1 : ∀ u ∈ xs, u.oneCell' = true)
    (h : ∀ w', Chg (fun r => r = g) w w' → w'.heap.size = w.heap.size → Blk w' g e0 (over cs o (xs.take dLen)) → K (.int .i64 (min n dLen : Nat)) w') :
    RunC P (Builtin.copy_ #[dT, sT] ty #[.slice base dLen dCap, x]) w K := by
  obtain ⟨hl, b, o', base', cap, rfl, _, _, hb, hr⟩ := hs
  simp only [Nat.mul_one] at hl
  have hi' : (P.info? e).map (·.size) = some 1 := hi.size
  by_cases h0 : Nat.min n dLen = 0
  · have he : xs.take dLen = [] := List.eq_nil_of_length_eq_zero (by rw [List.length_take, hl]; rw [Nat.min_comm]; exact h0)
    rw [he] at h
    refine .of (run_copy_none (P := P) w dT sT ty e base base' dLen dCap n cap ht hi' h0) (Ns.refl _) ?_
    have h0' : min n dLen = 0 := h0
    rw [h0'] at h
    exact h w (Chg.refl _ _) rfl hblk
  · have h0' : min n dLen ≠ 0 := h0
    have hn := hb (by omega)
    have hd := hbase (by omega)
    subst hn; subst hd
    have hlen : (xs.take dLen).length = min n dLen := by rw [List.length_take, hl, Nat.min_comm]
    obtain ⟨h6, h7⟩ := setCells_blk (xs.take dLen) cs o w hblk
    have hc := run_copy_cells (P := P) w dT sT ty e g o dLen dCap ⟨b, o', none⟩ n cap (xs.take dLen) ht hi' hlen
      (fun j u hu => by
        rw [Addr.add_mid]
        have hj := (List.getElem?_eq_some_iff.1 hu).1
        rw [List.getElem?_take_of_lt (by omega)] at hu
        exact hr j u hu)
      (fun j hj => by rw [hblk.cell (List.getElem?_eq_getElem (show o + j < cs.length by omega))]; rfl) (fun j _ => hblk.frozen _ _) (fun u hu => h1 u (List.mem_of_mem_take hu))
    refine .of hc (h7.ns hblk) ?_
    rw [hlen]
    exact h _ h7.chg h7.size h6

/-! ### calls -/
theorem Cal.mono {f : FuncId} {args : List Value} {K K' : Value → World → Prop} (h : Cal P f args w K) (hK : ∀ v w', Ns w w' → K v w' → K' v w') : Cal P f args w K' := by
  cases h with
  | code h1 h2 => exact .code h1 (h2.mono fun _ w' ⟨v, h1, hn, h2⟩ => ⟨v, h1, hn, hK v w' hn h2⟩)
  | ext v w' h1 h2 h3 => exact .ext v w' h1 h2 (hK v w' h2 h3)
theorem CalF.mono {f : FuncId} {args : List Value} {K K' : Value → World → Prop} (h : CalF P f args w K) (hK : ∀ v w', K v w' → K' v w') : CalF P f args w K' := by
  cases h with
  | code h1 h2 => exact .code h1 (h2.mono fun _ w' ⟨v, h1, h2⟩ => ⟨v, h1, hK v w' h2⟩)
  | ext v w' h1 h3 => exact .ext v w' h1 (hK v w' h3)
theorem Yield.mono {l : Nat} {args : List Value} {K K' : Value → World → Prop} (h : Yield P l args w K) (hK : ∀ v w', K v w' → K' v w') : Yield P l args w K' :=
  YieldAt.mono h fun _ w' ⟨v, h1, h2⟩ => ⟨v, h1, hK v w' h2⟩
end
end Go.Vc
