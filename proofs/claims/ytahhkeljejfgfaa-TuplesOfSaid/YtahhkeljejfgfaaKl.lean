/- Lemma kit, part l: rows that are lengthened by zeros; slices that overlap. -/
import Derived.Test.YtahhkeljejfgfaaKk
import Derived.Lib.Overlaps
import Derived.Lib.AppendZerosOnto
import Derived.Lib.SliceRun
namespace Go.Vc
open Go Go.RowKit
section
variable {P : Program} {w : World}

theorem append_zeros_c {t tn ty e : TypeId} {kq kn : IntKind} {b n k cap : Nat} {y : Int} {z : Value} {base : Option Addr} {xs : List Value} {K : Value → World → Prop} (hy : y = (k : Int)) (ht : P.underlying t = some (.slice e)) (htn : P.underlying tn = some (.int kn)) (hi : Inf P e 1 b z) (hz : z.cells = #[z])
    (hs : Sl w 1 (.slice base n cap) n xs) (h0 : 0 < k) (hc : cap < n + k) (hb : (n + k) * b ≤ 140737488355328) (h63 : n + k ≤ 9223372036854775807)
    (hK : ∀ v g w', g = w.heap.size → Ext w w' → Mine w' g e 1 v (n + k) (xs ++ List.replicate k z) → K v w') : RunC P (Builtin.append_ #[t, tn] ty #[.slice base n cap, .int kq y]) w K := by
  subst hy
  obtain ⟨i, hi, hs1, rfl, hzz⟩ := hi
  obtain ⟨hl, b', o, base', cap', he, h2, h3, hb', hr⟩ := hs
  cases he
  have hold : (Builtin.firstCells i.size n (.slice base n cap)).run P w.drew = .ok xs.toArray w.drew := by
    rcases Nat.eq_zero_or_pos n with rfl | hn
    · have : xs = [] := List.eq_nil_of_length_eq_zero (by simpa using hl)
      subst this
      cases base with
      | none => exact run_firstCells_none w.drew i.size 0 0 cap
      | some a => exact run_firstCells_some w.drew i.size 0 a 0 cap [] (by simp) (by simp)
    · have := hb' hn
      subst this
      refine run_firstCells_some w.drew i.size n _ n cap xs (by rw [hs1]; exact hl) fun j u hu => ?_
      rw [Addr.add_mid]; exact hr j u hu
  have hk48 : k * i.bytes ≤ 281474976710656 := by
    have : k * i.bytes ≤ (n + k) * i.bytes := Nat.mul_le_mul_right _ (by omega)
    omega
  have hrun := Lib.run_append_grow_zeros (P := P) w t tn ty e i z kq kn ht htn hi hzz base n cap xs hold k h0 (by omega) hc (by omega) hk48 (growslice_fits hc hb)
  have hge : n + k ≤ grownCap w (n + k) cap e := grownCap_ge w _ _ _
  have hle : grownCap w (n + k) cap e ≤ maxLen := grownCap_le_maxLen w (n + k) cap e (by simpa [maxLen] using h63)
  have zc : ∀ m, Builtin.zeroCells z.cells m = (List.replicate m z).toArray := fun m => by
    rw [hz]
    apply Array.ext
    · simp [size_zeroCells]
    · intro j h1 h2
      simp [Builtin.zeroCells, Nat.mod_one]
  refine .of hrun ((ns_drew w _).trans (ns_push _ _)) (hK _ w.heap.size _ rfl ((ext_drew w _).trans (ext_push _ _)) ⟨by simp at hl; simp [hl], .inr ⟨_, xs ++ List.replicate k z ++ List.replicate (grownCap w (n + k) cap e - (n + k)) z, rfl, ?_, hge, hle, ?_, ?_⟩⟩)
  · rw [zc, zc]
    have := heap_alloc_new w.drew (.cells (xs.toArray ++ (List.replicate k z).toArray ++ (List.replicate (grownCap w (n + k) cap e - (n + k)) z).toArray) e)
    rw [List.append_toArray, List.append_toArray] at this ⊢
    exact this
  · simp at hl; simp [hl]; omega
  · simp at hl
    rw [List.take_append_of_le_length (by simp [hl]), List.take_of_length_le (by simp [hl])]

theorem blk_shape {g : Nat} {e : TypeId} {cs : List Value} (h : Blk w g e cs) : w.shape? g = some (e, cs.length) := by
  unfold Blk at h
  simp [World.shape?, h]
theorem cap_slice {t e ty : TypeId} {base : Option Addr} {n c : Nat} {K : Value → Prop} (ht : P.underlying t = some (.slice e)) :
    RunQ P (Builtin.cap_ #[t] ty #[.slice base n c]) w K = K (.int .i64 c) := RunQ.of fun w' _ => by simp [Builtin.cap_, run_underlying ht, goInt]
theorem blk_sl {g o k c : Nat} {e : TypeId} {cs : List Value} (h : Blk w g e cs) (hk : o + k ≤ cs.length) (hkc : k ≤ c) (hc : c ≤ maxLen) : Sl w 1 (.slice (some ⟨g, o, none⟩) k c) k ((cs.drop o).take k) := by
  refine ⟨by simp; omega, g, o, _, c, rfl, hkc, hc, fun _ => rfl, fun j v hv => ?_⟩
  have hj := (List.getElem?_eq_some_iff.1 hv).1
  simp at hj
  rw [List.getElem?_take_of_lt (by omega), List.getElem?_drop] at hv
  exact h.cell hv
/-- a copy of some: of those that are not copied nothing is asked -/
theorem copy_some {dT sT ty e : TypeId} {by_ g o dLen dCap n : Nat} {z : Value} {x : Value} {base : Option Addr} {cs xs : List Value} {e0 : TypeId} {K : Value → World → Prop} (ht : P.underlying dT = some (.slice e)) (hi : Inf P e 1 by_ z)
    (hblk : Blk w g e0 cs) (hbase : 0 < dLen → base = some ⟨g, o, none⟩) (hfit : o + dLen ≤ cs.length) (hs : Sl w 1 x n xs) (h1 : ∀ u ∈ xs.take dLen, u.oneCell' = true)
    (h : ∀ w', Chg (fun r => r = g) w w' → w'.heap.size = w.heap.size → Blk w' g e0 (over cs o (xs.take dLen)) → K (.int .i64 (min n dLen : Nat)) w') :
    RunC P (Builtin.copy_ #[dT, sT] ty #[.slice base dLen dCap, x]) w K := by
  obtain ⟨hl, b, o', base', cap, rfl, _, _, hb, hr⟩ := hs
  simp only [Nat.mul_one] at hl
  have hi' : (P.info? e).map (·.size) = some 1 := hi.size
  by_cases h0 : Nat.min n dLen = 0
  · have he : xs.take dLen = [] := List.eq_nil_of_length_eq_zero (by rw [List.length_take, hl]; rw [Nat.min_comm]; exact h0)
    rw [he] at h
    refine .of (run_copy_none (P := P) w dT sT ty e base base' dLen dCap n cap ht hi' h0) (Ns.refl _) ?_
    have h0' : min n dLen = 0 := h0
    rw [h0'] at h
    exact h w (Chg.refl _ _) rfl hblk
  · have h0' : min n dLen ≠ 0 := h0
    have hn := hb (by omega)
    have hd := hbase (by omega)
    subst hn; subst hd
    have hlen : (xs.take dLen).length = min n dLen := by rw [List.length_take, hl, Nat.min_comm]
    obtain ⟨h6, h7⟩ := setCells_blk (xs.take dLen) cs o w hblk
    have hc := run_copy_cells (P := P) w dT sT ty e g o dLen dCap ⟨b, o', none⟩ n cap (xs.take dLen) ht hi' hlen
      (fun j u hu => by
        rw [Addr.add_mid]
        have hj := (List.getElem?_eq_some_iff.1 hu).1
        rw [List.getElem?_take_of_lt (by omega)] at hu
        exact hr j u hu)
      (fun j hj => by rw [hblk.cell (List.getElem?_eq_getElem (show o + j < cs.length by omega))]; rfl) (fun j _ => hblk.frozen _ _) (fun u hu => h1 u hu)
    refine .of hc (h7.ns hblk) ?_
    rw [hlen]
    exact h _ h7.chg h7.size h6
/-- appended where there is room -/
theorem append_room_c {t tx ty e e' e0 : TypeId} {by_ g n m cap : Nat} {z x : Value} {cs news : List Value} {K : Value → World → Prop} (ht : P.underlying t = some (.slice e)) (htx : P.underlying tx = some (.slice e')) (hi : Inf P e 1 by_ z)
    (hblk : Blk w g e0 cs) (hs : Sl w 1 x m news) (h1 : ∀ u ∈ news, u.oneCell' = true) (hroom : n + m ≤ cap) (hcap : cap ≤ cs.length)
    (hK : ∀ w', Chg (fun r => r = g) w w' → w'.heap.size = w.heap.size → Blk w' g e0 (over cs n news) → K (.slice (some ⟨g, 0, none⟩) (n + m) cap) w') : RunC P (Builtin.append_ #[t, tx] ty #[.slice (some ⟨g, 0, none⟩) n cap, x]) w K := by
  obtain ⟨i, hi, hs1, rfl, hz⟩ := hi
  have hnl : news.length = m := by simpa using hs.1
  have hsrc : Src P i.size tx x m news w := by
    rw [hs1]
    rcases Nat.eq_zero_or_pos m with rfl | hm
    · have : news = [] := List.eq_nil_of_length_eq_zero hnl
      subst this
      exact hs.src0 htx
    · exact hs.src htx h1 hm
  have hr := run_append_room_src (P := P) w t tx ty e i ht hi g 0 n cap x m news hsrc hroom
    (fun j hj => by rw [hblk.cell (List.getElem?_eq_getElem (show 0 + n * i.size + j < cs.length by rw [hs1]; omega))]; rfl) (fun j _ => hblk.frozen _ _)
  rw [hs1, Nat.mul_one, Nat.zero_add] at hr
  obtain ⟨h6, h7⟩ := setCells_blk news cs n w hblk
  exact .of hr (h7.ns hblk) (hK _ h7.chg h7.size h6)
theorem clear_c {t ty e e0 : TypeId} {by_ g o n cap : Nat} {z : Value} {cs : List Value} {K : Value → World → Prop} (ht : P.underlying t = some (.slice e)) (hi : Inf P e 1 by_ z) (hz : z.cells = #[z]) (h1 : z.oneCell' = true)
    (hblk : Blk w g e0 cs) (hn : 0 < n) (hfit : o + n ≤ cs.length)
    (hK : ∀ w', Chg (fun r => r = g) w w' → w'.heap.size = w.heap.size → Blk w' g e0 (over cs o (List.replicate n z)) → K (.tuple #[]) w') : RunC P (Builtin.clear_ #[t] ty #[.slice (some ⟨g, o, none⟩) n cap]) w K := by
  obtain ⟨i, hi, hs1, rfl, hzz⟩ := hi
  have hr := Lib.run_clear_slice (P := P) w t e ty z ht (fun w => by simp [zeroValue, typeInfo, hi, hzz]) hz h1 g o n cap hn
    (fun j hj => by rw [hblk.cell (List.getElem?_eq_getElem (show o + j < cs.length by omega))]; rfl) (fun j _ => hblk.frozen _ _)
  obtain ⟨h6, h7⟩ := setCells_blk (List.replicate n z) cs o w hblk
  exact .of hr (h7.ns hblk) (hK _ h7.chg h7.size h6)
end
end Go.Vc
