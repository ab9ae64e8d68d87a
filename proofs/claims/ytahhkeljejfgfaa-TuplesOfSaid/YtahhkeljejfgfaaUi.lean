/- Tuples: of, count, Same. -/
import Derived.Test.YtahhkeljejfgfaaUh
import Derived.Test.YtahhkeljejfgfaaKr
namespace Go.Proofs.Ytahhkeljejfgfaa
open Go Go.Vc Go.RowKit Go.Proofs Go.Proofs.Try
set_option maxRecDepth 100000

theorem uOf {w : World} {g m : Nat} {szs t : List Int} {k o : Int} {D : Told} (h : TupIs w g m szs k o D) (hv : Val szs t) : Cal prog F.P_tuples_Tuples_of [.pointer (some ⟨g, 0, none⟩), keyV (pad t)] w fun v w' => v = .int .i64 (costT D o t) ∧ Ext w w' := by
  have hkl := (val_key h.2.2.1 hv).1
  apply P_tuples_Tuples_of.enter
  unfold P_tuples_Tuples_of.body
  refine box_c fun gx w1 hgx hx1 hbx => ?_
  intro w4 hx4 _ _
  have hx04 := hx1.trans hx4
  have h4 := h.ext hx04
  obtain ⟨⟨sv, gs, hb, hm⟩, hmap, hs, hin, hD⟩ := id h4
  rw [keyV_cells] at hbx
  rw [nil_check, field_at T.t_tuples_Tuples.p rfl, load_cell (by kernel_rfl) (hb.cell (o := 0 + 3) rfl), load_key hkl (hbx.ext hx4).range]
  refine told_look h4 hv (fun c hc => ?_) (fun hno => ?_)
  · simp only [if_true]
    rw [extract_tuple (v := .int .i64 c) rfl, extract_tuple (v := .bool true) rfl, split_true]
    exact ⟨by rw [costT_mem h.nodup hc], hx04⟩
  · simp only [if_true]
    rw [extract_tuple (v := .int .i64 0) rfl, extract_tuple (v := .bool false) rfl, split_false, nil_check, field_at T.t_tuples_Tuples.p rfl, load_cell (by kernel_rfl) (hb.cell (o := 0 + 2) rfl)]
    exact ⟨by rw [costT_none hno], hx04⟩
theorem prod_snoc (l : List Int) (x : Int) : prodN (l ++ [x]) = prodN l * x := by
  induction l with
  | nil => simp [prodN]
  | cons a l ih => rw [List.cons_append, prodN, ih, prodN, Int.mul_assoc]
theorem uCount {w : World} {g m : Nat} {szs : List Int} {k o : Int} {D : Told} (h : TupIs w g m szs k o D) : Cal prog F.P_tuples_Tuples_count [.pointer (some ⟨g, 0, none⟩)] w fun v w' => v = .int .i64 (prodN szs) ∧ Ext w w' := by
  obtain ⟨⟨sv, gs, hb, hm⟩, _, hs, _⟩ := h
  have h6 := hs.1
  apply P_tuples_Tuples_count.enter
  unfold P_tuples_Tuples_count.body
  rw [nil_check, field_at T.t_tuples_Tuples.p rfl, load_cell (by kernel_rfl) (hb.cell (o := 0 + 0) rfl), len_ls T.t_sl_int.u hm.ls]
  refine Loop2.range szs.length (fun i v w1 => Ext w w1 ∧ v = .int .i64 (prodN (szs.take i))) (by omega) ⟨Ext.refl _, by simp [prodN]⟩ ?_ ?_
  · rintro i _ w1 kk hi ⟨hx1, rfl⟩ hkk
    obtain ⟨x, hxi⟩ : ∃ x, szs[i]? = some x := ⟨_, List.getElem?_eq_getElem hi⟩
    simp only [binS_lss, split_dec]
    refine ⟨fun _ => ?_, fun h => by omega⟩
    rw [get_ls T.t_sl_int.u T.t_int.i (by kernel_rfl) (hm.ls.ext hx1) hxi, binS_mul]
    have e : prodN (szs.take i) * x = prodN (szs.take (i + 1)) := by rw [List.take_add_one, hxi, Option.toList_some, prod_snoc]
    have hb := prod_bound (hs.take (i + 1))
    rw [e, wrap_i64 (by omega) (by omega), binS_add]
    exact hkk _ _ ⟨hx1, rfl⟩
  · rintro _ w1 kk ⟨hx1, rfl⟩
    simp only [binS_lss, split_dec]
    refine ⟨fun h => by omega, fun _ => ⟨by rw [List.take_length], hx1⟩⟩

/-! ### lists without the same twice -/
theorem nodup_le {α : Type} [DecidableEq α] : ∀ {a b : List α}, a.Nodup → (∀ x ∈ a, x ∈ b) → a.length ≤ b.length
  | [], b, _, _ => Nat.zero_le _
  | x :: a, b, h, hs => by
    have h' := List.nodup_cons.1 h
    have hx := hs x (.head _)
    have := nodup_le (b := b.erase x) h'.2 fun y hy => (List.mem_erase_of_ne (fun (he : y = x) => h'.1 (by rw [← he]; exact hy))).2 (hs y (.tail _ hy))
    rw [List.length_erase_of_mem hx] at this
    have := List.length_pos_of_mem hx
    rw [List.length_cons]; omega
theorem nodup_all {α : Type} [DecidableEq α] {a b : List α} (ha : a.Nodup) (hb : b.Nodup) (hs : ∀ x ∈ a, x ∈ b) : a.length = b.length ↔ ∀ x ∈ b, x ∈ a := by
  refine ⟨fun he x hx => Classical.byContradiction fun hn => ?_, fun h => Nat.le_antisymm (nodup_le ha hs) (nodup_le hb h)⟩
  have := nodup_le (a := x :: a) (b := b) (List.nodup_cons.2 ⟨hn, ha⟩) fun y hy => by
    rcases List.mem_cons.1 hy with rfl | hy
    · exact hx
    · exact hs y hy
  rw [List.length_cons] at this; omega
theorem allT_nodup {s : List Int} (hs : SZ s) : (allT s).Nodup := (allT_up hs).imp fun {a b} h he => by subst he; omega

/-! ### the map of tuples that are told -/
/-- told tuples, with how often -/
def CntIs (w : World) (mm : Nat) (szs : List Int) (L : Told) : Prop := MapIs w mm (L.map kvE) ∧ ∀ p ∈ L, Val szs p.1
theorem CntIs.good {w : World} {mm : Nat} {szs : List Int} {L : Told} (hs : Sizes szs) (h : CntIs w mm szs L) : ∀ p ∈ L.map kvE, ∃ l, keyOf prog T.t_tuples_key p.1 = some l := fun p hp => by
  obtain ⟨q, hq, rfl⟩ := List.mem_map.1 hp
  exact key_ok (val_key hs (h.2 q hq))
theorem CntIs.nodup {w : World} {mm : Nat} {szs : List Int} {L : Told} (h : CntIs w mm szs L) : (L.map (·.1)).Nodup := by
  have hn := h.1.nodup
  rw [List.map_map] at hn
  refine List.Pairwise.of_map (S := fun a b => a ≠ b) (fun t => keyV (pad t)) (fun a b h he => h (by rw [he])) ?_
  rw [List.map_map]
  exact hn
theorem kvE_key {szs : List Int} {p q : List Int × Int} (hp : Val szs p.1) (hq : Val szs q.1) (h : (kvE p).1 = (kvE q).1) : p.1 = q.1 := key_tuple hp hq h

/-- a tuple is counted: the step of both ranges -/
theorem cnt_step {w : World} {mm gx : Nat} {szs t : List Int} {L : Told} {K : World → Prop} (hs : Sizes szs) (h : CntIs w mm szs L) (hv : Val szs t) (hb : Blk w gx T.t_tuples_key (ints .i8 (pad t)))
    (hK : ∀ w' L', Chg (fun r => r = mm) w w' → Its w w' → CntIs w' mm szs L' → (∀ s, s ∈ L'.map (·.1) ↔ s = t ∨ s ∈ L.map (·.1)) → K w') :
    RunQ prog (Instr.loadAt T.t_tuples_key (.pointer (some ⟨gx, 0, none⟩))) w fun t59 =>
      RunQ prog (Instr.lookup T.t_map_tuples_key_int (.map (some mm)) t59 false) w fun t60 =>
      RunQ prog (binS .add T.t_int false true t60 (.int .i64 1)) w fun t61 =>
      RunC prog (Instr.mapEntry T.t_map_tuples_key_int (.map (some mm)) t59) w fun t62 w13 =>
       (Ext w w13 ∨ Stays prog (binS .add T.t_int false true t60 (.int .i64 1)) t61 w13 ∧ Stays prog (Instr.lookup T.t_map_tuples_key_int (.map (some mm)) t59 false) t60 w13 ∧ True) ∧
      RunQ prog (Instr.extract t62 1) w13 fun t63 =>
       RunC prog (Instr.entryStore T.t_map_tuples_key_int (.map (some mm)) t63 t61) w13 fun (_ : Unit) w14 => K w14 := by
  have hkl := (val_key hs hv).1
  have hkey := key_ok (val_key hs hv)
  have hgood := h.good hs
  rw [load_key hkl hb.range]
  have sadd : ∀ (n : Int) (w' : World), Stays prog (binS .add T.t_int false true (.int .i64 n) (.int .i64 1)) (.int .i64 (IntKind.i64.wrap (n + 1))) w' := fun n w' => stays_of fun K => by rw [binS_add]
  by_cases he : ∃ (j : Nat) (c : Int), L[j]? = some (t, c)
  · obtain ⟨j, c, hj⟩ := he
    have hjm : (L.map kvE)[j]? = some (keyV (pad t), .int .i64 c) := by rw [List.getElem?_map, hj]; rfl
    rw [look_map_some T.t_map_tuples_key_int.u keys h.1 hgood hkey hjm]
    simp only [Bool.false_eq_true, if_false]
    rw [binS_add]
    refine RunC.ns (entry_at T.t_map_tuples_key_int.u keys ⟨_, _, T.t_int.i⟩ h.1 hgood hkey (fun j' v0 st w' hj' hE hc hn => ?_) (fun st w' hno => absurd rfl (hno _ (List.mem_of_getElem? hjm))))
    have hjj : j' = j := h.1.uniq hj' hjm rfl
    subst hjj
    rw [hjm] at hj'
    cases hj'
    refine ⟨.inr ⟨sadd _ _, stays_of fun K => ?_, trivial⟩, ?_⟩
    · rw [look_map_some T.t_map_tuples_key_int.u keys hE.map hgood hkey hjm]; simp
    rw [extract_tuple (v := .int .i64 st) rfl]
    refine RunC.ns (store_at hE hjm fun w2 hm2 hc2 hn2 => ?_)
    have e1 : (L.map kvE).set j' (keyV (pad t), .int .i64 (IntKind.i64.wrap (c + 1))) = (L.set j' (t, IntKind.i64.wrap (c + 1))).map kvE := by rw [List.map_set]; rfl
    rw [e1] at hm2
    have hjl := (List.getElem?_eq_some_iff.1 hj).1
    refine hK w2 _ (hc.trans hc2) (hn.its.trans hn2.its) ⟨hm2, fun p hp => ?_⟩ fun s => ?_
    · rcases List.mem_or_eq_of_mem_set hp with hp | rfl
      · exact h.2 p hp
      · exact hv
    · rw [List.map_set]
      have e2 : (L.map (·.1)).set j' t = L.map (·.1) := set_same (by rw [List.getElem?_map, hj]; rfl)
      rw [e2]
      exact ⟨.inr, fun h => h.elim (fun h => h ▸ List.mem_map.2 ⟨_, List.mem_of_getElem? hj, rfl⟩) id⟩
  · have hno : ∀ p ∈ L.map kvE, p.1 ≠ keyV (pad t) := fun p hp hk => by
      obtain ⟨q, hq, rfl⟩ := List.mem_map.1 hp
      obtain ⟨j, hj⟩ := List.mem_iff_getElem?.1 hq
      have : q.1 = t := key_tuple (h.2 q hq) hv hk
      exact he ⟨j, q.2, by rw [hj, ← this]⟩
    rw [look_map_none T.t_map_tuples_key_int.u keys ⟨_, _, T.t_int.i⟩ h.1 hgood hkey hno]
    simp only [Bool.false_eq_true, if_false]
    rw [binS_add]
    refine RunC.ns (entry_at T.t_map_tuples_key_int.u keys ⟨_, _, T.t_int.i⟩ h.1 hgood hkey (fun j' v0 st w' hj' => absurd rfl (hno _ (List.mem_of_getElem? hj'))) (fun st w' _ hE hc hn => ?_))
    have e0 : L.map kvE ++ [(keyV (pad t), .int .i64 0)] = (L ++ [(t, 0)]).map kvE := by rw [List.map_append]; rfl
    have hgood' : ∀ p ∈ L.map kvE ++ [(keyV (pad t), Value.int .i64 0)], ∃ l, keyOf prog T.t_tuples_key p.1 = some l := fun p hp => by
      rcases List.mem_append.1 hp with hp | hp
      · exact hgood p hp
      · rw [List.mem_singleton.1 hp]; exact hkey
    have hlast : (L.map kvE ++ [(keyV (pad t), Value.int .i64 0)])[(L.map kvE).length]? = some (keyV (pad t), .int .i64 0) := by simp
    refine ⟨.inr ⟨sadd _ _, stays_of fun K => ?_, trivial⟩, ?_⟩
    · rw [look_map_some T.t_map_tuples_key_int.u keys hE.map hgood' hkey hlast]; simp
    rw [extract_tuple (v := .int .i64 st) rfl]
    refine RunC.ns (store_at hE hlast fun w2 hm2 hc2 hn2 => ?_)
    have e1 : (L.map kvE ++ [(keyV (pad t), Value.int .i64 0)]).set (L.map kvE).length (keyV (pad t), .int .i64 (IntKind.i64.wrap (0 + 1))) = (L ++ [(t, IntKind.i64.wrap (0 + 1))]).map kvE := by
      rw [List.map_append]
      rw [List.set_append_right _ _ (Nat.le_refl _)]
      simp [kvE]
    rw [e1] at hm2
    refine hK w2 _ (hc.trans hc2) (hn.its.trans hn2.its) ⟨hm2, fun p hp => ?_⟩ fun s => ?_
    · rcases List.mem_append.1 hp with hp | hp
      · exact h.2 p hp
      · rw [List.mem_singleton.1 hp]; exact hv
    · simp only [List.map_append, List.mem_append, List.map_cons, List.map_nil, List.mem_singleton]
      exact ⟨fun h => h.symm, fun h => h.symm⟩

/-- all tuples cost the same -/
def AllSame (szs : List Int) (D D2 : Told) (o o2 : Int) : Prop := ∀ t, Val szs t → costT D o t = costT D2 o2 t

set_option maxHeartbeats 3200000 in
theorem uSame {w : World} {g m g2 m2 : Nat} {szs szs2 : List Int} {k k2 o o2 : Int} {D D2 : Told} (h : TupIs w g m szs k o D) (h2 : TupIs w g2 m2 szs2 k2 o2 D2) :
    Cal prog F.tuples_Same [.pointer (some ⟨g, 0, none⟩), .pointer (some ⟨g2, 0, none⟩)] w fun v w' => Ext w w' ∧ ∃ r : Bool, v = .bool r ∧ (r = true ↔ szs = szs2 ∧ k = k2 ∧ AllSame szs D D2 o o2) := by
  apply tuples_Same.enter
  unfold tuples_Same.body
  refine join1 (fun v w1 => v = .bool false ∧ Ext w w1) ?_ ?_
  rotate_left
  · intro J hJ
    rw [eq_ptr_nil T.t_p_tuples_Tuples.u]
    simp only [Option.isNone_some, split_false]
    rw [eq_ptr_nil T.t_p_tuples_Tuples.u]
    exact hJ _ _ ⟨rfl, Ext.refl _⟩
  rintro _ w1 ⟨rfl, hx1⟩
  rw [split_false]
  refine join1 (fun v w2 => Ext w w2 ∧ ∃ r : Bool, v = .bool r ∧ (r = true ↔ ¬ (szs = szs2 ∧ k = k2))) ?_ ?_
  rotate_left
  · intro J hJ
    intro w27 hx27 _ _
    have hx := hx1.trans hx27
    obtain ⟨⟨sv, gs, hb, hm⟩, _⟩ := h.ext hx
    obtain ⟨⟨sv2, gs2, hb2, hm2⟩, _⟩ := h2.ext hx
    rw [nil_check, field_at T.t_tuples_Tuples.p rfl, load_cell (by kernel_rfl) (hb.cell (o := 0 + 0) rfl), nil_check, field_at T.t_tuples_Tuples.p rfl, load_cell (by kernel_rfl) (hb2.cell (o := 0 + 0) rfl)]
    refine (sEqual_ints hm.ls hm2.ls).mono ?_
    rintro _ w28 _ ⟨rfl, hx28⟩
    rw [un_not, ← decide_not]
    simp only [split_dec]
    refine ⟨fun hne => hJ _ _ ⟨hx.trans hx28, _, rfl, ?_⟩, fun heq => ?_⟩
    · simp [hne]
    · have heq := Decidable.not_not.1 heq
      rw [nil_check, field_at T.t_tuples_Tuples.p rfl, load_cell (by kernel_rfl) ((hb.ext hx28).cell (o := 0 + 1) rfl), nil_check, field_at T.t_tuples_Tuples.p rfl, load_cell (by kernel_rfl) ((hb2.ext hx28).cell (o := 0 + 1) rfl)]
      simp only [binS_neq]
      exact hJ _ _ ⟨hx.trans hx28, _, rfl, by simp [heq]⟩
  rintro _ w2 ⟨hx2, r, rfl, hr⟩
  rw [split_bool]
  refine ⟨fun ht => ⟨hx2, false, rfl, ?_⟩, fun hf => ?_⟩
  · have := hr.1 ht
    exact ⟨fun h => (by cases h), fun h => absurd ⟨h.1, h.2.1⟩ this⟩
  have hsk : szs = szs2 ∧ k = k2 := Classical.byContradiction fun hn => by have := hr.2 hn; rw [hf] at this; cases this
  obtain ⟨rfl, rfl⟩ := hsk
  have hs := h.2.2.1
  have hall := h.2.2.2.2
  have hall2 := h2.2.2.2.2
  refine RunC.ns (make_map fun mm w3 hmm hx3 hmap hn3 => ?_)
  have s2 := hx2.size
  refine RunC.ns (buildSlice_c (k := 1) (cs := #[.pointer (some ⟨g, 0, none⟩), .pointer (some ⟨g2, 0, none⟩)]) T.t_sl_p_tuples_Tuples.u T.t_p_tuples_Tuples.i (by omega) (by kernel_rfl) fun gb w4 hgb hx4 hb4 hn4 => ?_)
  have hx04 := (hx2.trans hx3).trans hx4
  have s3 := hx3.size
  have s4 := hx4.size
  have lmm3 : mm < w3.heap.size := hmap.lt
  have lmm : mm < w4.heap.size := by omega
  have lgb := hb4.lt
  rw [len_slice T.t_sl_p_tuples_Tuples.u]
  -- the keys of those that came already
  let keysOf : Nat → List (List Int) := fun i => if i = 0 then [] else if i = 1 then D.map (·.1) else D.map (·.1) ++ D2.map (·.1)
  refine Loop1.range 2 (fun i w5 => Chg (fun r => r = mm ∨ w4.heap.size ≤ r) w4 w5 ∧ ∃ L, CntIs w5 mm szs L ∧ ∀ s, s ∈ L.map (·.1) ↔ s ∈ keysOf i) (by omega) ⟨Chg.refl _ _, [], ⟨hmap.ext hx4, fun p hp => by cases hp⟩, fun s => Iff.rfl⟩ ?_ ?_
  · rintro i w5 kk hi ⟨hc5, L, hL, hkL⟩ hkk
    simp only [binS_lss, split_dec]
    refine ⟨fun _ => ?_, fun h => by omega⟩
    have hx05 : Ext w w5 := hx04.then hc5 (fun r hr he => by rcases he with he | he <;> omega)
    have hb5 := hb4.chg hc5 (fun he => by rcases he with he | he <;> omega)
    -- the one that is looked at
    obtain ⟨ga, ma, oa, Da, hcell, hA, hnext⟩ : ∃ ga ma oa Da, [Value.pointer (some ⟨g, 0, none⟩), .pointer (some ⟨g2, 0, none⟩)][i]? = some (.pointer (some ⟨ga, 0, none⟩)) ∧ TupIs w ga ma szs k oa Da ∧ ∀ s, s ∈ keysOf (i + 1) ↔ s ∈ Da.map (·.1) ∨ s ∈ keysOf i := by
      match i, hi with
      | 0, _ => exact ⟨g, m, o, D, rfl, h, fun s => by simp [keysOf]⟩
      | 1, _ => exact ⟨g2, m2, o2, D2, rfl, h2, fun s => by simp only [keysOf]; simp; exact or_comm⟩
    rw [index_nat T.t_sl_p_tuples_Tuples.u T.t_p_tuples_Tuples.i hi (fun _ => rfl), Nat.zero_add, Nat.mul_one, load_cell (by kernel_rfl) (hb5.cell hcell)]
    obtain ⟨⟨sv, gs, hb, hm⟩, hmapA, _⟩ := id (hA.ext hx05)
    rw [nil_check, field_at T.t_tuples_Tuples.p rfl, load_cell (by kernel_rfl) (hb.cell (o := 0 + 3) rfl)]
    have hallA := hA.2.2.2.2
    have lma : ma < w.heap.size := hA.2.1.lt
    have s5 := hc5.size
    refine RunC.ns (range_map T.t_map_tuples_key_int64.u hmapA fun it w6 hit hx6 hi6 hIt hn6 => ?_)
    refine ⟨fun w7 => ∃ h lk left cur L', Chg (fun r => r = mm ∨ w4.heap.size ≤ r) w6 w7 ∧ ItIs w7 it ma (Da.map kvE) left cur ∧ left = lk.map kvE ∧ (h ++ lk).Perm Da ∧ CntIs w7 mm szs L' ∧ ∀ s, s ∈ L'.map (·.1) ↔ s ∈ h.map (·.1) ∨ s ∈ keysOf i, fun w7 => leftN w7 it,
      ⟨[], Da, Da.map kvE, none, L, Chg.refl _ _, hIt, rfl, List.Perm.refl _, ⟨hL.1.ext hx6, hL.2⟩, fun s => by rw [hkL]; simp⟩, ?_⟩
    rintro w7 ⟨h, lk, left, cur, L', hc7, hIt7, rfl, hperm, hL7, hkL7⟩
    refine next_map hIt7 (fun _ => by show w.heap.size ≤ it; omega) (fun hnil => ?_) (fun j p w8 hp hx8 hn8 hIt8 => ?_)
    · rw [extract_tuple (v := .bool false) rfl, split_false]
      have : lk = [] := List.map_eq_nil_iff.1 hnil
      subst this
      rw [List.append_nil] at hperm
      simp only [binS_add]
      refine hkk _ ⟨(hc5.trans (hx6.chg _)).trans hc7, L', hL7, fun s => ?_⟩
      rw [hkL7, hnext]
      rw [(hperm.map (·.1)).mem_iff]
    · rw [extract_tuple (v := .bool true) rfl, split_true]
      refine entry_map hIt8 ?_
      obtain ⟨q, hq, rfl⟩ : ∃ q, lk[j]? = some q ∧ kvE q = p := by
        rw [List.getElem?_map] at hp
        exact Option.map_eq_some_iff.1 hp
      have hqD : q ∈ Da := hperm.mem_iff.1 (List.mem_append.2 (.inr (List.mem_of_getElem? hq)))
      have hqv := (hallA q hqD).1
      have hkl := (val_key hs hqv).1
      rw [extract_tuple (v := (kvE q).1) rfl]
      refine RunC.ns (alloc_c T.t_tuples_key.i fun gk w9 hgk hx9 hbk hn9 => ?_)
      refine RunC.ns (store_key (ks := pad q.1) hkl rfl hbk fun w10 hc10 hs10 hb10 hn10 => ?_)
      have lgk := hbk.lt
      have hx810 : Ext w8 w10 := hx9.then hc10 (fun r hr he => by have he : r = gk := he; omega)
      intro w12 hx12 _ hn12
      have hx812 := hx810.trans hx12
      have hits : Its w8 w12 := (hn9.its.trans hn10.its).trans hn12.its
      refine cnt_step hs (L := L') ⟨(hL7.1.ext hx8).ext hx812, hL7.2⟩ hqv (hb10.ext hx12) fun w14 L14 hc14 hi14 hL14 hk14 => ?_
      have hIt14 := (hIt8.ext hx812 hits).keep hc14 (by omega) hi14
      refine ⟨⟨h ++ [q], lk.eraseIdx j, _, _, L14, ((hc7.trans (hx8.chg _)).trans (hx812.chg _)).trans (hc14.mono fun r _ he => .inl he), hIt14, (erase_map kvE lk j), ?_, hL14, fun s => ?_⟩, ?_⟩
      · refine List.Perm.trans ?_ hperm
        rw [List.append_assoc]
        exact List.Perm.append_left h (perm_erase hq)
      · rw [hk14, hkL7, List.map_append, List.mem_append]
        simp only [List.map_cons, List.map_nil, List.mem_singleton]
        exact ⟨fun h => by rcases h with h | h | h; exact .inl (.inr h); exact .inl (.inl h); exact .inr h, fun h => by rcases h with (h | h) | h; exact .inr (.inl h); exact .inl h; exact .inr (.inr h)⟩
      · show leftN w14 it < leftN w7 it
        rw [left_n hIt14, left_n hIt7]
        have := erase_len (List.getElem?_eq_some_iff.1 hp).1
        omega
  rintro w5 kk ⟨hc5, L, hL, hkL⟩
  simp only [binS_lss, split_dec]
  refine ⟨fun h => by simp at h, fun _ => ?_⟩
  have hkL : ∀ s, s ∈ L.map (·.1) ↔ s ∈ D.map (·.1) ∨ s ∈ D2.map (·.1) := fun s => by rw [hkL]; simp [keysOf]
  have hx05 : Ext w w5 := hx04.then hc5 (fun r hr he => by rcases he with he | he <;> omega)
  have s5 := hc5.size
  refine RunC.ns (range_map T.t_map_tuples_key_int.u hL.1 fun it w6 hit hx6 hi6 hIt hn6 => ?_)
  refine ⟨fun _ w7 => ∃ h lk left cur, Ext w5 w7 ∧ ItIs w7 it mm (L.map kvE) left cur ∧ left = lk.map kvE ∧ (h ++ lk).Perm L ∧ ∀ p ∈ h, costT D o p.1 = costT D2 o2 p.1, fun _ w7 => leftN w7 it,
    ⟨[], L, L.map kvE, none, hx6, hIt, rfl, List.Perm.refl _, fun p hp => by cases hp⟩, ?_⟩
  rintro _ w7 ⟨hd, lk, left, cur, hx7, hIt7, rfl, hperm, hsame⟩
  have hx07 := hx05.trans hx7
  refine next_map hIt7 (fun _ => by show w.heap.size ≤ it; omega) (fun hnil => ?_) (fun j p w8 hp hx8 hn8 hIt8 => ?_)
  · rw [extract_tuple (v := .bool false) rfl, split_false]
    have : lk = [] := List.map_eq_nil_iff.1 hnil
    subst this
    rw [List.append_nil] at hperm
    have htold : ∀ t, t ∈ L.map (·.1) → costT D o t = costT D2 o2 t := fun t ht => by
      obtain ⟨p, hp, rfl⟩ := List.mem_map.1 ht
      exact hsame p (hperm.mem_iff.2 hp)
    have huntold : ∀ t, t ∉ L.map (·.1) → costT D o t = o ∧ costT D2 o2 t = o2 := fun t ht => ⟨costT_none fun p hp he => ht ((hkL t).2 (.inl (List.mem_map.2 ⟨p, hp, he⟩))), costT_none fun p hp he => ht ((hkL t).2 (.inr (List.mem_map.2 ⟨p, hp, he⟩)))⟩
    refine join1 (fun v w24 => Ext w w24 ∧ ∃ r : Bool, v = .bool r ∧ (r = true ↔ AllSame szs D D2 o o2)) (fun _ _ ⟨h1, r, h2, h3⟩ => ⟨h1, r, h2, by simpa using h3⟩) fun J hJ => ?_
    intro w25 hx25 _ _
    have hx025 := hx07.trans hx25
    obtain ⟨⟨sv, gs, hb, hm⟩, _⟩ := id (h.ext hx025)
    obtain ⟨⟨sv2, gs2, hb2, hm2⟩, _⟩ := id (h2.ext hx025)
    rw [nil_check, field_at T.t_tuples_Tuples.p rfl, load_cell (by kernel_rfl) (hb.cell (o := 0 + 2) rfl), nil_check, field_at T.t_tuples_Tuples.p rfl, load_cell (by kernel_rfl) (hb2.cell (o := 0 + 2) rfl)]
    simp only [binS_eql, split_dec]
    refine ⟨fun heq => hJ _ _ ⟨hx025, true, rfl, ?_⟩, fun hne => ?_⟩
    · refine ⟨fun _ t ht => ?_, fun _ => rfl⟩
      by_cases hm : t ∈ L.map (·.1)
      · exact htold t hm
      · obtain ⟨e1, e2⟩ := huntold t hm
        rw [e1, e2, heq]
    · have hmap25 := (hIt7.map).ext hx25
      rw [len_map T.t_map_tuples_key_int.u hmap25]
      refine (uCount (h.ext hx025)).mono ?_
      rintro _ w26 _ ⟨rfl, hx26⟩
      simp only [binS_eql]
      refine hJ _ _ ⟨hx025.trans hx26, _, rfl, ?_⟩
      have hp := prod_bound hs
      have hal := allT_length hs.2
      have hcnt := nodup_all hL.nodup (allT_nodup hs.2) fun t ht => by
        obtain ⟨p, hp, rfl⟩ := List.mem_map.1 ht
        exact (allT_val hs.2).2 (hL.2 p hp)
      rw [decide_eq_true_eq, List.length_map]
      rw [List.length_map] at hcnt
      have e1 : ((L.length : Int) = prodN szs) ↔ L.length = (allT szs).length := by omega
      rw [e1, hcnt]
      refine ⟨fun hin t ht => htold t (hin t ((allT_val hs.2).2 ht)), fun ha t ht => Classical.byContradiction fun hn => ?_⟩
      obtain ⟨e2, e3⟩ := huntold t hn
      have := ha t ((allT_val hs.2).1 ht)
      rw [e2, e3] at this
      exact hne this
  · rw [extract_tuple (v := .bool true) rfl, split_true]
    refine entry_map hIt8 ?_
    obtain ⟨q, hq, rfl⟩ : ∃ q, lk[j]? = some q ∧ kvE q = p := by
      rw [List.getElem?_map] at hp
      exact Option.map_eq_some_iff.1 hp
    have hqL : q ∈ L := hperm.mem_iff.1 (List.mem_append.2 (.inr (List.mem_of_getElem? hq)))
    have hqv := hL.2 q hqL
    have hkl := (val_key hs hqv).1
    rw [extract_tuple (v := (kvE q).1) rfl]
    refine RunC.ns (alloc_c T.t_tuples_key.i fun gk w9 hgk hx9 hbk hn9 => ?_)
    refine RunC.ns (store_key (ks := pad q.1) hkl rfl hbk fun w10 hc10 hs10 hb10 hn10 => ?_)
    have lgk := hbk.lt
    have hx810 : Ext w8 w10 := hx9.then hc10 (fun r hr he => by have he : r = gk := he; omega)
    intro w12 hx12 _ hn12
    have hx812 := hx810.trans hx12
    have hits : Its w8 w12 := (hn9.its.trans hn10.its).trans hn12.its
    have hx012 := (hx07.trans hx8).trans hx812
    have hb12 := hb10.ext hx12
    rw [load_key hkl hb12.range, load_key hkl hb12.range]
    refine (uOf (h.ext hx012) hqv).mono ?_
    rintro _ w13 hn13 ⟨rfl, hx13⟩
    refine ⟨.inl hx13, ?_⟩
    refine (uOf (h2.ext (hx012.trans hx13)) hqv).mono ?_
    rintro _ w14 hn14 ⟨rfl, hx14⟩
    have hx1214 := hx13.trans hx14
    simp only [binS_neq, split_dec]
    refine ⟨fun hne => ⟨hx012.trans hx1214, false, rfl, ?_⟩, fun heq => ?_⟩
    · exact ⟨fun h => (by cases h), fun h => absurd (h.2.2 q.1 hqv) hne⟩
    · have hIt14 := hIt8.ext (hx812.trans hx1214) ((hits.trans hn13.its).trans hn14.its)
      refine ⟨⟨hd ++ [q], lk.eraseIdx j, _, _, ((hx7.trans hx8).trans hx812).trans hx1214, hIt14, (erase_map kvE lk j), ?_, fun p hp => ?_⟩, ?_⟩
      · refine List.Perm.trans ?_ hperm
        rw [List.append_assoc]
        exact List.Perm.append_left hd (perm_erase hq)
      · rcases List.mem_append.1 hp with hp | hp
        · exact hsame p hp
        · rw [List.mem_singleton.1 hp]; exact Decidable.not_not.1 heq
      · show leftN w14 it < leftN w7 it
        rw [left_n hIt14, left_n hIt7]
        have := erase_len (List.getElem?_eq_some_iff.1 hp).1
        omega

theorem sameNil {w : World} : Cal prog F.tuples_Same [.pointer none, .pointer none] w fun v w' => v = .bool true ∧ Ext w w' := by
  apply tuples_Same.enter
  unfold tuples_Same.body
  refine join1 (fun v w1 => v = .bool true ∧ w = w1) ?_ ?_
  · rintro _ _ ⟨rfl, rfl⟩
    rw [split_true]
    rw [eq_ptr_nil T.t_p_tuples_Tuples.u]
    exact ⟨rfl, Ext.refl _⟩
  · intro J hJ
    rw [eq_ptr_nil T.t_p_tuples_Tuples.u]
    simp only [Option.isNone_none, split_true]
    exact hJ _ _ ⟨rfl, rfl⟩
theorem sameNil2 {w : World} {g : Nat} : Cal prog F.tuples_Same [.pointer none, .pointer (some ⟨g, 0, none⟩)] w fun v w' => v = .bool false ∧ Ext w w' := by
  apply tuples_Same.enter
  unfold tuples_Same.body
  refine join1 (fun v w1 => v = .bool true ∧ w = w1) ?_ ?_
  · rintro _ _ ⟨rfl, rfl⟩
    rw [split_true]
    rw [ptr_nil_eq T.t_p_tuples_Tuples.u]
    exact ⟨rfl, Ext.refl _⟩
  · intro J hJ
    rw [eq_ptr_nil T.t_p_tuples_Tuples.u]
    simp only [Option.isNone_none, split_true]
    exact hJ _ _ ⟨rfl, rfl⟩
end Go.Proofs.Ytahhkeljejfgfaa

