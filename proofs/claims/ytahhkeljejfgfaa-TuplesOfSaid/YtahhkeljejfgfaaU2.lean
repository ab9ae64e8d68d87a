/- Tuples: New; keys of tuples; Put, Get, what they tell. -/
import Derived.Test.YtahhkeljejfgfaaU1
namespace Go.Proofs.Ytahhkeljejfgfaa
open Go Go.Vc Go.RowKit Go.Proofs Go.Proofs.Try
set_option maxRecDepth 100000

/-! ### keys in memory -/
theorem load_key {w : World} {b o : Nat} {ks : List Int} {K : Value → Prop} (hl : ks.length = 6) (h : w.rangeAt b o (ints .i8 ks)) : RunQ prog (Instr.loadAt T.t_tuples_key (.pointer (some ⟨b, o, none⟩))) w K = K (keyV ks) :=
  load_agg T.t_tuples_key.u rfl T.t_tuples_key.i (by simp [hl]) h
theorem res_key {w : World} {b o : Nat} {ks : List Int} {K : Value → Prop} (hl : ks.length = 6) (h : w.rangeAt b o (ints .i8 ks)) : RunQ prog (do loadVar T.t_tuples_key (← asAddr (.pointer (some ⟨b, o, none⟩)))) w K = K (keyV ks) := RunQ.of fun w' hx => by
  have := run_loadVar_mid (P := prog) w' b o T.t_tuples_key (ints .i8 ks) (.array 6 T.t_int8) (range_ext hx h) T.t_tuples_key.u rfl (by rw [T.t_tuples_key.i.size]; simp [hl])
  simp only [asAddr, Sem.run_bind, Sem.run_pure, Result.andThen_ok, this]
  rfl
theorem store_key {w : World} {g : Nat} {ks : List Int} {cs : List Value} {K : Unit → World → Prop} (hl : ks.length = 6) (hc : cs.length = 6) (hb : Blk w g T.t_tuples_key cs)
    (h : ∀ w', Chg (fun r => r = g) w w' → w'.heap.size = w.heap.size → Blk w' g T.t_tuples_key (ints .i8 ks) → K () w') : RunC prog (Instr.storeAt T.t_tuples_key (.pointer (some ⟨g, 0, none⟩)) (keyV ks)) w K :=
  store_whole (vs := ints .i8 ks) T.t_tuples_key.i (by simp [hl]) hc (fun v hv => by obtain ⟨x, _, rfl⟩ := List.mem_map.1 hv; rfl) hb h
def zeroKey : List Value := [.int .i8 0, .int .i8 0, .int .i8 0, .int .i8 0, .int .i8 0, .int .i8 0]

/-! ### New -/
theorem uBad {x : Int} {w : World} : Cal prog F.tuples_New_c1 [.int .i64 x] w fun v w' => v = .bool (decide (¬ okSize x)) ∧ Ext w w' := by
  apply tuples_New_c1.enter
  unfold tuples_New_c1.body
  simp only [JoinC, binS_lss, binS_gtr, split_dec]
  refine ⟨fun h => ⟨?_, Ext.refl _⟩, fun h => ⟨?_, Ext.refl _⟩⟩
  · rw [decide_eq_true]; intro hn; have := hn.1; omega
  · congr 1
    have : (32 < x) = (¬ okSize x) := propext ⟨fun h2 hn => by have := hn.2; omega, fun h2 => by
      by_cases h3 : 32 < x
      · exact h3
      · exact absurd ⟨by omega, by omega⟩ h2⟩
    simp only [this]
theorem uIndexBad {sv : Value} {l : List Int} {w : World} (h : LS .i64 w sv l) :
    Cal prog F.slices_IndexFunc_int_int [sv, .func (.func F.tuples_New_c1) #[] #[]] w fun v w' => Ext w w' ∧ ∃ n : Int, v = .int .i64 n ∧ ((0 ≤ n) = ¬ ∀ x ∈ l, okSize x) := by
  have hle := h.le
  apply slices_IndexFunc_int_int.enter
  unfold slices_IndexFunc_int_int.body
  rw [len_ls T.t_sl_int.u h]
  refine ⟨fun _ t w1 => Ext w w1 ∧ ∃ i : Nat, t = .int .i64 i ∧ i ≤ l.length ∧ ∀ x ∈ l.take i, okSize x, fun _ t _ => l.length - (ival t).toNat, ⟨Ext.refl _, 0, rfl, Nat.zero_le _, by simp⟩, ?_⟩
  rintro _ _ w1 ⟨hx, i, rfl, hi, hall⟩
  simp only [binS_lss, split_dec]
  refine ⟨fun hlt => ?_, fun hge => ⟨hx, -1, rfl, ?_⟩⟩
  · obtain ⟨x, hxi⟩ : ∃ x, l[i]? = some x := ⟨_, List.getElem?_eq_getElem (by omega)⟩
    rw [get_ls T.t_sl_int.u T.t_int.i (by kernel_rfl) (h.ext hx) hxi]
    show Cal prog F.tuples_New_c1 [.int .i64 x] w1 _
    refine uBad.mono ?_
    rintro _ w2 _ ⟨rfl, hx2⟩
    simp only [split_dec, binS_add]
    refine ⟨fun hbad => ⟨hx.trans hx2, i, rfl, ?_⟩, fun hok => ?_⟩
    · exact propext ⟨fun _ ha => hbad (ha x (List.mem_of_getElem? hxi)), fun _ => by omega⟩
    · rw [wrap_i64 (by omega) (by omega)]
      refine ⟨⟨hx.trans hx2, i + 1, rfl, by omega, fun y hy => ?_⟩, ?_⟩
      · rw [List.take_add_one, hxi] at hy
        rcases List.mem_append.1 hy with hy | hy
        · exact hall y hy
        · simp at hy; subst hy; exact Decidable.not_not.1 hok
      · simp only [ival]; omega
  · have : i = l.length := by omega
    rw [this, List.take_length] at hall
    exact propext ⟨fun h => by omega, fun h => absurd hall h⟩
theorem uContains {sv : Value} {l : List Int} {w : World} (h : LS .i64 w sv l) :
    Cal prog F.slices_ContainsFunc_int_int [sv, .func (.func F.tuples_New_c1) #[] #[]] w fun v w' => v = .bool (decide (¬ ∀ x ∈ l, okSize x)) ∧ Ext w w' := by
  apply slices_ContainsFunc_int_int.enter
  unfold slices_ContainsFunc_int_int.body
  refine (uIndexBad h).mono ?_
  rintro _ w1 _ ⟨hx, n, rfl, hn⟩
  simp only [binS_geq]
  exact ⟨by congr 1; simp only [hn], hx⟩

/-- what tuples tell: those that have another cost -/
abbrev Told := List (List Int × Int)
def kvE (p : List Int × Int) : Value × Value := (keyV (pad p.1), .int .i64 p.2)
def TupIs (w : World) (g m : Nat) (szs : List Int) (k o : Int) (D : Told) : Prop :=
  (∃ sv gs, Blk w g T.t_tuples_Tuples [sv, .int .i64 k, .int .i64 o, .map (some m)] ∧ LM .i64 T.t_int w gs sv szs) ∧ MapIs w m (D.map kvE) ∧ Sizes szs ∧ inK o k ∧ ∀ p ∈ D, Val szs p.1 ∧ inK p.2 k ∧ p.2 ≠ o
theorem TupIs.ext {w w' : World} {g m : Nat} {szs : List Int} {k o : Int} {D : Told} (h : TupIs w g m szs k o D) (hx : Ext w w') : TupIs w' g m szs k o D := by
  obtain ⟨⟨sv, gs, h1, h2⟩, h3, h4⟩ := h
  exact ⟨⟨sv, gs, h1.ext hx, h2.ext hx⟩, h3.ext hx, h4⟩
theorem val_range {szs t : List Int} (hs : Sizes szs) (h : Val szs t) : t.length = szs.length ∧ ∀ x ∈ t, 0 ≤ x ∧ x < 32 := by
  obtain ⟨h1, h2⟩ := val_iff.1 h
  refine ⟨h1.symm, fun x hx => ?_⟩
  obtain ⟨i, hi, rfl⟩ := List.getElem_of_mem hx
  obtain ⟨a, ha⟩ : ∃ a, szs[i]? = some a := ⟨_, List.getElem?_eq_getElem (by omega)⟩
  have h3 := h2 i a _ ha (List.getElem?_eq_getElem hi)
  have h4 := (hs.2 a (List.mem_of_getElem? ha)).2
  omega
theorem val_key {szs t : List Int} (hs : Sizes szs) (h : Val szs t) : KeyL (pad t) := by
  obtain ⟨h1, h2⟩ := val_range hs h
  exact pad_key (by rw [h1]; exact hs.1) h2
theorem TupIs.good {w : World} {g m : Nat} {szs : List Int} {k o : Int} {D : Told} (h : TupIs w g m szs k o D) : ∀ p ∈ D.map kvE, ∃ l, keyOf prog T.t_tuples_key p.1 = some l := fun p hp => by
  obtain ⟨q, hq, rfl⟩ := List.mem_map.1 hp
  exact key_ok (val_key h.2.2.1 (h.2.2.2.2 q hq).1)
/-- one key, one tuple -/
theorem key_tuple {szs s t : List Int} (hs : Val szs s) (ht : Val szs t) (h : keyV (pad s) = keyV (pad t)) : s = t :=
  pad_inj ((val_len hs).symm.trans (val_len ht)) (keyV_inj h)
theorem TupIs.nodup {w : World} {g m : Nat} {szs : List Int} {k o : Int} {D : Told} (h : TupIs w g m szs k o D) : (D.map (·.1)).Nodup := by
  have hn := h.2.1.nodup
  rw [List.map_map] at hn
  refine List.Pairwise.of_map (S := fun a b => a ≠ b) (fun t => keyV (pad t)) (fun a b h he => h (by rw [he])) ?_
  rw [List.map_map]
  exact hn

/-- what New answers -/
def NewTup (w : World) (l : List Int) (k o : Int) (v : Value) (w' : World) : Prop :=
  Ext w w' ∧ (¬ Sizes l → v = .tuple #[.pointer none, .int .i64 1]) ∧ (Sizes l → ¬ inK o k → v = .tuple #[.pointer none, .int .i64 3]) ∧
    (Sizes l → inK o k → ∃ g m, v = .tuple #[.pointer (some ⟨g, 0, none⟩), .int .i64 0] ∧ w.heap.size ≤ g ∧ w.heap.size ≤ m ∧ TupIs w' g m l k o [])
theorem uNew {sv : Value} {l : List Int} {k o : Int} {w : World} (h : LS .i64 w sv l) : Cal prog F.tuples_New [sv, .int .i64 k, .int .i64 o] w (NewTup w l k o) := by
  apply tuples_New.enter
  unfold tuples_New.body
  refine join1 (fun v w1 => Ext w w1 ∧ ∃ c, v = .bool c ∧ (c = true ↔ ¬ Sizes l)) ?_ ?_
  · rintro _ w1 ⟨hx1, c, rfl, hc⟩
    rw [split_bool]
    refine ⟨fun ht => ⟨hx1, fun _ => rfl, fun h => absurd h (hc.1 ht), fun h => absurd h (hc.1 ht)⟩, fun hf => ?_⟩
    have hs : Sizes l := Classical.byContradiction fun h => by have := hc.2 h; rw [hf] at this; cases this
    have hl6 := hs.1
    refine cIn.mono ?_
    rintro _ w2 _ ⟨rfl, hx2⟩
    by_cases hi : inK o k
    rotate_left
    · simp only [hi, decide_false, un_not, Bool.not_false, split_true]
      exact ⟨hx1.trans hx2, fun h => absurd hs h, fun _ _ => rfl, fun _ h => absurd h hi⟩
    simp only [hi, decide_true, un_not, Bool.not_true, split_false]
    refine (sClone_ints ((h.ext hx1).ext hx2) (by omega)).mono ?_
    rintro tv w3 _ ⟨hx3, gc, hgc, hm⟩
    have htv := hm.ls.cells
    refine make_map fun m w4 hm4 hx4 hmap => ?_
    rw [build_eq (cs := #[tv, .int .i64 k, .int .i64 o, .map (some m)]) (by obtain ⟨_, _, _, _, _, rfl, _⟩ := hm.ls; kernel_rfl)]
    refine box_c fun g w5 hg hx5 hb5 => ?_
    have s1 := hx1.size
    have s2 := hx2.size
    have s3 := hx3.size
    have s4 := hx4.size
    exact ⟨((((hx1.trans hx2).trans hx3).trans hx4).trans hx5), fun h => absurd hs h, fun _ h => absurd hi h, fun _ _ => ⟨g, m, rfl, by omega, by omega, ⟨tv, gc, hb5, (hm.ext hx4).ext hx5⟩, hmap.ext hx5, hs, hi, fun p hp => by cases hp⟩⟩
  · intro J hJ
    rw [len_ls T.t_sl_int.u h]
    simp only [binS_gtr, split_dec]
    refine ⟨fun hbig => hJ _ _ ⟨Ext.refl _, true, rfl, fun _ hs => by have := hs.1; omega, fun _ => rfl⟩, fun hsm => ?_⟩
    refine (uContains h).mono ?_
    rintro _ w2 _ ⟨rfl, hx2⟩
    refine hJ _ _ ⟨hx2, _, rfl, ?_⟩
    rw [decide_eq_true_eq]
    exact ⟨fun hb hs => hb hs.2, fun hb hs => hb ⟨by omega, hs⟩⟩

/-! ### a tuple's key -/
/-- a key up to place i -/
def padI (t : List Int) (i : Nat) : List Int := t.take i ++ List.replicate (6 - i) 0
theorem padI_length {t : List Int} {i : Nat} (hi : i ≤ t.length) (h6 : t.length ≤ 6) : (padI t i).length = 6 := by simp [padI]; omega
theorem padI_set {t : List Int} {i : Nat} {x : Int} (hx : t[i]? = some x) (h6 : t.length ≤ 6) : (padI t i).set i x = padI t (i + 1) := by
  have hi := (List.getElem?_eq_some_iff.1 hx).1
  unfold padI
  have hl : (t.take i).length = i := by rw [List.length_take]; omega
  rw [List.set_append_right _ _ (by omega), hl, Nat.sub_self, List.take_add_one, hx]
  have : 6 - i = (6 - (i + 1)) + 1 := by omega
  rw [this, List.replicate_succ]
  simp
theorem padI_all (t : List Int) : padI t t.length = pad t := by simp [padI, pad]
def KeyAns (w : World) (szs t : List Int) (v : Value) (w' : World) : Prop := Ext w w' ∧ ∃ ks e, v = .tuple #[keyV ks, .int .i64 e] ∧ ks.length = 6 ∧ (Val szs t → ks = pad t ∧ e = 0) ∧ (¬ Val szs t → e = 3)

set_option maxHeartbeats 800000 in
theorem uKey {w : World} {g m : Nat} {szs t : List Int} {k o : Int} {D : Told} {tv : Value} (h : TupIs w g m szs k o D) (ht : LS .i64 w tv t) : Cal prog F.P_tuples_Tuples_key [.pointer (some ⟨g, 0, none⟩), tv] w (KeyAns w szs t) := by
  obtain ⟨⟨sv, gs, hb, hm⟩, _, hs, _⟩ := h
  have h6 := hs.1
  apply P_tuples_Tuples_key.enter
  unfold P_tuples_Tuples_key.body
  refine alloc_c T.t_tuples_key.i fun g4 w1 hg4 hx1 hb4 => ?_
  refine alloc_c T.t_tuples_key.i fun gx w2 hgx hx2 hbx => ?_
  have hx02 := hx1.trans hx2
  have s1 := hx1.size
  have s2 := hx2.size
  have l4 := hb4.lt
  have lx := hbx.lt
  have lg := hb.lt
  have hb4 := hb4.ext hx2
  have hb2 := hb.ext hx02
  rw [eq_ptr_nil T.t_p_tuples_Tuples.u]
  simp only [Option.isNone_some, split_false]
  have fin : ∀ {w5 : World} {ks : List Int} {e : Int}, Ext w w5 → Blk w5 gx T.t_tuples_key (ints .i8 ks) → Blk w5 g4 T.t_tuples_key zeroKey → ks.length = 6 → (Val szs t → ks = pad t ∧ e = 0) → (¬ Val szs t → e = 3) →
      RunQ prog (Instr.loadAt T.t_tuples_key (.pointer (some ⟨gx, 0, none⟩))) w5 fun t47 => RunC prog (Instr.storeAt T.t_tuples_key (.pointer (some ⟨g4, 0, none⟩)) t47) w5 fun (_ : Unit) w9 => RunQ prog (do loadVar T.t_tuples_key (← asAddr (.pointer (some ⟨g4, 0, none⟩)))) w9 fun r_3 => KeyAns w szs t (.tuple #[r_3, .int .i64 e]) w9 := by
    intro w5 ks e hx5 hbx5 hb45 hl hv hn
    rw [load_key hl hbx5.range]
    refine store_key hl rfl hb45 fun w9 hc9 hs9 hb9 => ?_
    rw [res_key hl hb9.range]
    exact ⟨hx5.then hc9 (fun r hr he => by have he : r = g4 := he; omega), ks, e, rfl, hl, hv, hn⟩
  rw [len_ls T.t_sl_int.u (ht.ext hx02), nil_check, field_at T.t_tuples_Tuples.p rfl, load_cell (by kernel_rfl) (hb2.cell (o := 0 + 0) rfl), len_ls T.t_sl_int.u (hm.ls.ext hx02)]
  simp only [binS_neq, split_dec]
  have hz0 : ints .i8 (padI t 0) = zeroKey := by simp [padI, zeroKey, ints]
  refine ⟨fun hne => fin hx02 (ks := padI t 0) (e := 3) (by rw [hz0]; exact hbx) hb4 (by simp [padI]) (fun hv => absurd (by rw [val_len hv]) hne) (fun _ => rfl), fun heq => ?_⟩
  have heq : t.length = szs.length := by omega
  rw [len_ls T.t_sl_int.u (ht.ext hx02)]
  refine Loop2.range t.length (fun i _ w5 => Ext w w5 ∧ Blk w5 gx T.t_tuples_key (ints .i8 (padI t i)) ∧ Blk w5 g4 T.t_tuples_key zeroKey ∧ ∀ (j : Nat) (a x : Int), j < i → szs[j]? = some a → t[j]? = some x → 0 ≤ x ∧ x < a) (by omega)
    ⟨hx02, by rw [hz0]; exact hbx, hb4, fun j a x hj => by omega⟩ ?_ ?_
  · rintro i _ w5 kk hi ⟨hx5, hbx5, hb45, hok⟩ hkk
    simp only [binS_lss, split_dec]
    refine ⟨fun _ => ?_, fun h => by omega⟩
    obtain ⟨x, hx⟩ : ∃ x, t[i]? = some x := ⟨_, List.getElem?_eq_getElem hi⟩
    obtain ⟨a, ha⟩ : ∃ a, szs[i]? = some a := ⟨_, List.getElem?_eq_getElem (by omega)⟩
    have ha32 := hs.2 a (List.mem_of_getElem? ha)
    rw [get_ls T.t_sl_int.u T.t_int.i (by kernel_rfl) (ht.ext hx5) hx]
    have hpl := padI_length (t := t) (i := i) (by omega) (by omega)
    refine join1 (fun v w6 => w5 = w6 ∧ v = .bool (decide (¬ (0 ≤ x ∧ x < a)))) ?_ ?_
    · rintro _ _ ⟨rfl, rfl⟩
      simp only [split_dec]
      refine ⟨fun hbad => fin hx5 hbx5 hb45 hpl (fun hv => absurd ((val_iff.1 hv).2 i a x ha hx) hbad) (fun _ => rfl), fun hgood => ?_⟩
      have hgood := Decidable.not_not.1 hgood
      rw [conv_int T.t_int.u T.t_int8.u, wrap_i8 (by omega) (by omega), index_arr_nat T.t_tuples_key.u T.t_int8.i (by omega)]
      refine store_cell T.t_int8.i rfl rfl hbx5 (by simp [hpl]; omega) fun w8 hc8 hs8 hb8 => ?_
      simp only [binS_add]
      refine hkk _ _ ⟨hx5.then hc8 (fun r hr he => by have he : r = gx := he; omega), ?_, hb45.chg hc8 (by show ¬ (g4 = gx); omega), fun j a' x' hj ha' hx' => ?_⟩
      · have e : (ints .i8 (padI t i)).set (0 + i * 1) (.int .i8 x) = ints .i8 (padI t (i + 1)) := by
          rw [← padI_set hx (by omega)]
          simp [ints, List.map_set]
        rw [e] at hb8
        exact hb8
      · by_cases hji : j = i
        · subst hji; rw [ha] at ha'; rw [hx] at hx'; cases ha'; cases hx'; exact hgood
        · exact hok j a' x' (by omega) ha' hx'
    · intro J hJ
      simp only [binS_lss, split_dec]
      refine ⟨fun hneg => hJ _ _ ⟨rfl, by rw [decide_eq_true]; omega⟩, fun hnn => ?_⟩
      rw [nil_check, field_at T.t_tuples_Tuples.p rfl, load_cell (by kernel_rfl) ((hb.ext hx5).cell (o := 0 + 0) rfl), get_ls T.t_sl_int.u T.t_int.i (by kernel_rfl) (hm.ls.ext hx5) ha, binS_geq]
      refine hJ _ _ ⟨rfl, ?_⟩
      congr 1
      exact decide_eq_decide.2 ⟨fun h hh => by omega, fun h => by omega⟩
  · rintro _ w5 kk ⟨hx5, hbx5, hb45, hok⟩
    simp only [binS_lss, split_dec]
    refine ⟨fun h => by omega, fun _ => ?_⟩
    rw [padI_all] at hbx5
    exact fin hx5 hbx5 hb45 (by simp [pad]; omega) (fun _ => ⟨rfl, rfl⟩) (fun hn => absurd (val_iff.2 ⟨heq.symm, fun j a x ha hx => hok j a x (List.getElem?_eq_some_iff.1 hx).1 ha hx⟩) hn)
end Go.Proofs.Ytahhkeljejfgfaa

