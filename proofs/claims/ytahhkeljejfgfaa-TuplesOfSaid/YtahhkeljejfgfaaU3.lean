/- Tuples: Put, Get, and what they tell; nil ones. -/
import Derived.Test.YtahhkeljejfgfaaU2
namespace Go.Proofs.Ytahhkeljejfgfaa
open Go Go.Vc Go.RowKit Go.Proofs Go.Proofs.Try
set_option maxRecDepth 100000

/-- a tuple's cost -/
def costT (D : Told) (o : Int) (t : List Int) : Int := match D.find? (fun p => decide (p.1 = t)) with
  | some p => p.2
  | none => o
theorem pair_uniq {D : Told} (hn : (D.map (·.1)).Nodup) {p q : List Int × Int} (hp : p ∈ D) (hq : q ∈ D) (h : p.1 = q.1) : p = q := by
  obtain ⟨i, hi⟩ := List.mem_iff_getElem?.1 hp
  obtain ⟨j, hj⟩ := List.mem_iff_getElem?.1 hq
  have h1 : (D.map (·.1))[i]? = some p.1 := by rw [List.getElem?_map, hi]; rfl
  have h2 : (D.map (·.1))[j]? = some p.1 := by rw [List.getElem?_map, hj, h]; rfl
  have := nodup_inj hn h1 h2
  subst this
  rw [hi] at hj
  exact Option.some.inj hj
theorem costT_mem {D : Told} {o c : Int} {t : List Int} (hn : (D.map (·.1)).Nodup) (h : (t, c) ∈ D) : costT D o t = c := by
  unfold costT
  cases hf : D.find? (fun p => decide (p.1 = t)) with
  | none =>
    have := List.find?_eq_none.1 hf _ h
    simp at this
  | some p =>
    have h1 := List.find?_some hf
    have h1 : p.1 = t := by simpa using h1
    have := pair_uniq hn (List.mem_of_find?_eq_some hf) h h1
    rw [this]
theorem costT_none {D : Told} {o : Int} {t : List Int} (h : ∀ p ∈ D, p.1 ≠ t) : costT D o t = o := by
  unfold costT
  cases hf : D.find? (fun p => decide (p.1 = t)) with
  | none => rfl
  | some p =>
    have h1 := List.find?_some hf
    have h1 : p.1 = t := by simpa using h1
    exact absurd h1 (h p (List.mem_of_find?_eq_some hf))
theorem costT_nil (o : Int) (t : List Int) : costT [] o t = o := rfl
/-- told D, a cost put makes D' of it -/
def Upd (D : Told) (t : List Int) (c o : Int) (D' : Told) : Prop := (∀ p, p ∈ D' ↔ (c ≠ o ∧ p = (t, c)) ∨ (p ∈ D ∧ p.1 ≠ t)) ∧ D'.length ≤ D.length + 1
theorem Upd.cost {D D' : Told} {t : List Int} {c o : Int} (h : Upd D t c o D') (hn : (D.map (·.1)).Nodup) (hn' : (D'.map (·.1)).Nodup) (s : List Int) : costT D' o s = if s = t then c else costT D o s := by
  by_cases hs : s = t
  · subst hs
    rw [if_pos rfl]
    by_cases hc : c = o
    · subst hc
      exact costT_none fun p hp he => by
        rcases (h.1 p).1 hp with h2 | h2
        · exact h2.1 rfl
        · exact h2.2 he
    · exact costT_mem hn' ((h.1 _).2 (.inl ⟨hc, rfl⟩))
  · rw [if_neg hs]
    by_cases he : ∃ p ∈ D, p.1 = s
    · obtain ⟨p, hp, rfl⟩ := he
      rw [costT_mem (c := p.2) hn hp]
      exact costT_mem hn' ((h.1 _).2 (.inr ⟨hp, hs⟩))
    · have hno : ∀ p ∈ D, p.1 ≠ s := fun p hp h => he ⟨p, hp, h⟩
      rw [costT_none hno]
      exact costT_none fun p hp h2 => by
        rcases (h.1 p).1 hp with ⟨_, rfl⟩ | ⟨h3, _⟩
        · exact hs h2.symm
        · exact hno p h3 h2
theorem upd_set {D : Told} {t : List Int} {c o v0 : Int} {j : Nat} (hn : (D.map (·.1)).Nodup) (hj : D[j]? = some (t, v0)) (hc : c ≠ o) : Upd D t c o (D.set j (t, c)) := by
  have hjl := (List.getElem?_eq_some_iff.1 hj).1
  refine ⟨fun p => ⟨fun hp => ?_, fun hp => ?_⟩, by simp⟩
  · obtain ⟨i, hi⟩ := List.mem_iff_getElem?.1 hp
    by_cases hij : j = i
    · subst hij
      rw [List.getElem?_set_self hjl] at hi
      exact .inl ⟨hc, (Option.some.inj hi).symm⟩
    · rw [List.getElem?_set_ne hij] at hi
      refine .inr ⟨List.mem_of_getElem? hi, fun he => hij ?_⟩
      exact nodup_inj hn (x := t) (by rw [List.getElem?_map, hj]; rfl) (by rw [List.getElem?_map, hi, Option.map_some, he])
  · rcases hp with ⟨_, rfl⟩ | ⟨hp, hne⟩
    · exact List.mem_of_getElem? (List.getElem?_set_self hjl)
    · obtain ⟨i, hi⟩ := List.mem_iff_getElem?.1 hp
      have hij : j ≠ i := fun he => by subst he; rw [hj] at hi; cases hi; exact hne rfl
      exact List.mem_of_getElem? (by rw [List.getElem?_set_ne hij]; exact hi)
theorem upd_new {D : Told} {t : List Int} {c o : Int} (hno : ∀ p ∈ D, p.1 ≠ t) (hc : c ≠ o) : Upd D t c o (D ++ [(t, c)]) := by
  refine ⟨fun p => ?_, by simp⟩
  rw [List.mem_append, List.mem_singleton]
  exact ⟨fun h => h.elim (fun h => .inr ⟨h, hno p h⟩) (fun h => .inl ⟨hc, h⟩), fun h => h.elim (fun h => .inr h.2) (fun h => .inl h.1)⟩
theorem upd_del {D : Told} {t : List Int} {o v0 : Int} {j : Nat} (hn : (D.map (·.1)).Nodup) (hj : D[j]? = some (t, v0)) : Upd D t o o (D.eraseIdx j) := by
  refine ⟨fun p => ⟨fun hp => ?_, fun hp => ?_⟩, by have := List.length_eraseIdx_le D j; omega⟩
  · refine .inr ?_
    obtain ⟨i, hij, hi⟩ := List.mem_eraseIdx_iff_getElem?.1 hp
    refine ⟨List.mem_of_getElem? hi, fun he => hij ?_⟩
    exact nodup_inj hn (x := t) (by rw [List.getElem?_map, hi, Option.map_some, he]) (by rw [List.getElem?_map, hj]; rfl)
  · rcases hp with ⟨h, _⟩ | ⟨hp, hne⟩
    · exact absurd rfl h
    · obtain ⟨i, hi⟩ := List.mem_iff_getElem?.1 hp
      exact List.mem_eraseIdx_iff_getElem?.2 ⟨i, fun he => by subst he; rw [hj] at hi; cases hi; exact hne rfl, hi⟩
theorem upd_same {D : Told} {t : List Int} {o : Int} (hno : ∀ p ∈ D, p.1 ≠ t) : Upd D t o o D :=
  ⟨fun p => ⟨fun h => .inr ⟨h, hno p h⟩, fun h => h.elim (fun h => absurd rfl h.1) (fun h => h.1)⟩, by omega⟩

/-- where a tuple stands in the map -/
theorem told_at {w : World} {g m : Nat} {szs t : List Int} {k o : Int} {D : Told} (h : TupIs w g m szs k o D) (ht : Val szs t) {j : Nat} {v : Value} (hj : (D.map kvE)[j]? = some (keyV (pad t), v)) : ∃ c, D[j]? = some (t, c) ∧ v = .int .i64 c := by
  rw [List.getElem?_map] at hj
  obtain ⟨p, hp, he⟩ := Option.map_eq_some_iff.1 hj
  have h1 := key_tuple (h.2.2.2.2 p (List.mem_of_getElem? hp)).1 ht (congrArg Prod.fst he)
  exact ⟨p.2, by rw [hp, ← h1], (congrArg Prod.snd he).symm⟩
theorem told_no {w : World} {g m : Nat} {szs t : List Int} {k o : Int} {D : Told} (h : TupIs w g m szs k o D) (hno : ∀ p ∈ D.map kvE, p.1 ≠ keyV (pad t)) : ∀ p ∈ D, p.1 ≠ t := fun p hp he => hno (kvE p) (List.mem_map.2 ⟨p, hp, rfl⟩) (by rw [kvE, he])

def PutTup (w : World) (g m : Nat) (szs t : List Int) (k o c : Int) (D : Told) (v : Value) (w' : World) : Prop :=
  (¬ (Val szs t ∧ inK c k) → v = .int .i64 3 ∧ Ext w w') ∧ (Val szs t ∧ inK c k → v = .int .i64 0 ∧ Chg (fun r => r = m) w w' ∧ ∃ D', Upd D t c o D' ∧ TupIs w' g m szs k o D')

set_option maxHeartbeats 800000 in
theorem uPut {w : World} {g m : Nat} {szs t : List Int} {k o c : Int} {D : Told} {tv : Value} (h : TupIs w g m szs k o D) (ht : LS .i64 w tv t) : Cal prog F.P_tuples_Tuples_Put [.pointer (some ⟨g, 0, none⟩), tv, .int .i64 c] w (PutTup w g m szs t k o c D) := by
  apply P_tuples_Tuples_Put.enter
  unfold P_tuples_Tuples_Put.body
  refine (uKey h ht).mono ?_
  rintro _ w1 _ ⟨hx1, ks, e, rfl, hkl, hval, hnv⟩
  rw [extract_tuple (v := keyV ks) rfl, extract_tuple (v := .int .i64 e) rfl]
  refine alloc_c T.t_tuples_key.i fun gx w2 hgx hx2 hbx => ?_
  refine store_key hkl rfl hbx fun w3 hc3 hs3 hb3 => ?_
  have s1 := hx1.size
  have s2 := hx2.size
  have lx := hbx.lt
  have hx03 : Ext w w3 := (hx1.trans hx2).then hc3 (fun r hr he => by have he : r = gx := he; omega)
  refine join1 (fun v w4 => v = .int .i64 0 ∧ (Val szs t ∧ inK c k) ∧ Chg (fun r => r = m) w w4 ∧ ∃ D', Upd D t c o D' ∧ TupIs w4 g m szs k o D') ?_ ?_
  · rintro _ w4 ⟨_, h1, h2⟩
    exact ⟨fun h => absurd h1 h, fun _ => ⟨rfl, h2⟩⟩
  intro J hJ
  simp only [binS_neq, split_dec]
  by_cases hv : Val szs t
  rotate_left
  · have he := hnv hv
    subst he
    exact ⟨fun _ => ⟨fun _ => ⟨rfl, hx03⟩, fun h => absurd h.1 hv⟩, fun h => by simp at h⟩
  obtain ⟨rfl, rfl⟩ := hval hv
  refine ⟨fun h => absurd rfl h, fun _ => ?_⟩
  have h3 := h.ext hx03
  obtain ⟨⟨sv, gs, hb, hm⟩, hmap, hs, hin, hD⟩ := id h3
  rw [nil_check, field_at T.t_tuples_Tuples.p rfl, load_cell (by kernel_rfl) (hb.cell (o := 0 + 1) rfl)]
  refine cIn.mono ?_
  rintro _ w5 _ ⟨rfl, hx5⟩
  have hx05 := hx03.trans hx5
  by_cases hi : inK c k
  rotate_left
  · simp only [hi, decide_false, un_not, Bool.not_false, split_true]
    exact ⟨fun _ => ⟨rfl, hx05⟩, fun h => absurd h.2 hi⟩
  simp only [hi, decide_true, un_not, Bool.not_true, split_false]
  rw [nil_check, field_at T.t_tuples_Tuples.p rfl, load_cell (by kernel_rfl) ((hb.ext hx5).cell (o := 0 + 2) rfl)]
  simp only [binS_eql, split_dec, Drew]
  have hkey := key_ok (val_key hs hv)
  have goodD : ∀ {D' : Told}, Upd D t c o D' → ∀ p ∈ D', Val szs p.1 ∧ inK p.2 k ∧ p.2 ≠ o := fun hu p hp => by
    rcases (hu.1 p).1 hp with ⟨hc, rfl⟩ | ⟨h1, _⟩
    · exact ⟨hv, hi, hc⟩
    · exact hD p h1
  have fin : ∀ {w6 w7 : World} {D' : Told}, Ext w5 w6 → Chg (fun r => r = m) w6 w7 → MapIs w7 m (D'.map kvE) → Upd D t c o D' → J (.int .i64 0) w7 := by
    intro w6 w7 D' hx6 hc7 hmap' hu
    have hmd : g ≠ m := fun he => by
      obtain ⟨es, cl, hh, _⟩ := hmap
      have hb : w3.heap[g]? = _ := hb
      rw [he, hh] at hb; cases hb
    have hsd : ∀ r, leads sv r → r ≠ m := fun r hr he => by
      subst he
      obtain ⟨es, cl, hh, _⟩ := hmap
      obtain ⟨_, ⟨rfl, _⟩ | ⟨cap, cs, rfl, hbs, _⟩⟩ := hm
      · obtain ⟨a, n, c, h1, _⟩ := hr; cases h1
      · obtain ⟨a, n, c, h1, h2⟩ := hr
        cases h1
        have hbs : w3.heap[gs]? = _ := hbs
        have h2 : gs = r := h2
        rw [h2, hh] at hbs; cases hbs
    have hx56 := hx5.trans hx6
    exact hJ _ _ ⟨rfl, ⟨hv, hi⟩, ((hx03.trans hx56).chg _).trans hc7, D', hu, ⟨sv, gs, (hb.ext hx56).chg hc7 hmd, LM_chg (hm.ext hx56) hc7 hsd⟩, hmap', hs, hin, goodD hu⟩
  refine ⟨fun hc w6 hx6 _ _ => ?_, fun hc w6 hx6 _ _ => ?_⟩
  · rw [nil_check, field_at T.t_tuples_Tuples.p rfl, load_cell (by kernel_rfl) (((hb.ext hx5).ext hx6).cell (o := 0 + 3) rfl), load_key hkl ((hb3.ext hx5).ext hx6).range]
    subst hc
    refine del_map T.t_map_tuples_key_int64.u keys ((hmap.ext hx5).ext hx6) h3.good hkey (fun j v0 w7 hj hm7 hc7 => ?_) (fun w7 hno hm7 hc7 => ?_)
    · obtain ⟨c0, hj', _⟩ := told_at h3 hv hj
      rw [erase_map] at hm7
      exact fin hx6 hc7 hm7 (upd_del h3.nodup hj')
    · exact fin hx6 hc7 hm7 (upd_same (told_no h3 hno))
  · rw [nil_check, field_at T.t_tuples_Tuples.p rfl, load_cell (by kernel_rfl) (((hb.ext hx5).ext hx6).cell (o := 0 + 3) rfl), load_key hkl ((hb3.ext hx5).ext hx6).range]
    refine upd_map T.t_map_tuples_key_int64.u keys ((hmap.ext hx5).ext hx6) h3.good hkey (fun j v0 w7 hj hm7 hc7 => ?_) (fun w7 hno hm7 hc7 => ?_)
    · obtain ⟨c0, hj', _⟩ := told_at h3 hv hj
      have e1 : (D.map kvE).set j (keyV (pad t), .int .i64 c) = (D.set j (t, c)).map kvE := by rw [List.map_set]; rfl
      rw [e1] at hm7
      exact fin hx6 hc7 hm7 (upd_set h3.nodup hj' hc)
    · have e1 : D.map kvE ++ [(keyV (pad t), .int .i64 c)] = (D ++ [(t, c)]).map kvE := by rw [List.map_append]; rfl
      rw [e1] at hm7
      exact fin hx6 hc7 hm7 (upd_new (told_no h3 hno) hc)

/-- a look at the map -/
theorem told_look {w : World} {g m : Nat} {szs t : List Int} {k o : Int} {D : Told} {K : Value → Prop} {b : Bool} (h : TupIs w g m szs k o D) (hv : Val szs t)
    (h1 : ∀ c, (t, c) ∈ D → K (if b then .tuple #[.int .i64 c, .bool true] else .int .i64 c)) (h2 : (∀ p ∈ D, p.1 ≠ t) → K (if b then .tuple #[.int .i64 0, .bool false] else .int .i64 0)) :
    RunQ prog (Instr.lookup T.t_map_tuples_key_int64 (.map (some m)) (keyV (pad t)) b) w K := by
  have hkey := key_ok (val_key h.2.2.1 hv)
  by_cases he : ∃ p ∈ D, p.1 = t
  · obtain ⟨p, hp, rfl⟩ := he
    obtain ⟨j, hj⟩ := List.mem_iff_getElem?.1 hp
    rw [look_map_some T.t_map_tuples_key_int64.u keys h.2.1 h.good hkey (j := j) (v := .int .i64 p.2) (by rw [List.getElem?_map, hj]; rfl)]
    exact h1 p.2 hp
  · have hno : ∀ p ∈ D, p.1 ≠ t := fun p hp h => he ⟨p, hp, h⟩
    rw [look_map_none T.t_map_tuples_key_int64.u keys ⟨_, _, T.t_int64.i⟩ h.2.1 h.good hkey (fun q hq hk => by
      obtain ⟨p, hp, rfl⟩ := List.mem_map.1 hq
      exact hno p hp (key_tuple (h.2.2.2.2 p hp).1 hv hk))]
    exact h2 hno

theorem uGet {w : World} {g m : Nat} {szs t : List Int} {k o : Int} {D : Told} {tv : Value} (h : TupIs w g m szs k o D) (ht : LS .i64 w tv t) : Cal prog F.P_tuples_Tuples_Get [.pointer (some ⟨g, 0, none⟩), tv] w fun v w' => Ext w w' ∧
    (Val szs t → v = .tuple #[.int .i64 (costT D o t), .int .i64 0]) ∧ (¬ Val szs t → v = .tuple #[.int .i64 0, .int .i64 3]) := by
  apply P_tuples_Tuples_Get.enter
  unfold P_tuples_Tuples_Get.body
  refine (uKey h ht).mono ?_
  rintro _ w1 _ ⟨hx1, ks, e, rfl, hkl, hval, hnv⟩
  rw [extract_tuple (v := keyV ks) rfl, extract_tuple (v := .int .i64 e) rfl]
  refine alloc_c T.t_tuples_key.i fun gx w2 hgx hx2 hbx => ?_
  refine store_key hkl rfl hbx fun w3 hc3 hs3 hb3 => ?_
  have s1 := hx1.size
  have hx03 : Ext w w3 := (hx1.trans hx2).then hc3 (fun r hr he => by have he : r = gx := he; omega)
  simp only [binS_neq, split_dec, Drew]
  by_cases hv : Val szs t
  rotate_left
  · have he := hnv hv
    subst he
    exact ⟨fun _ => ⟨hx03, fun h => absurd h hv, fun _ => rfl⟩, fun h => by simp at h⟩
  obtain ⟨rfl, rfl⟩ := hval hv
  refine ⟨fun h => absurd rfl h, fun _ w4 hx4 _ _ => ?_⟩
  have hx04 := hx03.trans hx4
  have h4 := h.ext hx04
  obtain ⟨⟨sv, gs, hb, hm⟩, hmap, hs, hin, hD⟩ := id h4
  rw [nil_check, field_at T.t_tuples_Tuples.p rfl, load_cell (by kernel_rfl) (hb.cell (o := 0 + 3) rfl), load_key hkl (hb3.ext hx4).range]
  refine told_look h4 hv (fun c hc => ?_) (fun hno => ?_)
  · simp only [if_true]
    rw [extract_tuple (v := .int .i64 c) rfl, extract_tuple (v := .bool true) rfl, split_true]
    exact ⟨hx04, fun _ => by rw [costT_mem h.nodup hc], fun h => absurd hv h⟩
  · simp only [if_true]
    rw [extract_tuple (v := .int .i64 0) rfl, extract_tuple (v := .bool false) rfl, split_false, nil_check, field_at T.t_tuples_Tuples.p rfl, load_cell (by kernel_rfl) (hb.cell (o := 0 + 2) rfl)]
    exact ⟨hx04, fun _ => by rw [costT_none hno], fun h => absurd hv h⟩

/-! ### what they tell -/
theorem uLen {w : World} {g m : Nat} {szs : List Int} {k o : Int} {D : Told} (h : TupIs w g m szs k o D) : Cal prog F.P_tuples_Tuples_Len [.pointer (some ⟨g, 0, none⟩)] w fun v w' => v = .int .i64 D.length ∧ Ext w w' := by
  obtain ⟨⟨sv, gs, hb, hm⟩, hmap, _⟩ := h
  apply P_tuples_Tuples_Len.enter
  unfold P_tuples_Tuples_Len.body
  rw [eq_ptr_nil T.t_p_tuples_Tuples.u]
  simp only [Option.isNone_some, split_false]
  rw [nil_check, field_at T.t_tuples_Tuples.p rfl, load_cell (by kernel_rfl) (hb.cell (o := 0 + 3) rfl), len_map T.t_map_tuples_key_int64.u hmap]
  exact ⟨by simp, Ext.refl _⟩
theorem uK {w : World} {g m : Nat} {szs : List Int} {k o : Int} {D : Told} (h : TupIs w g m szs k o D) : Cal prog F.P_tuples_Tuples_K [.pointer (some ⟨g, 0, none⟩)] w fun v w' => v = .int .i64 k ∧ Ext w w' := by
  obtain ⟨⟨sv, gs, hb, hm⟩, _⟩ := h
  apply P_tuples_Tuples_K.enter
  unfold P_tuples_Tuples_K.body
  rw [eq_ptr_nil T.t_p_tuples_Tuples.u]
  simp only [Option.isNone_some, split_false]
  rw [nil_check, field_at T.t_tuples_Tuples.p rfl, load_cell (by kernel_rfl) (hb.cell (o := 0 + 1) rfl)]
  exact ⟨rfl, Ext.refl _⟩
theorem uOther {w : World} {g m : Nat} {szs : List Int} {k o : Int} {D : Told} (h : TupIs w g m szs k o D) : Cal prog F.P_tuples_Tuples_Other [.pointer (some ⟨g, 0, none⟩)] w fun v w' => v = .int .i64 o ∧ Ext w w' := by
  obtain ⟨⟨sv, gs, hb, hm⟩, _⟩ := h
  apply P_tuples_Tuples_Other.enter
  unfold P_tuples_Tuples_Other.body
  rw [eq_ptr_nil T.t_p_tuples_Tuples.u]
  simp only [Option.isNone_some, split_false]
  rw [nil_check, field_at T.t_tuples_Tuples.p rfl, load_cell (by kernel_rfl) (hb.cell (o := 0 + 2) rfl)]
  exact ⟨rfl, Ext.refl _⟩
theorem uSizes {w : World} {g m : Nat} {szs : List Int} {k o : Int} {D : Told} (h : TupIs w g m szs k o D) : Cal prog F.P_tuples_Tuples_Sizes [.pointer (some ⟨g, 0, none⟩)] w fun v w' => Ext w w' ∧ ∃ g', w.heap.size ≤ g' ∧ LM .i64 T.t_int w' g' v szs := by
  obtain ⟨⟨sv, gs, hb, hm⟩, _, hs, _⟩ := h
  have h6 := hs.1
  apply P_tuples_Tuples_Sizes.enter
  unfold P_tuples_Tuples_Sizes.body
  rw [eq_ptr_nil T.t_p_tuples_Tuples.u]
  simp only [Option.isNone_some, split_false]
  rw [nil_check, field_at T.t_tuples_Tuples.p rfl, load_cell (by kernel_rfl) (hb.cell (o := 0 + 0) rfl)]
  exact sClone_ints hm.ls (by omega)
theorem uArity {w : World} {g m : Nat} {szs : List Int} {k o : Int} {D : Told} (h : TupIs w g m szs k o D) : Cal prog F.P_tuples_Tuples_Arity [.pointer (some ⟨g, 0, none⟩)] w fun v w' => v = .int .i64 szs.length ∧ Ext w w' := by
  apply P_tuples_Tuples_Arity.enter
  unfold P_tuples_Tuples_Arity.body
  refine (uSizes h).mono ?_
  rintro v w1 _ ⟨hx, g', _, hm⟩
  rw [len_ls T.t_sl_int.u hm.ls]
  exact ⟨rfl, hx⟩
end Go.Proofs.Ytahhkeljejfgfaa

