/- The document's join of two tables. -/
import Derived.Test.YtahhkeljejfgfaaDoorP9
namespace Go.Proofs.YtahhkeljejfgfaaDoor
open Go Go.Vc Go.RowKit Go.Proofs Go.Proofs.Tryd
set_option maxRecDepth 100000

theorem join3 {J : Value → Value → Value → World → Prop} {B : (Value → Value → Value → World → Prop) → Prop} (G : Value → Value → Value → World → Prop) (h1 : ∀ t u v w, G t u v w → J t u v w)
    (h2 : ∀ J' : Value → Value → Value → World → Prop, (∀ t u v w, G t u v w → J' t u v w) → B J') : JoinC J B := h2 J h1
/-- an append of one's own row: only the row it leads to may be written -/
theorem push_leads {P : Program} {w : World} {t e ty : TypeId} {k : IntKind} {b g : Nat} {z v x : Value} {l m : List Int} {K : Value → World → Prop} (ht : P.underlying t = some (.slice e)) (hi : Inf P e 1 b z) (hz : z.cells.size = 1)
    (h : LM k e w g v l) (hx : LS k w x m) (hb : (l.length + m.length) * b ≤ 140737488355328) (h63 : l.length + m.length ≤ 9223372036854775807)
    (hK : ∀ v' g' w', LM k e w' g' v' (l ++ m) → (∀ r, leads v' r → leads v r ∨ w.heap.size ≤ r) → Chg (fun r => leads v r) w w' → K v' w') : RunC P (Builtin.append_ #[t, t] ty #[v, x]) w K := by
  rcases h.2 with ⟨hv, hn⟩ | ⟨cap, cs, hv, hbk, h1, h2, h3, h4⟩
  · have hl : l = [] := List.eq_nil_of_length_eq_zero hn
    subst hl
    subst hv
    refine push_lm ht hi hz (LM.nil k e w w.heap.size) hx hb h63 fun v' g' w' hg hv' hc => hK v' g' w' hv' (fun r hr => .inr ?_) (hc.mono fun r hr h => by omega)
    have := (LM_leads hv' hr).1
    omega
  · refine push_lm ht hi hz h hx hb h63 fun v' g' w' hg hv' hc => hK v' g' w' hv' (fun r hr => ?_) (hc.mono fun r hr h => ?_)
    · have := (LM_leads hv' hr).1
      rcases hg with hg | hg
      · exact .inl ⟨_, _, _, hv, by show g = r; omega⟩
      · exact .inr (by omega)
    · exact ⟨_, _, _, hv, h.symm⟩
theorem nil_leads {r : Nat} (h : leads (.slice none 0 0) r) : False := by
  obtain ⟨a, n, c, h, _⟩ := h
  cases h

set_option maxHeartbeats 1600000 in
theorem rJoin {w : World} {sv cv sv2 cv2 av bv : Value} {s1 c1 va s2 c2 vb : List Int} {k : Int} (h1 : LS .i64 w sv s1) (z1 : Sizes s1) (hc1 : LS .i64 w cv c1) (l1 : c1.length = (prodN s1).toNat) (h2 : LS .i64 w sv2 s2) (z2 : Sizes s2) (hc2 : LS .i64 w cv2 c2) (l2 : c2.length = (prodN s2).toNat)
    (ha : LS .i64 w av va) (hb : LS .i64 w bv vb) (hua : Up va) (hub : Up vb) (f1 : va.length = s1.length) (f2 : vb.length = s2.length) (r1 : ∀ x ∈ va, 0 ≤ x ∧ x < 12) (r2 : ∀ x ∈ vb, 0 ≤ x ∧ x < 12)
    (hkr : right k) (hin1 : ∀ x ∈ c1, inK x k) (hin2 : ∀ x ∈ c2, inK x k) (hz : Sizes (joinS s1 va s2 vb (upV va vb 12))) :
    Cal prog F.ref04_Join [.agg #[sv, .int .i64 k, cv], av, .agg #[sv2, .int .i64 k, cv2], bv] w fun v w' => Ext w w' ∧ ∃ xs xc vv b ls lc, v = .tuple #[.agg #[xs, .int .i64 k, xc], vv, .bool b] ∧ LS .i64 w' xs ls ∧ LS .i64 w' xc lc ∧
      (b = true ↔ JoinOk s1 va s2 vb (upV va vb 12)) ∧ (b = true → ls = joinS s1 va s2 vb (upV va vb 12) ∧ lc = joinC s1 c1 va s2 c2 vb (upV va vb 12) k ∧ LS .i64 w' vv (upV va vb 12)) := by
  have hsv := h1.cells
  have hcv := hc1.cells
  have hsv2 := h2.cells
  have hcv2 := hc2.cells
  have hs6 := z1.1
  have hs62 := z2.1
  apply ref04_Join.enter
  unfold ref04_Join.body
  refine box_c fun g1 w1 hg1 hx1 hb1 => ?_
  refine box_c fun g3 w2 hg3 hx2 hb3 => ?_
  refine alloc_c T.t_ref04_Table.i fun g6 w3 hg6 hx3 hb6 => ?_
  rw [field_at T.t_ref04_Table.p rfl, load_cell (by kernel_rfl) (((hb1.ext hx2).ext hx3).cell (o := 0 + 1) rfl), build_eq (cs := #[.slice none 0 0, .int .i64 k, .slice none 0 0]) (by kernel_rfl)]
  refine alloc_c T.t_ref04_Table.i fun g2 w4' hg2 hx4 hb2 => ?_
  refine store_whole (vs := [.slice none 0 0, .int .i64 k, .slice none 0 0]) T.t_ref04_Table.i rfl rfl (by intro u hu; simp at hu; rcases hu with rfl | rfl | rfl <;> rfl) hb2 fun w4 hc4 hs4 hb4 => ?_
  have q1 := hx1.size
  have q2 := hx2.size
  have q3 := hx3.size
  have q4 := hx4.size
  have p1 := hb1.lt
  have p3 := hb3.lt
  have p6 := hb6.lt
  have p2 := hb2.lt
  have hx04 : Ext w w4 := (((hx1.trans hx2).trans hx3).trans hx4).then hc4 (by rintro r hr rfl; omega)
  have hb1 : Blk w4 g1 T.t_ref04_Table [sv, .int .i64 k, cv] := (((hb1.ext hx2).ext hx3).ext hx4).chg hc4 (by omega)
  have hb3 : Blk w4 g3 T.t_ref04_Table [sv2, .int .i64 k, cv2] := ((hb3.ext hx3).ext hx4).chg hc4 (by omega)
  have hb6 : Blk w4 g6 T.t_ref04_Table [.slice none 0 0, .int .i64 0, .slice none 0 0] := (hb6.ext hx4).chg hc4 (by omega)
  have l24 := hb4.lt
  let S4 : Nat → Prop := fun r => r = g2 ∨ w4.heap.size ≤ r
  have nS4 : ∀ {r : Nat}, r ≠ g2 → r < w4.heap.size → ¬ S4 r := fun h1 h2 h => h.elim h1 (fun h => by omega)
  refine Loop4.range 12 (fun i _ _ vars w5 => Chg S4 w4 w5 ∧ JoinOk s1 va s2 vb (upV va vb i) ∧ ∃ xs gx gv, Blk w5 g2 T.t_ref04_Table [xs, .int .i64 k, .slice none 0 0] ∧ LM .i64 T.t_int w5 gx xs (joinS s1 va s2 vb (upV va vb i)) ∧ LM .i64 T.t_int w5 gv vars (upV va vb i) ∧
      (∀ r, leads xs r → w4.heap.size ≤ r ∧ ¬ leads vars r) ∧ (∀ r, leads vars r → w4.heap.size ≤ r)) (by omega)
    ⟨Chg.refl _ _, (fun p hp => by rw [upV_zero] at hp; cases hp), _, 0, 0, hb4, LM.nil _ _ _ _, LM.nil _ _ _ _, fun r h => (nil_leads h).elim, fun r h => (nil_leads h).elim⟩ ?_ ?_
  · rintro i t9 t10 vars w5 kk hi ⟨hc5, hjo, xs, gx, gv, hbu, hmx, hmv, lxs, lvs⟩ hkk
    simp only [binS_lss, split_dec]
    refine ⟨fun _ => ?_, fun h => by omega⟩
    have hx05 : Ext w w5 := hx04.then hc5 (by rintro r hr (rfl | h) <;> omega)
    have hul := upV_len va vb i
    have hjl := joinS_length s1 va s2 vb (upV va vb i)
    refine join3 (fun _ _ vars' w7 => Chg S4 w4 w7 ∧ JoinOk s1 va s2 vb (upV va vb (i + 1)) ∧ ∃ xs gx gv, Blk w7 g2 T.t_ref04_Table [xs, .int .i64 k, .slice none 0 0] ∧ LM .i64 T.t_int w7 gx xs (joinS s1 va s2 vb (upV va vb (i + 1))) ∧ LM .i64 T.t_int w7 gv vars' (upV va vb (i + 1)) ∧
      (∀ r, leads xs r → w4.heap.size ≤ r ∧ ¬ leads vars' r) ∧ (∀ r, leads vars' r → w4.heap.size ≤ r)) ?_ ?_
    · intro a b vars' w7 hI
      simp only [binS_add]
      exact hkk _ _ _ _ hI
    intro J hJ
    refine (rFind (ha.ext hx05) hua).mono ?_
    rintro _ w8 _ ⟨rfl, hx8⟩
    refine (rFind (hb.ext (hx05.trans hx8)) hub).mono ?_
    rintro _ w9 _ ⟨rfl, hx9⟩
    have hx59 := hx8.trans hx9
    have ea : (idxI va (i : Int) < 0) ↔ (i : Int) ∉ va := by rw [← idxI_mem]; omega
    have eb : (idxI vb (i : Int) < 0) ↔ (i : Int) ∉ vb := by rw [← idxI_mem]; omega
    have ga : (0 ≤ idxI va (i : Int)) ↔ (i : Int) ∈ va := idxI_mem
    have gb : (0 ≤ idxI vb (i : Int)) ↔ (i : Int) ∈ vb := idxI_mem
    refine join1 (fun v w10 => w9 = w10 ∧ v = .bool (decide (¬ ((i : Int) ∈ va ∨ (i : Int) ∈ vb)))) ?_ ?_
    rotate_left
    · intro J1 hJ1
      simp only [binS_lss, split_dec, ea, eb]
      exact ⟨fun h => hJ1 _ _ ⟨rfl, by simp [h]⟩, fun h => hJ1 _ _ ⟨rfl, by simp [Decidable.not_not.1 h]⟩⟩
    rintro _ _ ⟨rfl, rfl⟩
    rw [split_dec]
    refine ⟨fun hno => hJ _ _ _ _ ⟨hc5.trans (hx59.chg S4), ?_⟩, fun hyes => ?_⟩
    · rw [upV_none hno]
      exact ⟨hjo, xs, gx, gv, hbu.ext hx59, hmx.ext hx59, hmv.ext hx59, lxs, lvs⟩
    have hyes := Classical.not_not.1 hyes
    have hup : upV va vb (i + 1) = upV va vb i ++ [(i : Int)] := upV_some hyes
    refine join1 (fun v w11 => Ext w9 w11 ∧ ∃ c, v = .bool c ∧ (c = true ↔ (i : Int) ∈ va ∧ (i : Int) ∈ vb ∧ sizeAt s1 (idxI va i) ≠ sizeAt s2 (idxI vb i))) ?_ ?_
    rotate_left
    · intro J2 hJ2 w23 hx23 _ _
      simp only [binS_geq, split_dec, ga, gb]
      refine ⟨fun hA => ⟨fun hB => ?_, fun hB => hJ2 _ _ ⟨hx23, false, rfl, (fun h => by cases h), fun h => absurd h.2.1 hB⟩⟩, fun hA => hJ2 _ _ ⟨hx23, false, rfl, (fun h => by cases h), fun h => absurd h.1 hA⟩⟩
      have hc23 := (hc5.trans (hx59.chg S4)).trans (hx23.chg S4)
      have hx023 := (hx05.trans hx59).trans hx23
      obtain ⟨ia, hia, hie⟩ := List.getElem_of_mem hA
      obtain ⟨ib, hib, hibe⟩ := List.getElem_of_mem hB
      have ia' : idxI va (i : Int) = ia := idxI_at hua (by rw [List.getElem?_eq_getElem hia, hie])
      have ib' : idxI vb (i : Int) = ib := idxI_at hub (by rw [List.getElem?_eq_getElem hib, hibe])
      obtain ⟨x, hx⟩ : ∃ x, s1[ia]? = some x := ⟨_, List.getElem?_eq_getElem (by omega)⟩
      obtain ⟨y, hy⟩ : ∃ y, s2[ib]? = some y := ⟨_, List.getElem?_eq_getElem (by omega)⟩
      rw [field_at T.t_ref04_Table.p rfl, load_cell (by kernel_rfl) ((hb1.chg hc23 (nS4 (by omega) (by omega))).cell (o := 0 + 0) rfl), get_ls_at (i := ia) ia' T.t_sl_int.u T.t_int.i (by kernel_rfl) (h1.ext hx023) hx,
        field_at T.t_ref04_Table.p rfl, load_cell (by kernel_rfl) ((hb3.chg hc23 (nS4 (by omega) (by omega))).cell (o := 0 + 0) rfl), get_ls_at (i := ib) ib' T.t_sl_int.u T.t_int.i (by kernel_rfl) (h2.ext hx023) hy]
      simp only [binS_neq]
      refine hJ2 _ _ ⟨hx23, _, rfl, ?_⟩
      rw [decide_eq_true_iff, ia', ib', sizeAt_nat hx, sizeAt_nat hy]
      exact ⟨fun h => ⟨hA, hB, h⟩, fun h => h.2.2⟩
    rintro _ w11 ⟨hx11, c, rfl, hc⟩
    have hx511 := hx59.trans hx11
    have hc11 := hc5.trans (hx511.chg S4)
    have hbu11 := hbu.ext hx511
    have q5 := hc5.size
    have q11 := hx511.size
    rw [split_bool]
    refine ⟨fun ht => ?_, fun hf => ?_⟩
    · -- two sizes
      obtain ⟨hA, hB, hne⟩ := hc.1 ht
      have hb6' : Blk w11 g6 T.t_ref04_Table [.slice none 0 0, .int .i64 0, .slice none 0 0] := hb6.chg hc11 (nS4 (by omega) (by omega))
      have hxv := hmx.ls.cells
      rw [load_struct T.t_ref04_Table.p T.t_ref04_Table.i rfl hbu11.range]
      refine store_whole (vs := [xs, .int .i64 k, .slice none 0 0]) T.t_ref04_Table.i rfl rfl (by intro u hu; simp at hu; rcases hu with rfl | rfl | rfl; exact hxv.2; rfl; rfl) hb6' fun w37 hc37 hs37 hb37 => ?_
      rw [res_struct T.t_ref04_Table.p T.t_ref04_Table.i rfl hb37.range]
      refine ⟨(hx05.trans hx511).then hc37 (by rintro r hr rfl; omega), xs, _, _, false, _, [], rfl, (LM_chg (hmx.ext hx511) hc37 fun r hr h2 => ?_).ls, (LM.nil .i64 T.t_int64 _ 0).ls, ⟨(fun h => by cases h), fun h => ?_⟩, (fun h => by cases h)⟩
      · have h2 : r = g6 := h2
        have := (lxs r hr).1
        omega
      · exact absurd (h i (upV_mem.2 ⟨by omega, hyes⟩) hA hB) hne
    have hok' : JoinOk s1 va s2 vb (upV va vb (i + 1)) := fun p hp hpa hpb => by
      rw [hup] at hp
      rcases List.mem_append.1 hp with hp | hp
      · exact hjo p hp hpa hpb
      · have hp := List.mem_singleton.1 hp
        subst hp
        refine Classical.byContradiction fun hne => ?_
        have := hc.2 ⟨hpa, hpb, hne⟩
        rw [hf] at this; cases this
    refine one_c T.t_sl_int.u T.t_int.i rfl fun a ga' w13 hga hx13 hao => ?_
    refine push_leads T.t_sl_int.u T.t_int.i rfl ((hmv.ext hx511).ext hx13) hao.ls (by simp only [List.length_cons, List.length_nil]; omega) (by simp only [List.length_cons, List.length_nil]; omega) fun vars' gv' w14 hmv' lv' hc14 => ?_
    have q13 := hx13.size
    have q14 := hc14.size
    have hx513 := hx511.trans hx13
    have hc14' : Chg S4 w4 w14 := (hc5.trans (hx513.chg S4)).trans (hc14.mono fun r hr h => .inr (lvs r h))
    have hx014 : Ext w w14 := hx04.then hc14' (by rintro r hr (rfl | h) <;> omega)
    have lx5 : ∀ r, leads xs r → r < w5.heap.size := fun r hr => by have := LM_leads hmx hr; omega
    have hmx14 : LM .i64 T.t_int w14 gx xs (joinS s1 va s2 vb (upV va vb i)) := LM_chg (hmx.ext hx513) hc14 fun r hr h => (lxs r hr).2 h
    have hbu14 : Blk w14 g2 T.t_ref04_Table [xs, .int .i64 k, .slice none 0 0] := (hbu.ext hx513).chg hc14 (fun h => by have := lvs _ h; omega)
    have lvs' : ∀ r, leads vars' r → w4.heap.size ≤ r := fun r hr => (lv' r hr).elim (lvs r) (fun h => by omega)
    have lxs' : ∀ r, leads xs r → ¬ leads vars' r := fun r hr h => (lv' r h).elim (lxs r hr).2 (fun h => by have := lx5 r hr; omega)
    have hsz : ∀ {x : Int}, max (sizeAt s1 (idxI va i)) (sizeAt s2 (idxI vb i)) = x → joinS s1 va s2 vb (upV va vb (i + 1)) = joinS s1 va s2 vb (upV va vb i) ++ [x] := fun h => by
      rw [hup, joinS_append]
      subst h
      rfl
    -- the size, and the end of the round
    have fin : ∀ {x : Int} {w15 : World} {av' : Value} {w16 : World}, Ext w14 w15 → max (sizeAt s1 (idxI va i)) (sizeAt s2 (idxI vb i)) = x → Ext w15 w16 → LS .i64 w16 av' [x] →
        RunC prog (Builtin.append_ #[T.t_sl_int, T.t_sl_int] T.t_sl_int #[xs, av']) w16 fun t75 w17 => RunQ prog (Instr.fieldAt T.t_ref04_Table (.pointer (some ⟨g2, 0, none⟩)) 0) w17 fun t76 => RunC prog (Instr.storeAt T.t_sl_int t76 t75) w17 fun (_ : Unit) w18 => J t9 t10 vars' w18 := by
      intro x w15 av' w16 hx15 hmax hx16 hav'
      have hx1416 := hx15.trans hx16
      refine push_leads T.t_sl_int.u T.t_int.i rfl (hmx14.ext hx1416) hav' (by simp only [List.length_cons, List.length_nil]; omega) (by simp only [List.length_cons, List.length_nil]; omega) fun xs' gx' w17 hmx' lx' hc17 => ?_
      rw [field_at T.t_ref04_Table.p rfl]
      have q16 := hx1416.size
      have q17 := hc17.size
      refine store_cell T.t_sl_int.i hmx'.ls.cells.1 hmx'.ls.cells.2 ((hbu14.ext hx1416).chg hc17 (fun h => by have := (lxs _ h).1; omega)) (by simp) fun w18 hc18 hs18 hb18 => ?_
      have lv14 : ∀ r, leads vars' r → r < w14.heap.size ∧ r ≠ g2 := fun r hr => by
        have := LM_leads hmv' hr
        have := lvs' r hr
        omega
      refine hJ _ _ _ _ ⟨(((hc14'.trans (hx1416.chg S4)).trans (hc17.mono fun r hr h => .inr (lxs r h).1)).trans (hc18.mono fun r hr h => .inl h)), hok', xs', gx', gv', hb18, ?_, ?_, fun r hr => ?_, lvs'⟩
      · rw [hsz hmax]
        exact LM_chg hmx' hc18 fun r hr h => by
          have h : r = g2 := h
          rcases lx' r hr with h3 | h3
          · have := (lxs r h3).1; omega
          · omega
      · rw [hup]
        exact LM_chg (LM_chg (hmv'.ext hx1416) hc17 fun r hr h => lxs' r h hr) hc18 fun r hr h => (lv14 r hr).2 h
      · rcases lx' r hr with h3 | h3
        · exact ⟨(lxs r h3).1, lxs' r h3⟩
        · exact ⟨by omega, fun h => by have := (lv14 r h).1; omega⟩
    have memsz : ∀ {s v : List Int} {j : Nat} {x : Int}, Up v → v[j]? = some (i : Int) → s[j]? = some x → sizeAt s (idxI v (i : Int)) = x := fun hu hv hs => by rw [idxI_at hu hv, sizeAt_nat hs]
    simp only [binS_geq, split_dec, ga, Drew]
    refine ⟨fun hA w15 hx15 _ _ => ?_, fun hA w15 hx15 _ _ => ?_⟩
    · obtain ⟨ia, hia, hie⟩ := List.getElem_of_mem hA
      have hva : va[ia]? = some (i : Int) := by rw [List.getElem?_eq_getElem hia, hie]
      have ia' : idxI va (i : Int) = ia := idxI_at hua hva
      obtain ⟨x, hx⟩ : ∃ x, s1[ia]? = some x := ⟨_, List.getElem?_eq_getElem (by omega)⟩
      have hc15 := hc14'.trans (hx15.chg S4)
      rw [field_at T.t_ref04_Table.p rfl, load_cell (by kernel_rfl) ((hbu14.ext hx15).cell (o := 0 + 0) rfl), field_at T.t_ref04_Table.p rfl, load_cell (by kernel_rfl) ((hb1.chg hc15 (nS4 (by omega) (by omega))).cell (o := 0 + 0) rfl),
        get_ls_at (i := ia) ia' T.t_sl_int.u T.t_int.i (by kernel_rfl) (h1.ext (hx014.trans hx15)) hx]
      refine one_c T.t_sl_int.u T.t_int.i rfl fun av' gav w16 hgav hx16 hav' => ⟨.inl hx16, ?_⟩
      exact fin hx15 (join_size z1.2 hua hok' (by rw [hup]; simp) hva hx) hx16 hav'.ls
    · have hB : (i : Int) ∈ vb := hyes.resolve_left hA
      obtain ⟨ib, hib, hie⟩ := List.getElem_of_mem hB
      have hvb : vb[ib]? = some (i : Int) := by rw [List.getElem?_eq_getElem hib, hie]
      have ib' : idxI vb (i : Int) = ib := idxI_at hub hvb
      obtain ⟨x, hx⟩ : ∃ x, s2[ib]? = some x := ⟨_, List.getElem?_eq_getElem (by omega)⟩
      have hc15 := hc14'.trans (hx15.chg S4)
      rw [field_at T.t_ref04_Table.p rfl, load_cell (by kernel_rfl) ((hbu14.ext hx15).cell (o := 0 + 0) rfl), field_at T.t_ref04_Table.p rfl, load_cell (by kernel_rfl) ((hb3.chg hc15 (nS4 (by omega) (by omega))).cell (o := 0 + 0) rfl),
        get_ls_at (i := ib) ib' T.t_sl_int.u T.t_int.i (by kernel_rfl) (h2.ext (hx014.trans hx15)) hx]
      refine one_c T.t_sl_int.u T.t_int.i rfl fun av' gav w16 hgav hx16 hav' => ⟨.inl hx16, ?_⟩
      refine fin hx15 ?_ hx16 hav'.ls
      rw [Int.max_comm]
      exact join_size z2.2 hub (joinOk_turn hok') (by rw [hup]; simp) hvb hx
  · rintro t9 t10 vars w5 kk ⟨hc5, hjo, xs, gx, gv, hbu, hmx, hmv, lxs, lvs⟩
    simp only [binS_lss, split_dec]
    refine ⟨fun h => by omega, fun _ => ?_⟩
    have hx05 : Ext w w5 := hx04.then hc5 (by rintro r hr (rfl | h) <;> omega)
    have hb1 := hb1.chg hc5 (nS4 (by omega) (by omega))
    have hb3 := hb3.chg hc5 (nS4 (by omega) (by omega))
    have hb6 := hb6.chg hc5 (nS4 (by omega) (by omega))
    have q5 := hc5.size
    have hjv : JoinVars va vb (upV va vb 12) := upV_join (n := 12) r1 r2
    have hvl := upV_len va vb 12
    generalize upV va vb 12 = V at *
    have hpb := prod_bound hz
    have hjl := joinS_length s1 va s2 vb V
    have hxv := hmx.ls.cells
    have hxs5 := hmx.ls
    have lx5 : ∀ r, leads xs r → w4.heap.size ≤ r ∧ r < w5.heap.size := fun r hr => by
      have := LM_leads hmx hr
      have := (lxs r hr).1
      omega
    rw [field_at T.t_ref04_Table.p rfl, load_cell (by kernel_rfl) (hbu.cell (o := 0 + 0) rfl)]
    refine (rAll _ hmx.ls hz).mono ?_
    rintro alv w10 _ ⟨hx10, hall⟩
    have q10 := hx10.size
    have hall := rep_old hall
    have hlen := allT_length hz.2
    have hx010 := hx05.trans hx10
    rw [len_dat T.t_sl_sl_int.u hall]
    let Lc := joinC s1 c1 va s2 c2 vb V k
    have hLc : Lc.length = (prodN (joinS s1 va s2 vb V)).toNat := joinC_length _ _ _ _ _ _ _ _
    let S : Nat → Prop := fun r => r = g2 ∨ w10.heap.size ≤ r
    have hS : ∀ {r : Nat}, r ≠ g2 → r < w10.heap.size → ¬ S r := fun h1 h2 h => h.elim h1 (fun h => by omega)
    refine Loop1.range (allT (joinS s1 va s2 vb V)).length (fun q w11 => Chg S w10 w11 ∧ ∃ ucv gC, w10.heap.size ≤ gC ∧ Blk w11 g2 T.t_ref04_Table [xs, .int .i64 k, ucv] ∧ LM .i64 T.t_int64 w11 gC ucv (Lc.take q)) (by omega)
      ⟨Chg.refl _ _, _, w10.heap.size, Nat.le_refl _, hbu.ext hx10, LM.nil _ _ _ _⟩ ?_ ?_
    · rintro q w11 kk hq ⟨hc11, ucv, gC, hgC, hbu11, hC⟩ hkk
      simp only [binS_lss, split_dec]
      refine ⟨fun _ => ?_, fun h => by omega⟩
      have hx011 : Ext w w11 := hx010.then hc11 (by rintro r hr (h | h) <;> omega)
      have hall11 : Dat.rep true (fun r => (w5.heap.size ≤ r) ∧ r < w10.heap.size) Non w11 [alv] (allT (joinS s1 va s2 vb V)) := Dat.chg hall hc11 (fun r hr h h2 => by
        rcases h with h | h
        · exact hS (by have : w5.heap.size ≤ r := h.1; omega) h.2 h2
        · exact h)
      have hqp : (q : Int) < prodN (joinS s1 va s2 vb V) := by omega
      refine get_dat rfl rfl T.t_sl_sl_int.u T.t_sl_int.i (by kernel_rfl) hall11 (all_tup hz.2 hqp) fun tv htv => ?_
      let x := tupN (joinS s1 va s2 vb V) (q : Int)
      have hx : LS .i64 w11 tv x := see_ls htv
      have hxl : x.length = V.length := by simp only [x]; rw [tupN_length, hjl]
      have hxval : Val (joinS s1 va s2 vb V) x := tup_val hz.2 (by omega)
      have q11 := hc11.size
      have hvars11 : LS .i64 w11 vars V := (LM_chg (hmv.ext hx10) hc11 fun r hr => by
        have := LM_leads hmv hr
        have := lvs r hr
        exact hS (by omega) (by omega)).ls
      rw [len_ls T.t_sl_int.u hvars11]
      refine Loop3.range V.length (fun j p qv w12 => Ext w11 w12 ∧ ∃ gp gq, LM .i64 T.t_int w12 gp p (partF x V va j) ∧ LM .i64 T.t_int w12 gq qv (partF x V vb j) ∧ (∀ r, leads p r → w11.heap.size ≤ r ∧ ¬ leads qv r) ∧ (∀ r, leads qv r → w11.heap.size ≤ r)) (by omega)
        ⟨Ext.refl _, 0, 0, by rw [partF_zero]; exact LM.nil _ _ _ _, by rw [partF_zero]; exact LM.nil _ _ _ _, fun r h => (nil_leads h).elim, fun r h => (nil_leads h).elim⟩ ?_ ?_
      · rintro j p qv w12 k2 hj ⟨hx12, gp, gq, hp, hqv, lp, lq⟩ hk2
        simp only [binS_lss, split_dec]
        refine ⟨fun _ => ?_, fun h => by omega⟩
        obtain ⟨y, hy⟩ : ∃ y, V[j]? = some y := ⟨_, List.getElem?_eq_getElem hj⟩
        obtain ⟨u, hu⟩ : ∃ u, x[j]? = some u := ⟨_, List.getElem?_eq_getElem (by omega)⟩
        have n1 := partF_len x V va j
        have n2 := partF_len x V vb j
        refine join2 (fun p' q' w13 => Ext w11 w13 ∧ ∃ gp gq, LM .i64 T.t_int w13 gp p' (partF x V va (j + 1)) ∧ LM .i64 T.t_int w13 gq q' (partF x V vb (j + 1)) ∧ (∀ r, leads p' r → w11.heap.size ≤ r ∧ ¬ leads q' r) ∧ (∀ r, leads q' r → w11.heap.size ≤ r)) ?_ ?_
        · intro p' q' w13 hI
          simp only [binS_add]
          exact hk2 _ _ _ hI
        intro J hJ
        rw [get_ls T.t_sl_int.u T.t_int.i (by kernel_rfl) (hvars11.ext hx12) hy]
        refine join1 (fun p' w13 => Ext w11 w13 ∧ ∃ gp, LM .i64 T.t_int w13 gp p' (partF x V va (j + 1)) ∧ LM .i64 T.t_int w13 gq qv (partF x V vb j) ∧ (∀ r, leads p' r → w11.heap.size ≤ r ∧ ¬ leads qv r)) ?_ ?_
        · rintro p' w13 ⟨hx13, gp', hp', hq13, lp'⟩
          refine (rFind (hb.ext (hx011.trans hx13)) hub).mono ?_
          rintro _ w14 _ ⟨rfl, hx14⟩
          have gb : (0 ≤ idxI vb y) ↔ y ∈ vb := idxI_mem
          simp only [binS_geq, split_dec, gb]
          refine ⟨fun hB => ?_, fun hB => hJ _ _ _ ⟨hx13.trans hx14, gp', gq, hp'.ext hx14, ?_, lp', lq⟩⟩
          · rw [get_ls T.t_sl_int.u T.t_int.i (by kernel_rfl) (hx.ext (hx13.trans hx14)) hu]
            refine one_c T.t_sl_int.u T.t_int.i rfl fun a' ga' w15 hga hx15 hao => ?_
            refine push_leads T.t_sl_int.u T.t_int.i rfl ((hq13.ext hx14).ext hx15) hao.ls (by simp only [List.length_cons, List.length_nil]; omega) (by simp only [List.length_cons, List.length_nil]; omega) fun q' gq' w16 hq' lq' hc16 => ?_
            have q13 := hx13.size
            have q14 := hx14.size
            have q15 := hx15.size
            have lpp : ∀ r, leads p' r → r < w13.heap.size := fun r hr => by have := LM_leads hp' hr; omega
            refine hJ _ _ _ ⟨((hx13.trans hx14).trans hx15).then hc16 (fun r hr h => by have := lq r h; omega), gp', gq', LM_chg ((hp'.ext hx14).ext hx15) hc16 (fun r hr h => (lp' r hr).2 h), ?_, fun r hr => ⟨(lp' r hr).1, fun h => (lq' r h).elim (lp' r hr).2 (fun h => by have := lpp r hr; omega)⟩, fun r hr => (lq' r hr).elim (lq r) (fun h => by omega)⟩
            rw [partF_some hjv.1 hy hu hB]
            exact hq'
          · rw [partF_none hy hB]; exact hq13.ext hx14
        intro J4 hJ4
        refine (rFind (ha.ext (hx011.trans hx12)) hua).mono ?_
        rintro _ w13 _ ⟨rfl, hx13⟩
        have ga : (0 ≤ idxI va y) ↔ y ∈ va := idxI_mem
        simp only [binS_geq, split_dec, ga]
        refine ⟨fun hA => ?_, fun hA => hJ4 _ _ ⟨hx12.trans hx13, gp, ?_, hqv.ext hx13, lp⟩⟩
        · rw [get_ls T.t_sl_int.u T.t_int.i (by kernel_rfl) (hx.ext (hx12.trans hx13)) hu]
          refine one_c T.t_sl_int.u T.t_int.i rfl fun a' ga' w15 hga hx15 hao => ?_
          refine push_leads T.t_sl_int.u T.t_int.i rfl ((hp.ext hx13).ext hx15) hao.ls (by simp only [List.length_cons, List.length_nil]; omega) (by simp only [List.length_cons, List.length_nil]; omega) fun p' gp' w16 hp' lp' hc16 => ?_
          have q12 := hx12.size
          have q13 := hx13.size
          have q15 := hx15.size
          have lqq : ∀ r, leads qv r → r < w12.heap.size := fun r hr => by have := LM_leads hqv hr; omega
          refine hJ4 _ _ ⟨((hx12.trans hx13).trans hx15).then hc16 (fun r hr h => by have := (lp r h).1; omega), gp', ?_, LM_chg ((hqv.ext hx13).ext hx15) hc16 (fun r hr h => (lp r h).2 hr), fun r hr => ?_⟩
          · rw [partF_some hjv.1 hy hu hA]
            exact hp'
          · rcases lp' r hr with h | h
            · exact lp r h
            · exact ⟨by omega, fun h2 => by have := lqq r h2; omega⟩
        · rw [partF_none hy hA]; exact hp.ext hx13
      · rintro p qv w12 k2 ⟨hx12, gp, gq, hp, hqv, lp, lq⟩
        simp only [binS_lss, split_dec, Drew]
        refine ⟨fun h => by omega, fun _ w16 hx16 _ _ => ?_⟩
        rw [partF_all hjv.1 hua fun p hp => (hjv.2 p).2 (.inl hp)] at hp
        rw [partF_all hjv.1 hub fun p hp => (hjv.2 p).2 (.inr hp)] at hqv
        have v1 : Val s1 (partL x V va) := part_val z1.2 f1 hua hjv.1 (fun p hp => (hjv.2 p).2 (.inl hp)) hjo hxval
        have v2 : Val s2 (partL x V vb) := part_val z2.2 f2 hub hjv.1 (fun p hp => (hjv.2 p).2 (.inr hp)) (joinOk_turn hjo) (by rw [joinS_turn]; exact hxval)
        have hxA := hx12.trans hx16
        have hcA : Chg S w10 w16 := hc11.trans (hxA.chg S)
        have hbu16 := hbu11.ext hxA
        have hb116 := (hb1.ext hx10).chg hcA (hS (by omega) (by omega))
        have hb316 := (hb3.ext hx10).chg hcA (hS (by omega) (by omega))
        have hx016 := hx011.trans hxA
        rw [field_at T.t_ref04_Table.p rfl, load_cell (by kernel_rfl) (hbu16.cell (o := 0 + 2) rfl), load_struct T.t_ref04_Table.p T.t_ref04_Table.i rfl hb116.range, load_struct T.t_ref04_Table.p T.t_ref04_Table.i rfl hb316.range, field_at T.t_ref04_Table.p rfl, load_cell (by kernel_rfl) (hbu16.cell (o := 0 + 1) rfl)]
        have getR : ∀ {s cs y : List Int}, Sizes s → cs.length = (prodN s).toNat → Val s y → ∃ n : Nat, idxN s y 0 = some (n : Int) ∧ cs[n]? = some (getC s cs y) := by
          intro s cs y hs hl ⟨n, hn⟩
          have hbn := idxN_bound hs.2 hn
          simp only [Int.zero_mul, Int.zero_add, Int.one_mul] at hbn
          refine ⟨n.toNat, by rw [hn]; congr 1; omega, ?_⟩
          unfold getC
          rw [hn]
          simp only
          rw [List.getD_eq_getElem?_getD, List.getElem?_eq_getElem (by omega)]; rfl
        obtain ⟨n1, e1, e1'⟩ := getR z1 l1 v1
        obtain ⟨n2, e2, e2'⟩ := getR z2 l2 v2
        refine (rGet (h1.ext hx016) z1 (hc1.ext hx016) (hp.ls.ext hx16) e1 e1').mono ?_
        rintro _ w17 _ ⟨rfl, hx17⟩
        refine ⟨.inl hx17, ?_⟩
        have hx017 := hx016.trans hx17
        refine (rGet (h2.ext hx017) z2 (hc2.ext hx017) ((hqv.ls.ext hx16).ext hx17) e2 e2').mono ?_
        rintro _ w18 _ ⟨rfl, hx18⟩
        refine ⟨.inl (hx17.trans hx18), ?_⟩
        have b1 := (getC_in (s := s1) (t := partL x V va) hkr hin1)
        have b2 := (getC_in (s := s2) (t := partL x V vb) hkr hin2)
        have hk2' := hkr.2
        refine (rAdd ⟨b1.2.1, by have := b1.2.2; omega⟩ ⟨b2.2.1, by have := b2.2.2; omega⟩).mono ?_
        rintro _ w19 _ ⟨rfl, hx19⟩
        refine ⟨.inl ((hx17.trans hx18).trans hx19), ?_⟩
        refine one_c T.t_sl_int64.u T.t_int64.i rfl fun v64 g64 w20 hg64 hx20 h64 => ⟨.inl (((hx17.trans hx18).trans hx19).trans hx20), ?_⟩
        have hxB := hxA.trans (((hx17.trans hx18).trans hx19).trans hx20)
        have htk : (Lc.take q).length ≤ 1073741824 := by rw [List.length_take]; omega
        refine push_lm T.t_sl_int64.u T.t_int64.i rfl (hC.ext hxB) h64.ls (by simp only [List.length_cons, List.length_nil]; omega) (by simp only [List.length_cons, List.length_nil]; omega) fun v' g' w21 hg' hv' hc21 => ?_
        have qB := hxB.size
        have l211 := hbu11.lt
        rw [field_at T.t_ref04_Table.p rfl]
        refine store_cell T.t_sl_int64.i hv'.ls.cells.1 hv'.ls.cells.2 ((hbu11.ext hxB).chg hc21 (by omega)) (by simp) fun w22 hc22 hs22 hb22 => ?_
        simp only [binS_add]
        have hLq : Lc[q]? = some (min (getC s1 c1 (partL x V va) + getC s2 c2 (partL x V vb)) k) := by
          simp only [Lc, joinC]
          rw [List.getElem?_map, List.getElem?_range (by omega)]; rfl
        refine hkk _ ⟨((hc11.trans (hxB.chg S)).trans (hc21.mono fun r hr h => .inr (by omega))).trans (hc22.mono fun r hr h => .inl h), v', g', by omega, hb22, ?_⟩
        rw [List.take_add_one, hLq]
        exact hv'.chg hc22 (fun _ => by omega)
    · rintro w11 kk ⟨hc11, ucv, gC, hgC, hbu11, hC⟩
      simp only [binS_lss, split_dec]
      refine ⟨fun h => by omega, fun _ => ?_⟩
      have e : Lc.take (allT (joinS s1 va s2 vb V)).length = Lc := List.take_of_length_le (by omega)
      rw [e] at hC
      have hb6' := (hb6.ext hx10).chg hc11 (hS (by omega) (by omega))
      have hm11 := LM_chg (hmx.ext hx10) hc11 (fun r hr => by have := lx5 r hr; exact hS (by omega) (by omega))
      have hv11 := LM_chg (hmv.ext hx10) hc11 fun r hr => by
        have := LM_leads hmv hr
        have := lvs r hr
        exact hS (by omega) (by omega)
      have hx011 : Ext w w11 := hx010.then hc11 (by rintro r hr (h | h) <;> omega)
      rw [load_struct T.t_ref04_Table.p T.t_ref04_Table.i rfl hbu11.range]
      refine store_whole (vs := [xs, .int .i64 k, ucv]) T.t_ref04_Table.i rfl rfl (by intro u hu; simp at hu; rcases hu with rfl | rfl | rfl; exact hxv.2; rfl; exact hC.ls.cells.2) hb6' fun w37 hc37 hs37 hb37 => ?_
      rw [res_struct T.t_ref04_Table.p T.t_ref04_Table.i rfl hb37.range]
      refine ⟨hx011.then hc37 (by rintro r hr rfl; omega), xs, ucv, vars, true, _, _, rfl, (LM_chg hm11 hc37 fun r hr h2 => ?_).ls, (hC.chg hc37 (fun _ => by omega)).ls, ⟨fun _ => hjo, fun _ => rfl⟩, fun _ => ⟨rfl, rfl, (LM_chg hv11 hc37 fun r hr h2 => ?_).ls⟩⟩
      · have h2 : r = g6 := h2
        have := lx5 r hr
        omega
      · have h2 : r = g6 := h2
        have := lvs r hr
        omega
end Go.Proofs.YtahhkeljejfgfaaDoor
