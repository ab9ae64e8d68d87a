/- Tuples: which lines there are; Table; nil ones. -/
import Derived.Test.YtahhkeljejfgfaaUe
namespace Go.Proofs.Ytahhkeljejfgfaa
open Go Go.Vc Go.RowKit Go.Proofs Go.Proofs.Try
set_option maxRecDepth 100000

/-! ### the lines, as a list -/
theorem allT_val {s t : List Int} (hs : SZ s) : t ∈ allT s ↔ Val s t := by
  refine ⟨fun h => ?_, fun ⟨n, h⟩ => List.mem_of_getElem? (idx_all hs h)⟩
  obtain ⟨i, hi⟩ := List.mem_iff_getElem?.1 h
  exact ⟨_, all_idx hs hi⟩
theorem numK_zeros : ∀ (n : Nat), numK (List.replicate n 0) = 0
  | 0 => rfl
  | n + 1 => by rw [List.replicate_succ, numK, numK_zeros n]; simp
theorem numK_append : ∀ (a b : List Int), numK (a ++ b) = numK a * 32 ^ b.length + numK b
  | [], b => by simp [numK]
  | x :: a, b => by
    simp only [List.cons_append, numK, numK_append a b, List.length_append]
    rw [Int.pow_add, Int.add_mul, ← Int.mul_assoc, Int.add_assoc]
theorem numK_pad {t : List Int} : numK (pad t) = numK t * 32 ^ (6 - t.length) := by
  unfold pad
  rw [numK_append, numK_zeros, List.length_replicate, Int.add_zero]
theorem allT_up : ∀ {s : List Int}, SZ s → (allT s).Pairwise fun a b => numK a < numK b
  | [], _ => by simp [allT]
  | k :: s, hs => by
    have ih := allT_up hs.tail
    have hb : ∀ t ∈ allT s, 0 ≤ numK t ∧ numK t < 32 ^ s.length := fun t ht => by
      have hv := (allT_val hs.tail).1 ht
      have h1 := val_iff.1 hv
      have h2 := numK_bound t fun x hx => by
        obtain ⟨i, hi, rfl⟩ := List.getElem_of_mem hx
        obtain ⟨a, ha⟩ : ∃ a, s[i]? = some a := ⟨_, List.getElem?_eq_getElem (by omega)⟩
        have h3 := h1.2 i a _ ha (List.getElem?_eq_getElem hi)
        have h4 := (hs.tail a (List.mem_of_getElem? ha)).2
        omega
      rw [h1.1]; exact h2
    have hl : ∀ t ∈ allT s, t.length = s.length := fun t ht => allT_mem_len ht
    show ((List.range k.toNat).flatMap fun (v : Nat) => (allT s).map fun t => (v : Int) :: t).Pairwise _
    rw [List.pairwise_flatMap]
    refine ⟨fun v _ => ?_, ?_⟩
    · rw [List.pairwise_map]
      refine ih.imp_of_mem fun {a b} ha hb h => ?_
      simp only [numK, hl a ha, hl b hb]
      omega
    · refine List.pairwise_lt_range.imp fun {u v} huv x hx y hy => ?_
      obtain ⟨a, ha, rfl⟩ := List.mem_map.1 hx
      obtain ⟨b, hb', rfl⟩ := List.mem_map.1 hy
      simp only [numK, hl a ha, hl b hb']
      have h1 := hb a ha
      have h2 := hb b hb'
      have := Int.mul_le_mul_of_nonneg_right (show (u : Int) + 1 ≤ v by omega) (show (0 : Int) ≤ 32 ^ s.length by have := pow_pos32 s.length; omega)
      rw [Int.add_mul, Int.one_mul] at this
      omega

/-- the lines of a function -/
def lineL (szs : List Int) (D : Told) (o : Int) : Told := ((allT szs).filter fun t => decide (costT D o t ≠ o)).map fun t => (t, costT D o t)
theorem up_same {α : Type} {f : α → Int} : ∀ {L M : List α}, L.Pairwise (fun a b => f a < f b) → M.Pairwise (fun a b => f a < f b) → (∀ x, x ∈ L ↔ x ∈ M) → L = M
  | [], M, _, _, h => by
    cases M with
    | nil => rfl
    | cons y M => exact absurd ((h y).2 (.head _)) (by simp)
  | x :: L, [], _, _, h => absurd ((h x).1 (.head _)) (by simp)
  | x :: L, y :: M, h1, h2, h => by
    have p1 := List.pairwise_cons.1 h1
    have p2 := List.pairwise_cons.1 h2
    have hxy : x = y := by
      rcases List.mem_cons.1 ((h x).1 (.head _)) with he | hm
      · exact he
      · rcases List.mem_cons.1 ((h y).2 (.head _)) with he | hm2
        · exact he.symm
        · have a := p2.1 x hm
          have b := p1.1 y hm2
          omega
    subst hxy
    rw [up_same p1.2 p2.2 fun z => ⟨fun hz => ?_, fun hz => ?_⟩]
    · rcases List.mem_cons.1 ((h z).1 (.tail _ hz)) with he | hm
      · subst he; have := p1.1 z hz; omega
      · exact hm
    · rcases List.mem_cons.1 ((h z).2 (.tail _ hz)) with he | hm
      · subst he; have := p2.1 z hz; omega
      · exact hm
theorem line_eq {w : World} {g m : Nat} {szs : List Int} {k o : Int} {D L : Told} (h : TupIs w g m szs k o D) (hL : LineOk D L) : L = lineL szs D o := by
  have hs := h.2.2.1
  have hn := h.nodup
  have hall := h.2.2.2.2
  have hnL : (L.map (·.1)).Nodup := (hL.1.map (·.1)).nodup_iff.2 hn
  have hval : ∀ p ∈ L, Val szs p.1 := fun p hp => (hall p (hL.1.mem_iff.1 hp)).1
  refine up_same (f := fun p => numK (pad p.1)) ?_ ?_ fun p => ?_
  · rw [List.pairwise_iff_getElem]
    intro i j hi hj hij
    have h1 := hL.2 i j _ _ (Nat.zero_le _) hij hj (List.getElem?_eq_getElem hi) (List.getElem?_eq_getElem hj)
    have k1 := val_key hs (hval _ (List.getElem_mem hi))
    have k2 := val_key hs (hval _ (List.getElem_mem hj))
    refine Int.lt_iff_le_and_ne.2 ⟨h1, fun he => ?_⟩
    have h2 := (cmpL_num _ _ (by rw [k1.1, k2.1]) k1.2 k2.2).2 he
    have h3 := pad_inj ((val_len (hval _ (List.getElem_mem hi))).symm.trans (val_len (hval _ (List.getElem_mem hj)))) h2
    have := nodup_inj hnL (i := i) (j := j) (x := L[i].1) (by rw [List.getElem?_map, List.getElem?_eq_getElem hi]; rfl) (by rw [List.getElem?_map, List.getElem?_eq_getElem hj, h3]; rfl)
    omega
  · unfold lineL
    rw [List.pairwise_map]
    refine ((allT_up hs.2).filter _).imp_of_mem fun {a b} ha hb hab => ?_
    have la := allT_mem_len (List.mem_filter.1 ha).1
    have lb := allT_mem_len (List.mem_filter.1 hb).1
    simp only [numK_pad, la, lb]
    exact Int.mul_lt_mul_of_pos_right hab (pow_pos32 _)
  · unfold lineL
    rw [hL.1.mem_iff, List.mem_map]
    refine ⟨fun hp => ⟨p.1, List.mem_filter.2 ⟨(allT_val hs.2).2 (hall p hp).1, ?_⟩, ?_⟩, ?_⟩
    · rw [costT_mem hn (c := p.2) hp]; simpa using (hall p hp).2.2
    · rw [costT_mem hn (c := p.2) hp]
    · rintro ⟨t, ht, rfl⟩
      have h1 := (List.mem_filter.1 ht).2
      have h1 : costT D o t ≠ o := by simpa using h1
      by_cases he : ∃ q ∈ D, q.1 = t
      · obtain ⟨q, hq, rfl⟩ := he
        rw [costT_mem hn (c := q.2) hq]; exact hq
      · exact absurd (costT_none fun q hq hq2 => he ⟨q, hq, hq2⟩) h1

theorem lineL_of {szs : List Int} {D : Told} {o : Int} {f : List Int → Int} (hs : SZ szs) (h : ∀ t, Val szs t → costT D o t = f t) : lineL szs D o = ((allT szs).filter fun t => decide (f t ≠ o)).map fun t => (t, f t) := by
  unfold lineL
  have e1 : (allT szs).filter (fun t => decide (costT D o t ≠ o)) = (allT szs).filter (fun t => decide (f t ≠ o)) := List.filter_congr fun t ht => by rw [h t ((allT_val hs).1 ht)]
  rw [e1]
  exact List.map_congr_left fun t ht => by rw [h t ((allT_val hs).1 (List.mem_filter.1 ht).1)]

theorem costT_perm {D L : Told} {o : Int} (hn : (D.map (·.1)).Nodup) (hp : L.Perm D) (t : List Int) : costT L o t = costT D o t := by
  have hnL : (L.map (·.1)).Nodup := (hp.map (·.1)).nodup_iff.2 hn
  by_cases he : ∃ p ∈ D, p.1 = t
  · obtain ⟨p, hp', rfl⟩ := he
    rw [costT_mem hn (c := p.2) hp', costT_mem hnL (c := p.2) (hp.mem_iff.2 hp')]
  · rw [costT_none fun p h1 h2 => he ⟨p, h1, h2⟩, costT_none fun p h1 h2 => he ⟨p, hp.mem_iff.1 h1, h2⟩]

/-! ### made to a table -/
/-- costs of all tuples -/
def IsC (szs : List Int) (f : List Int → Int) (cs : List Int) : Prop := cs.length = (prodN szs).toNat ∧ ∀ t, Val szs t → getC szs cs t = f t
theorem IsC.eq {szs : List Int} {f : List Int → Int} {cs ds : List Int} (hs : SZ szs) (h1 : IsC szs f cs) (h2 : IsC szs f ds) : cs = ds := lists_eq hs h1.1 h2.1 fun t ht => by rw [h1.2 t ht, h2.2 t ht]
theorem IsC.congr {szs : List Int} {f f' : List Int → Int} {cs : List Int} (h : IsC szs f cs) (he : ∀ t, Val szs t → f t = f' t) : IsC szs f' cs := ⟨h.1, fun t ht => by rw [h.2 t ht, he t ht]⟩
theorem val_at {szs t : List Int} (hs : SZ szs) (h : Val szs t) : ∃ n : Nat, idxN szs t 0 = some (n : Int) ∧ n < (prodN szs).toNat := by
  obtain ⟨n, hn⟩ := h
  have := idxN_bound hs hn
  simp only [Int.zero_mul, Int.zero_add, Int.one_mul] at this
  exact ⟨n.toNat, by rw [hn]; congr 1; omega, by omega⟩
theorem isC_const {szs : List Int} (hs : SZ szs) (c : Int) : IsC szs (fun _ => c) (List.replicate (prodN szs).toNat c) := ⟨by simp, fun t ht => by
  obtain ⟨n, hn, hl⟩ := val_at hs ht
  unfold getC
  rw [hn]
  simp only [Int.toNat_natCast, List.getD_eq_getElem?_getD, List.getElem?_replicate, hl, if_true, Option.getD_some]⟩
theorem IsC.put {szs t : List Int} {f : List Int → Int} {cs : List Int} {k c : Int} (hs : SZ szs) (h : IsC szs f cs) (hv : Val szs t) (hc : inK c k) : IsC szs (fun s => if s = t then c else f s) (putC szs t k c cs) := by
  obtain ⟨n, hn, hl⟩ := val_at hs hv
  unfold putC
  rw [hn]
  simp only [hc, if_true, Int.toNat_natCast]
  refine ⟨by simp [h.1], fun s hvs => ?_⟩
  obtain ⟨m, hm, hml⟩ := val_at hs hvs
  have h2 := h.2 s hvs
  unfold getC at h2 ⊢
  rw [hm] at h2 ⊢
  simp only [Int.toNat_natCast] at h2 ⊢
  by_cases he : s = t
  · subst he
    rw [hn] at hm
    have hnm : n = m := by have := Option.some.inj hm; omega
    subst hnm
    rw [if_pos rfl, List.getD_eq_getElem?_getD, List.getElem?_set_self (by rw [h.1]; exact hl)]; rfl
  · rw [if_neg he, List.getD_eq_getElem?_getD, List.getElem?_set_ne (fun hnm => he ?_), ← List.getD_eq_getElem?_getD, h2]
    subst hnm
    rw [← tup_idx hs hm, ← tup_idx hs hn]

/-- what Table answers -/
def TableAns (w : World) (szs : List Int) (k o : Int) (D : Told) (v : Value) (w' : World) : Prop := Ext w w' ∧ (4096 < prodN szs → v = .tuple #[.pointer none, .int .i64 5]) ∧
  (prodN szs ≤ 4096 → ∃ g gc sv cs, v = .tuple #[.pointer (some ⟨g, 0, none⟩), .int .i64 0] ∧ w.heap.size ≤ g ∧ w.heap.size ≤ gc ∧ Tab w' g gc sv szs k cs ∧ IsC szs (costT D o) cs)

set_option maxHeartbeats 1600000 in
theorem uTable {w : World} {g m : Nat} {szs : List Int} {k o : Int} {D : Told} (h : TupIs w g m szs k o D) (hD : D.length < 256) : Cal prog F.P_tuples_Tuples_Table [.pointer (some ⟨g, 0, none⟩)] w (TableAns w szs k o D) := by
  obtain ⟨⟨sv, gs, hb, hm⟩, hmap, hs, hin, hall⟩ := id h
  have hn := h.nodup
  apply P_tuples_Tuples_Table.enter
  unfold P_tuples_Tuples_Table.body
  rw [eq_ptr_nil T.t_p_tuples_Tuples.u]
  simp only [Option.isNone_some, split_false]
  intro w1 hx1 _ _
  have hb1 := hb.ext hx1
  rw [nil_check, field_at T.t_tuples_Tuples.p rfl, load_cell (by kernel_rfl) (hb1.cell (o := 0 + 0) rfl), nil_check, field_at T.t_tuples_Tuples.p rfl, load_cell (by kernel_rfl) (hb1.cell (o := 0 + 1) rfl), nil_check, field_at T.t_tuples_Tuples.p rfl, load_cell (by kernel_rfl) (hb1.cell (o := 0 + 2) rfl)]
  refine (tNew (hm.ls.ext hx1)).mono ?_
  rintro _ w2 _ ⟨hx2, _, hlarge, _, hgood⟩
  by_cases hp : prodN szs ≤ 4096
  rotate_left
  · have := hlarge hs (by omega)
    subst this
    rw [extract_tuple (v := .pointer none) rfl, extract_tuple (v := .int .i64 5) rfl]
    simp only [binS_neq, split_dec]
    exact ⟨fun _ => ⟨hx1.trans hx2, fun _ => rfl, fun h => absurd h hp⟩, fun h => by simp at h⟩
  obtain ⟨gt, gc, tv, rfl, hgt, hgc, _, htab⟩ := hgood hs hp hin
  rw [extract_tuple (v := .pointer (some ⟨gt, 0, none⟩)) rfl, extract_tuple (v := .int .i64 0) rfl]
  simp only [binS_neq, split_dec]
  refine ⟨fun h => absurd rfl h, fun _ => ?_⟩
  have s1 := hx1.size
  have s2 := hx2.size
  refine (uLines ((h.ext hx1).ext hx2) hD).mono ?_
  rintro lv w3 _ ⟨hx3, L, hL, hlv⟩
  have s3 := hx3.size
  have lgc : gc < w2.heap.size := by
    obtain ⟨⟨cv, gs', _, _, h3⟩, ⟨_, _, hp4⟩, hs', hl'⟩ := id htab
    have hpp := prod_pos hs'.2
    obtain ⟨_, ⟨_, h0⟩ | ⟨cap, cs, _, hb3, _⟩⟩ := h3
    · rw [hl'] at h0; omega
    · exact hb3.lt
  have hlL := hL.1.length_eq
  rw [len_dat T.t_sl_tuples_Line.u hlv]
  refine Loop1.range L.length (fun i w4 => Chg (fun r => r = gc) w3 w4 ∧ ∃ cs, Tab w4 gt gc tv szs k cs ∧ IsC szs (costT (L.take i) o) cs) (by omega) ⟨Chg.refl _ _, _, htab.ext hx3, by rw [List.take_zero]; exact isC_const hs.2 o⟩ ?_ ?_
  · rintro i w4 kk hi ⟨hc4, cs, hT, hC⟩ hkk
    simp only [binS_lss, split_dec]
    refine ⟨fun _ => ?_, fun h => by omega⟩
    obtain ⟨⟨t, c⟩, hLi⟩ : ∃ p, L[i]? = some p := ⟨_, List.getElem?_eq_getElem hi⟩
    have hmem : (t, c) ∈ D := hL.1.mem_iff.1 (List.mem_of_getElem? hLi)
    obtain ⟨hval, hck, hco⟩ := hall _ hmem
    have hlv4 := Dat.chg hlv hc4 fun r hr hSR he => by
      have he : r = gc := he
      rcases hSR with h | h
      · have h : w2.heap.size ≤ r := h; omega
      · exact h
    refine get_agg (α := List Int × Int) T.t_tuples_Line.p rfl T.t_sl_tuples_Line.u T.t_tuples_Line.i hlv4 hLi fun us hus => ?_
    obtain ⟨c1, c2, A, B, rfl, hA, hB, _, h1, h2⟩ := hus
    have hc2 : c2 = [.int .i64 c] := h2
    subst hc2
    obtain ⟨uv, rfl, _⟩ := id h1
    have hu := see_ls h1
    refine alloc_c T.t_tuples_Line.i fun gl w5 hgl hx5 hbl => ?_
    refine store_whole (vs := [uv, .int .i64 c]) T.t_tuples_Line.i rfl rfl (by intro v hv; simp at hv; rcases hv with rfl | rfl; exact hu.cells.2; rfl) hbl fun w6 hc6 hs6 hb6 => ?_
    have lgl := hbl.lt
    have hx46 : Ext w4 w6 := hx5.then hc6 (fun r hr he => by have he : r = gl := he; omega)
    rw [field_at T.t_tuples_Line.p rfl, load_cell (by kernel_rfl) (hb6.cell (o := 0 + 0) rfl), field_at T.t_tuples_Line.p rfl, load_cell (by kernel_rfl) (hb6.cell (o := 0 + 1) rfl)]
    refine (tPut (hT.ext hx46) (hu.ext hx46)).mono ?_
    rintro _ w7 _ ⟨rfl, hc7, hT7⟩
    simp only [binS_add]
    refine hkk _ ⟨(hc4.trans (hx46.chg _)).trans hc7, _, hT7, (hC.put hs.2 hval hck).congr fun s hvs => ?_⟩
    rw [List.take_add_one, hLi]
    have hnL : (L.map (·.1)).Nodup := (hL.1.map (·.1)).nodup_iff.2 hn
    have hsub : ∀ p ∈ L.take i, p.1 ≠ t := fun p hp he => by
      obtain ⟨j, hj⟩ := List.mem_iff_getElem?.1 hp
      have hji : j < i := by have := (List.getElem?_eq_some_iff.1 hj).1; rw [List.length_take] at this; omega
      rw [List.getElem?_take_of_lt hji] at hj
      have := nodup_inj hnL (i := j) (j := i) (x := t) (by rw [List.getElem?_map, hj, Option.map_some, he]) (by rw [List.getElem?_map, hLi]; rfl)
      omega
    have hnt : ((L.take i).map (·.1)).Nodup := by rw [List.map_take]; exact (List.take_sublist _ _).nodup hnL
    have hnt' : ((L.take i ++ [(t, c)]).map (·.1)).Nodup := by
      have e : L.take i ++ [(t, c)] = L.take (i + 1) := by rw [List.take_add_one, hLi]; rfl
      rw [e, List.map_take]; exact (List.take_sublist _ _).nodup hnL
    exact ((upd_new hsub hco).cost hnt hnt' s).symm
  · rintro w4 kk ⟨hc4, cs, hT, hC⟩
    simp only [binS_lss, split_dec]
    refine ⟨fun h => by omega, fun _ => ?_⟩
    rw [List.take_length] at hC
    exact ⟨((hx1.trans hx2).trans hx3).then hc4 (fun r hr he => by have he : r = gc := he; omega), fun h => by omega, fun _ => ⟨gt, gc, tv, cs, rfl, by omega, by omega, hT, hC.congr fun s _ => costT_perm hn hL.1 s⟩⟩

/-! ### nil ones -/
theorem keyNil {w : World} {tv : Value} : Cal prog F.P_tuples_Tuples_key [.pointer none, tv] w fun v w' => Ext w w' ∧ ∃ ks, v = .tuple #[keyV ks, .int .i64 2] ∧ ks.length = 6 := by
  apply P_tuples_Tuples_key.enter
  unfold P_tuples_Tuples_key.body
  refine alloc_c T.t_tuples_key.i fun g4 w1 hg4 hx1 hb4 => ?_
  refine alloc_c T.t_tuples_key.i fun gx w2 hgx hx2 hbx => ?_
  rw [eq_ptr_nil T.t_p_tuples_Tuples.u]
  simp only [Option.isNone_none, split_true]
  rw [load_key (ks := [0, 0, 0, 0, 0, 0]) rfl hbx.range]
  have l4 := hb4.lt
  refine store_key rfl rfl (hb4.ext hx2) fun w9 hc9 hs9 hb9 => ?_
  rw [res_key rfl hb9.range]
  exact ⟨(hx1.trans hx2).then hc9 (fun r hr he => by have he : r = g4 := he; omega), _, rfl, rfl⟩
theorem putNil {w : World} {tv cv : Value} : Cal prog F.P_tuples_Tuples_Put [.pointer none, tv, cv] w fun v w' => v = .int .i64 2 ∧ Ext w w' := by
  apply P_tuples_Tuples_Put.enter
  unfold P_tuples_Tuples_Put.body
  refine keyNil.mono ?_
  rintro _ w1 _ ⟨hx1, ks, rfl, hkl⟩
  rw [extract_tuple (v := keyV ks) rfl, extract_tuple (v := .int .i64 2) rfl]
  refine alloc_c T.t_tuples_key.i fun gx w2 hgx hx2 hbx => ?_
  refine store_key hkl rfl hbx fun w3 hc3 hs3 hb3 => ?_
  have lx := hbx.lt
  have s1 := hx1.size
  have hx03 : Ext w w3 := (hx1.trans hx2).then hc3 (fun r hr he => by have he : r = gx := he; omega)
  simp only [JoinC, binS_neq, split_dec]
  exact ⟨fun _ => ⟨trivial, hx03⟩, fun h => by simp at h⟩
theorem getNil {w : World} {tv : Value} : Cal prog F.P_tuples_Tuples_Get [.pointer none, tv] w fun v w' => v = .tuple #[.int .i64 0, .int .i64 2] ∧ Ext w w' := by
  apply P_tuples_Tuples_Get.enter
  unfold P_tuples_Tuples_Get.body
  refine keyNil.mono ?_
  rintro _ w1 _ ⟨hx1, ks, rfl, hkl⟩
  rw [extract_tuple (v := keyV ks) rfl, extract_tuple (v := .int .i64 2) rfl]
  refine alloc_c T.t_tuples_key.i fun gx w2 hgx hx2 hbx => ?_
  refine store_key hkl rfl hbx fun w3 hc3 hs3 hb3 => ?_
  have lx := hbx.lt
  have s1 := hx1.size
  have hx03 : Ext w w3 := (hx1.trans hx2).then hc3 (fun r hr he => by have he : r = gx := he; omega)
  simp only [binS_neq, split_dec]
  exact ⟨fun _ => ⟨trivial, hx03⟩, fun h => by simp at h⟩
theorem tableNil {w : World} : Cal prog F.P_tuples_Tuples_Table [.pointer none] w fun v w' => v = .tuple #[.pointer none, .int .i64 2] ∧ Ext w w' := by
  apply P_tuples_Tuples_Table.enter
  unfold P_tuples_Tuples_Table.body
  rw [eq_ptr_nil T.t_p_tuples_Tuples.u]
  simp only [Option.isNone_none, split_true]
  exact ⟨trivial, Ext.refl _⟩
theorem linesNil {w : World} : Cal prog F.P_tuples_Tuples_Lines [.pointer none] w fun v w' => v = .slice none 0 0 ∧ Ext w w' := by
  apply P_tuples_Tuples_Lines.enter
  unfold P_tuples_Tuples_Lines.body
  rw [eq_ptr_nil T.t_p_tuples_Tuples.u]
  simp only [Option.isNone_none, split_true]
  exact ⟨trivial, Ext.refl _⟩
theorem lenNil {w : World} : Cal prog F.P_tuples_Tuples_Len [.pointer none] w fun v w' => v = .int .i64 0 ∧ Ext w w' := by
  apply P_tuples_Tuples_Len.enter
  unfold P_tuples_Tuples_Len.body
  rw [eq_ptr_nil T.t_p_tuples_Tuples.u]
  simp only [Option.isNone_none, split_true]
  exact ⟨trivial, Ext.refl _⟩
theorem kNil {w : World} : Cal prog F.P_tuples_Tuples_K [.pointer none] w fun v w' => v = .int .i64 0 ∧ Ext w w' := by
  apply P_tuples_Tuples_K.enter
  unfold P_tuples_Tuples_K.body
  rw [eq_ptr_nil T.t_p_tuples_Tuples.u]
  simp only [Option.isNone_none, split_true]
  exact ⟨trivial, Ext.refl _⟩
theorem otherNil {w : World} : Cal prog F.P_tuples_Tuples_Other [.pointer none] w fun v w' => v = .int .i64 0 ∧ Ext w w' := by
  apply P_tuples_Tuples_Other.enter
  unfold P_tuples_Tuples_Other.body
  rw [eq_ptr_nil T.t_p_tuples_Tuples.u]
  simp only [Option.isNone_none, split_true]
  exact ⟨trivial, Ext.refl _⟩
theorem sizesNil {w : World} : Cal prog F.P_tuples_Tuples_Sizes [.pointer none] w fun v w' => v = .slice none 0 0 ∧ Ext w w' := by
  apply P_tuples_Tuples_Sizes.enter
  unfold P_tuples_Tuples_Sizes.body
  rw [eq_ptr_nil T.t_p_tuples_Tuples.u]
  simp only [Option.isNone_none, split_true]
  exact ⟨trivial, Ext.refl _⟩
theorem arityNil {w : World} : Cal prog F.P_tuples_Tuples_Arity [.pointer none] w fun v w' => v = .int .i64 0 ∧ Ext w w' := by
  apply P_tuples_Tuples_Arity.enter
  unfold P_tuples_Tuples_Arity.body
  refine sizesNil.mono ?_
  rintro _ w1 _ ⟨rfl, hx1⟩
  rw [len_slice T.t_sl_int.u]
  exact ⟨rfl, hx1⟩
theorem ofNil {w : World} : Cal prog F.tuples_Of [.pointer none] w fun v w' => v = .pointer none ∧ Ext w w' := by
  apply tuples_Of.enter
  unfold tuples_Of.body
  rw [eq_ptr_nil T.t_p_table_Table.u]
  simp only [Option.isNone_none, split_true]
  exact fun _ hx _ => ⟨trivial, hx⟩
end Go.Proofs.Ytahhkeljejfgfaa

