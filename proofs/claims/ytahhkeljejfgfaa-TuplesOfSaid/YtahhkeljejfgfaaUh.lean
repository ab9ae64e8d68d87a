/- Tuples in blocks that are known; TuplesPlays: whatever is put, all costs are the document's. -/
import Derived.Test.YtahhkeljejfgfaaUg
import Derived.Test.YtahhkeljejfgfaaKn
namespace Go.Proofs.Ytahhkeljejfgfaa
open Go Go.Vc Go.RowKit Go.Proofs Go.Proofs.Try
set_option maxRecDepth 100000

theorem ne_bool {P : Program} {w : World} {t : TypeId} {cx cy : Bool} {a b : Bool} {K : Value → Prop} (ht : P.underlying t = some .bool) : RunQ P (binS .neq t cx cy (.bool a) (.bool b)) w K = K (.bool (a != b)) := by
  have : (a != b) = !(a == b) := rfl
  rw [this]
  exact binS_neq' (fun _ => rfl) rfl fun w' _ => run_equalIn_bool' (P := P) (w := w') 9999 t a b ht
theorem LM_lt {k : IntKind} {e : TypeId} {w : World} {g : Nat} {v : Value} {l : List Int} (h : LM k e w g v l) (h0 : 0 < l.length) : g < w.heap.size := by
  obtain ⟨_, ⟨_, h1⟩ | ⟨_, _, _, hb, _⟩⟩ := h
  · omega
  · exact hb.lt

/-- tuples, and where they lie -/
def TupAt (w : World) (g m : Nat) (sv : Value) (gs : Nat) (szs : List Int) (k o : Int) (D : Told) : Prop :=
  Blk w g T.t_tuples_Tuples [sv, .int .i64 k, .int .i64 o, .map (some m)] ∧ LM .i64 T.t_int w gs sv szs ∧ MapIs w m (D.map kvE) ∧ Sizes szs ∧ inK o k ∧ ∀ p ∈ D, Val szs p.1 ∧ inK p.2 k ∧ p.2 ≠ o
theorem TupAt.is {w : World} {g m gs : Nat} {sv : Value} {szs : List Int} {k o : Int} {D : Told} (h : TupAt w g m sv gs szs k o D) : TupIs w g m szs k o D := ⟨⟨sv, gs, h.1, h.2.1⟩, h.2.2⟩
theorem TupIs.at {w : World} {g m : Nat} {szs : List Int} {k o : Int} {D : Told} (h : TupIs w g m szs k o D) : ∃ sv gs, TupAt w g m sv gs szs k o D := by
  obtain ⟨⟨sv, gs, h1, h2⟩, h3⟩ := h
  exact ⟨sv, gs, h1, h2, h3⟩
theorem TupAt.ext {w w' : World} {g m gs : Nat} {sv : Value} {szs : List Int} {k o : Int} {D : Told} (h : TupAt w g m sv gs szs k o D) (hx : Ext w w') : TupAt w' g m sv gs szs k o D := by
  obtain ⟨h1, h2, h3, h4⟩ := h
  exact ⟨h1.ext hx, h2.ext hx, h3.ext hx, h4⟩
theorem TupAt.chg {S : Nat → Prop} {w w' : World} {g m gs : Nat} {sv : Value} {szs : List Int} {k o : Int} {D : Told} (h : TupAt w g m sv gs szs k o D) (hx : Chg S w w') (hg : ¬ S g) (hm : ¬ S m) (hs : ∀ r, leads sv r → ¬ S r) : TupAt w' g m sv gs szs k o D := by
  obtain ⟨h1, h2, h3, h4⟩ := h
  exact ⟨h1.chg hx hg, LM_chg h2 hx hs, h3.chg hx hm, h4⟩
theorem blk_map {w : World} {g m : Nat} {e : TypeId} {cs : List Value} {d : List (Value × Value)} (h : Blk w g e cs) (hm : MapIs w m d) : g ≠ m := by
  rintro rfl
  obtain ⟨es, c, h1, _⟩ := hm
  unfold Blk at h
  rw [h1] at h
  cases h
theorem lm_map {w : World} {g m : Nat} {k : IntKind} {e : TypeId} {v : Value} {l : List Int} {d : List (Value × Value)} (h : LM k e w g v l) (hm : MapIs w m d) {r : Nat} (hr : leads v r) : r ≠ m := by
  obtain ⟨rfl, _⟩ := LM_leads h hr
  obtain ⟨_, ⟨rfl, _⟩ | ⟨_, _, _, hb, _⟩⟩ := h
  · obtain ⟨a, n, c, h, _⟩ := hr; cases h
  · exact blk_map hb hm
/-- behind a Put -/
theorem TupAt.put {w w' : World} {g m gs : Nat} {sv : Value} {szs : List Int} {k o : Int} {D D' : Told} (h : TupAt w g m sv gs szs k o D) (hc : Chg (fun r => r = m) w w') (h' : TupIs w' g m szs k o D') : TupAt w' g m sv gs szs k o D' :=
  ⟨h.1.chg hc (fun he => blk_map h.1 h.2.2.1 he), LM_chg h.2.1 hc (fun r hr he => lm_map h.2.1 h.2.2.1 hr he), h'.2⟩
theorem TupAt.lts {w : World} {g m gs : Nat} {sv : Value} {szs : List Int} {k o : Int} {D : Told} (h : TupAt w g m sv gs szs k o D) : g < w.heap.size ∧ m < w.heap.size ∧ ∀ r, leads sv r → r < w.heap.size :=
  ⟨h.1.lt, h.2.2.1.lt, fun r hr => by obtain ⟨rfl, hl⟩ := LM_leads h.2.1 hr; exact hl⟩

instance (s t : List Int) : Decidable (Val s t) := decidable_of_iff ((idxN s t 0).isSome = true) ⟨fun h => by
  cases hq : idxN s t 0 with
  | none => rw [hq] at h; cases h
  | some n => exact ⟨n, hq⟩, fun ⟨n, h⟩ => by rw [h]; rfl⟩
abbrev Act5 : Type := List Int × Int
theorem act5_cells {m : Bool} {S R : Bs} {w : World} {cs : List Value} {a : Act5} (h : Dat.rep m S R w cs a) : ∃ tv, cs = [tv, .int .i64 a.2] ∧ LS .i64 w tv a.1 := by
  obtain ⟨c, d, A, B, rfl, _, _, _, h1, h2⟩ := h
  obtain ⟨tv, rfl, h5⟩ : ∃ tv, c = [tv] ∧ Dat.rep m A R w [tv] a.1 := by
    obtain ⟨v, rfl, h⟩ := id h1
    exact ⟨v, rfl, h1⟩
  have h2 : d = [.int .i64 a.2] := h2
  subst h2
  exact ⟨tv, rfl, see_ls h5⟩
theorem where_val {s t : List Int} (hs : SZ s) : (whereT (allT s) t = -1 ∧ ¬ Val s t) ∨ ∃ n : Nat, whereT (allT s) t = n ∧ idxN s t 0 = some (n : Int) ∧ Val s t ∧ n < (prodN s).toNat := by
  rw [whereT_eq hs]
  cases hq : idxN s t 0 with
  | none => exact .inl ⟨rfl, fun ⟨n, hn⟩ => by rw [hq] at hn; cases hn⟩
  | some n =>
    obtain ⟨m, hm, hl⟩ := val_at hs ⟨n, hq⟩
    rw [hq] at hm
    cases hm
    exact .inr ⟨m, rfl, rfl, ⟨_, hq⟩, hl⟩
theorem IsC.set {szs t : List Int} {f : List Int → Int} {cs : List Int} {k c : Int} {n : Nat} (hs : SZ szs) (h : IsC szs f cs) (hn : idxN szs t 0 = some (n : Int)) (hc : inK c k) : IsC szs (fun s => if s = t then c else f s) (cs.set n c) := by
  have h1 := h.put (k := k) hs ⟨_, hn⟩ hc
  unfold putC at h1
  rw [hn] at h1
  simpa [hc] using h1

set_option maxHeartbeats 3200000 in
theorem lPlays5 {lv av : Value} {l : List Int} {acts : List Act5} {k oth : Int} {w : World} (hl : LS .u8 w lv l) (h8 : ∀ x ∈ l, 0 ≤ x ∧ x < 256) (hk : 0 ≤ k ∧ k < 65536) (hoth : 0 ≤ oth ∧ oth < 65536) (ha : Seen Every w [av] acts) :
    Cal prog F.law05_TuplesPlays [lv, .int .u16 k, .int .u16 oth, av] w fun v w' => v = .bool true ∧ Ext w w' := by
  apply law05_TuplesPlays.enter
  unfold law05_TuplesPlays.body
  refine uAwake.mono ?_
  rintro _ w1 _ ⟨rfl, hx1⟩
  simp only [un_not, Bool.not_true, split_false]
  refine (rSmall (hl.ext hx1) h8).mono ?_
  rintro xs w2 _ ⟨hx2, gxs, hgxs, hxs⟩
  obtain ⟨hsz, hs3, hs4⟩ := smallN_sizes (l := l)
  have hple := prod_small hs3 hs4
  generalize smallN l = szs at *
  have hx02 := hx1.trans hx2
  rw [binS_rem (by decide), conv_int T.t_uint16.u T.t_int64.u, Int.tmod_eq_emod_of_nonneg hk.1, wrap_i64 (by omega) (by omega)]
  simp only [binS_add]
  rw [wrap_i64 (x := 1 + k % 200) (by omega) (by omega)]
  obtain ⟨K, hK⟩ : ∃ K, K = 1 + k % 200 := ⟨_, rfl⟩
  have hKr : right K ∧ K ≤ 200 := by unfold right; omega
  rw [← hK, conv_int T.t_uint16.u T.t_int64.u, wrap_i64 (x := oth) (by omega) (by omega), wrap_i64 (x := K + 1) (by omega) (by omega), binS_rem (by omega), Int.tmod_eq_emod_of_nonneg hoth.1]
  obtain ⟨o, ho⟩ : ∃ o, o = oth % (K + 1) := ⟨_, rfl⟩
  have hoK : inK o K := ⟨hKr.1, by rw [ho]; exact Int.emod_nonneg _ (by omega), by rw [ho]; have := Int.emod_lt_of_pos oth (show 0 < K + 1 by omega); omega⟩
  rw [← ho]
  refine (uNew hxs.ls).mono ?_
  rintro _ w3 _ ⟨hx3, _, _, hgood⟩
  obtain ⟨g, m, rfl, hg, hm, hT⟩ := hgood hsz hoK
  obtain ⟨sv, gs, hT⟩ := hT.at
  obtain ⟨hgl, hml, hsl⟩ := hT.lts
  rw [extract_tuple (v := .pointer (some ⟨g, 0, none⟩)) rfl, extract_tuple (v := .int .i64 0) rfl]
  simp only [binS_neq, split_dec]
  refine ⟨fun h => absurd rfl h, fun _ => ?_⟩
  have hx03 := hx02.trans hx3
  have hxs3 := hxs.ext hx3
  have hxv := hxs3.ls.cells
  rw [build_eq (cs := #[xs, .int .i64 K, .slice none 0 0]) (by obtain ⟨_, _, _, _, _, rfl, _⟩ := hxs3.ls; kernel_rfl)]
  refine alloc_c T.t_ref04_Table.i fun gb w4 hgb hx4 hb4 => ?_
  have lgb := hb4.lt
  refine store_whole (vs := [xs, .int .i64 K, .slice none 0 0]) T.t_ref04_Table.i rfl rfl (by intro u hu; simp at hu; rcases hu with rfl | rfl | rfl; exact hxv.2; rfl; rfl) hb4 fun w5 hc5 hs5 hb5 => ?_
  have s4 := hx4.size
  have hx35 : Ext w3 w5 := hx4.then hc5 (by rintro r hr rfl; omega)
  refine (rCount (hxs3.ext hx35).ls hsz).mono ?_
  rintro _ w6 _ ⟨rfl, hx6⟩
  have hx36 := hx35.trans hx6
  have s36 := hx36.size
  have s6 := hx6.size
  refine Loop1.range (prodN szs).toNat (fun i w7 => Ext w3 w7 ∧ w6.heap.size ≤ w7.heap.size ∧ ∃ xc gx, w6.heap.size ≤ gx ∧ Blk w7 gb T.t_ref04_Table [xs, .int .i64 K, xc] ∧ LM .i64 T.t_int64 w7 gx xc (List.replicate i o)) (by omega) ⟨hx36, Nat.le_refl _, _, w6.heap.size, Nat.le_refl _, hb5.ext hx6, LM.nil _ _ _ _⟩ ?_ ?_
  · rintro i w7 kk hi ⟨hx7, s7, xc, gx, hgx, hb7, hxc⟩ hkk
    simp only [binS_lss, split_dec]
    refine ⟨fun _ => ?_, fun h => by omega⟩
    rw [field_at T.t_ref04_Table.p rfl, load_cell (by kernel_rfl) (hb7.cell (o := 0 + 2) rfl)]
    refine one_c T.t_sl_int64.u T.t_int64.i rfl fun a ga w8 hga hx8 ha8 => ?_
    refine push_lm T.t_sl_int64.u T.t_int64.i rfl (hxc.ext hx8) ha8.ls (by simp; omega) (by simp; omega) fun v' g' w9 hg' hv' hc9 => ?_
    have s8 := hx8.size
    have s9 := hc9.size
    have lgb7 := hb7.lt
    rw [field_at T.t_ref04_Table.p rfl]
    refine store_cell (g := gb) (o := 2) T.t_sl_int64.i hv'.ls.cells.1 hv'.ls.cells.2 ((hb7.ext hx8).chg hc9 (fun he => by have he : gb = gx := he; omega)) (by simp) fun w10 hc10 hs10 hb10 => ?_
    simp only [binS_add]
    refine hkk _ ⟨((hx7.trans hx8).then hc9 (fun r hr he => by have he : r = gx := he; omega)).then hc10 (fun r hr he => by have he : r = gb := he; omega), by omega, v', g', by omega, hb10, ?_⟩
    rw [List.replicate_succ']
    exact hv'.chg hc10 (fun _ he => by have he : g' = gb := he; omega)
  rintro w7 kk ⟨hx7, s7, xc, gx, hgx, hb7, hxc⟩
  have hgxl : gx < w7.heap.size := LM_lt hxc (by simp; omega)
  have hC0 : IsC szs (costT [] o) (List.replicate (prodN szs).toNat o) := (isC_const hsz.2 o).congr fun t _ => (costT_nil o t).symm
  have hx07 := hx03.trans hx7
  have hT7 := hT.ext hx7
  have hxs7 := hxs3.ext hx7
  simp only [binS_lss, split_dec]
  refine ⟨fun h => by omega, fun _ => ?_⟩
  have s02 := hx02.size
  have s3 := hx3.size
  have hgxb : gx ≠ gb := by omega
  obtain ⟨S, hS⟩ : ∃ S : Nat → Prop, S = fun r => r = m ∨ r = gx := ⟨_, rfl⟩
  have hSw : ∀ r, r < w2.heap.size → ¬ S r := fun r hr h => by rw [hS] at h; rcases h with h | h <;> omega
  have hSb : ¬ S gb := by rw [hS]; rintro (h | h) <;> omega
  have hxsr : ∀ r, leads xs r → ¬ S r := fun r hr => hSw r (by
    have h1 := LM_leads hxs hr; omega)
  refine join1 (fun _ w8 => Chg S w7 w8 ∧ ∃ cs D, D.length < 256 ∧ TupAt w8 g m sv gs szs K o D ∧ LM .i64 T.t_int64 w8 gx xc cs ∧ IsC szs (costT D o) cs) ?_ ?_
  · rintro t8 w8 ⟨hc8, cs, D, hD, hT8, hxc8, hC⟩
    rw [load_struct T.t_ref04_Table.p T.t_ref04_Table.i rfl (hb7.chg hc8 hSb).range]
    have hx08 : Ext w w8 := hx07.then hc8 (fun r hr => hSw r (by omega))
    refine (uLike hT8.is hD (by omega) (LM_chg hxs7 hc8 hxsr).ls hxc8.ls hC).mono ?_
    rintro _ w9 _ ⟨rfl, hx9⟩
    exact ⟨rfl, hx08.trans hx9⟩
  intro J hJ
  have ha7 : Seen (fun r => r < w.heap.size) w7 [av] acts := rep_ext (rep_sees ha fun r hr _ => hr) hx07
  rw [len_dat T.t_sl_law05_Act.u ha7]
  refine Loop2.range acts.length (fun i _ w8 => Chg S w7 w8 ∧ ∃ cs D, D.length ≤ i ∧ i ≤ 30 ∧ TupAt w8 g m sv gs szs K o D ∧ LM .i64 T.t_int64 w8 gx xc cs ∧ IsC szs (costT D o) cs) (by have := list_le ha7; omega)
    ⟨Chg.refl _ _, _, [], Nat.le_refl _, by omega, hT7, hxc, hC0⟩ ?_ ?_
  rotate_left
  · rintro t8 w8 kk ⟨hc8, cs, D, hD, hi30, h⟩
    simp only [binS_lss, split_dec]
    exact ⟨fun h => by omega, fun _ => hJ _ _ ⟨hc8, cs, D, by omega, h⟩⟩
  rintro i t8 w8 kk hi ⟨hc8, cs, D, hD, hi30, hT8, hxc8, hC⟩ hkk
  have hx08 : Ext w w8 := hx07.then hc8 (fun r hr => hSw r (by omega))
  simp only [binS_lss, split_dec]
  refine ⟨fun _ => ?_, fun h => by omega⟩
  have ha8 := Dat.chg ha7 hc8 fun r hr h => by
    rcases h with h | h
    · exact h.elim
    · exact hSw r (by have h : r < w.heap.size := h; omega)
  obtain ⟨a, hai⟩ : ∃ a, acts[i]? = some a := ⟨_, List.getElem?_eq_getElem hi⟩
  refine get_agg (α := Act5) T.t_law05_Act.p rfl T.t_sl_law05_Act.u T.t_law05_Act.i ha8 hai fun acs hac => ?_
  obtain ⟨tv, rfl, htv⟩ := act5_cells hac
  have htvc := htv.cells
  refine alloc_c T.t_law05_Act.i fun ga w9 hga hx9 hba => ?_
  refine store_whole (vs := [tv, .int .i64 a.2]) T.t_law05_Act.i rfl rfl (by intro u hu; simp at hu; rcases hu with rfl | rfl; exact htvc.2; rfl) hba fun w10 hc10 hs10 hb10 => ?_
  have lga := hba.lt
  have hx810 : Ext w8 w10 := hx9.then hc10 (by rintro r hr rfl; omega)
  simp only [binS_geq, split_dec]
  refine ⟨fun _ => hJ _ _ ⟨hc8.trans (hx810.chg S), cs, D, by omega, hT8.ext hx810, hxc8.ext hx810, hC⟩, fun h30 => ?_⟩
  rw [field_at T.t_law05_Act.p rfl, load_cell (by kernel_rfl) (hb10.cell (o := 0 + 0) rfl), field_at T.t_law05_Act.p rfl, load_cell (by kernel_rfl) (hb10.cell (o := 0 + 0) rfl), len_ls T.t_sl_int.u (htv.ext hx810), min_int]
  refine take_ls (i := min a.1.length 5) (by omega) T.t_sl_int.u T.t_int.i (htv.ext hx810) (by omega) fun v43 h43 => ?_
  refine (sClone_ints h43 (by simp; omega)).mono ?_
  rintro v44 w11 _ ⟨hx11, g44, hg44, h44⟩
  generalize a.1.take (min a.1.length 5) = tl at *
  have hx811 := hx810.trans hx11
  have s8 := hc8.size
  have hxs8 := LM_chg hxs7 hc8 hxsr
  have hb8 := hb7.chg hc8 hSb
  refine (rIndex (hxs8.ext hx811).ls hsz h44.ls).mono ?_
  rintro _ w12 _ ⟨rfl, hx12⟩
  have hx812 := hx811.trans hx12
  have hw := where_val (t := tl) hsz.2
  generalize whereT (allT szs) tl = at_ at *
  have hx1012 := hx11.trans hx12
  refine join1 (fun ok w13 => Ext w12 w13 ∧ ∃ okb : Bool, ok = .bool okb ∧ okb = decide (0 ≤ at_ ∧ inK a.2 K)) ?_ ?_
  rotate_left
  · intro J1 hJ1
    simp only [binS_geq, split_dec]
    refine ⟨fun h => ?_, fun h => hJ1 _ _ ⟨Ext.refl _, false, rfl, by rw [decide_eq_false]; exact fun h2 => h h2.1⟩⟩
    rw [field_at T.t_law05_Act.p rfl, load_cell (by kernel_rfl) ((hb10.ext hx1012).cell (o := 0 + 1) rfl)]
    refine rIn.mono ?_
    rintro _ w23 _ ⟨rfl, hx23⟩
    exact hJ1 _ _ ⟨hx23, _, rfl, by simp [h]⟩
  rintro _ w13 ⟨hx13, okb, rfl, hokb⟩
  have hx813 := hx812.trans hx13
  have hx1013 := hx1012.trans hx13
  rw [field_at T.t_law05_Act.p rfl, load_cell (by kernel_rfl) ((hb10.ext hx1013).cell (o := 0 + 1) rfl)]
  have h4413 := (h44.ext hx12).ext hx13
  have hT13 := hT8.ext hx813
  have hxc13 := hxc8.ext hx813
  have s813 := hx813.size
  have s811 := hx810.size
  have s1113 := (hx12.trans hx13).size
  refine (uPut hT13.is h4413.ls (c := a.2)).mono ?_
  rintro pv w14 _ ⟨hbad, hok⟩
  have hok' : okb = decide (Val szs tl ∧ inK a.2 K) := by
    rw [hokb]
    rcases hw with ⟨rfl, hv⟩ | ⟨n, rfl, _, hv, _⟩
    · rw [decide_eq_false (by omega), decide_eq_false (fun h => hv h.1)]
    · congr 1
      exact propext ⟨fun h => ⟨hv, h.2⟩, fun h => ⟨by omega, h.2⟩⟩
  have hatv : (0 ≤ at_) = Val szs tl := by
    rcases hw with ⟨rfl, hv⟩ | ⟨n, rfl, _, hv, _⟩
    · exact propext ⟨fun h => by omega, fun h => absurd h hv⟩
    · exact propext ⟨fun _ => hv, fun _ => by omega⟩
  obtain ⟨e, D', rfl, he, hcm, hD', hT14, hcost⟩ : ∃ (e : Int) (D' : Told), pv = .int .i64 e ∧ (e = if okb then 0 else 3) ∧ Chg (fun r => r = m) w13 w14 ∧ D'.length ≤ i + 1 ∧ TupAt w14 g m sv gs szs K o D' ∧ ∀ s, costT D' o s = if okb then (if s = tl then a.2 else costT D o s) else costT D o s := by
    by_cases hv : Val szs tl ∧ inK a.2 K
    · obtain ⟨rfl, hc, D', hU, hT'⟩ := hok hv
      have h2 := hU.2
      rw [hok', decide_eq_true hv]
      exact ⟨0, D', rfl, rfl, hc, by omega, hT13.put hc hT', fun s => hU.cost hT13.is.nodup hT'.nodup s⟩
    · obtain ⟨rfl, hx⟩ := hbad hv
      rw [hok', decide_eq_false hv]
      exact ⟨3, D, rfl, rfl, hx.chg _, by omega, hT13.ext hx, fun s => rfl⟩
  have hcS : Chg S w13 w14 := hcm.mono fun r _ h => by rw [hS]; exact .inl h
  have h4414 := h4413.chg hcm (fun hg he => by have he : g44 = m := he; omega)
  have hxc14 := hxc13.chg hcm (fun hg he => by have he : gx = m := he; omega)
  refine join1 (fun v w15 => v = .bool false ∧ w14 = w15) ?_ ?_
  rotate_left
  · intro J2 hJ2
    simp only [binS_eql]
    rw [ne_bool T.t_bool.u]
    cases okb with
    | true =>
      have he : e = 0 := he
      subst he
      simp only [decide_true, bne_self_eq_false, split_false, un_not, Bool.not_true]
      exact hJ2 _ _ ⟨rfl, rfl⟩
    | false =>
      have he : e = 3 := he
      subst he
      simp only [show decide ((3 : Int) = 0) = false from rfl, bne_self_eq_false, split_false, un_not, Bool.not_false, split_true, binS_neq]
      exact hJ2 _ _ ⟨by simp, rfl⟩
  rintro _ _ ⟨rfl, rfl⟩
  rw [split_false]
  refine join0 (fun w16 => Chg S w14 w16 ∧ ∃ cs', TupAt w16 g m sv gs szs K o D' ∧ LM .i64 T.t_int64 w16 gx xc cs' ∧ IsC szs (costT D' o) cs' ∧ LM .i64 T.t_int w16 g44 v44 tl) ?_ ?_
  rotate_left
  · intro J3 hJ3
    cases okb with
    | false =>
      rw [split_false]
      exact hJ3 _ ⟨Chg.refl _ _, cs, hT14, hxc14, hC.congr fun s _ => (hcost s).symm, h4414⟩
    | true =>
      rw [split_true]
      have hvin := of_decide_eq_true hok'.symm
      rcases hw with ⟨_, hv⟩ | ⟨n, rfl, hidx, hv, hn⟩
      · exact absurd hvin.1 hv
      have hb14 := (hb8.ext hx813).chg hcS hSb
      have ha14 := (hb10.ext hx1013).chg hcm (fun he => by have he : ga = m := he; omega)
      rw [field_at T.t_ref04_Table.p rfl, load_cell (by kernel_rfl) (hb14.cell (o := 0 + 2) rfl), field_at T.t_law05_Act.p rfl, load_cell (by kernel_rfl) (ha14.cell (o := 0 + 1) rfl), idx_lm rfl T.t_sl_int64.u T.t_int64.i hxc14 (by rw [hC.1]; exact hn)]
      refine store_lm T.t_int64.i hxc14 (by rw [hC.1]; exact hn) fun w16 hc16 hs16 hm16 => ?_
      have hgxm : ∀ r, r = gx → S r := fun r h => by rw [hS]; exact .inr h
      refine hJ3 _ ⟨hc16.mono fun r _ h => hgxm r h, _, hT14.chg hc16 (fun h => by have h : g = gx := h; omega) (fun h => by have h : m = gx := h; omega) (fun r hr h => by have h : r = gx := h; have := hsl r hr; omega), hm16, (hC.set hsz.2 hidx hvin.2).congr fun s _ => (hcost s).symm, h4414.chg hc16 (fun _ h => by have h : g44 = gx := h; omega)⟩
  rintro w16 ⟨hc16, cs', hT16, hxc16, hC16, h4416⟩
  refine (uGet hT16.is h4416.ls).mono ?_
  rintro gv w17 _ ⟨hx17, hgok, hgno⟩
  obtain ⟨dv, e2, rfl, he2⟩ : ∃ dv e2 : Int, gv = .tuple #[.int .i64 dv, .int .i64 e2] ∧ ((Val szs tl ∧ e2 = 0) ∨ (¬ Val szs tl ∧ e2 = 3)) := by
    by_cases hv : Val szs tl
    · exact ⟨_, _, hgok hv, .inl ⟨hv, rfl⟩⟩
    · exact ⟨_, _, hgno hv, .inr ⟨hv, rfl⟩⟩
  rw [extract_tuple (v := .int .i64 dv) rfl, extract_tuple (v := .int .i64 e2) rfl]
  refine join1 (fun v w18 => v = .bool false ∧ w17 = w18) ?_ ?_
  · rintro _ _ ⟨rfl, rfl⟩
    simp only [split_false, binS_add]
    exact hkk _ _ ⟨((hc8.trans (hx813.chg S)).trans (hcS.trans hc16)).trans (hx17.chg S), cs', D', hD', by omega, hT16.ext hx17, hxc16.ext hx17, hC16⟩
  intro J4 hJ4
  simp only [binS_eql, binS_geq]
  rw [ne_bool T.t_bool.u]
  simp only [hatv]
  rcases he2 with ⟨hv, rfl⟩ | ⟨hv, rfl⟩
  · simp only [hv, decide_true, bne_self_eq_false, split_false, binS_lss]
    have : ¬ at_ < 0 := by have := hatv.symm ▸ hv; omega
    simp only [this, decide_false, split_false]
    exact hJ4 _ _ ⟨rfl, rfl⟩
  · simp only [hv, decide_false, show decide ((3 : Int) = 0) = false from rfl, bne_self_eq_false, split_false, binS_lss, split_dec, binS_neq]
    exact ⟨fun _ => hJ4 _ _ ⟨by simp, rfl⟩, fun _ => hJ4 _ _ ⟨rfl, rfl⟩⟩
end Go.Proofs.Ytahhkeljejfgfaa

