/- The document's table without a place. -/
import Derived.Test.YtahhkeljejfgfaaDoorL15
namespace Go.Proofs.YtahhkeljejfgfaaDoor
open Go Go.Vc Go.RowKit Go.Proofs Go.Proofs.Tryd
set_option maxRecDepth 100000

theorem empty_b {w : World} {K : Value → World → Prop} (hK : ∀ v g w', g = w.heap.size → g < w'.heap.size → Ext w w' → LM .i64 T.t_int w' g v [] → K v w') : RunC prog (Instr.buildSlice T.t_sl_int 0 #[]) w K :=
  buildSlice_c T.t_sl_int.u T.t_int.i (by omega) (cs := #[]) (by kernel_rfl) fun g w' hg hx hb => hK _ g w' hg hb.lt hx (LM.of (n := 0) (Mine.full hb rfl (by simp [maxLen])))
theorem own_int {w : World} {c : Int} : Owns (fun _ => False) (fun _ => False) w [.int .i64 c] c := rfl

set_option maxHeartbeats 1000000 in
theorem rOut {w : World} {sv cv vv : Value} {s cs vals : List Int} {k : Int} {i : Nat} (h : LS .i64 w sv s) (hs : Sizes s) (hc : LS .i64 w cv cs) (hl : cs.length = (prodN s).toNat) (hv : LS .i64 w vv vals) (hi : i < s.length)
    (hvals : ∀ v ∈ vals, 0 ≤ v ∧ v < sizeAt s i) (hple : prodN (outS s i) ≤ 1000000) :
    Cal prog F.ref04_Out [.agg #[sv, .int .i64 k, cv], .int .i64 (i : Int), vv] w fun v w' => Ext w w' ∧ ∃ xs xc bv, v = .tuple #[.agg #[xs, .int .i64 k, xc], bv] ∧
      LS .i64 w' xs (outS s i) ∧ LS .i64 w' xc (outC s cs k i vals) ∧ LS .i64 w' bv ((outL s cs k i vals).map (·.1)) := by
  have hsv := h.cells
  have hcv := hc.cells
  have hs6 := hs.1
  have hsz' : Sizes (outS s i) := hs.erase i
  have hpb := prod_bound hsz'
  have hai : sizeAt s i = s[i] := by unfold sizeAt; rw [if_pos (by omega), List.getD_eq_getElem?_getD, Int.toNat_natCast, List.getElem?_eq_getElem hi]; rfl
  apply ref04_Out.enter
  unfold ref04_Out.body
  refine box_c fun g1 w1 hg1 hx1 hb1 => ?_
  refine alloc_c T.t_ref04_Table.i fun g6 w2 hg6 hx2 hb6 => ?_
  rw [field_at T.t_ref04_Table.p rfl, load_cell (by kernel_rfl) ((hb1.ext hx2).cell (o := 0 + 1) rfl), build_eq (cs := #[.slice none 0 0, .int .i64 k, .slice none 0 0]) (by kernel_rfl)]
  refine alloc_c T.t_ref04_Table.i fun g2 w3 hg2 hx3 hb2 => ?_
  refine store_whole (vs := [.slice none 0 0, .int .i64 k, .slice none 0 0]) T.t_ref04_Table.i rfl rfl (by intro u hu; simp at hu; rcases hu with rfl | rfl | rfl <;> rfl) hb2 fun w4 hc4 hs4 hb4 => ?_
  intro w5 hx5 _ _
  have s1 := hx1.size
  have s2 := hx2.size
  have s3 := hx3.size
  have s5 := hx5.size
  have l1 := hb1.lt
  have l6 := hb6.lt
  have l2 := hb2.lt
  have hx05 : Ext w w5 := (((hx1.trans hx2).trans hx3).then hc4 (by rintro r hr rfl; omega)).trans hx5
  have hb1 : Blk w5 g1 T.t_ref04_Table [sv, .int .i64 k, cv] := (((hb1.ext hx2).ext hx3).chg hc4 (by omega)).ext hx5
  have hb6 : Blk w5 g6 T.t_ref04_Table [.slice none 0 0, .int .i64 0, .slice none 0 0] := ((hb6.ext hx3).chg hc4 (by omega)).ext hx5
  have hbu := hb4.ext hx5
  rw [field_at T.t_ref04_Table.p rfl, load_cell (by kernel_rfl) (hb1.cell (o := 0 + 0) rfl)]
  refine take_ls (i := i) rfl T.t_sl_int.u T.t_int.i (h.ext hx05) (by omega) fun v25 h25 => ?_
  rw [field_at T.t_ref04_Table.p rfl, load_cell (by kernel_rfl) (hb1.cell (o := 0 + 0) rfl)]
  simp only [binS_add]
  rw [wrap_i64 (by omega) (by omega)]
  refine drop_ls (i := i + 1) (by omega) T.t_sl_int.u T.t_int.i (h.ext hx05) (by omega) fun v31 h31 => ?_
  refine empty_b fun v21 g21 w6 hg21 lt21 hx6 h21 => ⟨.inl hx6, ?_⟩
  refine push_lm T.t_sl_int.u T.t_int.i rfl h21 (h25.ext hx6) (by simp; omega) (by simp; omega) fun v26 g26 w7 hg26 h26 hc7 => ?_
  have s6 := hx6.size
  have hx57 : Ext w5 w7 := hx6.then hc7 (by rintro r hr rfl; omega)
  refine ⟨.inl hx57, ?_⟩
  refine push_lm T.t_sl_int.u T.t_int.i rfl h26 (h31.ext hx57) (by simp; omega) (by simp; omega) fun v32 g32 w8 hg32 h32 hc8 => ?_
  have s7 := hx57.size
  have hx58 : Ext w5 w8 := hx57.then hc8 (by rintro r hr rfl; omega)
  have h32 : LM .i64 T.t_int w8 g32 v32 (outS s i) := by simpa [outS] using h32
  have hv32 := h32.ls.cells
  rw [field_at T.t_ref04_Table.p rfl]
  refine store_cell T.t_sl_int.i hv32.1 hv32.2 (hbu.ext hx58) (by simp) fun w9 hc9 hs9 hb9 => ?_
  have hb9 : Blk w9 g2 T.t_ref04_Table [v32, .int .i64 k, .slice none 0 0] := hb9
  have s8 := hx58.size
  have h329 := h32.chg hc9 (fun _ => by omega)
  have hx09 : Ext w w9 := (hx05.trans hx58).then hc9 (by rintro r hr rfl; omega)
  rw [field_at T.t_ref04_Table.p rfl, load_cell (by kernel_rfl) (hb9.cell (o := 0 + 0) rfl)]
  refine (rAll _ h329.ls hsz').mono ?_
  rintro av w10 _ ⟨hx10, hall⟩
  have s10 := hx10.size
  have hall := rep_old hall
  have hlen := allT_length hsz'.2
  rw [len_dat T.t_sl_sl_int.u hall]
  let L := outL s cs k i vals
  have hLl : L.length = (prodN (outS s i)).toNat := by simp [L, outL]
  let Lb : List Int := L.map (·.1)
  let Lc : List Int := L.map (·.2)
  have hl2 := hb9.lt
  have l32 : ∀ r, leads v32 r → w5.heap.size ≤ r ∧ r < w9.heap.size := fun r hr => by have := LM_leads h329 hr; omega
  refine Loop2.range (allT (outS s i)).length (fun q best w11 => Ext w w11 ∧ w10.heap.size ≤ w11.heap.size ∧ Blk w11 g1 T.t_ref04_Table [sv, .int .i64 k, cv] ∧ Blk w11 g6 T.t_ref04_Table [.slice none 0 0, .int .i64 0, .slice none 0 0] ∧ LM .i64 T.t_int w11 g32 v32 (outS s i) ∧
      Owns (fun r => w9.heap.size ≤ r ∧ r < w10.heap.size) Non w11 [av] (allT (outS s i)) ∧ ∃ ucv Sc Sb, Blk w11 g2 T.t_ref04_Table [v32, .int .i64 k, ucv] ∧ Owns Sc Non w11 [ucv] (Lc.take q) ∧ Owns Sb Non w11 [best] (Lb.take q) ∧
      (∀ r, Sc r → w10.heap.size ≤ r ∧ ¬ Sb r) ∧ (∀ r, Sb r → w10.heap.size ≤ r)) (by omega)
    ⟨hx09.trans hx10, Nat.le_refl _, ((hb1.ext hx58).chg hc9 (by omega)).ext hx10, ((hb6.ext hx58).chg hc9 (by omega)).ext hx10, h329.ext hx10, hall, _, Non, Non, hb9.ext hx10, list_nil, list_nil, fun _ h => h.elim, fun _ h => h.elim⟩ ?_ ?_
  · rintro q best w11 kk hq ⟨hx11, s11, hb1', hb6', h32', hall', ucv, Sc, Sb, hbu', hC, hB, hSc, hSb⟩ hkk
    simp only [binS_lss, split_dec]
    refine ⟨fun _ => ?_, fun h => by omega⟩
    have hqp : (q : Int) < prodN (outS s i) := by omega
    refine get_dat rfl rfl T.t_sl_sl_int.u T.t_sl_int.i (by kernel_rfl) hall' (all_tup hsz'.2 hqp) fun tv htv => ?_
    let x := tupN (outS s i) (q : Int)
    have hx : LS .i64 w11 tv x := see_ls htv
    have hxl : x.length = (outS s i).length := tupN_length _ _
    have hxl6 : x.length ≤ 6 := by rw [hxl]; exact hsz'.1
    have hin : i ≤ x.length := by rw [hxl]; simp [outS]; omega
    have hxv : Val (outS s i) x := tup_val hsz'.2 (by omega)
    let f : Int → Int := fun v => getC s cs (insT x i v)
    let st : Nat → Int × Int := fun j => (vals.take j).foldl (outF f) (-1, k)
    have hLq : L[q]? = some (st vals.length) := by
      simp only [L, outL, st]
      rw [List.getElem?_map, List.getElem?_range (by omega), List.take_length]
      rfl
    rw [field_at T.t_ref04_Table.p rfl, load_cell (by kernel_rfl) (hb1'.cell (o := 0 + 1) rfl), len_ls T.t_sl_int.u (hv.ext hx11)]
    refine Loop3.range vals.length (fun j c wv w12 => Ext w11 w12 ∧ c = .int .i64 (st j).2 ∧ wv = .int .i64 (st j).1) hv.le ⟨Ext.refl _, rfl, rfl⟩ ?_ ?_
    · rintro j _ _ w12 k1 hj ⟨hx12, rfl, rfl⟩ hk1
      have hx012 := hx11.trans hx12
      simp only [binS_lss, split_dec]
      refine ⟨fun _ => ?_, fun h => by omega⟩
      obtain ⟨v, hvj⟩ : ∃ v, vals[j]? = some v := ⟨_, List.getElem?_eq_getElem hj⟩
      have hstj : st (j + 1) = outF f (st j) v := foldl_take_succ _ _ hvj
      have hvin := hvals v (List.mem_of_getElem? hvj)
      refine join2 (fun c' wv' w13 => Ext w11 w13 ∧ c' = .int .i64 (st (j + 1)).2 ∧ wv' = .int .i64 (st (j + 1)).1) ?_ ?_
      · rintro _ _ w13 hI
        simp only [binS_add]
        exact hk1 _ _ _ hI
      · intro J hJ
        rw [get_ls T.t_sl_int.u T.t_int.i (by kernel_rfl) (hv.ext hx012) hvj]
        refine join1 (fun full w14 => Ext w12 w14 ∧ LS .i64 w14 full (insT x i v)) ?_ ?_
        · rintro full w14 ⟨hx14, hfull⟩
          have hx014 := hx012.trans hx14
          rw [load_struct T.t_ref04_Table.p T.t_ref04_Table.i rfl ((hb1'.ext hx12).ext hx14).range]
          obtain ⟨n, hn⟩ := val_ins (List.getElem?_eq_getElem hi) (by rw [← hai]; exact hvin) hxv
          have hbn := idxN_bound hs.2 hn
          simp only [Int.zero_mul, Int.zero_add, Int.one_mul] at hbn
          have hfn : f v = cs.getD n.toNat 0 := by show getC s cs (insT x i v) = _; unfold getC; rw [hn]
          refine (rGet (n := n.toNat) (c := f v) (h.ext hx014) hs (hc.ext hx014) hfull (by rw [hn]; congr 1; omega) (by rw [hfn, List.getD_eq_getElem?_getD, List.getElem?_eq_getElem (by omega)]; rfl)).mono ?_
          rintro _ w15 _ ⟨rfl, hx15⟩
          refine join1 (fun t w16 => w15 = w16 ∧ t = .bool (decide ((st j).1 < 0 ∨ f v < (st j).2))) ?_ ?_
          · rintro _ _ ⟨rfl, rfl⟩
            simp only [split_dec]
            have hx1115 := (hx12.trans hx14).trans hx15
            exact ⟨fun hy => hJ _ _ _ ⟨hx1115, by rw [hstj]; unfold outF; rw [if_pos hy], by rw [hstj]; unfold outF; rw [if_pos hy]⟩,
              fun hn => hJ _ _ _ ⟨hx1115, by rw [hstj]; unfold outF; rw [if_neg hn], by rw [hstj]; unfold outF; rw [if_neg hn]⟩⟩
          · intro J2 hJ2
            simp only [binS_lss, split_dec]
            exact ⟨fun h => hJ2 _ _ ⟨rfl, by simp [h]⟩, fun h => hJ2 _ _ ⟨rfl, by simp [h]⟩⟩
        · intro J1 hJ1 w17 hx17 _ _
          have hx1117 := hx12.trans hx17
          refine take_ls (i := i) rfl T.t_sl_int.u T.t_int.i (hx.ext hx1117) hin fun v53 h53 => ?_
          refine drop_ls (i := i) rfl T.t_sl_int.u T.t_int.i (hx.ext hx1117) hin fun v60 h60 => ?_
          have fin : ∀ {wb : World} {v54 v56 : Value} {g54 : Nat} {X : Value → World → Prop}, Ext w17 wb → w17.heap.size ≤ g54 → LM .i64 T.t_int wb g54 v54 (x.take i) → LS .i64 wb v56 [v] →
              RunC prog (Builtin.append_ #[T.t_sl_int, T.t_sl_int] T.t_sl_int #[v54, v56]) wb fun t57 w21 =>
                (Ext w17 w21 ∨ Stays prog (Instr.sliceAt T.t_sl_int tv (some (.int .i64 (i : Int))) none none) v60 w21 ∧ True) ∧
                RunC prog (Builtin.append_ #[T.t_sl_int, T.t_sl_int] T.t_sl_int #[t57, v60]) w21 fun t61 w22 => J1 t61 w22 := by
            intro wb v54 v56 g54 X hxb hg54 h54 h56
            have sb := hxb.size
            refine push_lm T.t_sl_int.u T.t_int.i rfl h54 h56 (by simp; omega) (by simp; omega) fun v57 g57 w21 hg57 h57 hc21 => ?_
            have hx21 : Ext w17 w21 := hxb.then hc21 (by rintro r hr rfl; omega)
            have s21 := hx21.size
            refine ⟨.inl hx21, ?_⟩
            refine push_lm T.t_sl_int.u T.t_int.i rfl h57 (h60.ext hx21) (by simp; omega) (by simp; omega) fun v61 g61 w22 hg61 h61 hc22 => ?_
            exact hJ1 _ _ ⟨hx17.trans (hx21.then hc22 (by rintro r hr rfl; omega)), h61.ls⟩
          refine ⟨empty_b fun v50 g50 w18 hg50 lt50 hx18 h50 => ⟨.inl hx18, ?_, ?_⟩, ?_⟩
          · refine push_lm T.t_sl_int.u T.t_int.i rfl h50 (h53.ext hx18) (by simp; omega) (by simp; omega) fun v54 g54 w19 hg54 h54 hc19 => ?_
            have s18 := hx18.size
            have hx19 : Ext w17 w19 := hx18.then hc19 (by rintro r hr rfl; omega)
            refine ⟨.inl hx19, ?_⟩
            refine one_c T.t_sl_int.u T.t_int.i rfl fun v56 g56 w20 hg56 hx20 h56 => ⟨.inl (hx19.trans hx20), ?_⟩
            exact fin (g54 := g54) (X := fun _ _ => True) (hx19.trans hx20) (by omega) (by simpa using h54.ext hx20) h56.ls
          · refine one_c T.t_sl_int.u T.t_int.i rfl fun v56 g56 w23 hg56 hx23 h56 => ⟨.inl (hx18.trans hx23), ?_⟩
            have s18 := hx18.size
            have s23 := hx23.size
            refine push_lm T.t_sl_int.u T.t_int.i rfl (h50.ext hx23) (h53.ext (hx18.trans hx23)) (by simp; omega) (by simp; omega) fun v54 g54 w24 hg54 h54 hc24 => ?_
            have hx24 : Ext w17 w24 := (hx18.trans hx23).then hc24 (by rintro r hr rfl; omega)
            refine ⟨.inl hx24, ?_⟩
            exact fin (g54 := g54) (X := fun _ _ => True) hx24 (by omega) (by simpa using h54) (h56.chg hc24 (fun _ => by omega)).ls
          · refine one_c T.t_sl_int.u T.t_int.i rfl fun v56 g56 w27 hg56 hx27 h56 => ⟨.inl hx27, ?_⟩
            have s27 := hx27.size
            have l56 := LM_lt h56 (by simp)
            refine empty_b fun v50 g50 w28 hg50 lt50 hx28 h50 => ⟨.inl (hx27.trans hx28), ?_⟩
            refine push_lm T.t_sl_int.u T.t_int.i rfl h50 (h53.ext (hx27.trans hx28)) (by simp; omega) (by simp; omega) fun v54 g54 w29 hg54 h54 hc29 => ?_
            have s28 := hx28.size
            have hx29 : Ext w17 w29 := (hx27.trans hx28).then hc29 (by rintro r hr rfl; omega)
            refine ⟨.inl hx29, ?_⟩
            exact fin (g54 := g54) (X := fun _ _ => True) hx29 (by omega) (by simpa using h54) ((h56.ext hx28).chg hc29 (fun _ => by omega)).ls
    · rintro _ _ w12 k1 ⟨hx12, rfl, rfl⟩
      have s12 := hx12.size
      simp only [binS_lss, split_dec]
      refine ⟨fun h => by omega, fun _ => ?_⟩
      have hbu12 := hbu'.ext hx12
      rw [field_at T.t_ref04_Table.p rfl, load_cell (by kernel_rfl) (hbu12.cell (o := 0 + 2) rfl)]
      refine one_c T.t_sl_int64.u T.t_int64.i rfl fun v78 g78 w32 hg78 hx32 h78 => ?_
      have s32 := hx32.size
      have hxA := hx12.trans hx32
      refine push_dat (α := Int) (a := (st vals.length).2) (A := Non) T.t_sl_int64.u T.t_int64.i rfl (rep_ext (rep_old hC) hxA) h78.ls own_int (fun r _ _ h => h.elim id id) (by simp; omega) (by simp; omega) fun v79 w33 h79 hc33 => ?_
      have s33 := hc33.size
      have hcA : Chg (fun r => w10.heap.size ≤ r) w32 w33 := hc33.mono fun r _ h => (hSc r h.1).1
      have hbu33 := (hbu12.ext hx32).chg hcA (by show ¬ (w10.heap.size ≤ g2); omega)
      rw [field_at T.t_ref04_Table.p rfl]
      refine store_cell T.t_sl_int64.i (list_cells h79) (dat_one h79) hbu33 (by simp) fun w34 hc34 hs34 hb34 => ?_
      have hb34 : Blk w34 g2 T.t_ref04_Table [v32, .int .i64 k, v79] := hb34
      refine one_c T.t_sl_int.u T.t_int.i rfl fun v83 g83 w35 hg83 hx35 h83 => ?_
      have s35 := hx35.size
      have hB33 : Owns (fun r => Sb r ∧ r < w11.heap.size) Non w33 [best] (Lb.take q) := Dat.chg (rep_ext (rep_old hB) hxA) hc33 fun r hr h h2 => by
        rcases h with h | h
        · exact (hSc r h2.1).2 h.1
        · exact h
      have hB35 := rep_ext (Dat.chg hB33 hc34 fun r hr h h2 => by
        rcases h with h | h
        · have := hSb r h.1; have : r = g2 := h2; omega
        · exact h) hx35
      refine push_dat (α := Int) (a := (st vals.length).1) (A := Non) T.t_sl_int.u T.t_int.i rfl hB35 h83.ls own_int (fun r _ _ h => h.elim id id) (by simp; omega) (by simp; omega) fun v84 w36 h84 hc36 => ?_
      simp only [binS_add]
      have s36 := hc36.size
      have hcB : Chg (fun r => w10.heap.size ≤ r) w35 w36 := hc36.mono fun r _ h => hSb r h.1
      -- from the round's start to its end
      have hcAll : Chg (fun r => w10.heap.size ≤ r ∨ r = g2) w11 w36 := (((hxA.chg _).trans (hcA.mono fun r _ h => .inl h)).trans (hc34.mono fun r _ h => .inr h)).trans ((hx35.chg _).trans (hcB.mono fun r _ h => .inl h))
      refine hkk _ _ ⟨hx11.then hcAll (by intro r hr h; rcases h with h | rfl <;> omega), by omega, hb1'.chg hcAll (by show ¬ (w10.heap.size ≤ g1 ∨ g1 = g2); omega), hb6'.chg hcAll (by show ¬ (w10.heap.size ≤ g6 ∨ g6 = g2); omega), ?_,
        Dat.chg hall' hcAll (fun r hr h h2 => by
          rcases h with h | h
          · rcases h2 with h2 | h2 <;> omega
          · exact h), v79, fun r => (Sc r ∧ r < w11.heap.size) ∨ (w32.heap.size ≤ r ∧ r < w33.heap.size), fun r => (Sb r ∧ r < w11.heap.size) ∨ w35.heap.size ≤ r, (hb34.ext hx35).chg hcB (by show ¬ (w10.heap.size ≤ g2); omega), ?_, ?_, ?_, ?_⟩
      · refine LM_chg h32' hcAll fun r hr h2 => ?_
        have := l32 r hr
        rcases h2 with h2 | h2 <;> omega
      · have e : Lc.take (q + 1) = Lc.take q ++ [(st vals.length).2] := by
          rw [List.take_add_one]; simp only [Lc]; rw [List.getElem?_map, hLq]; rfl
        rw [e]
        have h1 : Owns (fun r => (Sc r ∧ r < w11.heap.size) ∨ (w32.heap.size ≤ r ∧ r < w33.heap.size)) Non w33 [v79] (Lc.take q ++ [(st vals.length).2]) := Dat.mono h79 (fun r hr h => by
          rcases h with h | h | h
          · exact .inl h
          · exact h.elim
          · exact .inr ⟨h, hr⟩) fun _ _ h => h
        refine Dat.chg (rep_ext (Dat.chg h1 hc34 fun r hr h h2 => ?_) hx35) hc36 fun r hr h h2 => ?_
        · have h2 : r = g2 := h2
          rcases h with (h | h) | h
          · have := (hSc r h.1).1; omega
          · omega
          · exact h
        · rcases h with (h | h) | h
          · exact (hSc r h.1).2 h2.1
          · have := h2.2; omega
          · exact h
      · have e : Lb.take (q + 1) = Lb.take q ++ [(st vals.length).1] := by
          rw [List.take_add_one]; simp only [Lb]; rw [List.getElem?_map, hLq]; rfl
        rw [e]
        exact Dat.mono h84 (fun r hr h => by
          rcases h with h | h | h
          · exact .inl h
          · exact h.elim
          · exact .inr h) fun _ _ h => h
      · rintro r (h | h)
        · refine ⟨(hSc r h.1).1, fun h2 => ?_⟩
          rcases h2 with h2 | h2
          · exact (hSc r h.1).2 h2.1
          · omega
        · refine ⟨by omega, fun h2 => ?_⟩
          rcases h2 with h2 | h2 <;> omega
      · rintro r (h | h)
        · exact hSb r h.1
        · omega
  · rintro best w11 kk ⟨hx11, s11, hb1', hb6', h32', hall', ucv, Sc, Sb, hbu', hC, hB, hSc, hSb⟩
    simp only [binS_lss, split_dec]
    refine ⟨fun h => by omega, fun _ => ?_⟩
    have hone := dat_one hC
    rw [load_struct T.t_ref04_Table.p T.t_ref04_Table.i rfl hbu'.range]
    refine store_whole (vs := [v32, .int .i64 k, ucv]) T.t_ref04_Table.i rfl rfl (by intro u hu; simp at hu; rcases hu with rfl | rfl | rfl; exact hv32.2; rfl; exact hone) hb6' fun w37 hc37 hs37 hb37 => ?_
    rw [res_struct T.t_ref04_Table.p T.t_ref04_Table.i rfl hb37.range]
    have eb : Lb.take (allT (outS s i)).length = Lb := List.take_of_length_le (by simp [Lb, hLl, hlen])
    have ec : Lc.take (allT (outS s i)).length = Lc := List.take_of_length_le (by simp [Lc, hLl, hlen])
    rw [eb] at hB
    rw [ec] at hC
    refine ⟨hx11.then hc37 (by rintro r hr rfl; omega), v32, ucv, best, rfl, ?_, ?_, ?_⟩
    · exact (LM_chg h32' hc37 fun r hr h2 => by
        have := l32 r hr; omega).ls
    · exact see_ls (Dat.chg hC hc37 fun r hr h h2 => by
        have h2 : r = g6 := h2
        rcases h with h | h
        · have := (hSc r h).1; omega
        · exact h)
    · exact see_ls (Dat.chg hB hc37 fun r hr h h2 => by
        have h2 : r = g6 := h2
        rcases h with h | h
        · have := hSb r h; omega
        · exact h)
end Go.Proofs.YtahhkeljejfgfaaDoor
