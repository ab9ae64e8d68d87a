/- TuplesSame: tuples are the same just if all their costs are. -/
import Derived.Test.YtahhkeljejfgfaaUj
namespace Go.Proofs.Ytahhkeljejfgfaa
open Go Go.Vc Go.RowKit Go.Proofs Go.Proofs.Try
set_option maxRecDepth 100000

theorem eq_bool {P : Program} {w : World} {t : TypeId} {cx cy : Bool} {a b : Bool} {K : Value → Prop} (ht : P.underlying t = some .bool) : RunQ P (binS .eql t cx cy (.bool a) (.bool b)) w K = K (.bool (a == b)) :=
  binS_eql' (fun _ => rfl) rfl fun w' _ => run_equalIn_bool' (P := P) (w := w') 9999 t a b ht
/-- what isn't a map stays as a map is written -/
theorem blk_putm {w w' : World} {g m : Nat} {e : TypeId} {cs : List Value} {d : List (Value × Value)} (h : Blk w g e cs) (hm : MapIs w m d) (hc : Chg (fun r => r = m) w w') : Blk w' g e cs := h.chg hc (fun he => blk_map h hm he)
theorem lm_putm {w w' : World} {g m : Nat} {k : IntKind} {e : TypeId} {v : Value} {l : List Int} {d : List (Value × Value)} (h : LM k e w g v l) (hm : MapIs w m d) (hc : Chg (fun r => r = m) w w') : LM k e w' g v l := LM_chg h hc (fun _ hr he => lm_map h hm hr he)
theorem TupAt.putm {w w' : World} {g m m2 gs : Nat} {sv : Value} {szs : List Int} {k o : Int} {D : Told} {d : List (Value × Value)} (h : TupAt w g m sv gs szs k o D) (hm : MapIs w m2 d) (hc : Chg (fun r => r = m2) w w') (hne : m ≠ m2) : TupAt w' g m sv gs szs k o D :=
  h.chg hc (fun he => blk_map h.1 hm he) (fun he => hne he) (fun _ hr he => lm_map h.2.1 hm hr he)
theorem okN {K oth : Int} (hK : 1 ≤ K ∧ K ≤ 1000) : inK (oth % (K + 1)) K := by
  have h1 := Int.emod_nonneg oth (show K + 1 ≠ 0 by omega)
  have h2 := Int.emod_lt_of_pos oth (show 0 < K + 1 by omega)
  exact ⟨by unfold right; omega, h1, by omega⟩
theorem store_ref {w : World} {g : Nat} {cs : List Value} {xs xc : Value} {szs l : List Int} {K : Int} {Q : Unit → World → Prop} (hb : Blk w g T.t_ref04_Table cs) (hc : cs.length = 3) (hs : LS .i64 w xs szs) (hx : LS .i64 w xc l)
    (h : ∀ w', Chg (fun r => r = g) w w' → w'.heap.size = w.heap.size → Blk w' g T.t_ref04_Table [xs, .int .i64 K, xc] → Q () w') : RunC prog (Instr.storeAt T.t_ref04_Table (.pointer (some ⟨g, 0, none⟩)) (.agg #[xs, .int .i64 K, xc])) w Q :=
  store_whole (vs := [xs, .int .i64 K, xc]) T.t_ref04_Table.i rfl hc (by intro u hu; simp at hu; rcases hu with rfl | rfl | rfl; exact hs.cells.2; rfl; exact hx.cells.2) hb h

set_option maxHeartbeats 4000000 in
theorem lSame5 {lv mv cv dv : Value} {l m c d : List Int} {k oth pth : Int} {same : Bool} {w : World} (hl : LS .u8 w lv l) (hl8 : ∀ x ∈ l, 0 ≤ x ∧ x < 256) (hm : LS .u8 w mv m) (hm8 : ∀ x ∈ m, 0 ≤ x ∧ x < 256) (hk : 0 ≤ k ∧ k < 65536)
    (hc : LS .u16 w cv c) (hc16 : ∀ x ∈ c, 0 ≤ x ∧ x < 65536) (hd : LS .u16 w dv d) (hd16 : ∀ x ∈ d, 0 ≤ x ∧ x < 65536) (hoth : 0 ≤ oth ∧ oth < 65536) (hpth : 0 ≤ pth ∧ pth < 65536) :
    Cal prog F.law05_TuplesSame [lv, mv, .int .u16 k, cv, dv, .int .u16 oth, .int .u16 pth, .bool same] w fun v w' => v = .bool true ∧ Ext w w' := by
  apply law05_TuplesSame.enter
  unfold law05_TuplesSame.body
  refine uAwake.mono ?_
  rintro _ w1 _ ⟨rfl, hx1⟩
  simp only [un_not, Bool.not_true, split_false]
  refine join2 (fun u v w2 => w1 = w2 ∧ ∃ ml dl, LS .u8 w u ml ∧ (∀ x ∈ ml, 0 ≤ x ∧ x < 256) ∧ LS .u16 w v dl ∧ ∀ x ∈ dl, 0 ≤ x ∧ x < 65536) ?_ ?_
  rotate_left
  · intro J hJ
    rw [split_bool]
    exact ⟨fun _ => hJ _ _ _ ⟨rfl, l, c, hl, hl8, hc, hc16⟩, fun _ => hJ _ _ _ ⟨rfl, m, d, hm, hm8, hd, hd16⟩⟩
  rintro mv dv _ ⟨rfl, m, d, hm, hm8, hd, hd16⟩
  rw [binS_rem (by decide), conv_int T.t_uint16.u T.t_int64.u, Int.tmod_eq_emod_of_nonneg hk.1, wrap_i64 (by omega) (by omega)]
  simp only [binS_add]
  rw [wrap_i64 (x := 1 + k % 6) (by omega) (by omega)]
  obtain ⟨K, hK⟩ : ∃ K, K = 1 + k % 6 := ⟨_, rfl⟩
  have hKr : right K ∧ 1 ≤ K ∧ K ≤ 6 := by unfold right; omega
  rw [← hK]
  refine (rSmall (hl.ext hx1) hl8).mono ?_
  rintro xs w3 _ ⟨hx3, gxs, hgxs, hxs⟩
  obtain ⟨hsz, hs3, hs4⟩ := smallN_sizes (l := l)
  have hple := prod_small hs3 hs4
  generalize smallN l = szs at *
  have hx03 := hx1.trans hx3
  refine (rMake hxs.ls hsz (hc.ext hx03) hc16 (by omega)).mono ?_
  rintro _ w4 _ ⟨hx4, gx, xc, rfl, hgx, hxc⟩
  have hcl : (makeC szs K c).length = (prodN szs).toNat := makeC_length _ _ _
  have hcin : ∀ x ∈ makeC szs K c, inK x K := fun x hx => by
    obtain ⟨q, _, rfl⟩ := List.mem_map.1 hx
    exact ⟨hKr.1, costN_in (by omega) _⟩
  generalize makeC szs K c = cs at *
  have hx04 := hx03.trans hx4
  refine (rSmall (hm.ext hx04) hm8).mono ?_
  rintro ys w5 _ ⟨hx5, gys, hgys, hys⟩
  obtain ⟨htz, ht3, ht4⟩ := smallN_sizes (l := m)
  have hqle := prod_small ht3 ht4
  generalize smallN m = tzs at *
  have hx05 := hx04.trans hx5
  refine (rMake hys.ls htz (hd.ext hx05) hd16 (by omega)).mono ?_
  rintro _ w6 _ ⟨hx6, gy, yc, rfl, hgy, hyc⟩
  have hdl : (makeC tzs K d).length = (prodN tzs).toNat := makeC_length _ _ _
  have hdin : ∀ x ∈ makeC tzs K d, inK x K := fun x hx => by
    obtain ⟨q, _, rfl⟩ := List.mem_map.1 hx
    exact ⟨hKr.1, costN_in (by omega) _⟩
  generalize makeC tzs K d = ds at *
  have hx06 := hx05.trans hx6
  have hxs6 := ((hxs.ext hx4).ext hx5).ext hx6
  have hxc6 := (hxc.ext hx5).ext hx6
  have hys6 := hys.ext hx6
  refine alloc_c T.t_ref04_Table.i fun gbx w7 hgbx hx7 hb7 => ?_
  refine alloc_c T.t_ref04_Table.i fun gby w8 hgby hx8 hb8 => ?_
  have l7 := hb7.lt
  have l8 := hb8.lt
  have s7 := hx7.size
  have s8 := hx8.size
  have hx68 := hx7.trans hx8
  refine store_ref (hb7.ext hx8) rfl (hxs6.ext hx68).ls (hxc6.ext hx68).ls fun w9 hc9 hs9 hbx => ?_
  have hx69 : Ext w6 w9 := hx68.then hc9 (fun r hr he => by have he : r = gbx := he; omega)
  refine store_ref (hb8.chg hc9 (fun he => by have he : gby = gbx := he; omega)) rfl (hys6.ext hx69).ls (hyc.ext hx69).ls fun w10 hc10 hs10 hby => ?_
  have hx610 : Ext w6 w10 := hx69.then hc10 (fun r hr he => by have he : r = gby := he; omega)
  have hbx := hbx.chg hc10 (fun he => by have he : gbx = gby := he; omega)
  intro w11 hx11 _ _
  have hx611 := hx610.trans hx11
  have hbx := hbx.ext hx11
  have hby := hby.ext hx11
  have hxs11 := hxs6.ext hx611
  have hxc11 := hxc6.ext hx611
  have hys11 := hys6.ext hx611
  have hyc11 := hyc.ext hx611
  rw [field_at T.t_ref04_Table.p rfl, load_cell (by kernel_rfl) (hbx.cell (o := 0 + 0) rfl), conv_int T.t_uint16.u T.t_int64.u, wrap_i64 (x := oth) (by omega) (by omega), wrap_i64 (x := K + 1) (by omega) (by omega), binS_rem (by omega), Int.tmod_eq_emod_of_nonneg hoth.1]
  have hoK := okN (K := K) (oth := oth) (by omega)
  obtain ⟨o, ho⟩ : ∃ o, o = oth % (K + 1) := ⟨_, rfl⟩
  rw [← ho] at hoK ⊢
  refine (uNew hxs11.ls).mono ?_
  rintro _ w12 _ ⟨hx12, _, _, hgood⟩
  obtain ⟨ga, ma, rfl, hga, hma, hA⟩ := hgood hsz hoK
  obtain ⟨sva, gsa, hA⟩ := hA.at
  rw [extract_tuple (v := .pointer (some ⟨ga, 0, none⟩)) rfl, extract_tuple (v := .int .i64 0) rfl]
  intro w13 hx13 _ _
  have hx1113 := hx12.trans hx13
  have hby13 := hby.ext hx1113
  rw [field_at T.t_ref04_Table.p rfl, load_cell (by kernel_rfl) (hby13.cell (o := 0 + 0) rfl), conv_int T.t_uint16.u T.t_int64.u, wrap_i64 (x := pth) (by omega) (by omega), binS_rem (by omega), Int.tmod_eq_emod_of_nonneg hpth.1]
  have hpK := okN (K := K) (oth := pth) (by omega)
  obtain ⟨p, hp⟩ : ∃ p, p = pth % (K + 1) := ⟨_, rfl⟩
  rw [← hp] at hpK ⊢
  refine (uNew (hys11.ext hx1113).ls).mono ?_
  rintro _ w14 _ ⟨hx14, _, _, hgood⟩
  obtain ⟨gb, mb, rfl, hgb, hmb, hB⟩ := hgood htz hpK
  obtain ⟨svb, gsb, hB⟩ := hB.at
  rw [extract_tuple (v := .pointer (some ⟨gb, 0, none⟩)) rfl, extract_tuple (v := .int .i64 0) rfl]
  have hx1114 := hx1113.trans hx14
  have hA14 := (hA.ext hx13).ext hx14
  have hbx14 := hbx.ext hx1114
  have hby14 := hby.ext hx1114
  have hxs14 := hxs11.ext hx1114
  have hxc14 := hxc11.ext hx1114
  have hys14 := hys11.ext hx1114
  have hyc14 := hyc11.ext hx1114
  have hx014 := (hx06.trans hx611).trans hx1114
  have lma := hA.2.2.1.lt
  have s13 := hx13.size
  have s12 := hx12.size
  have hmm : mb ≠ ma := by omega
  have s06 := hx06.size
  have s611 := hx611.size
  rw [field_at T.t_ref04_Table.p rfl, load_cell (by kernel_rfl) (hbx14.cell (o := 0 + 0) rfl)]
  refine (rAll szs hxs14.ls hsz).mono ?_
  rintro av w15 _ ⟨hx15, hav⟩
  have lma14 := hA14.2.2.1.lt
  refine putLoop (hA14.ext hx15) (rep_sees hav fun r _ h => by
    rcases h with h | h
    · have h : w14.heap.size ≤ r := h; show r ≠ ma; omega
    · exact h.elim) (hbx14.ext hx15) (hxc14.ext hx15) hcl hcin fun w16 DA hc16' hA16 hDA hCA => ?_
  have hmap15 := (hA14.ext hx15).2.2.1
  have hB16 := (hB.ext hx15).putm hmap15 hc16' hmm
  have hbx16 := blk_putm (hbx14.ext hx15) hmap15 hc16'
  have hby16 := blk_putm (hby14.ext hx15) hmap15 hc16'
  have hxs16 := lm_putm (hxs14.ext hx15) hmap15 hc16'
  have hxc16 := lm_putm (hxc14.ext hx15) hmap15 hc16'
  have hys16 := lm_putm (hys14.ext hx15) hmap15 hc16'
  have hyc16 := lm_putm (hyc14.ext hx15) hmap15 hc16'
  have hx016 : Ext w w16 := (hx014.trans hx15).then hc16' (fun r hr he => by have he : r = ma := he; omega)
  rw [field_at T.t_ref04_Table.p rfl, load_cell (by kernel_rfl) (hby16.cell (o := 0 + 0) rfl)]
  refine (rAll tzs hys16.ls htz).mono ?_
  rintro bv w18 _ ⟨hx18, hbv⟩
  have lmb16 := hB16.2.2.1.lt
  refine putLoop (hB16.ext hx18) (rep_sees hbv fun r _ h => by
    rcases h with h | h
    · have h : w16.heap.size ≤ r := h; show r ≠ mb; omega
    · exact h.elim) (hby16.ext hx18) (hyc16.ext hx18) hdl hdin fun w19 DB hc19 hB19 hDB hCB => ?_
  have hmap18 := (hB16.ext hx18).2.2.1
  have hA19 := (hA16.ext hx18).putm hmap18 hc19 hmm.symm
  have hbx19 := blk_putm (hbx16.ext hx18) hmap18 hc19
  have hby19 := blk_putm (hby16.ext hx18) hmap18 hc19
  have hxs19 := lm_putm (hxs16.ext hx18) hmap18 hc19
  have hxc19 := lm_putm (hxc16.ext hx18) hmap18 hc19
  have hys19 := lm_putm (hys16.ext hx18) hmap18 hc19
  have hyc19 := lm_putm (hyc16.ext hx18) hmap18 hc19
  have hx019 : Ext w w19 := (hx016.trans hx18).then hc19 (fun r hr he => by have he : r = mb := he; omega)
  have hsame : (szs = tzs ∧ K = K ∧ AllSame szs DA DB o p) ↔ (szs = tzs ∧ cs = ds) := by
    refine ⟨fun ⟨h1, _, h2⟩ => ?_, fun ⟨h1, h2⟩ => ?_⟩
    · subst h1
      exact ⟨rfl, (hCA.congr h2).eq hsz.2 hCB⟩
    · subst h1 h2
      exact ⟨rfl, rfl, fun t ht => by rw [← hCA.2 t ht, ← hCB.2 t ht]⟩
  have hsame2 : (tzs = szs ∧ K = K ∧ AllSame tzs DB DA p o) ↔ (szs = tzs ∧ cs = ds) := by
    refine ⟨fun ⟨h1, _, h2⟩ => ?_, fun ⟨h1, h2⟩ => ?_⟩
    · subst h1
      exact ⟨rfl, hCA.eq hsz.2 (hCB.congr h2)⟩
    · subst h1 h2
      exact ⟨rfl, rfl, fun t ht => by rw [← hCA.2 t ht, ← hCB.2 t ht]⟩
  refine join1 (fun v w21 => v = .bool (decide (szs = tzs ∧ cs = ds)) ∧ Ext w19 w21) ?_ ?_
  rotate_left
  · intro J hJ
    rw [field_at T.t_ref04_Table.p rfl, load_cell (by kernel_rfl) (hbx19.cell (o := 0 + 0) rfl), field_at T.t_ref04_Table.p rfl, load_cell (by kernel_rfl) (hby19.cell (o := 0 + 0) rfl)]
    refine (sEqual_ints hxs19.ls hys19.ls).mono ?_
    rintro _ w27 _ ⟨rfl, hx27⟩
    rw [split_dec]
    refine ⟨fun heq => ?_, fun hne => hJ _ _ ⟨by rw [decide_eq_false fun h => hne h.1], hx27⟩⟩
    rw [field_at T.t_ref04_Table.p rfl, load_cell (by kernel_rfl) ((hbx19.ext hx27).cell (o := 0 + 2) rfl), field_at T.t_ref04_Table.p rfl, load_cell (by kernel_rfl) ((hby19.ext hx27).cell (o := 0 + 2) rfl)]
    refine (sEqual_longs (hxc19.ext hx27).ls (hyc19.ext hx27).ls).mono ?_
    rintro _ w28 _ ⟨rfl, hx28⟩
    exact hJ _ _ ⟨by congr 1; simp [heq], hx27.trans hx28⟩
  rintro _ w21 ⟨rfl, hx21⟩
  refine join1 (fun v w22 => v = .bool true ∧ Ext w w22) (fun _ _ h => h) fun J2 hJ2 => ?_
  intro w23 hx23 _ _
  have hx1923 := hx21.trans hx23
  refine (uSame (hA19.ext hx1923).is (hB19.ext hx1923).is).mono ?_
  rintro _ w24 _ ⟨hx24, r, rfl, hr⟩
  have hr' : r = decide (szs = tzs ∧ cs = ds) := by rw [Bool.eq_iff_iff, hr, hsame, decide_eq_true_eq]
  subst hr'
  rw [eq_bool T.t_bool.u]
  simp only [beq_self_eq_true, split_true]
  have hx1924 := hx1923.trans hx24
  refine (uSame (hB19.ext hx1924).is (hA19.ext hx1924).is).mono ?_
  rintro _ w25 _ ⟨hx25, r, rfl, hr⟩
  have hr' : r = decide (szs = tzs ∧ cs = ds) := by rw [Bool.eq_iff_iff, hr, hsame2, decide_eq_true_eq]
  subst hr'
  rw [eq_bool T.t_bool.u]
  simp only [beq_self_eq_true, split_true]
  have hx1925 := hx1924.trans hx25
  rw [load_struct T.t_ref04_Table.p T.t_ref04_Table.i rfl (hbx19.ext hx1925).range, conv_int T.t_uint16.u T.t_int64.u, wrap_i64 (x := oth) (by omega) (by omega), binS_rem (by omega), Int.tmod_eq_emod_of_nonneg hoth.1, ← ho]
  refine (uLike (hA19.ext hx1925).is (by omega) (by omega) (hxs19.ext hx1925).ls (hxc19.ext hx1925).ls hCA).mono ?_
  rintro _ w26 _ ⟨rfl, hx26⟩
  exact hJ2 _ _ ⟨rfl, (hx019.trans hx1925).trans hx26⟩
end Go.Proofs.Ytahhkeljejfgfaa

