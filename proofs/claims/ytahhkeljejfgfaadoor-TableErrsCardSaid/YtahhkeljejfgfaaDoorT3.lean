/- TablePlays: whatever is put, and added, the table is the document's. -/
import Derived.Test.YtahhkeljejfgfaaDoorT2
import Derived.Test.YtahhkeljejfgfaaDoorKn
namespace Go.Proofs.YtahhkeljejfgfaaDoor
open Go Go.Vc Go.RowKit Go.Proofs Go.Proofs.Tryd
set_option maxRecDepth 100000

theorem ne_bool {P : Program} {w : World} {t : TypeId} {cx cy : Bool} {a b : Bool} {K : Value → Prop} (ht : P.underlying t = some .bool) : RunQ P (binS .neq t cx cy (.bool a) (.bool b)) w K = K (.bool (a != b)) := by
  have : (a != b) = !(a == b) := rfl
  rw [this]
  exact binS_neq' (fun _ => rfl) rfl fun w' _ => run_equalIn_bool' (P := P) (w := w') 9999 t a b ht

/-- a tuple's place; below 0: there is none -/
def atI (s t : List Int) : Int := match idxN s t 0 with
  | some n => n
  | none => -1
theorem whereT_at {s t : List Int} (hs : SZ s) : whereT (allT s) t = atI s t := whereT_eq hs
abbrev Act4 : Type := Num .u8 × List Int × Int
theorem act_cells {m : Bool} {S R : Bs} {w : World} {cs : List Value} {a : Act4} (h : Dat.rep m S R w cs a) : ∃ tv, cs = [.int .u8 a.1.val, tv, .int .i64 a.2.2] ∧ LS .i64 w tv a.2.1 := by
  obtain ⟨c, d, A, B, rfl, _, _, _, h1, h2⟩ := h
  obtain ⟨e, f, A', B', rfl, _, _, _, h3, h4⟩ := h2
  have h1 := num_cells h1
  obtain ⟨tv, rfl, h5⟩ : ∃ tv, e = [tv] ∧ Dat.rep m A' R w [tv] a.2.1 := by
    obtain ⟨v, rfl, h⟩ := id h3
    exact ⟨v, rfl, h3⟩
  have h4 : f = [.int .i64 a.2.2] := h4
  subst h1 h4
  exact ⟨tv, rfl, see_ls h5⟩

set_option maxHeartbeats 2000000 in
theorem lPlays {lv cv av : Value} {l c : List Int} {acts : List Act4} {k : Int} {w : World} (hl : LS .u8 w lv l) (h8 : ∀ x ∈ l, 0 ≤ x ∧ x < 256) (hk : 0 ≤ k ∧ k < 65536) (hc : LS .u16 w cv c) (h16 : ∀ x ∈ c, 0 ≤ x ∧ x < 65536)
    (ha : Seen Every w [av] acts) (ha8 : ∀ a ∈ acts, 0 ≤ a.1.val ∧ a.1.val < 256) (hlaid : Laid w) :
    Cal prog F.law04_TablePlays [lv, .int .u16 k, cv, av] w fun v w' => v = .bool true ∧ Ext w w' := by
  apply law04_TablePlays.enter
  unfold law04_TablePlays.body
  refine (lAwake hlaid).mono ?_
  rintro _ w1 _ ⟨rfl, hx1⟩
  simp only [un_not, Bool.not_true, split_false]
  refine (lTop hk).mono ?_
  rintro _ w2 _ ⟨rfl, hx2⟩
  have hx02 := hx1.trans hx2
  have hkr := topN_right (k := k)
  refine (lMade (hl.ext hx02) h8 (hc.ext hx02) h16 hkr.1 (by omega)).mono ?_
  rintro _ w3 _ ⟨hx3, g, gc, sv, gx, xs, xc, gs, rfl, hT, hxs, hxc, hg2, hgc2, hgx2, hxc1, hxc2, hxc3, hxs1, hxs2, hxs3⟩
  obtain ⟨hsz, hs3, hs4⟩ := smallN_sizes (l := l)
  have hple : prodN (smallN l) ≤ 64 := (prod_small hs3 hs4).2
  have hcl : (makeC (smallN l) (topN k) c).length = (prodN (smallN l)).toNat := makeC_length _ _ _
  have hcin : ∀ x ∈ makeC (smallN l) (topN k) c, inK x (topN k) := fun x hx => by
    obtain ⟨q, _, rfl⟩ := List.mem_map.1 hx
    exact ⟨hkr.1, costN_in (by have := hkr.1.1; omega) _⟩
  generalize makeC (smallN l) (topN k) c = cs0 at *
  generalize smallN l = szs at *
  generalize topN k = K at *
  have hsv := hxs.ls.cells
  have hcvv := hxc.ls.cells
  have hx03 := hx02.trans hx3
  have s02 := hx02.size
  have s3 := hx3.size
  rw [extract_tuple (v := .pointer (some ⟨g, 0, none⟩)) rfl, extract_tuple (v := .agg #[xs, .int .i64 K, xc]) rfl]
  refine alloc_c T.t_ref04_Table.i fun gb w4 hgb hx4 hb4 => ?_
  have s4 := hx4.size
  have l4 := hb4.lt
  have hpb := prod_bound hsz
  have lgx : gx < w3.heap.size := LM_lt hxc (by omega)
  have lgc : gc < w3.heap.size := by obtain ⟨⟨_, _, _, _, hq⟩, _, _, hq2⟩ := hT; exact LM_lt hq (by omega)
  refine store_whole (vs := [xs, .int .i64 K, xc]) T.t_ref04_Table.i rfl rfl (by intro u hu; simp at hu; rcases hu with rfl | rfl | rfl; exact hsv.2; rfl; exact hcvv.2) hb4 fun w5 hc5 hs5 hb5 => ?_
  have hx35 : Ext w3 w5 := hx4.then hc5 (by rintro r hr rfl; omega)
  have hx05 := hx03.trans hx35
  have hxs5 := hxs.ext hx35
  have hxc5 := hxc.ext hx35
  have hT5 := hT.ext hx35
  refine join1 (fun _ w6 => Ext w w6) (fun _ _ h => ⟨trivial, h⟩) fun J hJ => ?_
  have ha5 : Seen (fun r => r < w.heap.size) w5 [av] acts := rep_ext (rep_sees ha fun r hr _ => hr) hx05
  rw [len_dat T.t_sl_law04_Act.u ha5]
  let S : Nat → Prop := fun r => r = gc ∨ r = gx
  have sS : ∀ r, S r → w2.heap.size ≤ r ∧ r < w3.heap.size := fun r h => by rcases h with rfl | rfl <;> omega
  refine Loop2.range acts.length (fun i _ w7 => Chg S w5 w7 ∧ ∃ cs, cs.length = (prodN szs).toNat ∧ (∀ x ∈ cs, inK x K) ∧ Tab w7 g gc sv szs K cs ∧ LM .i64 T.t_int64 w7 gx xc cs) (by have := list_le ha5; omega)
    ⟨Chg.refl _ _, cs0, hcl, hcin, hT5, hxc5⟩ ?_ ?_
  · rintro i t8 w7 kk hi ⟨hc7, cs, hcl7, hcin7, hT7, hxc7⟩ hkk
    have hx07 : Ext w w7 := hx05.then hc7 (fun r hr h => by have := sS r h; omega)
    simp only [binS_lss, split_dec]
    refine ⟨fun _ => ?_, fun h => by omega⟩
    have ha7 := Dat.chg ha5 hc7 fun r hr h h2 => by
      have := sS r h2
      rcases h with h | h
      · exact h
      · omega
    obtain ⟨a, hai⟩ : ∃ a, acts[i]? = some a := ⟨_, List.getElem?_eq_getElem hi⟩
    have had := ha8 a (List.mem_of_getElem? hai)
    refine get_agg T.t_law04_Act.p rfl T.t_sl_law04_Act.u T.t_law04_Act.i ha7 hai fun acs hac => ?_
    obtain ⟨tv, rfl, htv⟩ := act_cells hac
    have htvc := htv.cells
    refine alloc_c T.t_law04_Act.i fun ga w8 hga hx8 hba => ?_
    have s8 := hx8.size
    refine store_whole (vs := [.int .u8 a.1.val, tv, .int .i64 a.2.2]) T.t_law04_Act.i rfl rfl (by intro u hu; simp at hu; rcases hu with rfl | rfl | rfl; rfl; exact htvc.2; rfl) hba fun w9 hc9 hs9 hb9 => ?_
    have hx79 : Ext w7 w9 := hx8.then hc9 (by rintro r hr rfl; omega)
    simp only [binS_geq, split_dec]
    refine ⟨fun _ => hJ _ _ (hx07.trans hx79), fun _ => ?_⟩
    rw [field_at T.t_law04_Act.p rfl, load_cell (by kernel_rfl) (hb9.cell (o := 0 + 1) rfl), field_at T.t_law04_Act.p rfl, load_cell (by kernel_rfl) (hb9.cell (o := 0 + 1) rfl), len_ls T.t_sl_int.u (htv.ext hx79), min_int]
    refine take_ls (i := min a.2.1.length 5) (by omega) T.t_sl_int.u T.t_int.i (htv.ext hx79) (by omega) fun v43 h43 => ?_
    refine (sClone_ints h43 (by simp; omega)).mono ?_
    rintro v44 w10 _ ⟨hx10, g44, hg44, h44⟩
    have s79 := hx79.size
    have s10 := hx10.size
    have s7 := hc7.size
    have s35 := hx35.size
    generalize a.2.1.take (min a.2.1.length 5) = tl at *
    have hx710 := hx79.trans hx10
    have hb5' : Blk w7 gb T.t_ref04_Table [xs, .int .i64 K, xc] := hb5.chg hc7 (fun h => by have := sS _ h; omega)
    have hxs7 : LM .i64 T.t_int w7 gs xs szs := LM_chg hxs5 hc7 (fun r hr h => by rcases h with rfl | rfl; exact hxs2 hr; exact hxs1 hr)
    rw [field_at T.t_ref04_Table.p rfl, load_cell (by kernel_rfl) ((hb5'.ext hx710).cell (o := 0 + 0) rfl)]
    refine (rIndex (hxs7.ext hx710).ls hsz h44.ls).mono ?_
    rintro _ w11 _ ⟨rfl, hx11⟩
    have hx711 := hx710.trans hx11
    have hx911 := hx10.trans hx11
    rw [whereT_at hsz.2]
    -- where it is, and whether it may be put
    obtain ⟨at_, hat, hatv⟩ : ∃ at_ : Int, atI szs tl = at_ ∧ ((at_ = -1 ∧ idxN szs tl 0 = none) ∨ ∃ n : Nat, at_ = n ∧ idxN szs tl 0 = some (n : Int) ∧ n < cs.length) := by
      unfold atI
      cases hq : idxN szs tl 0 with
      | none => exact ⟨-1, rfl, .inl ⟨rfl, rfl⟩⟩
      | some n =>
        obtain ⟨h1, h2⟩ := idx_lt hsz hcl7 hq
        exact ⟨n, rfl, .inr ⟨n.toNat, h1, by rw [← h1], h2⟩⟩
    rw [hat]
    have hba11 := hb9.ext hx911
    refine join1 (fun ok w12 => Ext w11 w12 ∧ ∃ okb : Bool, ok = .bool okb ∧ okb = decide (0 ≤ at_ ∧ inK a.2.2 K)) ?_ ?_
    · rintro _ w12 ⟨hx12, okb, rfl, hokb⟩
      have hx712 := hx711.trans hx12
      have hba12 := hba11.ext hx12
      have h4412 := (h44.ext hx11).ext hx12
      have hT12 := hT7.ext hx712
      have hxc12 := hxc7.ext hx712
      have hb512 := hb5'.ext hx712
      have hx912 := hx911.trans hx12
      -- what the rounds end in
      refine join1 (fun _ w13 => Chg S w12 w13 ∧ ∃ cs, cs.length = (prodN szs).toNat ∧ (∀ x ∈ cs, inK x K) ∧ Tab w13 g gc sv szs K cs ∧ LM .i64 T.t_int64 w13 gx xc cs) ?_ ?_
      · rintro t8' w13 ⟨hc13, cs', hcl', hcin', hT', hxc'⟩
        have hc713 : Chg S w7 w13 := (hx712.chg S).trans hc13
        rw [load_struct T.t_ref04_Table.p T.t_ref04_Table.i rfl ((hb5'.chg hc713 (fun h => by have := sS _ h; omega)).range)]
        refine (lLike hT' (LM_chg hxs7 hc713 (fun r hr h => by rcases h with rfl | rfl; exact hxs2 hr; exact hxs1 hr)).ls hxc'.ls).mono ?_
        rintro _ w14 _ ⟨rfl, hx14⟩
        simp only [and_self, decide_true, un_not, Bool.not_true, split_false, binS_add]
        exact hkk _ _ ⟨(hc7.trans hc713).trans (hx14.chg S), cs', hcl', hcin', hT'.ext hx14, hxc'.ext hx14⟩
      · intro J2 hJ2
        have same : ∀ {w' : World}, Ext w12 w' → J2 t8 w' := fun hx => hJ2 _ _ ⟨hx.chg S, cs, hcl7, hcin7, hT12.ext hx, hxc12.ext hx⟩
        rw [field_at T.t_law04_Act.p rfl, load_cell (by kernel_rfl) (hba12.cell (o := 0 + 0) rfl), binS_rem (by decide), Int.tmod_eq_emod_of_nonneg had.1]
        simp only [binS_eql, split_dec]
        refine ⟨fun h0 => ?_, fun h0 => ⟨fun h1 => ?_, fun h1 => ?_⟩⟩
        · -- Put
          rw [field_at T.t_law04_Act.p rfl, load_cell (by kernel_rfl) (hba12.cell (o := 0 + 2) rfl)]
          refine (tPut hT12 h4412.ls).mono ?_
          rintro _ w15 _ ⟨rfl, hc15, hT15⟩
          have hcS15 : Chg S w12 w15 := hc15.mono fun r _ h => .inl h
          have hxc15 := hxc12.chg hc15 (fun _ => hxc1)
          simp only [binS_eql]
          rw [ne_bool T.t_bool.u]
          rcases hatv with ⟨rfl, hno⟩ | ⟨n, rfl, hsome, hlt⟩
          · have e1 : putE szs tl K a.2.2 = 3 := by unfold putE; rw [hno]
            have e2 : putC szs tl K a.2.2 cs = cs := by unfold putC; rw [hno]
            rw [e2] at hT15
            have hok : okb = false := by rw [hokb]; exact decide_eq_false (fun h => by omega)
            simp only [e1, hok, show decide ((3 : Int) = 0) = false from rfl, bne_self_eq_false, split_false]
            exact hJ2 _ _ ⟨hcS15, cs, hcl7, hcin7, hT15, hxc15⟩
          · by_cases hin : inK a.2.2 K
            · have e1 : putE szs tl K a.2.2 = 0 := by unfold putE; rw [hsome]; simp only; rw [if_pos hin]
              have e2 : putC szs tl K a.2.2 cs = cs.set n a.2.2 := by unfold putC; rw [hsome]; simp only; rw [if_pos hin]; rfl
              rw [e2] at hT15
              have hok : okb = true := by rw [hokb]; exact decide_eq_true ⟨by omega, hin⟩
              simp only [e1, hok, decide_true, bne_self_eq_false, split_false, split_true]
              rw [field_at T.t_ref04_Table.p rfl, load_cell (by kernel_rfl) ((hb512.chg hcS15 (fun h => by have := sS _ h; omega)).cell (o := 0 + 2) rfl), field_at T.t_law04_Act.p rfl,
                load_cell (by kernel_rfl) ((hba12.chg hcS15 (fun h => by have := sS _ h; omega)).cell (o := 0 + 2) rfl), idx_lm rfl T.t_sl_int64.u T.t_int64.i hxc15 hlt]
              refine store_lm T.t_int64.i hxc15 hlt fun w16 hc16 hs16 hm16 => ?_
              refine hJ2 _ _ ⟨hcS15.trans (hc16.mono fun r _ h => .inr h), cs.set n a.2.2, by simpa using hcl7, fun x hx => ?_, hT15.chg hc16 (Ne.symm hxc2) (fun _ => Ne.symm hxc1) (fun r hr h => hxc3 (h ▸ hr)), hm16⟩
              rcases List.mem_or_eq_of_mem_set hx with hx | rfl
              · exact hcin7 x hx
              · exact hin
            · have e1 : putE szs tl K a.2.2 = 3 := by unfold putE; rw [hsome]; simp only; rw [if_neg hin]
              have e2 : putC szs tl K a.2.2 cs = cs := by unfold putC; rw [hsome]; simp only; rw [if_neg hin]
              rw [e2] at hT15
              have hok : okb = false := by rw [hokb]; exact decide_eq_false (fun h => hin h.2)
              simp only [e1, hok, show decide ((3 : Int) = 0) = false from rfl, bne_self_eq_false, split_false]
              exact hJ2 _ _ ⟨hcS15, cs, hcl7, hcin7, hT15, hxc15⟩
        · -- More
          rw [field_at T.t_law04_Act.p rfl, load_cell (by kernel_rfl) (hba12.cell (o := 0 + 2) rfl)]
          refine (tMore hT12 h4412.ls hcin7).mono ?_
          rintro _ w15 _ ⟨rfl, hc15, hT15⟩
          have hcS15 : Chg S w12 w15 := hc15.mono fun r _ h => .inl h
          have hxc15 := hxc12.chg hc15 (fun _ => hxc1)
          simp only [binS_eql]
          rw [ne_bool T.t_bool.u]
          rcases hatv with ⟨rfl, hno⟩ | ⟨n, rfl, hsome, hlt⟩
          · have e1 : putE szs tl K a.2.2 = 3 := by unfold putE; rw [hno]
            have e2 : moreC szs tl K a.2.2 cs = cs := by unfold moreC; rw [hno]
            rw [e2] at hT15
            have hok : okb = false := by rw [hokb]; exact decide_eq_false (fun h => by omega)
            simp only [e1, hok, show decide ((3 : Int) = 0) = false from rfl, bne_self_eq_false, split_false]
            exact hJ2 _ _ ⟨hcS15, cs, hcl7, hcin7, hT15, hxc15⟩
          · by_cases hin : inK a.2.2 K
            · have e1 : putE szs tl K a.2.2 = 0 := by unfold putE; rw [hsome]; simp only; rw [if_pos hin]
              have hcn : cs[n]? = some (cs.getD n 0) := by rw [List.getD_eq_getElem?_getD, List.getElem?_eq_getElem hlt]; rfl
              have e2 : moreC szs tl K a.2.2 cs = cs.set n (min (cs.getD n 0 + a.2.2) K) := by unfold moreC; rw [hsome]; simp only; rw [if_pos hin]; rfl
              rw [e2] at hT15
              have hcn0 := hcin7 _ (List.mem_of_getElem? hcn)
              have hk1 := hin.1.2
              have hi1 := hin.2
              have hi2 := hcn0.2
              have hok : okb = true := by rw [hokb]; exact decide_eq_true ⟨by omega, hin⟩
              simp only [e1, hok, decide_true, bne_self_eq_false, split_false, split_true]
              intro w18 hx18 _ _
              have hb518 := (hb512.chg hcS15 (fun h => by have := sS _ h; omega)).ext hx18
              have hba18 := (hba12.chg hcS15 (fun h => by have := sS _ h; omega)).ext hx18
              have hxc18 := hxc15.ext hx18
              rw [field_at T.t_ref04_Table.p rfl, load_cell (by kernel_rfl) (hb518.cell (o := 0 + 2) rfl), field_at T.t_ref04_Table.p rfl, load_cell (by kernel_rfl) (hb518.cell (o := 0 + 2) rfl), get_ls T.t_sl_int64.u T.t_int64.i (by kernel_rfl) hxc18.ls hcn,
                field_at T.t_law04_Act.p rfl, load_cell (by kernel_rfl) (hba18.cell (o := 0 + 2) rfl), field_at T.t_ref04_Table.p rfl, load_cell (by kernel_rfl) (hb518.cell (o := 0 + 1) rfl)]
              refine (rAdd (by omega) (by omega)).mono ?_
              rintro _ w19 _ ⟨rfl, hx19⟩
              refine ⟨.inl hx19, ?_⟩
              have hxc19 := hxc18.ext hx19
              rw [idx_lm rfl T.t_sl_int64.u T.t_int64.i hxc19 hlt]
              refine store_lm T.t_int64.i hxc19 hlt fun w20 hc20 hs20 hm20 => ?_
              refine hJ2 _ _ ⟨(hcS15.trans ((hx18.trans hx19).chg S)).trans (hc20.mono fun r _ h => .inr h), _, by simpa using hcl7, fun x hx => ?_, ((hT15.ext hx18).ext hx19).chg hc20 (Ne.symm hxc2) (fun _ => Ne.symm hxc1) (fun r hr h => hxc3 (h ▸ hr)), hm20⟩
              rcases List.mem_or_eq_of_mem_set hx with hx | rfl
              · exact hcin7 x hx
              · exact ⟨hin.1, by omega, by omega⟩
            · have e1 : putE szs tl K a.2.2 = 3 := by unfold putE; rw [hsome]; simp only; rw [if_neg hin]
              have e2 : moreC szs tl K a.2.2 cs = cs := by unfold moreC; rw [hsome]; simp only; rw [if_neg hin]
              rw [e2] at hT15
              have hok : okb = false := by rw [hokb]; exact decide_eq_false (fun h => hin h.2)
              simp only [e1, hok, show decide ((3 : Int) = 0) = false from rfl, bne_self_eq_false, split_false]
              exact hJ2 _ _ ⟨hcS15, cs, hcl7, hcin7, hT15, hxc15⟩
        · -- Get
          refine (tGet hT12 h4412.ls).mono ?_
          rintro _ w21 _ ⟨rfl, hx21⟩
          rcases hatv with ⟨rfl, hno⟩ | ⟨n, rfl, hsome, hlt⟩
          · have e1 : getV szs tl cs = .tuple #[.int .i64 0, .int .i64 3] := by unfold getV; rw [hno]
            rw [e1, extract_tuple (v := .int .i64 0) rfl, extract_tuple (v := .int .i64 3) rfl]
            refine join1 (fun v w22 => v = .bool false ∧ w21 = w22) (fun _ _ h => by obtain ⟨rfl, rfl⟩ := h; rw [split_false]; exact same hx21) fun J3 hJ3 => ?_
            simp only [binS_eql, binS_geq]
            rw [ne_bool T.t_bool.u]
            simp only [show decide ((3 : Int) = 0) = false from rfl, show decide (0 ≤ (-1 : Int)) = false from rfl, bne_self_eq_false, split_false, binS_lss, show decide ((-1 : Int) < 0) = true from rfl, split_true, binS_neq,
              show decide ((3 : Int) ≠ 3) = false from rfl, show decide ((0 : Int) ≠ 0) = false from rfl]
            exact hJ3 _ _ ⟨rfl, rfl⟩
          · have hcn : cs[n]? = some (cs.getD n 0) := by rw [List.getD_eq_getElem?_getD, List.getElem?_eq_getElem hlt]; rfl
            have e1 : getV szs tl cs = .tuple #[.int .i64 (cs.getD n 0), .int .i64 0] := by unfold getV; rw [hsome]; rfl
            rw [e1, extract_tuple (v := .int .i64 (cs.getD n 0)) rfl, extract_tuple (v := .int .i64 0) rfl]
            refine join1 (fun v w22 => v = .bool false ∧ w21 = w22) (fun _ _ h => by obtain ⟨rfl, rfl⟩ := h; rw [split_false]; exact same hx21) fun J3 hJ3 => ?_
            simp only [binS_eql, binS_geq]
            rw [ne_bool T.t_bool.u]
            simp only [decide_true, show decide (0 ≤ (n : Int)) = true from decide_eq_true (by omega), bne_self_eq_false, split_false, split_true]
            rw [field_at T.t_ref04_Table.p rfl, load_cell (by kernel_rfl) ((hb512.ext hx21).cell (o := 0 + 2) rfl), get_ls T.t_sl_int64.u T.t_int64.i (by kernel_rfl) (hxc12.ext hx21).ls hcn]
            simp only [binS_neq, ne_eq, not_true_eq_false, decide_false, split_false, binS_lss, show decide ((n : Int) < 0) = false from decide_eq_false (by omega)]
            exact hJ3 _ _ ⟨rfl, rfl⟩
    · intro J1 hJ1
      simp only [binS_geq, split_dec]
      refine ⟨fun h => ?_, fun h => hJ1 _ _ ⟨Ext.refl _, false, rfl, by rw [decide_eq_false]; exact fun h2 => h h2.1⟩⟩
      rw [field_at T.t_law04_Act.p rfl, load_cell (by kernel_rfl) (hba11.cell (o := 0 + 2) rfl), field_at T.t_ref04_Table.p rfl, load_cell (by kernel_rfl) ((hb5'.ext hx711).cell (o := 0 + 1) rfl)]
      refine rIn.mono ?_
      rintro _ w23 _ ⟨rfl, hx23⟩
      exact hJ1 _ _ ⟨hx23, _, rfl, by simp [h]⟩
  · rintro t8 w7 kk ⟨hc7, _⟩
    simp only [binS_lss, split_dec]
    exact ⟨fun h => by omega, fun _ => hJ _ _ (hx05.then hc7 (fun r hr h => by have := sS r h; omega))⟩
end Go.Proofs.YtahhkeljejfgfaaDoor
