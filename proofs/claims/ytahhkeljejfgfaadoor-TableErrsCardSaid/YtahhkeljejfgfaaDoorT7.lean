/- TableErrs: what can't be made, or joined; a copy goes its own way; a nil table. -/
import Derived.Test.YtahhkeljejfgfaaDoorL29
import Derived.Test.YtahhkeljejfgfaaDoorP9
import Derived.Test.YtahhkeljejfgfaaDoorT3
import Derived.Test.YtahhkeljejfgfaaDoorT5
namespace Go.Proofs.YtahhkeljejfgfaaDoor
open Go Go.Vc Go.RowKit Go.Proofs Go.Proofs.Tryd
set_option maxRecDepth 100000

theorem eq_bool {P : Program} {w : World} {t : TypeId} {cx cy : Bool} {a b : Bool} {K : Value → Prop} (ht : P.underlying t = some .bool) : RunQ P (binS .eql t cx cy (.bool a) (.bool b)) w K = K (.bool (a == b)) :=
  binS_eql' (fun _ => rfl) rfl fun w' _ => run_equalIn_bool' (P := P) (w := w') 9999 t a b ht

/-- what a join answers, in one form -/
theorem join_form {w : World} {s1 c1 va s2 c2 vb : List Int} {k k2 : Int} {v : Value} {w' : World} (h : JoinAns w s1 c1 va s2 c2 vb k k2 v w') : ∃ p x e, v = .tuple #[p, x, .int .i64 e] ∧ (¬ (Fits s1 va ∧ Fits s2 vb) → e = 1) ∧
    (Fits s1 va ∧ Fits s2 vb → ∃ vars, JoinVars va vb vars ∧ (JoinOk s1 va s2 vb vars → (k ≠ k2 → e = 3) ∧ (k = k2 → Sizes (joinS s1 va s2 vb vars) → prodN (joinS s1 va s2 vb vars) ≤ 4096 → e = 0))) := by
  obtain ⟨_, h1, h2⟩ := h
  by_cases hf : Fits s1 va ∧ Fits s2 vb
  rotate_left
  · exact ⟨_, _, _, h1 hf, fun _ => rfl, fun h => absurd h hf⟩
  obtain ⟨vars, hv, hbad, hgood⟩ := h2 hf
  by_cases hok : JoinOk s1 va s2 vb vars
  rotate_left
  · exact ⟨_, _, _, hbad hok, fun _ => rfl, fun _ => ⟨vars, hv, fun h => absurd h hok⟩⟩
  obtain ⟨h3, h4, h5, h6⟩ := hgood hok
  by_cases hk : k = k2
  rotate_left
  · exact ⟨_, _, _, h3 hk, fun h => absurd hf h, fun _ => ⟨vars, hv, fun _ => ⟨fun _ => rfl, fun h => absurd h hk⟩⟩⟩
  by_cases hs : Sizes (joinS s1 va s2 vb vars)
  rotate_left
  · exact ⟨_, _, _, h4 hk hs, fun h => absurd hf h, fun _ => ⟨vars, hv, fun _ => ⟨fun h => absurd hk h, fun _ h => absurd h hs⟩⟩⟩
  by_cases hp : prodN (joinS s1 va s2 vb vars) ≤ 4096
  · obtain ⟨gu, guc, su, vx, he, _⟩ := h6 hk hs hp
    exact ⟨_, _, _, he, fun h => absurd hf h, fun _ => ⟨vars, hv, fun _ => ⟨fun h => absurd hk h, fun _ _ _ => rfl⟩⟩⟩
  · exact ⟨_, _, _, h5 hk hs (by omega), fun h => absurd hf h, fun _ => ⟨vars, hv, fun _ => ⟨fun h => absurd hk h, fun _ _ h => absurd h hp⟩⟩⟩
theorem rise_two {a b : Int} : Rise [a, b] ↔ 0 ≤ a ∧ 0 ≤ b ∧ a < b := by
  refine ⟨fun h => ⟨(h 0 a rfl).1, (h 1 b rfl).1, (h 1 b rfl).2 (by omega) a rfl⟩, fun ⟨h1, h2, h3⟩ j x hj => ?_⟩
  match j, hj with
  | 0, hj => cases hj; exact ⟨h1, fun h => by omega⟩
  | 1, hj => cases hj; exact ⟨h2, fun _ y hy => by cases hy; exact h3⟩
theorem rise_one {a : Int} (h : 0 ≤ a) : Rise [a] := fun j x hj => by
  match j, hj with
  | 0, hj => cases hj; exact ⟨h, fun h => by omega⟩

set_option maxHeartbeats 2000000 in
theorem lErrs {zv av : Value} {sizes atl : List Int} {k fill o : Int} {w : World} (hz : LS .i64 w zv sizes) (hk : -9223372036854775808 ≤ k ∧ k < 9223372036854775808) (hfill : -9223372036854775808 ≤ fill ∧ fill < 9223372036854775808) (ha : LS .i64 w av atl) (ho : 0 ≤ o ∧ o < 65536) (hlaid : Laid w) :
    Cal prog F.law04_TableErrs [zv, .int .i64 k, .int .i64 fill, av, .int .u16 o] w fun v w' => v = .bool true ∧ Ext w w' := by
  apply law04_TableErrs.enter
  unfold law04_TableErrs.body
  refine (lAwake hlaid).mono ?_
  rintro _ w1 _ ⟨rfl, hx1⟩
  simp only [un_not, Bool.not_true, split_false]
  intro w2 hx2 _ _
  have hx02 := hx1.trans hx2
  have hz2 := hz.ext hx02
  have ha2 := ha.ext hx02
  rw [len_ls T.t_sl_int.u hz2, min_int]
  refine take_ls (i := min sizes.length 4) (by omega) T.t_sl_int.u T.t_int.i hz2 (by omega) fun v45 h45 => ?_
  rw [len_ls T.t_sl_int.u ha2, min_int]
  refine take_ls (i := min atl.length 4) (by omega) T.t_sl_int.u T.t_int.i ha2 (by omega) fun v51 h51 => ?_
  obtain ⟨l, hl⟩ : ∃ l, sizes.take (min sizes.length 4) = l := ⟨_, rfl⟩
  obtain ⟨al, hal⟩ : ∃ l, atl.take (min atl.length 4) = l := ⟨_, rfl⟩
  have hll : l.length ≤ 4 := by rw [← hl, List.length_take]; omega
  have hall : al.length ≤ 4 := by rw [← hal, List.length_take]; omega
  rw [hl] at h45
  rw [hal] at h51
  refine (sClone_ints h45 (by omega)).mono ?_
  rintro v46 w3 _ ⟨hx3, g46, hg46, h46⟩
  refine ⟨.inl hx3, ?_⟩
  refine (sClone_ints (h51.ext hx3) (by omega)).mono ?_
  rintro v52 w4 _ ⟨hx4, g52, hg52, h52⟩
  have hx04 := (hx02.trans hx3).trans hx4
  refine (tNew (h46.ext hx4).ls).mono ?_
  rintro tv w5 _ ⟨hx5, n1, n5, n3, n0⟩
  have hx05 := hx04.trans hx5
  have hl5 : LS .i64 w5 v46 l := ((h46.ext hx4).ext hx5).ls
  have ha5 : LS .i64 w5 v52 al := (h52.ext hx5).ls
  have hS : Sizes l ↔ SZ l := ⟨fun h => h.2, fun h => ⟨by omega, h⟩⟩
  obtain ⟨pt, e0, rfl, hpt, hcase⟩ : ∃ (pt : Option Addr) (e0 : Int), tv = .tuple #[.pointer pt, .int .i64 e0] ∧ (pt.isNone = decide (e0 ≠ 0)) ∧
      ((e0 = 1 ∧ ¬ SZ l) ∨ (e0 = 5 ∧ SZ l ∧ ¬ prodN l ≤ 4096) ∨ (e0 = 3 ∧ SZ l ∧ prodN l ≤ 4096 ∧ ¬ inK fill k) ∨ (e0 = 0 ∧ SZ l ∧ prodN l ≤ 4096 ∧ inK fill k)) := by
    by_cases hs : SZ l
    · by_cases hp : prodN l ≤ 4096
      · by_cases hi : inK fill k
        · obtain ⟨g, gc, sv, h3, _⟩ := n0 (hS.2 hs) hp hi
          exact ⟨_, _, h3, rfl, .inr (.inr (.inr ⟨rfl, hs, hp, hi⟩))⟩
        · exact ⟨_, _, n3 (hS.2 hs) hp hi, rfl, .inr (.inr (.inl ⟨rfl, hs, hp, hi⟩))⟩
      · exact ⟨_, _, n5 (hS.2 hs) (by omega), rfl, .inr (.inl ⟨rfl, hs, hp⟩)⟩
    · exact ⟨_, _, n1 (fun h => hs (hS.1 h)), rfl, .inl ⟨rfl, hs⟩⟩
  rw [extract_tuple (v := .pointer pt) rfl, extract_tuple (v := .int .i64 e0) rfl, len_ls T.t_sl_int.u hl5]
  refine Loop3.range l.length (fun i sm cnt w6 => Ext w5 w6 ∧ ∃ c : Int, sm = .bool (decide (SZ (l.take i))) ∧ cnt = .int .i64 c ∧ (SZ (l.take i) → c = prodN (l.take i))) (by omega)
    ⟨Ext.refl _, 1, by simp [SZ], rfl, fun _ => by simp [prodN]⟩ ?_ ?_
  · rintro i _ _ w6 kk hi ⟨hx6, c, rfl, rfl, hc⟩ hkk
    simp only [binS_lss, split_dec]
    refine ⟨fun _ => ?_, fun h => by omega⟩
    obtain ⟨x, hx⟩ : ∃ x, l[i]? = some x := ⟨_, List.getElem?_eq_getElem hi⟩
    have hstep : SZ (l.take (i + 1)) ↔ SZ (l.take i) ∧ 1 ≤ x ∧ x ≤ 32 := by
      rw [List.take_add_one, hx]
      simp only [SZ, Option.toList_some, List.mem_append, List.mem_singleton]
      exact ⟨fun h => ⟨fun y hy => h y (.inl hy), h x (.inr rfl)⟩, fun h y hy => hy.elim (h.1 y) (fun hy => hy ▸ h.2)⟩
    refine join2 (fun sm cnt w7 => w6 = w7 ∧ ∃ c : Int, sm = .bool (decide (SZ (l.take (i + 1)))) ∧ cnt = .int .i64 c ∧ (SZ (l.take (i + 1)) → c = prodN (l.take (i + 1)))) ?_ ?_
    · rintro _ _ _ ⟨rfl, c', rfl, rfl, hc'⟩
      simp only [binS_add]
      exact hkk _ _ _ ⟨hx6, c', rfl, rfl, hc'⟩
    intro J hJ
    rw [get_ls T.t_sl_int.u T.t_int.i (by kernel_rfl) (hl5.ext hx6) hx]
    refine join1 (fun v w8 => w6 = w8 ∧ v = .bool (decide (SZ (l.take (i + 1))))) ?_ ?_
    · rintro _ _ ⟨rfl, rfl⟩
      simp only [split_dec, binS_mul]
      refine ⟨fun hs => ?_, fun hs => hJ _ _ _ ⟨rfl, c, rfl, rfl, fun h => absurd h hs⟩⟩
      have hp := prod_bound (l := l.take (i + 1)) ⟨by rw [List.length_take]; omega, hs⟩
      rw [prodN_take hx, ← hc (hstep.1 hs).1] at hp
      rw [wrap_i64 (by omega) (by omega)]
      exact hJ _ _ _ ⟨rfl, _, rfl, rfl, fun _ => by rw [prodN_take hx, ← hc (hstep.1 hs).1]⟩
    · intro J1 hJ1
      simp only [binS_geq, binS_leq, split_dec]
      refine ⟨fun h1 => ⟨fun h2 => ?_, fun h2 => hJ1 _ _ ⟨rfl, by rw [decide_eq_false fun h => h2 (hstep.1 h).2.1]⟩⟩, fun h1 => hJ1 _ _ ⟨rfl, by rw [decide_eq_false fun h => h1 (hstep.1 h).1]⟩⟩
      refine hJ1 _ _ ⟨rfl, ?_⟩
      congr 1
      exact decide_eq_decide.2 ⟨fun h3 => hstep.2 ⟨h1, h2, h3⟩, fun h => (hstep.1 h).2.2⟩
  · rintro _ _ w6 kk ⟨hx6, c, rfl, rfl, hc⟩
    rw [List.take_length] at hc ⊢
    simp only [binS_lss, show decide ((l.length : Int) < (l.length : Int)) = false from decide_eq_false (by omega), split_false]
    refine join1 (fun v w9 => Ext w6 w9 ∧ v = .bool (decide (SZ l ∧ prodN l ≤ 4096 ∧ inK fill k))) ?_ ?_
    rotate_left
    · intro J hJ
      simp only [binS_leq, split_dec]
      refine ⟨fun h1 => ⟨fun h2 => ?_, fun h2 => hJ _ _ ⟨Ext.refl _, by rw [decide_eq_false fun h => h2 (by rw [hc h1]; exact h.2.1)]⟩⟩, fun h1 => hJ _ _ ⟨Ext.refl _, by rw [decide_eq_false fun h => h1 h.1]⟩⟩
      refine rIn.mono ?_
      rintro _ w7 _ ⟨rfl, hx7⟩
      rw [hc h1] at h2
      exact hJ _ _ ⟨hx7, by congr 1; exact decide_eq_decide.2 ⟨fun h => ⟨h1, h2, h⟩, fun h => h.2.2⟩⟩
    rintro _ w9 ⟨hx9, rfl⟩
    refine join1 (fun v w10 => w9 = w10 ∧ v = .bool false) ?_ ?_
    rotate_left
    · intro J hJ
      have fin := hJ (.bool false) w9 ⟨rfl, rfl⟩
      rcases hcase with ⟨rfl, hs⟩ | ⟨rfl, hs, hp⟩ | ⟨rfl, hs, hp, hi⟩ | ⟨rfl, hs, hp, hi⟩
      · simp [binS_eql, binS_neq, binS_gtr, binS_leq, ne_bool T.t_bool.u, split_true, split_false, un_not, hs, fin]
      · have hc := hc hs
        subst hc
        have hp' : 4096 < prodN l := by omega
        have hsd : decide (SZ l) = true := decide_eq_true hs
        simp [binS_eql, binS_neq, binS_gtr, binS_leq, ne_bool T.t_bool.u, split_true, split_false, un_not, hsd, hp, hp', fin]
      · have hc := hc hs
        subst hc
        have hp' : ¬ 4096 < prodN l := by omega
        have hsd : decide (SZ l) = true := decide_eq_true hs
        simp [binS_eql, binS_neq, binS_gtr, binS_leq, ne_bool T.t_bool.u, split_true, split_false, un_not, hsd, hp, hp', hi, fin]
      · have hc := hc hs
        subst hc
        have hp' : ¬ 4096 < prodN l := by omega
        have hsd : decide (SZ l) = true := decide_eq_true hs
        have hok : decide (SZ l ∧ prodN l ≤ 4096 ∧ inK fill k) = true := decide_eq_true ⟨hs, hp, hi⟩
        rw [hok]
        simp [binS_eql, binS_neq, binS_gtr, binS_leq, ne_bool T.t_bool.u, split_true, split_false, un_not, hsd, hp, hp', fin]
    rintro _ _ ⟨rfl, rfl⟩
    simp only [split_false]
    have hx09 := (hx05.trans hx6).trans hx9
    refine buildSlice_c T.t_sl_uint8.u T.t_uint8.i (by omega) (cs := #[.int .u8 1, .int .u8 2]) (by kernel_rfl) fun g129 w11 hg129 hx11 hb129 => ?_
    have h129 : LS .u8 w11 (.slice (some ⟨g129, 0, none⟩) 2 2) [1, 2] := (LM.of (k := .u8) (n := 2) (l := [1, 2]) (Mine.full hb129 rfl (by simp [maxLen]))).ls
    have hk9 : right 9 := by unfold right; omega
    refine (lMade (l := [1, 2]) (c := []) h129 (by intro x hx; simp at hx; omega) (LM.nil .u16 T.t_uint16 _ 0).ls (fun x hx => by cases hx) hk9 (by omega)).mono ?_
    rintro _ w12 _ ⟨hx12, g, gc, sv, gx, xs, xc, gs, rfl, hT, hxs, hxc, _⟩
    have hin : ∀ x ∈ makeC (smallN [1, 2]) 9 [], inK x 9 := makeC_in hk9
    have e23 : smallN [1, 2] = [2, 3] := rfl
    rw [e23] at hT hxs hxc hin
    generalize makeC [2, 3] 9 [] = cs at *
    have hsv := hxs.ls.cells
    have hcvv := hxc.ls.cells
    rw [extract_tuple (v := .pointer (some ⟨g, 0, none⟩)) rfl, extract_tuple (v := .agg #[xs, .int .i64 9, xc]) rfl]
    refine alloc_c T.t_ref04_Table.i fun gb w13 hgb hx13 hb13 => ?_
    refine store_whole (vs := [xs, .int .i64 9, xc]) T.t_ref04_Table.i rfl rfl (by intro u hu; simp at hu; rcases hu with rfl | rfl | rfl; exact hsv.2; rfl; exact hcvv.2) hb13 fun w14 hc14 hs14 hb14 => ?_
    have hx1214 : Ext w12 w14 := hx13.then hc14 (by rintro r hr rfl; omega)
    refine lits_own (l := [2]) T.t_sl_int.u T.t_int.i (by omega) rfl (by kernel_rfl) fun v134 g134 w15 hg134 hx15 h134 => ?_
    have ho2 : 0 ≤ o % 2 ∧ o % 2 ≤ 1 := by omega
    rw [binS_rem (by decide), Int.tmod_eq_emod_of_nonneg ho.1, conv_int T.t_uint16.u T.t_int64.u, wrap_i64 (by omega) (by omega)]
    rw [binS_add, wrap_i64 (by omega) (by omega)]
    refine (tNew h134.ls).mono ?_
    rintro _ w16 _ ⟨hx16, _, _, _, n0'⟩
    have hk2 : right (9 + o % 2) := by unfold right; omega
    have hsz2 : Sizes [2] := ⟨by decide, by intro x hx; simp at hx; omega⟩
    obtain ⟨g2, gc2, sv2, rfl, _, _, _, hT2⟩ := n0' hsz2 (by decide) ⟨hk2, by omega, by omega⟩
    rw [extract_tuple (v := .pointer (some ⟨g2, 0, none⟩)) rfl, extract_tuple (v := .int .i64 0) rfl]
    have hx1216 := (hx1214.trans hx15).trans hx16
    have hx516 := (((hx6.trans hx9).trans hx11).trans hx12).trans hx1216
    have hx016 := hx05.trans hx516
    have T1 := hT.ext hx1216
    have B1 := hb14.ext (hx15.trans hx16)
    have hxs16 := hxs.ls.ext hx1216
    have hxc16 := hxc.ls.ext hx1216
    have ha16 := ha5.ext hx516
    have two : al.length = 2 → ∃ a b, al = [a, b] := fun h => by
      match al, h with
      | [a, b], _ => exact ⟨a, b, rfl⟩
    refine join1 (fun v w17 => Ext w16 w17 ∧ ∃ c, v = .bool c ∧ (c = true ↔ Fits [2, 3] al)) ?_ ?_
    rotate_left
    · intro J hJ w42 hx42 _ _
      have ha42 := ha16.ext hx42
      rw [len_ls T.t_sl_int.u ha42]
      simp only [binS_eql, split_dec]
      refine ⟨fun h2 => ?_, fun h2 => hJ _ _ ⟨hx42, false, rfl, (fun h => by cases h), fun h => absurd (by have := h.1; simp only [List.length_cons, List.length_nil] at this; omega) h2⟩⟩
      have h2' : al.length = 2 := by omega
      obtain ⟨a, b, hab⟩ := two h2'
      have q0 : al[0]? = some a := by rw [hab]; rfl
      have q1 : al[1]? = some b := by rw [hab]; rfl
      rw [get_ls_at (y := 0) (i := 0) rfl T.t_sl_int.u T.t_int.i (by kernel_rfl) ha42 q0]
      simp only [binS_geq, split_dec]
      refine ⟨fun h0 => ?_, fun h0 => hJ _ _ ⟨hx42, false, rfl, (fun h => by cases h), fun h => ?_⟩⟩
      · rw [get_ls_at (y := 1) (i := 1) rfl T.t_sl_int.u T.t_int.i (by kernel_rfl) ha42 q1, get_ls_at (y := 0) (i := 0) rfl T.t_sl_int.u T.t_int.i (by kernel_rfl) ha42 q0, binS_gtr]
        refine hJ _ _ ⟨hx42, _, rfl, ?_⟩
        rw [decide_eq_true_iff]
        refine ⟨fun h => ⟨h2', ?_⟩, fun h => ?_⟩
        · rw [hab, rise_two]; omega
        · have := h.2; rw [hab, rise_two] at this; omega
      · have := h.2; rw [hab, rise_two] at this; omega
    rintro _ w17 ⟨hx17, c', rfl, hc'⟩
    refine lits_own (l := [1099511627776]) T.t_sl_int.u T.t_int.i (by omega) rfl (by kernel_rfl) fun v164 g164 w18 hg164 hx18 h164 => ?_
    have hx1618 := hx17.trans hx18
    refine (tJoin (T1.ext hx1618) (hT2.ext hx1618) (ha16.ext hx1618) h164.ls hk9 hin (fun x hx => by have := (List.mem_replicate.1 hx).2; subst this; exact ⟨hk2, by omega, by omega⟩)).mono ?_
    rintro _ w19 _ hj
    have hx19 := hj.1
    obtain ⟨jp, jx, e, rfl, hbad, hgood⟩ := join_form hj
    have hx1619 := hx1618.trans hx19
    rw [extract_tuple (v := jp) rfl, extract_tuple (v := jx) rfl, extract_tuple (v := .int .i64 e) rfl]
    have hfb : Fits [2] [1099511627776] := ⟨rfl, rise_one (by omega)⟩
    refine join1 (fun v w20 => w19 = w20 ∧ v = .int .i64 e) ?_ ?_
    rotate_left
    · intro J hJ
      simp only [un_not, split_bool]
      refine ⟨fun h => ?_, fun h => ?_⟩
      · have hnf : ¬ Fits [2, 3] al := fun hf => by have := hc'.2 hf; rw [this] at h; cases h
        exact hJ _ _ ⟨rfl, by rw [hbad fun hf => hnf hf.1]⟩
      have hct : c' = true := by cases c' <;> simp_all
      have hfa := hc'.1 hct
      obtain ⟨a, b, hab⟩ := two (by have := hfa.1; simpa using this)
      have q0 : al[0]? = some a := by rw [hab]; rfl
      have q1 : al[1]? = some b := by rw [hab]; rfl
      have ha19 := ha16.ext hx1619
      refine join1 (fun v w41 => w19 = w41 ∧ v = .bool (decide (a = 1099511627776 ∨ b = 1099511627776))) ?_ ?_
      · rintro _ _ ⟨rfl, rfl⟩
        simp only [split_dec]
        refine ⟨fun _ => hJ _ _ ⟨rfl, rfl⟩, fun hno => ?_⟩
        obtain ⟨vars, hv, hg⟩ := hgood ⟨hfa, hfb⟩
        have hjok : JoinOk [2, 3] al [2] [1099511627776] vars := fun p hp h1 h2 => by
          have h2 := List.mem_singleton.1 h2
          subst h2
          rw [hab] at h1
          simp at h1
          exact absurd (h1.imp Eq.symm Eq.symm) hno
        obtain ⟨g3, g0⟩ := hg hjok
        rw [binS_rem (by decide), Int.tmod_eq_emod_of_nonneg ho.1]
        simp only [binS_eql, split_dec]
        refine ⟨fun h1 => hJ _ _ ⟨rfl, by rw [g3 (by omega)]⟩, fun h1 => ?_⟩
        obtain ⟨hjz, hjp⟩ := join_sizes (s1 := [2, 3]) (s2 := [2]) (by intro x hx; simp at hx; omega) (by intro x hx; simp at hx; omega) (by decide) (by decide) hfa.1 hfb.1 hfa.2.up hfb.2.up hv
        exact hJ _ _ ⟨rfl, by rw [g0 (by omega) hjz hjp]⟩
      · intro J7 hJ7
        rw [get_ls_at (y := 0) (i := 0) rfl T.t_sl_int.u T.t_int.i (by kernel_rfl) ha19 q0]
        simp only [binS_eql, split_dec]
        refine ⟨fun h1 => hJ7 _ _ ⟨rfl, by rw [decide_eq_true (.inl h1)]⟩, fun h1 => ?_⟩
        rw [get_ls_at (y := 1) (i := 1) rfl T.t_sl_int.u T.t_int.i (by kernel_rfl) ha19 q1, binS_eql]
        exact hJ7 _ _ ⟨rfl, by congr 1; exact decide_eq_decide.2 ⟨.inr, fun h => h.resolve_left h1⟩⟩
    rintro _ _ ⟨rfl, rfl⟩
    have T19 := T1.ext hx1619
    refine (tCopy T19).mono ?_
    rintro _ w21 _ ⟨hx21, gy, gyc, rfl, hgy, hgyc, hY⟩
    refine lits_own (l := [0, 0]) T.t_sl_int.u T.t_int.i (by omega) rfl (by kernel_rfl) fun v191 g191 w22 hg191 hx22 h191 => ?_
    refine (tPut (c := 5) (hY.ext hx22) h191.ls).mono ?_
    rintro _ w23 _ ⟨rfl, hc23, _⟩
    have hx1923 : Ext w19 w23 := (hx21.trans hx22).then hc23 (fun r hr he => by have he : r = gyc := he; omega)
    refine nGet.mono ?_
    rintro _ w24 _ ⟨rfl, hx24⟩
    rw [extract_tuple (v := .int .i64 0) rfl, extract_tuple (v := .int .i64 2) rfl]
    refine nTurn.mono ?_
    rintro _ w25 _ ⟨rfl, hx25⟩
    rw [extract_tuple (v := .pointer none) rfl, extract_tuple (v := .int .i64 2) rfl, build_eq (cs := #[.int .u64 0, .int .i64 0]) (by kernel_rfl)]
    refine nOut.mono ?_
    rintro _ w26 _ ⟨rfl, hx26⟩
    rw [extract_tuple (v := .pointer none) rfl, extract_tuple (v := .slice none 0 0) rfl, extract_tuple (v := .int .i64 2) rfl]
    refine nJoin.mono ?_
    rintro _ w27 _ ⟨rfl, hx27⟩
    rw [noTab, extract_tuple (v := .pointer none) rfl, extract_tuple (v := .slice none 0 0) rfl, extract_tuple (v := .int .i64 2) rfl]
    have hx1927 := (((hx1923.trans hx24).trans hx25).trans hx26).trans hx27
    have hx1627 := hx1619.trans hx1927
    refine join1 (fun v w28 => Ext w27 w28 ∧ v = .bool true) ?_ ?_
    · rintro _ w28 ⟨hx28, rfl⟩
      exact ⟨rfl, (hx016.trans hx1627).trans hx28⟩
    intro J hJ
    rw [binS_eql, decide_eq_true rfl, split_true, load_struct T.t_ref04_Table.p T.t_ref04_Table.i rfl (B1.ext hx1627).range]
    refine (lLike (T1.ext hx1627) (hxs16.ext hx1627) (hxc16.ext hx1627)).mono ?_
    rintro _ w29 _ ⟨rfl, hx29⟩
    simp only [and_self, decide_true, split_true, binS_eql]
    refine nPut.mono ?_
    rintro _ w30 _ ⟨rfl, hx30⟩
    simp only [decide_true, split_true, binS_eql]
    refine nMore.mono ?_
    rintro _ w31 _ ⟨rfl, hx31⟩
    simp only [decide_true, split_true, binS_eql]
    refine nK.mono ?_
    rintro _ w32 _ ⟨rfl, hx32⟩
    simp only [decide_true, split_true, binS_eql]
    refine nEntries.mono ?_
    rintro _ w33 _ ⟨rfl, hx33⟩
    rw [len_slice T.t_sl_int64.u]
    rw [binS_eql, show decide (((0 : Nat) : Int) = 0) = true from rfl, split_true]
    refine nCopy.mono ?_
    rintro _ w34 _ ⟨rfl, hx34⟩
    rw [eq_ptr_nil T.t_p_table_Table.u]
    simp only [Option.isNone_none, split_true]
    refine nShape.mono ?_
    rintro _ w35 _ ⟨rfl, hx35⟩
    refine (sArity (LM.nil .i64 T.t_int _ 0).ls).mono ?_
    rintro _ w36 _ ⟨rfl, hx36⟩
    rw [binS_eql, show decide ((([] : List Int).length : Int) = 0) = true from rfl, split_true]
    refine nSame.mono ?_
    rintro _ w37 _ ⟨rfl, hx37⟩
    simp only [Option.isNone_none, split_true]
    refine nSame.mono ?_
    rintro _ w38 _ ⟨rfl, hx38⟩
    simp only [Option.isNone_some, un_not, Bool.not_false, split_true]
    have hx2738 := (((((((((hx29.trans hx30).trans hx31).trans hx32).trans hx33).trans hx34).trans hx35).trans hx36).trans hx37).trans hx38)
    have T38 := T1.ext (hx1627.trans hx2738)
    refine (tCopy T38).mono ?_
    rintro _ w39 _ ⟨hx39, gz, gzc, rfl, _, _, hZ⟩
    refine (tSame (T38.ext hx39) hZ).mono ?_
    rintro _ w40 _ ⟨rfl, hx40⟩
    simp only [and_self, decide_true, split_true]
    rw [eq_ptr_nil T.t_p_table_Table.u, hpt, binS_neq, eq_bool T.t_bool.u]
    exact hJ _ _ ⟨(hx2738.trans hx39).trans hx40, by simp⟩
end Go.Proofs.YtahhkeljejfgfaaDoor
