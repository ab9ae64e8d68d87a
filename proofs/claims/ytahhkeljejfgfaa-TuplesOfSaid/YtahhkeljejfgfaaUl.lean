/- TuplesRaw: what can't be made; too great a function; nil ones. -/
import Derived.Test.YtahhkeljejfgfaaUk
namespace Go.Proofs.Ytahhkeljejfgfaa
open Go Go.Vc Go.RowKit Go.Proofs Go.Proofs.Try
set_option maxRecDepth 100000

/-- an errno that tells whether -/
def errB (b : Bool) (e : Int) : Int := if b then 0 else e
theorem upd_nil_len {t : List Int} {c o : Int} {D' : Told} (h : Upd [] t c o D') : D'.length ≤ 1 ∧ (D'.length = 1 ↔ c ≠ o) := by
  have h1 : D'.length ≤ 1 := by have := h.2; simpa using this
  refine ⟨h1, fun hl hc => ?_, fun hc => ?_⟩
  · obtain ⟨p, rfl⟩ := List.length_eq_one_iff.1 hl
    rcases (h.1 p).1 (.head _) with h2 | h2
    · exact h2.1 hc
    · exact absurd h2.1 (by simp)
  · have := List.length_pos_of_mem ((h.1 (t, c)).2 (.inl ⟨hc, rfl⟩))
    omega

set_option maxHeartbeats 4000000 in
theorem lRaw5 {szv tv : Value} {l0 t0 : List Int} {k other c : Int} {w : World} (hl : LS .i64 w szv l0) (_ : -9223372036854775808 ≤ k ∧ k < 9223372036854775808) (_ : -9223372036854775808 ≤ other ∧ other < 9223372036854775808)
    (ht : LS .i64 w tv t0) (_ : -9223372036854775808 ≤ c ∧ c < 9223372036854775808) :
    Cal prog F.law05_TuplesRaw [szv, .int .i64 k, .int .i64 other, tv, .int .i64 c] w fun v w' => v = .bool true ∧ Ext w w' := by
  apply law05_TuplesRaw.enter
  unfold law05_TuplesRaw.body
  refine uAwake.mono ?_
  rintro _ w1 _ ⟨rfl, hx1⟩
  rw [un_not, Bool.not_true, split_false]
  intro w2 hx2 _ _
  have hx02 := hx1.trans hx2
  rw [len_ls T.t_sl_int.u (hl.ext hx02), min_int]
  refine take_ls (i := min l0.length 8) (by omega) T.t_sl_int.u T.t_int.i (hl.ext hx02) (by omega) fun v37 h37 => ?_
  rw [len_ls T.t_sl_int.u (ht.ext hx02), min_int]
  refine take_ls (i := min t0.length 8) (by omega) T.t_sl_int.u T.t_int.i (ht.ext hx02) (by omega) fun v43 h43 => ?_
  refine (sClone_ints h37 (by simp; omega)).mono ?_
  rintro v38 w3 _ ⟨hx3, g38, _, h38⟩
  refine ⟨.inl hx3, ?_⟩
  refine (sClone_ints (h43.ext hx3) (by simp; omega)).mono ?_
  rintro v44 w4 _ ⟨hx4, g44, _, h44⟩
  have h8 : (l0.take (min l0.length 8)).length ≤ 8 := by simp; omega
  have h8t : (t0.take (min t0.length 8)).length ≤ 8 := by simp; omega
  generalize l0.take (min l0.length 8) = L at *
  generalize t0.take (min t0.length 8) = t at *
  have h38 := h38.ext hx4
  have hx04 := (hx02.trans hx3).trans hx4
  refine (uNew h38.ls (k := k) (o := other)).mono ?_
  rintro nv w5 _ ⟨hx5, hbad, hran, hgood⟩
  have hx05 := hx04.trans hx5
  have h38 := h38.ext hx5
  have h44 := h44.ext hx5
  obtain ⟨pa, e0, rfl, hpe⟩ : ∃ pa e0, nv = .tuple #[.pointer pa, .int .i64 e0] ∧ ((¬ Sizes L ∧ pa = none ∧ e0 = 1) ∨ (Sizes L ∧ ¬ inK other k ∧ pa = none ∧ e0 = 3) ∨ (Sizes L ∧ inK other k ∧ e0 = 0 ∧ ∃ g m, pa = some ⟨g, 0, none⟩ ∧ w4.heap.size ≤ m ∧ TupIs w5 g m L k other [])) := by
    by_cases hs : Sizes L
    · by_cases hi : inK other k
      · obtain ⟨g, m, rfl, _, hm4, hT⟩ := hgood hs hi
        exact ⟨_, _, rfl, .inr (.inr ⟨hs, hi, rfl, g, m, rfl, hm4, hT⟩)⟩
      · exact ⟨_, _, hran hs hi, .inr (.inl ⟨hs, hi, rfl, rfl⟩)⟩
    · exact ⟨_, _, hbad hs, .inl ⟨hs, rfl, rfl⟩⟩
  rw [extract_tuple (v := .pointer pa) rfl, extract_tuple (v := .int .i64 e0) rfl]
  rw [len_ls T.t_sl_int.u h38.ls, binS_leq, len_ls T.t_sl_int.u h38.ls]
  refine Loop3.range L.length (fun i ok count w6 => Ext w5 w6 ∧ ∃ (okb : Bool) (n : Int), ok = .bool okb ∧ count = .int .i64 n ∧ (okb = true ↔ L.length ≤ 6 ∧ ∀ x ∈ L.take i, okSize x) ∧ (okb = true → n = prodN (L.take i))) (by omega)
    ⟨Ext.refl _, _, 1, rfl, rfl, by simp; omega, fun _ => by simp [prodN]⟩ ?_ ?_
  · rintro i _ _ w6 kk hi ⟨hx6, okb, n, rfl, rfl, hok, hn⟩ hkk
    obtain ⟨x, hxi⟩ : ∃ x, L[i]? = some x := ⟨_, List.getElem?_eq_getElem hi⟩
    have htk : L.take (i + 1) = L.take i ++ [x] := by rw [List.take_add_one, hxi]; rfl
    rw [binS_lss, split_dec]
    refine ⟨fun _ => ?_, fun h => by omega⟩
    refine join2 (fun ok' count' w7 => Ext w5 w7 ∧ ∃ (okb : Bool) (n : Int), ok' = .bool okb ∧ count' = .int .i64 n ∧ (okb = true ↔ L.length ≤ 6 ∧ ∀ x ∈ L.take (i + 1), okSize x) ∧ (okb = true → n = prodN (L.take (i + 1)))) ?_ ?_
    · rintro ok' count' w7 hI
      rw [binS_add]
      exact hkk _ _ _ hI
    intro J hJ
    rw [get_ls T.t_sl_int.u T.t_int.i (by kernel_rfl) (h38.ext hx6).ls hxi]
    refine join1 (fun ok' w8 => Ext w5 w8 ∧ ∃ okb' : Bool, ok' = .bool okb' ∧ (okb' = true ↔ okb = true ∧ okSize x)) ?_ ?_
    · rintro _ w8 ⟨hx8, okb', rfl, hok'⟩
      have hnew : okb' = true ↔ L.length ≤ 6 ∧ ∀ x ∈ L.take (i + 1), okSize x := by
        rw [hok', hok, htk]
        refine ⟨fun ⟨⟨h1, h2⟩, h3⟩ => ⟨h1, fun y hy => ?_⟩, fun ⟨h1, h2⟩ => ⟨⟨h1, fun y hy => h2 y (List.mem_append.2 (.inl hy))⟩, h2 x (List.mem_append.2 (.inr (.head _)))⟩⟩
        rcases List.mem_append.1 hy with hy | hy
        · exact h2 y hy
        · rw [List.mem_singleton.1 hy]; exact h3
      rw [split_bool]
      refine ⟨fun htr => ?_, fun hfa => hJ _ _ _ ⟨hx8, okb', n, rfl, rfl, hnew, fun h => by rw [hfa] at h; cases h⟩⟩
      have hsz : Sizes (L.take (i + 1)) := ⟨by rw [List.length_take]; have := (hnew.1 htr).1; omega, (hnew.1 htr).2⟩
      have hpb := prod_bound hsz
      have hnn := hn (hok'.1 htr).1
      have e : n * x = prodN (L.take (i + 1)) := by rw [hnn, htk, prod_snoc]
      rw [binS_mul, e, wrap_i64 (by omega) (by omega)]
      exact hJ _ _ _ ⟨hx8, okb', _, rfl, rfl, hnew, fun _ => rfl⟩
    · intro J1 hJ1
      cases okb with
      | false =>
        rw [split_false]
        exact hJ1 _ _ ⟨hx6, false, rfl, by simp⟩
      | true =>
        rw [split_true, binS_geq, split_dec]
        refine ⟨fun h1 => ?_, fun h1 => hJ1 _ _ ⟨hx6, false, rfl, by simp [okSize]; omega⟩⟩
        rw [binS_leq]
        exact hJ1 _ _ ⟨hx6, _, rfl, by simp [okSize]; omega⟩
  rintro _ _ w6 kk ⟨hx6, okb, count, rfl, rfl, hok, hcount⟩
  rw [List.take_length] at hok hcount
  have hok : okb = true ↔ Sizes L := hok
  rw [binS_lss, split_dec]
  refine ⟨fun h => by omega, fun _ => ?_⟩
  have hx06 := hx05.trans hx6
  refine join1 (fun v w9 => Ext w6 w9 ∧ ∃ b : Bool, v = .bool b ∧ (b = true ↔ ¬ (Sizes L ∧ inK other k))) ?_ ?_
  rotate_left
  · intro J hJ
    rw [un_not, split_bool]
    refine ⟨fun h => hJ _ _ ⟨Ext.refl _, true, rfl, ?_⟩, fun h => ?_⟩
    · refine ⟨fun _ h2 => ?_, fun _ => rfl⟩
      rw [hok.2 h2.1] at h; cases h
    · have hsz : Sizes L := hok.1 (by cases okb; cases h; rfl)
      refine rIn.mono ?_
      rintro _ w36 _ ⟨rfl, hx36⟩
      rw [un_not]
      exact hJ _ _ ⟨hx36, _, rfl, by simp [hsz]⟩
  rintro _ w9 ⟨hx9, b, rfl, hb⟩
  have hx09 := hx06.trans hx9
  rw [split_bool]
  refine ⟨fun htr => ?_, fun hfa => ?_⟩
  · -- it isn't made
    have hno := hb.1 htr
    refine join1 (fun v w10 => v = .int .i64 e0 ∧ w9 = w10) ?_ ?_
    · rintro _ _ ⟨rfl, rfl⟩
      refine join1 (fun v w11 => v = .bool true ∧ Ext w w11) (fun _ _ h => h) fun J hJ => ?_
      rw [binS_eql, decide_eq_true rfl, split_true, eq_ptr_nil T.t_p_tuples_Tuples.u]
      refine hJ _ _ ⟨?_, hx09⟩
      rcases hpe with ⟨_, rfl, _⟩ | ⟨_, _, rfl, _⟩ | ⟨h1, h2, _⟩
      · rfl
      · rfl
      · exact absurd ⟨h1, h2⟩ hno
    · intro J hJ
      rw [un_not, split_bool]
      rcases hpe with ⟨h1, _, rfl⟩ | ⟨h1, _, _, rfl⟩ | ⟨h1, h2, _⟩
      · exact ⟨fun _ => hJ _ _ ⟨rfl, rfl⟩, fun h => by
          have : okb = true := by cases okb; cases h; rfl
          exact absurd (hok.1 this) h1⟩
      · exact ⟨fun h => (by rw [hok.2 h1] at h; cases h), fun _ => hJ _ _ ⟨rfl, rfl⟩⟩
      · exact absurd ⟨h1, h2⟩ hno
  -- it is
  have hyes : Sizes L ∧ inK other k := Classical.byContradiction fun h => by rw [hb.2 h] at hfa; cases hfa
  obtain ⟨hsz, hoK⟩ := hyes
  obtain ⟨h1, _⟩ | ⟨_, h2, _⟩ | ⟨_, _, rfl, g, m, rfl, hm4, hT⟩ := hpe
  · exact absurd hsz h1
  · exact absurd hoK h2
  have hcount := hcount (hok.2 hsz)
  subst hcount
  have hpb := prod_bound hsz
  have hx59 := hx6.trans hx9
  have hT := hT.ext hx59
  have h38 := h38.ext hx59
  have h44 := h44.ext hx59
  rw [len_ls T.t_sl_int.u h44.ls, len_ls T.t_sl_int.u h38.ls, binS_eql, len_ls T.t_sl_int.u h44.ls]
  refine Loop2.range t.length (fun i inv w10 => Ext w9 w10 ∧ ∃ b : Bool, inv = .bool b ∧ (b = true ↔ L.length = t.length ∧ ∀ (j : Nat) (a v : Int), j < i → L[j]? = some a → t[j]? = some v → 0 ≤ v ∧ v < a)) (by omega)
    ⟨Ext.refl _, _, rfl, by rw [decide_eq_true_eq]; exact ⟨fun h => ⟨by omega, fun j a v hj => by omega⟩, fun h => by omega⟩⟩ ?_ ?_
  · rintro i _ w10 kk hi ⟨hx10, b, rfl, hb⟩ hkk
    obtain ⟨v, hvi⟩ : ∃ v, t[i]? = some v := ⟨_, List.getElem?_eq_getElem hi⟩
    rw [binS_lss, split_dec]
    refine ⟨fun _ => ?_, fun h => by omega⟩
    refine join1 (fun inv w11 => Ext w9 w11 ∧ ∃ b : Bool, inv = .bool b ∧ (b = true ↔ L.length = t.length ∧ ∀ (j : Nat) (a v : Int), j < i + 1 → L[j]? = some a → t[j]? = some v → 0 ≤ v ∧ v < a)) ?_ ?_
    · rintro _ w11 hI
      rw [binS_add]
      exact hkk _ _ hI
    intro J hJ
    rw [get_ls T.t_sl_int.u T.t_int.i (by kernel_rfl) (h44.ext hx10).ls hvi]
    cases b with
    | false =>
      rw [split_false]
      refine hJ _ _ ⟨hx10, false, rfl, ⟨fun h => (by cases h), fun h => ?_⟩⟩
      exact hb.2 ⟨h.1, fun j a v hj => h.2 j a v (by omega)⟩
    | true =>
      obtain ⟨hle, hall⟩ := hb.1 rfl
      obtain ⟨a, hai⟩ : ∃ a, L[i]? = some a := ⟨_, List.getElem?_eq_getElem (by omega)⟩
      have key : (0 ≤ v ∧ v < a) ↔ L.length = t.length ∧ ∀ (j : Nat) (a v : Int), j < i + 1 → L[j]? = some a → t[j]? = some v → 0 ≤ v ∧ v < a := by
        refine ⟨fun h => ⟨hle, fun j a' v' hj ha hv => ?_⟩, fun h => h.2 i a v (by omega) hai hvi⟩
        by_cases hji : j = i
        · subst hji
          rw [hai] at ha; rw [hvi] at hv
          cases ha; cases hv
          exact h
        · exact hall j a' v' (by omega) ha hv
      rw [split_true, binS_geq, split_dec]
      refine ⟨fun h0 => ?_, fun h0 => hJ _ _ ⟨hx10, false, rfl, ⟨fun h => (by cases h), fun h => absurd (key.2 h).1 h0⟩⟩⟩
      rw [get_ls T.t_sl_int.u T.t_int.i (by kernel_rfl) (h38.ext hx10).ls hai, binS_lss]
      exact hJ _ _ ⟨hx10, _, rfl, by rw [decide_eq_true_eq, ← key]; exact ⟨fun h => ⟨h0, h⟩, fun h => h.2⟩⟩
  rintro _ w10 kk ⟨hx10, inb, rfl, hinb⟩
  have hinb : inb = decide (Val L t) := by
    rw [Bool.eq_iff_iff, decide_eq_true_eq, hinb, val_iff]
    exact ⟨fun h => ⟨h.1, fun i a v ha hv => h.2 i a v (List.getElem?_eq_some_iff.1 hv).1 ha hv⟩, fun h => ⟨h.1, fun j a v _ => h.2 j a v⟩⟩
  subst hinb
  rw [binS_lss, split_dec]
  refine ⟨fun h => by omega, fun _ => ?_⟩
  have hx010 := hx09.trans hx10
  have hT := hT.ext hx10
  have h44 := h44.ext hx10
  have lmT := hT.2.1.lt
  have hlts := hT.at
  -- Put, Get, Table
  refine (uPut hT h44.ls (c := c)).mono ?_
  rintro pv w14 _ ⟨hpbad, hpok⟩
  obtain ⟨D, rfl, hc14, hT14, hcost, hDl, hD1⟩ : ∃ D : Told, pv = .int .i64 (errB (decide (Val L t ∧ inK c k)) 3) ∧ Chg (fun r => r = m) w10 w14 ∧ TupIs w14 g m L k other D ∧ (Val L t ∧ inK c k → costT D other t = c) ∧ D.length ≤ 1 ∧ (Val L t ∧ inK c k → (D.length = 1 ↔ c ≠ other)) := by
    by_cases hv : Val L t ∧ inK c k
    · obtain ⟨rfl, hc, D', hU, hT'⟩ := hpok hv
      obtain ⟨h1, h2⟩ := upd_nil_len hU
      exact ⟨D', by rw [decide_eq_true hv]; rfl, hc, hT', fun _ => by rw [hU.cost (by simp) hT'.nodup, if_pos rfl], h1, fun _ => h2⟩
    · obtain ⟨rfl, hx⟩ := hpbad hv
      exact ⟨[], by rw [decide_eq_false hv]; rfl, hx.chg _, hT.ext hx, fun h => absurd h hv, by simp, fun h => absurd h hv⟩
  have h44b := lm_putm h44 hT.2.1 hc14
  -- nothing that was there when the law was called is changed
  have s04 := hx04.size
  have hx014 : Ext w w14 := hx010.then hc14 (fun r hr he => by have he : r = m := he; omega)
  refine (uGet hT14 h44b.ls).mono ?_
  rintro gv w15 _ ⟨hx15, hgok, hgno⟩
  obtain ⟨dv, rfl, hdv⟩ : ∃ dv : Int, gv = .tuple #[.int .i64 dv, .int .i64 (errB (decide (Val L t)) 3)] ∧ (Val L t → dv = costT D other t) := by
    by_cases hv : Val L t
    · exact ⟨_, by rw [decide_eq_true hv]; exact hgok hv, fun _ => rfl⟩
    · exact ⟨_, by rw [decide_eq_false hv]; exact hgno hv, fun h => absurd h hv⟩
  rw [extract_tuple (v := .int .i64 dv) rfl, extract_tuple (v := .int .i64 (errB (decide (Val L t)) 3)) rfl]
  refine (uTable (hT14.ext hx15) (by omega)).mono ?_
  rintro tv16 w16 _ ⟨hx16, hlarge, hfit⟩
  obtain ⟨pt, rfl⟩ : ∃ pt, tv16 = .tuple #[.pointer pt, .int .i64 (errB (decide (prodN L ≤ 4096)) 5)] := by
    by_cases hp : prodN L ≤ 4096
    · obtain ⟨gt, gc, sv, cs, rfl, _⟩ := hfit hp
      exact ⟨_, by rw [decide_eq_true hp]; rfl⟩
    · exact ⟨_, by rw [decide_eq_false hp]; exact hlarge (by omega)⟩
  rw [extract_tuple (v := .pointer pt) rfl, extract_tuple (v := .int .i64 (errB (decide (prodN L ≤ 4096)) 5)) rfl]
  have hx1416 := hx15.trans hx16
  have hx016 := hx014.trans hx1416
  refine join1 (fun v w17 => v = .bool false ∧ Ext w16 w17) ?_ ?_
  · -- nil ones
    rintro _ w17 ⟨rfl, hx17⟩
    rw [split_false]
    have hx017 := hx016.trans hx17
    refine getNil.mono ?_
    rintro _ w18 _ ⟨rfl, hx18⟩
    rw [extract_tuple (v := .int .i64 0) rfl, extract_tuple (v := .int .i64 2) rfl]
    refine tableNil.mono ?_
    rintro _ w19 _ ⟨rfl, hx19⟩
    rw [extract_tuple (v := .pointer none) rfl, extract_tuple (v := .int .i64 2) rfl]
    have hx019 := (hx017.trans hx18).trans hx19
    refine join1 (fun v w20 => v = .bool true ∧ Ext w w20) (fun _ _ h => h) fun J hJ => ?_
    rw [binS_eql, decide_eq_true rfl, split_true]
    refine putNil.mono ?_
    rintro _ w21 _ ⟨rfl, hx21⟩
    rw [binS_eql, decide_eq_true rfl, split_true, binS_eql, decide_eq_true rfl, split_true, binS_eql, decide_eq_true rfl, split_true]
    refine arityNil.mono ?_
    rintro _ w22 _ ⟨rfl, hx22⟩
    refine lenNil.mono ?_
    rintro _ w23 _ ⟨rfl, hx23⟩
    rw [binS_add]
    refine linesNil.mono ?_
    rintro _ w24 _ ⟨rfl, hx24⟩
    rw [len_slice T.t_sl_tuples_Line.u, binS_add]
    refine sizesNil.mono ?_
    rintro _ w25 _ ⟨rfl, hx25⟩
    rw [len_slice T.t_sl_int.u, binS_add, binS_eql, decide_eq_true (by decide), split_true]
    refine kNil.mono ?_
    rintro _ w26 _ ⟨rfl, hx26⟩
    rw [binS_eql, decide_eq_true rfl, split_true]
    refine otherNil.mono ?_
    rintro _ w27 _ ⟨rfl, hx27⟩
    rw [binS_eql, decide_eq_true rfl, split_true]
    refine ofNil.mono ?_
    rintro _ w28 _ ⟨rfl, hx28⟩
    rw [eq_ptr_nil T.t_p_tuples_Tuples.u, Option.isNone_none, split_true]
    refine sameNil.mono ?_
    rintro _ w29 _ ⟨rfl, hx29⟩
    rw [split_true]
    refine sameNil2.mono ?_
    rintro _ w30 _ ⟨rfl, hx30⟩
    rw [un_not]
    exact hJ _ _ ⟨rfl, (((((((((hx019.trans hx21).trans hx22).trans hx23).trans hx24).trans hx25).trans hx26).trans hx27).trans hx28).trans hx29).trans hx30⟩
  intro J hJ
  have hlen : ∀ {w' : World}, Ext w16 w' → Cal prog F.P_tuples_Tuples_Len [.pointer (some ⟨g, 0, none⟩)] w' fun v w'' => v = .int .i64 D.length ∧ Ext w' w'' := fun hx => uLen (hT14.ext (hx1416.trans hx))
  have tail : ∀ {w' : World}, Ext w16 w' → RunQ prog (binS .eql T.t_api_Errno false true (.int .i64 (errB (decide (prodN L ≤ 4096)) 5)) (.int .i64 0)) w' fun t173 =>
      RunQ prog (binS .leq T.t_int false true (.int .i64 (prodN L)) (.int .i64 4096)) w' fun t175 =>
      RunQ prog (binS .neq T.t_bool false false t173 t175) w' fun t176 =>
      Split t176 (J (.bool true) w')
       (RunQ prog (binS .neq T.t_api_Errno false true (.int .i64 (errB (decide (prodN L ≤ 4096)) 5)) (.int .i64 0)) w' fun t180 =>
      Split t180 (RunQ prog (binS .neq T.t_api_Errno false true (.int .i64 (errB (decide (prodN L ≤ 4096)) 5)) (.int .i64 5)) w' fun t183 =>
      J t183 w')
       (J (.bool false) w')) := fun {w'} hx => by
    rw [binS_eql, binS_leq, ne_bool T.t_bool.u]
    by_cases hp : prodN L ≤ 4096
    · rw [decide_eq_true hp]
      simp only [errB, if_true, decide_true, bne_self_eq_false, split_false, binS_neq, split_dec]
      exact ⟨fun h => absurd rfl h, fun _ => hJ _ _ ⟨rfl, hx⟩⟩
    · rw [decide_eq_false hp]
      simp only [errB, Bool.false_eq_true, if_false, show decide ((5 : Int) = 0) = false from rfl, bne_self_eq_false, split_false, binS_neq, split_dec]
      exact ⟨fun _ => hJ _ _ ⟨by simp, hx⟩, fun _ => hJ _ _ ⟨rfl, hx⟩⟩
  rw [binS_eql]
  by_cases hv : Val L t
  · rw [decide_eq_true hv, split_true]
    refine rIn.mono ?_
    rintro _ w31 _ ⟨rfl, hx31⟩
    have e1 : decide (errB (decide (Val L t ∧ inK c k)) 3 = 0) = decide (inK c k) := by
      by_cases hi : inK c k
      · rw [decide_eq_true (show Val L t ∧ inK c k from ⟨hv, hi⟩), decide_eq_true hi]; rfl
      · rw [decide_eq_false (fun h : Val L t ∧ inK c k => hi h.2), decide_eq_false hi]; rfl
    rw [e1, ne_bool T.t_bool.u, bne_self_eq_false, split_false, binS_eql, ne_bool T.t_bool.u]
    rw [show (decide (errB true 3 = 0) != true) = false from rfl, split_false, binS_eql, e1, split_dec]
    refine ⟨fun hi => ?_, fun _ => tail hx31⟩
    have hdc : dv = c := by rw [hdv hv, hcost ⟨hv, hi⟩]
    rw [binS_neq, hdc, decide_eq_false (fun h => h rfl), split_false]
    refine (hlen hx31).mono ?_
    rintro _ w32 _ ⟨rfl, hx32⟩
    rw [binS_gtr, split_dec]
    refine ⟨fun h => by omega, fun _ => ?_⟩
    refine (hlen (hx31.trans hx32)).mono ?_
    rintro _ w33 _ ⟨rfl, hx33⟩
    rw [binS_eql, binS_neq, ne_bool T.t_bool.u]
    have e2 : decide ((D.length : Int) = 1) = decide (c ≠ other) := by
      rw [Bool.eq_iff_iff, decide_eq_true_eq, decide_eq_true_eq, ← hD1 ⟨hv, hi⟩]; omega
    rw [e2, bne_self_eq_false, split_false]
    exact tail ((hx31.trans hx32).trans hx33)
  · have e1 : decide (Val L t ∧ inK c k) = false := decide_eq_false fun h => hv h.1
    rw [decide_eq_false hv, split_false, e1, ne_bool T.t_bool.u, show (decide (errB false 3 = 0) != false) = false from rfl, split_false, binS_eql, ne_bool T.t_bool.u, show (decide (errB false 3 = 0) != false) = false from rfl, split_false, binS_eql, show decide (errB false 3 = 0) = false from rfl, split_false]
    exact tail (Ext.refl _)
end Go.Proofs.Ytahhkeljejfgfaa

