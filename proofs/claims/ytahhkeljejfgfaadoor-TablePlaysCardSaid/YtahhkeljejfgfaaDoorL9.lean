/- The document's lists of tuples: all of them, and where one stands. -/
import Derived.Test.YtahhkeljejfgfaaDoorL1
import Derived.Test.YtahhkeljejfgfaaDoorP2
import Derived.Test.YtahhkeljejfgfaaDoorKk
namespace Go.Proofs.YtahhkeljejfgfaaDoor
open Go Go.Vc Go.RowKit Go.Proofs Go.Proofs.Tryd
set_option maxRecDepth 100000

/-- nothing is only read -/
abbrev Non : Bs := fun _ => False
/-- what is new since a world had so many blocks -/
abbrev New (n : Nat) : Bs := fun r => n ≤ r

theorem rSame {a b : List Int} {av bv : Value} {w : World} (ha : LS .i64 w av a) (hb : LS .i64 w bv b) :
    Cal prog F.ref03_Same [av, bv] w fun v w' => v = .bool (decide (a = b)) ∧ Ext w w' := by
  apply ref03_Same.enter
  unfold ref03_Same.body
  rw [len_ls T.t_sl_int.u ha, len_ls T.t_sl_int.u hb]
  simp only [binS_neq, split_dec]
  refine ⟨fun hne => ⟨?_, Ext.refl _⟩, fun heq => ?_⟩
  · rw [decide_eq_false]; rintro rfl; exact hne rfl
  · have heq : a.length = b.length := by omega
    rw [len_ls T.t_sl_int.u ha]
    refine Loop2.range a.length (fun i _ w1 => Ext w w1 ∧ a.take i = b.take i) ha.le ⟨Ext.refl _, rfl⟩ ?_ ?_
    · rintro i t4 w1 k hlt ⟨hx, htake⟩ hk
      simp only [binS_lss, split_dec, Drew]
      refine ⟨fun _ w2 hx2 _ _ => ?_, fun h => by omega⟩
      have hx := hx.trans hx2
      obtain ⟨x, hxa⟩ : ∃ x, a[i]? = some x := ⟨_, List.getElem?_eq_getElem hlt⟩
      obtain ⟨y, hyb⟩ : ∃ y, b[i]? = some y := ⟨_, List.getElem?_eq_getElem (by omega)⟩
      rw [get_ls T.t_sl_int.u T.t_int.i (by kernel_rfl) (ha.ext hx) hxa, get_ls T.t_sl_int.u T.t_int.i (by kernel_rfl) (hb.ext hx) hyb]
      simp only [binS_neq, split_dec, binS_add]
      refine ⟨fun hne => ⟨?_, hx⟩, fun hxy => hk _ _ ⟨hx, take_succ_eq htake hxa hyb (by omega)⟩⟩
      rw [decide_eq_false]; rintro rfl; rw [hxa] at hyb; cases hyb; exact hne rfl
    · rintro _ w1 k ⟨hx, htake⟩
      simp only [binS_lss, split_dec]
      refine ⟨fun h => by omega, fun _ => ⟨?_, hx⟩⟩
      rw [decide_eq_true]
      rwa [List.take_length, heq, List.take_length] at htake

def rowsT (rest : List (List Int)) (i : Nat) : List (List Int) := (List.range i).flatMap fun (v : Nat) => rest.map fun t => (v : Int) :: t
theorem rowsT_succ (rest : List (List Int)) (i : Nat) : rowsT rest (i + 1) = rowsT rest i ++ rest.map fun t => (i : Int) :: t := by
  simp [rowsT, List.range_succ]
theorem rowsT_length (rest : List (List Int)) (i : Nat) : (rowsT rest i).length = i * rest.length := by
  simp only [rowsT, List.length_flatMap, List.length_map]
  rw [List.map_const', List.length_range, List.sum_replicate_nat]

theorem rAll : ∀ (s : List Int) {sv : Value} {w : World}, LS .i64 w sv s → Sizes s →
    Cal prog F.ref03_All [sv] w fun v w' => Ext w w' ∧ Owns (New w.heap.size) Non w' [v] (allT s)
  | [], sv, w, h, hs => by
    apply ref03_All.enter
    unfold ref03_All.body
    rw [len_ls T.t_sl_int.u h]
    simp only [binS_eql, List.length_nil, Int.natCast_zero, decide_true, split_true]
    refine one_dat (α := List Int) (a := []) (cs := [.slice none 0 0]) (A := Non) T.t_sl_sl_int.u T.t_sl_int.i (by decide) rfl list_nil fun v w' hx ho _ => ⟨hx, Dat.mono ho (fun r _ h => ?_) fun _ _ h => h⟩
    exact h.elim False.elim id
  | k :: s, sv, w, h, hs => by
    have hp := prod_bound hs
    have hs' : Sizes s := hs.drop 1
    have hk := hs.2 k (.head _)
    have hal := allT_length hs'.2
    have hp' := prod_bound hs'
    obtain ⟨kn, rfl⟩ : ∃ kn : Nat, k = kn := ⟨k.toNat, by omega⟩
    have hpk : kn * (allT s).length ≤ 1073741824 := by
      have e : ((kn * (allT s).length : Nat) : Int) = prodN ((kn : Int) :: s) := by
        rw [Int.natCast_mul, hal, prodN, Int.toNat_of_nonneg (by omega)]
      omega
    apply ref03_All.enter
    unfold ref03_All.body
    rw [len_ls T.t_sl_int.u h]
    simp only [binS_eql, split_dec]
    refine ⟨fun h0 => by simp at h0; omega, fun _ => ?_⟩
    refine drop_ls (i := 1) rfl T.t_sl_int.u T.t_int.i h (by simp) fun v' h' => ?_
    refine (rAll s h' hs').mono ?_
    rintro rv w2 _ ⟨hx2, hr⟩
    have hr2 := rep_old hr
    refine Loop2.range kn (fun i out w1 => Ext w2 w1 ∧ Owns (New w2.heap.size) Non w1 [out] (rowsT (allT s) i)) (by omega) ⟨Ext.refl _, list_nil⟩ ?_ ?_
    · rintro i out w3 kk hlt ⟨hx3, ho⟩ hkk
      have hr3 := rep_ext hr hx3
      rw [get_ls_at (y := 0) (i := 0) rfl T.t_sl_int.u T.t_int.i (by kernel_rfl) (h.ext (hx2.trans hx3)) (by rfl)]
      simp only [binS_lss, split_dec]
      refine ⟨fun _ => ?_, fun h => by omega⟩
      rw [len_dat T.t_sl_sl_int.u hr3]
      refine Loop2.range (allT s).length (fun j out w1 => Ext w2 w1 ∧ Owns (New w2.heap.size) Non w1 [out] (rowsT (allT s) i ++ ((allT s).take j).map fun t => (i : Int) :: t)) (by omega) ⟨hx3, by simpa using ho⟩ ?_ ?_
      · rintro j out w4 k1 hj ⟨hx4, ho⟩ hk1
        simp only [binS_lss, split_dec]
        refine ⟨fun _ => ?_, fun h => by omega⟩
        obtain ⟨x, hxj⟩ : ∃ x, (allT s)[j]? = some x := ⟨_, List.getElem?_eq_getElem hj⟩
        have hxl : x.length ≤ 100 := by
          have := allT_len hxj; have := hs'.1; omega
        refine get_dat rfl rfl T.t_sl_sl_int.u T.t_sl_int.i (by kernel_rfl) (rep_ext hr hx4) hxj fun u hu => ?_
        refine one_c T.t_sl_int.u T.t_int.i rfl fun a ga w5 hga hx5 ha => ?_
        refine push_lm T.t_sl_int.u T.t_int.i rfl ha (see_ls (rep_ext hu hx5)) (by simp; omega) (by simp; omega) fun b gb w6 hgb hb hc6 => ?_
        have s5 := hx5.size
        have hx46 : Ext w4 w6 := hx5.then hc6 (by rintro r hr rfl; omega)
        have s6 := hx46.size
        refine one_dat (α := List Int) (a := (i : Int) :: x) (cs := [b]) (A := New w4.heap.size) (R := Non) T.t_sl_sl_int.u T.t_sl_int.i (by decide) (list_cells (lm_own hb (R := Non))) (Dat.mono (lm_own hb) (fun r _ h => by subst h; show w4.heap.size ≤ r; omega) fun _ _ h => h) fun c w7 hx7 _ hc7 => ?_
        have hx47 := hx46.trans hx7
        have s7 := hx7.size
        refine push_dat (α := List Int) (a := (i : Int) :: x) (A := New w4.heap.size) T.t_sl_sl_int.u T.t_sl_int.i rfl (rep_ext (rep_old ho) hx47) hc7 (rep_ext (Dat.mono (lm_own hb) (fun r _ h => by subst h; show w4.heap.size ≤ r; omega) fun _ _ h => h) hx7) (fun r _ h h' => ?_) ?_ ?_ fun v' w8 hv' hc8 => ?_
        · rcases h' with h' | h'
          · have := h.2; have : w4.heap.size ≤ r := h'; omega
          · exact h'
        · have hl : (rowsT (allT s) i ++ ((allT s).take j).map fun t => (i : Int) :: t).length + 1 ≤ kn * (allT s).length := by
            simp only [List.length_append, rowsT_length, List.length_map, List.length_take]
            have : (i + 1) * (allT s).length ≤ kn * (allT s).length := Nat.mul_le_mul_right _ hlt
            rw [Nat.add_mul] at this; omega
          omega
        · have hl : (rowsT (allT s) i ++ ((allT s).take j).map fun t => (i : Int) :: t).length + 1 ≤ kn * (allT s).length := by
            simp only [List.length_append, rowsT_length, List.length_map, List.length_take]
            have : (i + 1) * (allT s).length ≤ kn * (allT s).length := Nat.mul_le_mul_right _ hlt
            rw [Nat.add_mul] at this; omega
          omega
        · simp only [binS_add]
          have s4 := hx4.size
          refine hk1 _ _ ⟨(hx4.trans hx47).then hc8 (fun r hr h => ?_), ?_⟩
          · have := h.1; have : w2.heap.size ≤ r := this; omega
          · have e : rowsT (allT s) i ++ ((allT s).take (j + 1)).map (fun t => (i : Int) :: t) = (rowsT (allT s) i ++ ((allT s).take j).map fun t => (i : Int) :: t) ++ [(i : Int) :: x] := by
              rw [List.take_add_one, hxj]; simp
            rw [e]
            refine Dat.mono hv' (fun r _ h => ?_) fun _ _ h => h
            show w2.heap.size ≤ r
            rcases h with h | h | h
            · exact h.1
            · have : w4.heap.size ≤ r := h; omega
            · omega
      · rintro out w4 k1 ⟨hx4, ho⟩
        simp only [binS_lss, split_dec, binS_add]
        refine ⟨fun h => by omega, fun _ => hkk _ _ ⟨hx4, ?_⟩⟩
        rw [rowsT_succ]; simpa using ho
    · rintro out w3 kk ⟨hx3, ho⟩
      rw [get_ls_at (y := 0) (i := 0) rfl T.t_sl_int.u T.t_int.i (by kernel_rfl) (h.ext (hx2.trans hx3)) (by rfl)]
      simp only [binS_lss, split_dec]
      refine ⟨fun h => by omega, fun _ => ⟨hx2.trans hx3, ?_⟩⟩
      have s2 := hx2.size
      have e : allT ((kn : Int) :: s) = rowsT (allT s) kn := by simp [allT, rowsT]
      rw [e]
      exact Dat.mono ho (fun r _ h => by have : w2.heap.size ≤ r := h; show w.heap.size ≤ r; omega) fun _ _ h => h

/-- where a tuple stands; below 0: nowhere -/
def whereT (l : List (List Int)) (t : List Int) : Int := match l.findIdx? (· = t) with
  | some i => i
  | none => -1

theorem rIndex {s t : List Int} {sv tv : Value} {w : World} (h : LS .i64 w sv s) (hs : Sizes s) (ht : LS .i64 w tv t) :
    Cal prog F.ref03_Index [sv, tv] w fun v w' => v = .int .i64 (whereT (allT s) t) ∧ Ext w w' := by
  have hal := allT_length hs.2
  have hp := prod_bound hs
  apply ref03_Index.enter
  unfold ref03_Index.body
  refine (rAll s h hs).mono ?_
  rintro lv w1 _ ⟨hx1, hl⟩
  rw [len_dat T.t_sl_sl_int.u hl]
  refine Loop2.range (allT s).length (fun i _ w2 => Ext w1 w2 ∧ ∀ j, j < i → (allT s)[j]? ≠ some t) (by omega) ⟨Ext.refl _, fun j hj => by omega⟩ ?_ ?_
  · rintro i _ w2 k hi ⟨hx2, hno⟩ hk
    simp only [binS_lss, split_dec]
    refine ⟨fun _ => ?_, fun h => by omega⟩
    obtain ⟨x, hxi⟩ : ∃ x, (allT s)[i]? = some x := ⟨_, List.getElem?_eq_getElem hi⟩
    refine get_dat rfl rfl T.t_sl_sl_int.u T.t_sl_int.i (by kernel_rfl) (rep_ext hl hx2) hxi fun u hu => ?_
    refine (rSame (see_ls hu) (ht.ext (hx1.trans hx2))).mono ?_
    rintro _ w3 _ ⟨rfl, hx3⟩
    simp only [split_dec, binS_add]
    refine ⟨fun he => ⟨?_, (hx1.trans hx2).trans hx3⟩, fun hne => hk _ _ ⟨hx2.trans hx3, fun j hj => ?_⟩⟩
    · subst he
      have : (allT s).findIdx? (· = x) = some i := by
        rw [List.findIdx?_eq_some_iff_getElem]
        refine ⟨hi, by simpa using (List.getElem?_eq_some_iff.1 hxi).2, fun j hj => ?_⟩
        have := hno j hj
        rw [List.getElem?_eq_getElem (by omega)] at this
        simpa using this
      unfold whereT; rw [this]
    · by_cases hji : j = i
      · subst hji; rw [hxi]; intro h; exact hne (by simpa using h)
      · exact hno j (by omega)
  · rintro _ w2 k ⟨hx2, hno⟩
    simp only [binS_lss, split_dec]
    refine ⟨fun h => by omega, fun _ => ⟨?_, hx1.trans hx2⟩⟩
    have : (allT s).findIdx? (· = t) = none := by
      rw [List.findIdx?_eq_none_iff]
      intro x hx
      obtain ⟨j, hj, rfl⟩ := List.mem_iff_getElem.1 hx
      have := hno j hj
      rw [List.getElem?_eq_getElem hj] at this
      simpa using this
    unfold whereT; rw [this]
end Go.Proofs.YtahhkeljejfgfaaDoor
