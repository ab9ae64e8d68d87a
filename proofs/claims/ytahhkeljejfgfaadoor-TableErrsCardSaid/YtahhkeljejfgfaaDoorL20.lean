/- Tables joined: the small steps (scopes that rise, where a variable stands, a tuple's part, sizes). -/
import Derived.Test.YtahhkeljejfgfaaDoorL18
import Derived.Test.YtahhkeljejfgfaaDoorP8
namespace Go.Proofs.YtahhkeljejfgfaaDoor
open Go Go.Vc Go.RowKit Go.Proofs Go.Proofs.Tryd
set_option maxRecDepth 100000

def Rise (l : List Int) : Prop := ∀ (j : Nat) (x : Int), l[j]? = some x → 0 ≤ x ∧ (0 < j → ∀ y, l[j - 1]? = some y → y < x)
theorem Rise.up {l : List Int} (h : Rise l) : Up l := by
  intro i j x y hij hx
  induction j generalizing y with
  | zero => omega
  | succ j ih =>
    intro hy
    have hjl := (List.getElem?_eq_some_iff.1 hy).1
    obtain ⟨z, hz⟩ : ∃ z, l[j]? = some z := ⟨_, List.getElem?_eq_getElem (show j < l.length by omega)⟩
    have h1 := (h (j + 1) y hy).2 (by omega) z (by simpa using hz)
    by_cases hj : i = j
    · subst hj; rw [hx] at hz; cases hz; exact h1
    · have := ih z (by omega) hz; omega
theorem up_rise {l : List Int} (h : Up l) (h0 : ∀ x ∈ l, 0 ≤ x) : Rise l := fun j x hx => ⟨h0 x (List.mem_of_getElem? hx), fun hj y hy => h (j - 1) j y x (by omega) hy hx⟩

theorem tRises {w : World} {g gc : Nat} {sv lv : Value} {szs l : List Int} {k : Int} {cs : List Int} (h : Tab w g gc sv szs k cs) (hl : LS .i64 w lv l) :
    Cal prog F.P_table_Table_rises [.pointer (some ⟨g, 0, none⟩), lv] w fun v w' => Ext w w' ∧ ∃ c, v = .bool c ∧ (c = true ↔ l.length = szs.length ∧ Rise l) := by
  obtain ⟨⟨cv, gs, hb, hm, hc⟩, _⟩ := h
  have sub : w.rangeAt g (0 + 0) [sv] := Blk_sub hb (by
    intro j v hv
    match j, hv with
    | 0, hv => exact hv)
  apply P_table_Table_rises.enter
  unfold P_table_Table_rises.body
  rw [len_ls T.t_sl_int.u hl, nil_check, field_at T.t_table_Table.p rfl, load_struct (cs := [sv]) T.t_shape_Shape.p T.t_shape_Shape.i rfl sub]
  refine (sArity hm.ls).mono ?_
  rintro _ w1 _ ⟨rfl, hx1⟩
  simp only [binS_neq, split_dec]
  refine ⟨fun hne => ⟨hx1, false, rfl, (fun h => by cases h), fun h => absurd (by rw [h.1]) hne⟩, fun heq => ?_⟩
  have heq : l.length = szs.length := by omega
  rw [len_ls T.t_sl_int.u (hl.ext hx1)]
  refine Loop2.range l.length (fun i _ w2 => Ext w w2 ∧ ∀ (j : Nat) (x : Int), j < i → l[j]? = some x → 0 ≤ x ∧ (0 < j → ∀ y, l[j - 1]? = some y → y < x)) hl.le ⟨hx1, fun j x hj => by omega⟩ ?_ ?_
  · rintro i _ w2 kk hi ⟨hx2, hup⟩ hkk
    simp only [binS_lss, split_dec]
    refine ⟨fun _ => ?_, fun h => by omega⟩
    obtain ⟨x, hx⟩ : ∃ x, l[i]? = some x := ⟨_, List.getElem?_eq_getElem hi⟩
    have hle := hl.le
    rw [get_ls T.t_sl_int.u T.t_int.i (by kernel_rfl) (hl.ext hx2) hx]
    refine join1 (fun v w3 => w2 = w3 ∧ ∃ c, v = .bool c ∧ (c = false ↔ 0 ≤ x ∧ (0 < i → ∀ y, l[i - 1]? = some y → y < x))) ?_ ?_
    · rintro _ _ ⟨rfl, c, rfl, hc⟩
      rw [split_bool]
      simp only [binS_add]
      refine ⟨fun ht => ⟨hx2, false, rfl, (fun h => by cases h), fun h => ?_⟩, fun hf => hkk _ _ ⟨hx2, fun j x' hj hx' => ?_⟩⟩
      · have := hc.2 (h.2 i x hx); rw [ht] at this; cases this
      · by_cases hji : j = i
        · subst hji; rw [hx] at hx'; cases hx'; exact hc.1 hf
        · exact hup j x' (by omega) hx'
    · intro J hJ
      simp only [binS_lss, binS_gtr, binS_sub, split_dec]
      refine ⟨fun hneg => hJ _ _ ⟨rfl, true, rfl, (fun h => by cases h), fun h => by omega⟩, fun hnn => ⟨fun hpos => ?_, fun hz => hJ _ _ ⟨rfl, false, rfl, fun _ => ⟨by omega, fun h => by omega⟩, fun _ => rfl⟩⟩⟩
      obtain ⟨y, hy⟩ : ∃ y, l[i - 1]? = some y := ⟨_, List.getElem?_eq_getElem (show i - 1 < l.length by omega)⟩
      rw [wrap_i64 (by omega) (by omega), get_ls_at (i := i - 1) (by omega) T.t_sl_int.u T.t_int.i (by kernel_rfl) (hl.ext hx2) hy]
      simp only [binS_geq]
      refine hJ _ _ ⟨rfl, _, rfl, ?_⟩
      rw [decide_eq_false_iff_not]
      refine ⟨fun h => ⟨by omega, fun _ y' hy' => by rw [hy] at hy'; cases hy'; omega⟩, fun h => by have := h.2 (by omega) y hy; omega⟩
  · rintro _ w2 kk ⟨hx2, hup⟩
    simp only [binS_lss, split_dec]
    exact ⟨fun h => by omega, fun _ => ⟨hx2, true, rfl, fun _ => ⟨heq, fun j x hx => hup j x (List.getElem?_eq_some_iff.1 hx).1 hx⟩, fun _ => rfl⟩⟩

/-- where a variable stands -/
def idxI (l : List Int) (x : Int) : Int := if x ∈ l then (l.idxOf x : Int) else -1
theorem idxI_at {l : List Int} {i : Nat} {x : Int} (h : Up l) (hi : l[i]? = some x) : idxI l x = i := by
  have hm : x ∈ l := List.mem_of_getElem? hi
  have h2 := List.idxOf_lt_length_of_mem hm
  have h3 : l.idxOf x = i := h.inj (by rw [List.getElem?_eq_getElem h2, List.getElem_idxOf h2]) hi
  unfold idxI
  rw [if_pos hm, h3]
theorem idxI_none {l : List Int} {x : Int} (h : x ∉ l) : idxI l x = -1 := if_neg h
theorem sIdxU {sv : Value} {l : List Int} {x : Int} {w : World} (h : LS .i64 w sv l) (hu : Up l) :
    Cal prog F.slices_Index_int_int [sv, .int .i64 x] w fun v w' => v = .int .i64 (idxI l x) ∧ Ext w w' := by
  apply slices_Index_int_int.enter
  unfold slices_Index_int_int.body
  rw [len_ls T.t_sl_int.u h]
  refine Loop2.range l.length (fun i _ w1 => Ext w w1 ∧ ∀ j, j < i → l[j]? ≠ some x) h.le ⟨Ext.refl _, fun j hj => by omega⟩ ?_ ?_
  · rintro i _ w1 k hi ⟨hx1, hno⟩ hk
    simp only [binS_lss, split_dec]
    refine ⟨fun _ => ?_, fun h => by omega⟩
    obtain ⟨y, hy⟩ : ∃ y, l[i]? = some y := ⟨_, List.getElem?_eq_getElem hi⟩
    rw [get_ls T.t_sl_int.u T.t_int.i (by kernel_rfl) (h.ext hx1) hy]
    simp only [binS_eql, split_dec, binS_add]
    refine ⟨fun he => ⟨?_, hx1⟩, fun he => hk _ _ ⟨hx1, fun j hj => ?_⟩⟩
    · subst he; rw [idxI_at hu hy]
    · by_cases hj2 : j = i
      · subst hj2; rw [hy]; intro h; exact he (Option.some.inj h).symm
      · exact hno j (by omega)
  · rintro _ w1 k ⟨hx1, hno⟩
    simp only [binS_lss, split_dec]
    refine ⟨fun h => by omega, fun _ => ⟨?_, hx1⟩⟩
    rw [idxI_none]
    intro hm
    obtain ⟨i, hi, he⟩ := List.getElem_of_mem hm
    exact hno i hi (by rw [List.getElem?_eq_getElem hi, he])

/-- a tuple's part -/
def partL (x vars scope : List Int) : List Int := scope.map fun p => x.getD (vars.idxOf p) 0
theorem partL_length (x vars scope : List Int) : (partL x vars scope).length = scope.length := by simp [partL]
theorem tPart {w : World} {xv vv sv : Value} {x vars scope : List Int} (hx : LS .i64 w xv x) (hv : LS .i64 w vv vars) (hs : LS .i64 w sv scope) (hu : Up vars) (hin : ∀ p ∈ scope, p ∈ vars) (hl : x.length = vars.length) (h1000 : scope.length ≤ 1000) :
    Cal prog F.table_part [xv, vv, sv] w fun v w' => Ext w w' ∧ ∃ g, w.heap.size ≤ g ∧ LM .i64 T.t_int w' g v (partL x vars scope) := by
  apply table_part.enter
  unfold table_part.body
  rw [len_ls T.t_sl_int.u hs]
  refine make_ints T.t_sl_int.u T.t_int.i (by omega) (by omega) fun gz w1 hgz hx1 hbz => ?_
  have hz : LM .i64 T.t_int w1 gz (.slice (some ⟨gz, 0, none⟩) scope.length scope.length) (List.replicate scope.length 0) := LM.of (n := scope.length) (Mine.full hbz (by simp) (by simp [maxLen]; omega))
  generalize (Value.slice (some ⟨gz, 0, none⟩) scope.length scope.length) = zv at *
  rw [len_ls T.t_sl_int.u (hs.ext hx1)]
  have hpl := partL_length x vars scope
  refine Loop1.range scope.length (fun i w2 => Ext w w2 ∧ LM .i64 T.t_int w2 gz zv (upto (partL x vars scope) 0 i)) (by omega) ⟨hx1, by rw [upto_zero, hpl]; exact hz⟩ ?_ ?_
  · rintro i w2 kk hi ⟨hx2, hm⟩ hkk
    simp only [binS_lss, split_dec]
    refine ⟨fun _ => ?_, fun h => by omega⟩
    obtain ⟨p, hp⟩ : ∃ p, scope[i]? = some p := ⟨_, List.getElem?_eq_getElem hi⟩
    have hpm := hin p (List.mem_of_getElem? hp)
    have h2 := List.idxOf_lt_length_of_mem hpm
    rw [get_ls T.t_sl_int.u T.t_int.i (by kernel_rfl) (hs.ext hx2) hp]
    refine (sIdxU (hv.ext hx2) hu).mono ?_
    rintro _ w3 _ ⟨rfl, hx3⟩
    have e : idxI vars p = (vars.idxOf p : Int) := if_pos hpm
    obtain ⟨u, hu'⟩ : ∃ u, x[vars.idxOf p]? = some u := ⟨_, List.getElem?_eq_getElem (by omega)⟩
    have hul : (upto (partL x vars scope) 0 i).length = scope.length := by rw [upto_length, hpl]
    rw [get_ls_at (i := vars.idxOf p) e T.t_sl_int.u T.t_int.i (by kernel_rfl) (hx.ext (hx2.trans hx3)) hu', idx_lm rfl T.t_sl_int.u T.t_int.i (hm.ext hx3) (by omega)]
    refine store_lm T.t_int.i (hm.ext hx3) (by omega) fun w4 hc4 _ hm4 => ?_
    simp only [binS_add]
    have hq : (partL x vars scope)[i]? = some u := by
      unfold partL
      rw [List.getElem?_map, hp, Option.map_some, List.getD_eq_getElem?_getD, hu']; rfl
    rw [upto_set hq] at hm4
    exact hkk _ ⟨(hx2.trans hx3).then hc4 (by rintro r hr rfl; omega), hm4⟩
  · rintro w2 kk ⟨hx2, hm⟩
    simp only [binS_lss, split_dec]
    refine ⟨fun h => by omega, fun _ => ⟨hx2, gz, by omega, ?_⟩⟩
    rw [← hpl, upto_all] at hm
    exact hm
end Go.Proofs.YtahhkeljejfgfaaDoor
