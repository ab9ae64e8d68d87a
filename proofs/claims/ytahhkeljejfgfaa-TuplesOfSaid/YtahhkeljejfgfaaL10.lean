/- The document's tables: sizes of numbers, costs of numbers; looked at. -/
import Derived.Test.YtahhkeljejfgfaaM1
import Derived.Test.YtahhkeljejfgfaaM2
namespace Go.Proofs.Ytahhkeljejfgfaa
open Go Go.Vc Go.RowKit Go.Proofs Go.Proofs.Try
set_option maxRecDepth 100000

def smallN (l : List Int) : List Int := (l.take 3).map fun x => 1 + x % 4
theorem smallN_sizes {l : List Int} : Sizes (smallN l) ∧ (smallN l).length ≤ 3 ∧ ∀ x ∈ smallN l, 1 ≤ x ∧ x ≤ 4 := by
  have h3 : (smallN l).length ≤ 3 := by simp [smallN]; omega
  have h4 : ∀ x ∈ smallN l, 1 ≤ x ∧ x ≤ 4 := fun x hx => by
    simp only [smallN, List.mem_map] at hx
    obtain ⟨y, _, rfl⟩ := hx; omega
  exact ⟨⟨by omega, fun x hx => by have := h4 x hx; omega⟩, h3, h4⟩

theorem rSmall {lv : Value} {l : List Int} {w : World} (h : LS .u8 w lv l) (h8 : ∀ x ∈ l, 0 ≤ x ∧ x < 256) :
    Cal prog F.ref03_Small [lv] w fun v w' => Ext w w' ∧ ∃ g, w.heap.size ≤ g ∧ LM .i64 T.t_int w' g v (smallN l) := by
  apply ref03_Small.enter
  unfold ref03_Small.body
  rw [len_ls T.t_sl_uint8.u h]
  refine Loop2.range l.length (fun i out w1 => Ext w w1 ∧ ∃ g, w.heap.size ≤ g ∧ LM .i64 T.t_int w1 g out (smallN (l.take i))) h.le ⟨Ext.refl _, w.heap.size, Nat.le_refl _, LM.nil _ _ _ _⟩ ?_ ?_
  · rintro i out w1 k hi ⟨hx1, g, hg, ho⟩ hk
    simp only [binS_lss, split_dec]
    refine ⟨fun _ => ?_, fun h => by omega⟩
    obtain ⟨x, hxi⟩ : ∃ x, l[i]? = some x := ⟨_, List.getElem?_eq_getElem hi⟩
    have hx8 := h8 x (List.mem_of_getElem? hxi)
    refine join1 (fun out' w2 => Ext w w2 ∧ ∃ g, w.heap.size ≤ g ∧ LM .i64 T.t_int w2 g out' (smallN (l.take (i + 1)))) ?_ ?_
    · intro v w2 hI
      simp only [binS_add]
      exact hk _ _ hI
    · intro J hJ
      rw [get_ls T.t_sl_uint8.u T.t_uint8.i (by kernel_rfl) (h.ext hx1) hxi]
      refine ⟨fun h3 => ?_, fun h3 => hJ _ _ ⟨hx1, g, hg, ?_⟩⟩
      · rw [binS_rem (by decide), conv_int T.t_uint8.u T.t_int.u, Int.tmod_eq_emod_of_nonneg hx8.1, wrap_i64 (by omega) (by omega)]
        simp only [binS_add]
        rw [wrap_i64 (by omega) (by omega)]
        refine one_c T.t_sl_int.u T.t_int.i rfl fun a ga w3 hga hx3 ha => ?_
        have hle : (smallN (l.take i)).length ≤ 3 := smallN_sizes.2.1
        refine push_lm T.t_sl_int.u T.t_int.i rfl (ho.ext hx3) ha.ls (by simp; omega) (by simp; omega) fun v' g' w4 hg' hv' hc4 => ?_
        have s1 := hx1.size
        have s3 := hx3.size
        refine hJ _ _ ⟨(hx1.trans hx3).then hc4 (by rintro r hr rfl; omega), g', by omega, ?_⟩
        have e : smallN (l.take (i + 1)) = smallN (l.take i) ++ [1 + x % 4] := by
          unfold smallN
          have h3 : i < 3 := by omega
          rw [List.take_take, List.take_take, show min 3 (i + 1) = i + 1 by omega, show min 3 i = i by omega, List.take_add_one, hxi]
          simp
        rw [e]; exact hv'
      · have e : smallN (l.take (i + 1)) = smallN (l.take i) := by
          unfold smallN
          rw [List.take_take, List.take_take, show min 3 (i + 1) = 3 by omega, show min 3 i = 3 by omega]
        rw [e]; exact ho
  · rintro out w1 k ⟨hx1, g, hg, ho⟩
    simp only [binS_lss, split_dec]
    refine ⟨fun h => by omega, fun _ => ⟨hx1, g, hg, ?_⟩⟩
    rwa [List.take_length] at ho

/-- a cost of a number -/
def costN (k : Int) : Option Int → Int
  | none => 0
  | some x => if x % 5 = 0 then k else (x / 5) % (k + 1)
def makeC (s : List Int) (k : Int) (l : List Int) : List Int := (List.range (prodN s).toNat).map fun i => costN k l[i]?
theorem makeC_length (s : List Int) (k : Int) (l : List Int) : (makeC s k l).length = (prodN s).toNat := by simp [makeC]
theorem costN_in {k : Int} (hk : 0 ≤ k) (o : Option Int) : 0 ≤ costN k o ∧ costN k o ≤ k := by
  cases o with
  | none => simp [costN]; exact hk
  | some x =>
    simp only [costN]
    split
    · omega
    · have h1 := Int.emod_nonneg (x / 5) (show k + 1 ≠ 0 by omega)
      have h2 := Int.emod_lt_of_pos (x / 5) (show 0 < k + 1 by omega)
      omega

theorem rMake {sv lv : Value} {s l : List Int} {k : Int} {w : World} (h : LS .i64 w sv s) (hs : Sizes s) (hl : LS .u16 w lv l) (h16 : ∀ x ∈ l, 0 ≤ x ∧ x < 65536) (hk : 0 ≤ k ∧ k ≤ 1000000000) :
    Cal prog F.ref04_Make [sv, .int .i64 k, lv] w fun v w' => Ext w w' ∧ ∃ g cv, v = .agg #[sv, .int .i64 k, cv] ∧ w.heap.size ≤ g ∧ LM .i64 T.t_int64 w' g cv (makeC s k l) := by
  have hsv := h.cells
  have hp := prod_bound hs
  apply ref04_Make.enter
  unfold ref04_Make.body
  refine alloc_c T.t_ref04_Table.i fun g6 w1 hg6 hx1 hb6 => ?_
  rw [build_eq (cs := #[sv, .int .i64 k, .slice none 0 0]) (by
    obtain ⟨_, _, _, _, _, rfl, _⟩ := h
    kernel_rfl)]
  refine alloc_c T.t_ref04_Table.i fun g2 w2 hg2 hx2 hb2 => ?_
  have s1 := hx1.size
  have s2 := hx2.size
  have l6 := hb6.lt
  have l2 := hb2.lt
  refine store_whole (vs := [sv, .int .i64 k, .slice none 0 0]) T.t_ref04_Table.i rfl rfl (by intro u hu; simp at hu; rcases hu with rfl | rfl | rfl; exact hsv.2; rfl; rfl) hb2 fun w3 hc3 hs3 hb3 => ?_
  have hx03 : Ext w w3 := (hx1.trans hx2).then hc3 (by rintro r hr rfl; omega)
  have hb63 := (hb6.ext hx2).chg hc3 (by omega)
  have l63 := hb63.lt
  have l23 := hb3.lt
  have s03 := hx03.size
  refine Loop1.range (prodN s).toNat (fun i w4 => Ext w w4 ∧ w3.heap.size ≤ w4.heap.size ∧ ∃ cv gc, w3.heap.size ≤ gc ∧ Blk w4 g2 T.t_ref04_Table [sv, .int .i64 k, cv] ∧
    LM .i64 T.t_int64 w4 gc cv ((List.range i).map fun i => costN k l[i]?) ∧ Blk w4 g6 T.t_ref04_Table [.slice none 0 0, .int .i64 0, .slice none 0 0]) (by omega)
    ⟨hx03, Nat.le_refl _, _, w3.heap.size, Nat.le_refl _, hb3, LM.nil _ _ _ _, hb63⟩ ?_ ?_
  · rintro i w4 kk hi ⟨hx4, s4, cv, gc, hgc, hb4, hc4, hb64⟩ hkk
    refine (rCount (h.ext hx4) hs).mono ?_
    rintro _ w5 _ ⟨rfl, hx5⟩
    simp only [binS_lss, split_dec]
    refine ⟨fun _ => ?_, fun h => by omega⟩
    have hx05 := hx4.trans hx5
    have s5 := hx5.size
    refine join1 (fun c w6 => w5 = w6 ∧ c = .int .i64 (costN k l[i]?)) ?_ ?_
    · rintro _ _ ⟨rfl, rfl⟩
      have hb5 := hb4.ext hx5
      rw [field_at T.t_ref04_Table.p rfl, load_cell (by kernel_rfl) (hb5.cell (o := 0 + 2) rfl)]
      refine one_c T.t_sl_int64.u T.t_int64.i rfl fun a ga w6 hga hx6 ha => ?_
      have s6 := hx6.size
      refine push_lm T.t_sl_int64.u T.t_int64.i rfl ((hc4.ext hx5).ext hx6) ha.ls (by simp; omega) (by simp; omega) fun v' g' w7 hg' hv' hc7 => ?_
      have hb7 := (hb5.ext hx6).chg hc7 (by omega)
      have s7 := hc7.size
      rw [field_at T.t_ref04_Table.p rfl]
      refine store_cell T.t_sl_int64.i hv'.ls.cells.1 hv'.ls.cells.2 hb7 (by simp) fun w8 hc8 hs8 hb8 => ?_
      simp only [binS_add]
      refine hkk _ ⟨((hx05.trans hx6).then hc7 (by rintro r hr rfl; omega)).then hc8 (by rintro r hr rfl; omega), by omega, v', g', by omega, hb8, ?_, (((hb64.ext hx5).ext hx6).chg hc7 (by omega)).chg hc8 (by omega)⟩
      rw [List.range_succ, List.map_append]
      exact hv'.chg hc8 (by omega)
    · intro J hJ
      rw [len_ls T.t_sl_uint16.u (hl.ext hx05)]
      simp only [binS_lss, split_dec]
      refine ⟨fun hlt => ?_, fun hge => hJ _ _ ⟨rfl, by rw [List.getElem?_eq_none (by omega)]; rfl⟩⟩
      obtain ⟨x, hxi⟩ : ∃ x, l[i]? = some x := ⟨_, List.getElem?_eq_getElem (by omega)⟩
      have hx16 := h16 x (List.mem_of_getElem? hxi)
      rw [get_ls T.t_sl_uint16.u T.t_uint16.i (by kernel_rfl) (hl.ext hx05) hxi, binS_quo (by decide), conv_int T.t_uint16.u T.t_int64.u]
      have hdiv : x.tdiv 5 = x / 5 := Int.tdiv_eq_ediv_of_nonneg hx16.1
      rw [hdiv, wrap_u16 (by omega) (by omega), wrap_i64 (by omega) (by omega)]
      simp only [binS_add]
      rw [wrap_i64 (x := k + 1) (by omega) (by omega), binS_rem (by omega), Int.tmod_eq_emod_of_nonneg (by omega),
        get_ls T.t_sl_uint16.u T.t_uint16.i (by kernel_rfl) (hl.ext hx05) hxi, binS_rem (by decide), Int.tmod_eq_emod_of_nonneg hx16.1]
      simp only [binS_eql, split_dec]
      exact ⟨fun h0 => hJ _ _ ⟨rfl, by rw [hxi]; simp [costN, h0]⟩, fun h0 => hJ _ _ ⟨rfl, by rw [hxi]; simp [costN, h0]⟩⟩
  · rintro w4 kk ⟨hx4, s4, cv, gc, hgc, hb4, hc4, hb64⟩
    refine (rCount (h.ext hx4) hs).mono ?_
    rintro _ w5 _ ⟨rfl, hx5⟩
    simp only [binS_lss, split_dec]
    refine ⟨fun h => by omega, fun _ => ?_⟩
    have hcv := hc4.ls.cells
    rw [load_struct T.t_ref04_Table.p T.t_ref04_Table.i rfl (hb4.ext hx5).range]
    refine store_whole (vs := [sv, .int .i64 k, cv]) T.t_ref04_Table.i rfl rfl (by intro u hu; simp at hu; rcases hu with rfl | rfl | rfl; exact hsv.2; rfl; exact hcv.2) (hb64.ext hx5) fun w6 hc6 hs6 hb6 => ?_
    rw [res_struct T.t_ref04_Table.p T.t_ref04_Table.i rfl hb6.range]
    exact ⟨(hx4.trans hx5).then hc6 (by rintro r hr rfl; omega), gc, cv, rfl, by omega, (hc4.ext hx5).chg hc6 (by omega)⟩

theorem whereT_eq {s t : List Int} (hs : SZ s) : whereT (allT s) t = match idxN s t 0 with
    | some n => n
    | none => -1 := by
  unfold whereT
  cases hf : (allT s).findIdx? (fun x => decide (x = t)) with
  | none =>
    cases hi : idxN s t 0 with
    | none => rfl
    | some n =>
      have := idx_all hs hi
      rw [List.findIdx?_eq_none_iff] at hf
      have := hf t (List.mem_of_getElem? this)
      simp at this
  | some i =>
    rw [List.findIdx?_eq_some_iff_getElem] at hf
    obtain ⟨hi, h1, _⟩ := hf
    have h1 : (allT s)[i] = t := by simpa using h1
    have := all_idx hs (i := i) (t := t) (by rw [List.getElem?_eq_getElem hi, h1])
    rw [this]

def addE (a b k : Int) : Value := if inK a k ∧ inK b k then .tuple #[.int .i64 (min (a + b) k), .int .i64 0] else .tuple #[.int .i64 0, .int .i64 3]
end Go.Proofs.Ytahhkeljejfgfaa

