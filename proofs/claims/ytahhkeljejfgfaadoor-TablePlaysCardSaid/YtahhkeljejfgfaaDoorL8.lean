/- Tables: Get, Put, More. -/
import Derived.Test.YtahhkeljejfgfaaDoorL7
namespace Go.Proofs.YtahhkeljejfgfaaDoor
open Go Go.Vc Go.RowKit Go.Proofs Go.Proofs.Tryd
set_option maxRecDepth 100000

theorem Blk_sub {w : World} {g : Nat} {e : TypeId} {cs ds : List Value} {o : Nat} (h : Blk w g e cs) (hd : ∀ j v, ds[j]? = some v → cs[o + j]? = some v) : w.rangeAt g o ds := fun j v hv => h.cell (hd j v hv)

theorem tAt {w : World} {g gc : Nat} {sv tv : Value} {szs t : List Int} {k : Int} {cs : List Int} (h : Tab w g gc sv szs k cs) (ht : LS .i64 w tv t) :
    Cal prog F.P_table_Table_at [.pointer (some ⟨g, 0, none⟩), tv] w fun v w' => v = idxV szs t ∧ Ext w w' := by
  obtain ⟨⟨cv, gs, hb, hm, hc⟩, _, hs, _⟩ := h
  apply P_table_Table_at.enter
  unfold P_table_Table_at.body
  rw [eq_ptr_nil T.t_p_table_Table.u]
  simp only [Option.isNone_some, split_false]
  rw [nil_check, field_at T.t_table_Table.p rfl, load_struct (cs := [sv]) T.t_shape_Shape.p T.t_shape_Shape.i rfl (Blk_sub hb (by
    intro j v hv
    match j, hv with
    | 0, hv => exact hv))]
  refine (sIndex hm.ls ht hs).mono ?_
  rintro _ w1 _ ⟨rfl, hx⟩
  unfold idxV
  cases idxN szs t 0 with
  | none => rw [extract_tuple (v := .int .i64 0) rfl, extract_tuple (v := .int .i64 3) rfl]; exact ⟨rfl, hx⟩
  | some n => rw [extract_tuple (v := .int .i64 n) rfl, extract_tuple (v := .int .i64 0) rfl]; exact ⟨rfl, hx⟩

def getV (szs t cs : List Int) : Value := match idxN szs t 0 with
  | some n => .tuple #[.int .i64 (cs.getD n.toNat 0), .int .i64 0]
  | none => .tuple #[.int .i64 0, .int .i64 3]

theorem idx_lt {szs t cs : List Int} {n : Int} (hs : Sizes szs) (hl : cs.length = (prodN szs).toNat) (h : idxN szs t 0 = some n) : n = (n.toNat : Int) ∧ n.toNat < cs.length := by
  have := idxN_bound hs.2 h
  simp only [Int.zero_mul, Int.zero_add, Int.one_mul] at this
  omega

theorem tGet {w : World} {g gc : Nat} {sv tv : Value} {szs t : List Int} {k : Int} {cs : List Int} (h : Tab w g gc sv szs k cs) (ht : LS .i64 w tv t) :
    Cal prog F.P_table_Table_Get [.pointer (some ⟨g, 0, none⟩), tv] w fun v w' => v = getV szs t cs ∧ Ext w w' := by
  apply P_table_Table_Get.enter
  unfold P_table_Table_Get.body
  refine (tAt h ht).mono ?_
  rintro _ w1 _ ⟨rfl, hx⟩
  obtain ⟨⟨cv, gs, hb, hm, hc⟩, _, hs, hl⟩ := h.ext hx
  unfold idxV getV
  cases hi : idxN szs t 0 with
  | none =>
    rw [extract_tuple (v := .int .i64 0) rfl, extract_tuple (v := .int .i64 3) rfl]
    simp only [binS_neq, split_dec]
    exact ⟨fun _ => ⟨trivial, hx⟩, fun h => by simp at h⟩
  | some n =>
    obtain ⟨hn, hlt⟩ := idx_lt hs hl hi
    rw [extract_tuple (v := .int .i64 n) rfl, extract_tuple (v := .int .i64 0) rfl]
    simp only [binS_neq, split_dec]
    refine ⟨fun h => absurd rfl h, fun _ => ?_⟩
    rw [nil_check, field_at T.t_table_Table.p rfl, load_cell (by kernel_rfl) (hb.cell (o := 0 + 2) rfl),
      get_ls_at hn T.t_sl_int64.u T.t_int64.i (by kernel_rfl) hc.ls (List.getElem?_eq_getElem hlt)]
    refine ⟨?_, hx⟩
    rw [List.getD_eq_getElem?_getD, List.getElem?_eq_getElem hlt]; rfl

/-- what a table comes to hold -/
def putC (szs t : List Int) (k c : Int) (cs : List Int) : List Int := match idxN szs t 0 with
  | some n => if inK c k then cs.set n.toNat c else cs
  | none => cs
def putE (szs t : List Int) (k c : Int) : Int := match idxN szs t 0 with
  | some _ => if inK c k then 0 else 3
  | none => 3

theorem tPut {w : World} {g gc : Nat} {sv tv : Value} {szs t : List Int} {k c : Int} {cs : List Int} (h : Tab w g gc sv szs k cs) (ht : LS .i64 w tv t) :
    Cal prog F.P_table_Table_Put [.pointer (some ⟨g, 0, none⟩), tv, .int .i64 c] w fun v w' => v = .int .i64 (putE szs t k c) ∧ Chg (fun r => r = gc) w w' ∧ Tab w' g gc sv szs k (putC szs t k c cs) := by
  apply P_table_Table_Put.enter
  unfold P_table_Table_Put.body
  refine (tAt h ht).mono ?_
  rintro _ w1 _ ⟨rfl, hx⟩
  have h1 := h.ext hx
  obtain ⟨⟨cv, gs, hb, hm, hc⟩, _, hs, hl⟩ := h1
  unfold idxV putE putC
  cases hi : idxN szs t 0 with
  | none =>
    rw [extract_tuple (v := .int .i64 0) rfl, extract_tuple (v := .int .i64 3) rfl]
    simp only [binS_neq, split_dec]
    exact ⟨fun _ => ⟨trivial, hx.chg _, h.ext hx⟩, fun h => by simp at h⟩
  | some n =>
    obtain ⟨hn, hlt⟩ := idx_lt hs hl hi
    rw [extract_tuple (v := .int .i64 n) rfl, extract_tuple (v := .int .i64 0) rfl]
    simp only [binS_neq, split_dec]
    refine ⟨fun h => absurd rfl h, fun _ => ?_⟩
    rw [nil_check, field_at T.t_table_Table.p rfl, load_cell (by kernel_rfl) (hb.cell (o := 0 + 1) rfl)]
    refine cIn.mono ?_
    rintro _ w2 _ ⟨rfl, hx2⟩
    have h2 := (h.ext hx).ext hx2
    by_cases hin : inK c k
    · simp only [hin, decide_true, un_not, Bool.not_true, split_false, if_true]
      obtain ⟨⟨cv, gs, hb, hm, hc⟩, ⟨hd1, hd2⟩, hs, hl⟩ := h2
      have hc0 := hc
      obtain ⟨hcl, ⟨rfl, h0⟩ | ⟨cap, full, rfl, hbc, h3, h4, h5, h6⟩⟩ := hc
      · omega
      · rw [nil_check, field_at T.t_table_Table.p rfl, load_cell (by kernel_rfl) (hb.cell (o := 0 + 2) rfl),
          index_slice (i := n) T.t_sl_int64.u T.t_int64.i (by omega) (by omega) (fun _ => rfl)]
        refine store_cell T.t_int64.i rfl rfl hbc (by omega) ?_
        intro w3 hc3 hs3 hb3
        refine ⟨trivial, ((hx.trans hx2).chg _).trans hc3, ⟨_, gs, hb.chg hc3 (by omega), LM_chg hm hc3 (fun r hr hrg => hd2.1 (hrg ▸ hr)), ?_⟩, ⟨hd1, hd2⟩, hs, by simp [hl]⟩
        refine ⟨by simp, .inr ⟨cap, full.set (0 + n.toNat * 1) (.int .i64 c), ?_, hb3, by simpa using h3, h4, by simpa using h5, ?_⟩⟩
        · simp
        · simp only [List.length_set, Nat.zero_add, Nat.mul_one] at h6 ⊢
          rw [List.take_set, h6, ints, ints, List.map_set]
    · simp only [hin, decide_false, un_not, Bool.not_false, split_true, if_false]
      exact ⟨trivial, (hx.trans hx2).chg _, h2⟩
end Go.Proofs.YtahhkeljejfgfaaDoor
