/- Tables: made, looked at, written. -/
import Derived.Test.YtahhkeljejfgfaaDoorL6
namespace Go.Proofs.YtahhkeljejfgfaaDoor
open Go Go.Vc Go.RowKit Go.Proofs Go.Proofs.Tryd
set_option maxRecDepth 100000

/-- the block that a slice leads to -/
def leads (v : Value) (r : Nat) : Prop := ∃ a n c, v = .slice (some a) n c ∧ a.block = r
theorem LM_leads {k : IntKind} {e : TypeId} {w : World} {g : Nat} {v : Value} {l : List Int} (h : LM k e w g v l) {r : Nat} (hr : leads v r) : r = g ∧ g < w.heap.size := by
  obtain ⟨a, n, c, rfl, rfl⟩ := hr
  obtain ⟨_, ⟨h, _⟩ | ⟨cap, cs, h, hb, _⟩⟩ := h
  · cases h
  · cases h; exact ⟨rfl, hb.lt⟩
theorem LM_chg {k : IntKind} {e : TypeId} {S : Nat → Prop} {w w' : World} {g : Nat} {v : Value} {l : List Int} (h : LM k e w g v l) (hx : Chg S w w') (hS : ∀ r, leads v r → ¬ S r) : LM k e w' g v l := by
  refine ⟨h.1, h.2.imp id fun ⟨cap, cs, h1, h2, h3⟩ => ⟨cap, cs, h1, h2.chg hx (hS g ⟨_, _, _, h1, rfl⟩), h3⟩⟩

/-- a table: in block g; its costs in block gc -/
def Tab (w : World) (g gc : Nat) (sv : Value) (szs : List Int) (k : Int) (cs : List Int) : Prop :=
  (∃ cv gs, Blk w g T.t_table_Table [sv, .int .i64 k, cv] ∧ LM .i64 T.t_int w gs sv szs ∧ LM .i64 T.t_int64 w gc cv cs) ∧ (g ≠ gc ∧ ¬ leads sv gc ∧ prodN szs ≤ 4096) ∧ Sizes szs ∧ cs.length = (prodN szs).toNat
theorem Tab.ext {w w' : World} {g gc : Nat} {sv : Value} {szs : List Int} {k : Int} {cs : List Int} (h : Tab w g gc sv szs k cs) (hx : Ext w w') : Tab w' g gc sv szs k cs := by
  obtain ⟨⟨cv, gs, h1, h2, h3⟩, h4⟩ := h
  exact ⟨⟨cv, gs, h1.ext hx, h2.ext hx, h3.ext hx⟩, h4⟩

/-- what New answers -/
def NewTable (w : World) (l : List Int) (k fill : Int) (v : Value) (w' : World) : Prop :=
  Ext w w' ∧
    (¬ Sizes l → v = .tuple #[.pointer none, .int .i64 1]) ∧
    (Sizes l → 4096 < prodN l → v = .tuple #[.pointer none, .int .i64 5]) ∧
    (Sizes l → prodN l ≤ 4096 → ¬ inK fill k → v = .tuple #[.pointer none, .int .i64 3]) ∧
    (Sizes l → prodN l ≤ 4096 → inK fill k → ∃ g gc sv, v = .tuple #[.pointer (some ⟨g, 0, none⟩), .int .i64 0] ∧ w.heap.size ≤ g ∧ w.heap.size ≤ gc ∧ (∀ r, leads sv r → w.heap.size ≤ r) ∧
      Tab w' g gc sv l k (List.replicate (prodN l).toNat fill))

theorem tNew {sv : Value} {l : List Int} {k fill : Int} {w : World} (h : LS .i64 w sv l) : Cal prog F.table_New [sv, .int .i64 k, .int .i64 fill] w (NewTable w l k fill) := by
  apply table_New.enter
  unfold table_New.body
  refine (sNew h).mono ?_
  rintro v w1 _ ⟨hx1, hbad, hlarge, hgood⟩
  obtain ⟨tv, e, rfl, htv1, he⟩ : ∃ (tv : Value) (e : Int), v = .tuple #[.agg #[tv], .int .i64 e] ∧ tv.oneCell' = true ∧
      ((e = 1 ∧ ¬ Sizes l) ∨ (e = 5 ∧ Sizes l ∧ 4096 < prodN l) ∨ (e = 0 ∧ Sizes l ∧ prodN l ≤ 4096 ∧ ∃ g, w.heap.size ≤ g ∧ LM .i64 T.t_int w1 g tv l)) := by
    by_cases hs : Sizes l
    · by_cases hp : prodN l ≤ 4096
      · obtain ⟨g, tv, rfl, h1, h2⟩ := hgood hs hp
        exact ⟨tv, 0, rfl, h2.ls.cells.2, .inr (.inr ⟨rfl, hs, hp, g, h1, h2⟩)⟩
      · exact ⟨_, _, hlarge hs (by omega), rfl, .inr (.inl ⟨rfl, hs, by omega⟩)⟩
    · exact ⟨_, _, hbad hs, rfl, .inl ⟨rfl, hs⟩⟩
  rw [extract_tuple (v := .agg #[tv]) rfl, extract_tuple (v := .int .i64 e) rfl]
  refine alloc_c T.t_shape_Shape.i fun g0 w2 hg0 hx2 hb0 => ?_
  refine store_whole (vs := [tv]) T.t_shape_Shape.i rfl rfl (by intro u hu; simp at hu; subst hu; exact htv1) hb0 ?_
  intro w3 hc3 hs3 hb3
  have hx13 : Ext w1 w3 := hx2.then hc3 (by rintro r hr rfl; omega)
  have hx03 := hx1.trans hx13
  simp only [binS_neq, split_dec]
  refine ⟨fun hne => ⟨hx03, ?_⟩, fun heq => ?_⟩
  · rcases he with ⟨rfl, hn⟩ | ⟨rfl, hs, hp⟩ | ⟨rfl, _⟩
    · exact ⟨fun _ => rfl, fun h => absurd h hn, fun h => absurd h hn, fun h => absurd h hn⟩
    · exact ⟨fun h => absurd hs h, fun _ _ => rfl, fun _ h => by omega, fun _ h => by omega⟩
    · exact absurd rfl hne
  · obtain ⟨rfl, hs, hp, gs, hgs, hm⟩ : e = 0 ∧ Sizes l ∧ prodN l ≤ 4096 ∧ ∃ g, w.heap.size ≤ g ∧ LM .i64 T.t_int w1 g tv l := by
      rcases he with ⟨rfl, hn⟩ | ⟨rfl, hs, hp⟩ | h
      · omega
      · omega
      · exact h
    have hpb := prod_bound hs
    refine cIn.mono ?_
    rintro _ w4 _ ⟨rfl, hx4⟩
    have hx04 := hx03.trans hx4
    simp only [un_not, split_bool]
    refine ⟨fun hf => ⟨hx04, fun h => absurd hs h, fun _ h => by omega, fun _ _ _ => rfl, fun _ _ h => by simp [h] at hf⟩, fun ht => ?_⟩
    have hin : inK fill k := by simpa using ht
    simp only [JoinC, Drew]
    intro w5 hx5 _ _
    have hx05 := hx04.trans hx5
    have hx15 := (hx13.trans hx4).trans hx5
    have hb5 := (hb3.ext hx4).ext hx5
    rw [load_struct T.t_shape_Shape.p T.t_shape_Shape.i rfl hb5.range, load_struct T.t_shape_Shape.p T.t_shape_Shape.i rfl hb5.range]
    have s1 := hx1.size
    have s15 := hx15.size
    have hcn : ((prodN l).toNat : Int) = prodN l := by omega
    have fin : ∀ {w8 : World} {rv : Value} {gc : Nat}, Ext w5 w8 → w5.heap.size ≤ gc → LM .i64 T.t_int64 w8 gc rv (List.replicate (prodN l).toNat fill) →
        RunQ prog (Instr.build T.t_table_Table #[(0, .agg #[tv]), (1, .int .i64 k), (2, rv)]) w8 fun t31 => RunC prog (Instr.box T.t_table_Table t31) w8 fun t32 w9 => NewTable w l k fill (.tuple #[t32, .int .i64 0]) w9 := by
      intro w8 rv gc hx8 hgc hr
      rw [build_eq (cs := #[tv, .int .i64 k, rv]) (by
        obtain ⟨_, _, _, _, _, rfl, _⟩ := hr.ls
        obtain ⟨_, _, _, _, _, rfl, _⟩ := hm.ls
        kernel_rfl)]
      refine box_c fun g w9 hg hx9 hb9 => ?_
      have s8 := hx8.size
      have hcell : leads rv gc := by
        obtain ⟨hlen, ⟨_, h0⟩ | ⟨cap, cs, rfl, _⟩⟩ := hr
        · simp at h0; omega
        · exact ⟨_, _, _, rfl, rfl⟩
      have hgl := (LM_leads hr hcell).2
      refine ⟨(hx05.trans hx8).trans hx9, fun h => absurd hs h, fun _ h => by omega, fun _ _ h => absurd hin h, fun _ _ _ => ⟨g, gc, tv, rfl, by omega, by omega, fun r hr' => ?_, ⟨rv, gs, hb9, ((hm.ext hx15).ext hx8).ext hx9, hr.ext hx9⟩, ⟨by omega, fun hl => ?_, hp⟩, hs, by simp⟩⟩
      · have := (LM_leads hm hr').1; omega
      · have := LM_leads hm hl; omega
    constructor
    · refine one_c T.t_sl_int64.u T.t_int64.i rfl fun xv gx w6 hgx hx6 hxv => ⟨.inl hx6, ?_⟩
      refine (sCount ((hm.ext hx15).ext hx6).ls hs).mono ?_
      rintro _ w7 _ ⟨rfl, hx7⟩
      refine ⟨.inl (hx6.trans hx7), ?_⟩
      rw [← hcn]
      refine (sRepeat (hxv.ext hx7).ls (by omega)).mono ?_
      rintro rv w8 _ ⟨hx8, gc, hgc, hr⟩
      have s6 := hx6.size
      have s7 := hx7.size
      exact ⟨.inl ((hx6.trans hx7).trans hx8), fin ((hx6.trans hx7).trans hx8) (by omega) hr⟩
    · refine (sCount (hm.ext hx15).ls hs).mono ?_
      rintro _ w6 _ ⟨rfl, hx6⟩
      refine ⟨.inl hx6, ?_⟩
      refine one_c T.t_sl_int64.u T.t_int64.i rfl fun xv gx w7 hgx hx7 hxv => ⟨.inl (hx6.trans hx7), ?_⟩
      rw [← hcn]
      refine (sRepeat hxv.ls (by omega)).mono ?_
      rintro rv w8 _ ⟨hx8, gc, hgc, hr⟩
      have s6 := hx6.size
      have s7 := hx7.size
      exact ⟨.inl ((hx6.trans hx7).trans hx8), fin ((hx6.trans hx7).trans hx8) (by omega) hr⟩
end Go.Proofs.YtahhkeljejfgfaaDoor
