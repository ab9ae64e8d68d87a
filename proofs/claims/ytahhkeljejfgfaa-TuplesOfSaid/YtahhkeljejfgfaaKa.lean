/- Lemma kit, part a: worlds and cells; operations on known values. -/
import Derived.Test.YtahhkeljejfgfaaVf
import Derived.Deep.Upon
import Derived.RangeFuncBound
import Derived.Deep.MidRow
import Derived.Laws.Cover3
import Derived.Laws.Pointers
import Derived.Laws.StructEq
import Derived.Laws.Tables
namespace Go.Vc
open Go Go.RowKit

/-! ### worlds -/
/-- solid objects outside S stay as they are -/
structure Chg (S : Nat → Prop) (w w' : World) : Prop where
  size : w.heap.size ≤ w'.heap.size
  keep : ∀ (r : Nat) (o : Obj), w.heap[r]? = some o → solid o = true → ¬ S r → w'.heap[r]? = some o

theorem Ext.chg {w w' : World} (S : Nat → Prop) (h : Ext w w') : Chg S w w' := ⟨h.size, fun r o hr hs _ => h.keep r o hr hs⟩
theorem Chg.ext {S : Nat → Prop} {w w' : World} (h : Chg S w w') (hS : ∀ r, r < w.heap.size → ¬ S r) : Ext w w' :=
  ⟨h.size, fun r o hr hs => h.keep r o hr hs (hS r (Array.getElem?_eq_some_iff.1 hr).1)⟩
theorem Chg.refl (S : Nat → Prop) (w : World) : Chg S w w := ⟨Nat.le_refl _, fun _ _ h _ _ => h⟩
theorem Chg.trans {S : Nat → Prop} {a b c : World} (h : Chg S a b) (k : Chg S b c) : Chg S a c :=
  ⟨Nat.le_trans h.size k.size, fun r o hr hs hS => k.keep r o (h.keep r o hr hs hS) hs hS⟩
theorem Chg.mono {S T : Nat → Prop} {a b : World} (h : Chg S a b) (hST : ∀ r, r < a.heap.size → S r → T r) : Chg T a b :=
  ⟨h.size, fun r o hr hs hT => h.keep r o hr hs fun hS => hT (hST r (Array.getElem?_eq_some_iff.1 hr).1 hS)⟩
/-- what is fresh may be changed -/
theorem Ext.then {S : Nat → Prop} {a b c : World} (h : Ext a b) (k : Chg S b c) (hS : ∀ r, r < a.heap.size → ¬ S r) : Ext a c :=
  ⟨Nat.le_trans h.size k.size, fun r o hr hs => k.keep r o (h.keep r o hr hs) hs (hS r (Array.getElem?_eq_some_iff.1 hr).1)⟩

theorem cell?_some {w : World} {b o : Nat} {v : Value} (h : w.cell? ⟨b, o, none⟩ = some v) : ∃ c e f, w.heap[b]? = some (.cells c e f) ∧ c[o]? = some v := by
  simp only [World.cell?] at h
  split at h
  · rename_i c e f hc; exact ⟨c, e, f, hc, by simpa using h⟩
  · cases h

theorem cell?_chg {S : Nat → Prop} {w w' : World} (hx : Chg S w w') {b o : Nat} (hS : ¬ S b) {v : Value} (h : w.cell? ⟨b, o, none⟩ = some v) : w'.cell? ⟨b, o, none⟩ = some v := by
  obtain ⟨c, e, f, hc, hv⟩ := cell?_some h
  simp [World.cell?, hx.keep b _ hc rfl hS, hv]
theorem cell?_ext {w w' : World} (hx : Ext w w') {b o : Nat} {v : Value} (h : w.cell? ⟨b, o, none⟩ = some v) : w'.cell? ⟨b, o, none⟩ = some v :=
  cell?_chg (hx.chg fun _ => False) (fun h => h) h
theorem range_ext {w w' : World} (hx : Ext w w') {b o : Nat} {cs : List Value} (h : w.rangeAt b o cs) : w'.rangeAt b o cs := fun j v hv => cell?_ext hx (h j v hv)
theorem range_chg {S : Nat → Prop} {w w' : World} (hx : Chg S w w') {b o : Nat} (hS : ¬ S b) {cs : List Value} (h : w.rangeAt b o cs) : w'.rangeAt b o cs := fun j v hv => cell?_chg hx hS (h j v hv)

/-- block g is all of cs -/
def Blk (w : World) (g : Nat) (e : TypeId) (cs : List Value) : Prop := w.heap[g]? = some (.cells cs.toArray e (0, 0))
theorem Blk.ext {w w' : World} {g : Nat} {e : TypeId} {cs : List Value} (h : Blk w g e cs) (hx : Ext w w') : Blk w' g e cs := hx.keep g _ h rfl
theorem Blk.chg {S : Nat → Prop} {w w' : World} {g : Nat} {e : TypeId} {cs : List Value} (h : Blk w g e cs) (hx : Chg S w w') (hS : ¬ S g) : Blk w' g e cs := hx.keep g _ h rfl hS
theorem Blk.lt {w : World} {g : Nat} {e : TypeId} {cs : List Value} (h : Blk w g e cs) : g < w.heap.size := (Array.getElem?_eq_some_iff.1 h).1
theorem Blk.cell {w : World} {g : Nat} {e : TypeId} {cs : List Value} (h : Blk w g e cs) {o : Nat} {v : Value} (hv : cs[o]? = some v) : w.cell? ⟨g, o, none⟩ = some v := by
  unfold Blk at h; simp [World.cell?, h, hv]
theorem Blk.range {w : World} {g : Nat} {e : TypeId} {cs : List Value} (h : Blk w g e cs) : w.rangeAt g 0 cs := fun j v hv => by rw [Nat.zero_add]; exact h.cell hv
theorem Blk.frozen {w : World} {g : Nat} {e : TypeId} {cs : List Value} (h : Blk w g e cs) (o : Nat) (sp : Option Nat) : w.frozen? ⟨g, o, sp⟩ = false := by
  unfold Blk at h; simp [World.frozen?, h]

/-- a slice that may be read: n elements of k cells -/
def Sl (w : World) (k : Nat) (v : Value) (n : Nat) (cs : List Value) : Prop :=
  cs.length = n * k ∧ ∃ b o base cap, v = .slice base n cap ∧ n ≤ cap ∧ cap ≤ maxLen ∧ (0 < n → base = some ⟨b, o, none⟩) ∧ w.rangeAt b o cs
theorem Sl.ext {w w' : World} {k : Nat} {v : Value} {n : Nat} {cs : List Value} (h : Sl w k v n cs) (hx : Ext w w') : Sl w' k v n cs := by
  obtain ⟨h1, b, o, base, cap, h2, h3, h4, h5, h6⟩ := h
  exact ⟨h1, b, o, base, cap, h2, h3, h4, h5, range_ext hx h6⟩
theorem Sl.le {w : World} {k : Nat} {v : Value} {n : Nat} {cs : List Value} (h : Sl w k v n cs) : n ≤ maxLen := by
  obtain ⟨_, _, _, _, _, _, h3, h4, _⟩ := h; exact Nat.le_trans h3 h4
theorem Sl.nil (w : World) (k : Nat) : Sl w k (.slice none 0 0) 0 [] := ⟨by simp, 0, 0, none, 0, rfl, Nat.le_refl _, Nat.zero_le _, fun h => absurd h (Nat.lt_irrefl _), fun j v h => by simp at h⟩

/-! ### types -/
/-- a type's size in cells, its bytes, its zero -/
def Inf (P : Program) (t : TypeId) (k b : Nat) (z : Value) : Prop := ∃ i, P.info? t = some i ∧ i.size = k ∧ i.bytes = b ∧ i.zero = some z
theorem Inf.of {P : Program} {t : TypeId} {k b : Nat} {z : Value} (h : (P.info? t).map (fun i => (i.size, i.bytes, i.zero)) = some (k, b, some z)) : Inf P t k b z := by
  cases hi : P.info? t with
  | none => simp [hi] at h
  | some i => simp [hi] at h; exact ⟨i, hi, h⟩
theorem Inf.size {P : Program} {t : TypeId} {k b : Nat} {z : Value} (h : Inf P t k b z) : (P.info? t).map (·.size) = some k := by
  obtain ⟨i, hi, hs, _⟩ := h; simp [hi, hs]
/-- a struct's fields: where, and how great -/
def Plc (P : Program) (t : TypeId) (pl : List (Nat × Nat)) : Prop := ∃ fs, P.underlying t = some (.struct fs) ∧ fs.toList.map (fun f => (f.offset, ((P.info? f.type).map (·.size)).getD 0)) = pl
def plcOf (P : Program) (t : TypeId) : Option (List (Nat × Nat)) := match P.underlying t with
  | some (.struct fs) => some (fs.toList.map fun f => (f.offset, ((P.info? f.type).map (·.size)).getD 0))
  | _ => none
theorem Plc.of {P : Program} {t : TypeId} {pl : List (Nat × Nat)} (h : plcOf P t = some pl) : Plc P t pl := by
  unfold plcOf at h
  split at h
  · rename_i fs hu; exact ⟨fs, hu, by simpa using h⟩
  · cases h

/-! ### conditions on known values -/
section
variable {P : Program} {w : World}

theorem RunQ.of {s : Sem Value} {v : Value} {K : Value → Prop} (h : ∀ w', Ext w w' → s.run P w' = .ok v w') : RunQ P s w K = K v := by
  refine propext ⟨fun ⟨v', h', k⟩ => ?_, fun k => ⟨v, h, k⟩⟩
  have := h' w (Ext.refl w)
  rw [h w (Ext.refl w)] at this
  cases this; exact k
theorem RunC.of {α : Type} {s : Sem α} {v : α} {w' : World} {K : α → World → Prop} (h : s.run P w = .ok v w') (hn : Ns w w') (k : K v w') : RunC P s w K := ⟨v, w', h, hn, k⟩

theorem split_bool {c : Bool} {A B : Prop} : Split (.bool c) A B = ((c = true → A) ∧ (c = false → B)) := by
  refine propext ⟨fun ⟨c', h, h1, h2⟩ => ?_, fun ⟨h1, h2⟩ => ⟨c, rfl, h1, h2⟩⟩
  cases h; exact ⟨h1, h2⟩
theorem split_dec {p : Prop} [Decidable p] {A B : Prop} : Split (.bool (decide p)) A B = ((p → A) ∧ (¬ p → B)) := by rw [split_bool]; simp
theorem split_true {A B : Prop} : Split (.bool true) A B = A := by rw [split_bool]; simp
theorem split_false {A B : Prop} : Split (.bool false) A B = B := by rw [split_bool]; simp

theorem binS_add {t : TypeId} {cx cy : Bool} {k : IntKind} {a b : Int} {K : Value → Prop} : RunQ P (binS .add t cx cy (.int k a) (.int k b)) w K = K (.int k (k.wrap (a + b))) :=
  RunQ.of fun w' _ => by simp [binS, eqGuard, binOp, Op.intArith]
theorem binS_sub {t : TypeId} {cx cy : Bool} {k : IntKind} {a b : Int} {K : Value → Prop} : RunQ P (binS .sub t cx cy (.int k a) (.int k b)) w K = K (.int k (k.wrap (a - b))) :=
  RunQ.of fun w' _ => by simp [binS, eqGuard, binOp, Op.intArith]
theorem binS_mul {t : TypeId} {cx cy : Bool} {k : IntKind} {a b : Int} {K : Value → Prop} : RunQ P (binS .mul t cx cy (.int k a) (.int k b)) w K = K (.int k (k.wrap (a * b))) :=
  RunQ.of fun w' _ => by simp [binS, eqGuard, binOp, Op.intArith]
theorem binS_quo {t : TypeId} {cx cy : Bool} {k : IntKind} {a b : Int} {K : Value → Prop} (hb : b ≠ 0) : RunQ P (binS .quo t cx cy (.int k a) (.int k b)) w K = K (.int k (k.wrap (a.tdiv b))) :=
  RunQ.of fun w' _ => by simp [binS, eqGuard, binOp, Op.intDiv, hb]
theorem binS_rem {t : TypeId} {cx cy : Bool} {k : IntKind} {a b : Int} {K : Value → Prop} (hb : b ≠ 0) : RunQ P (binS .rem t cx cy (.int k a) (.int k b)) w K = K (.int k (a.tmod b)) :=
  RunQ.of fun w' _ => by simp [binS, eqGuard, binOp, Op.intDiv, hb]
theorem binS_lss {t : TypeId} {cx cy : Bool} {k : IntKind} {a b : Int} {K : Value → Prop} : RunQ P (binS .lss t cx cy (.int k a) (.int k b)) w K = K (.bool (decide (a < b))) :=
  RunQ.of fun w' _ => by simp [binS, eqGuard, binOp, Op.intCmp]
theorem binS_leq {t : TypeId} {cx cy : Bool} {k : IntKind} {a b : Int} {K : Value → Prop} : RunQ P (binS .leq t cx cy (.int k a) (.int k b)) w K = K (.bool (decide (a ≤ b))) :=
  RunQ.of fun w' _ => by simp [binS, eqGuard, binOp, Op.intCmp]
theorem binS_gtr {t : TypeId} {cx cy : Bool} {k : IntKind} {a b : Int} {K : Value → Prop} : RunQ P (binS .gtr t cx cy (.int k a) (.int k b)) w K = K (.bool (decide (b < a))) :=
  RunQ.of fun w' _ => by simp [binS, eqGuard, binOp, Op.intCmp]
theorem binS_geq {t : TypeId} {cx cy : Bool} {k : IntKind} {a b : Int} {K : Value → Prop} : RunQ P (binS .geq t cx cy (.int k a) (.int k b)) w K = K (.bool (decide (b ≤ a))) :=
  RunQ.of fun w' _ => by simp [binS, eqGuard, binOp, Op.intCmp]
theorem binS_eql {t : TypeId} {cx cy : Bool} {k : IntKind} {a b : Int} {K : Value → Prop} : RunQ P (binS .eql t cx cy (.int k a) (.int k b)) w K = K (.bool (decide (a = b))) :=
  RunQ.of fun w' _ => by
    have : (a == b) = decide (a = b) := by by_cases h : a = b <;> simp [h]
    simp [binS, eqGuard, binOp, Op.intCmp, this]
theorem binS_neq {t : TypeId} {cx cy : Bool} {k : IntKind} {a b : Int} {K : Value → Prop} : RunQ P (binS .neq t cx cy (.int k a) (.int k b)) w K = K (.bool (decide (a ≠ b))) :=
  RunQ.of fun w' _ => by
    have : (a != b) = decide (a ≠ b) := by by_cases h : a = b <;> simp [h, bne]
    simp [binS, eqGuard, binOp, Op.intCmp, this]
theorem binS_shl {t : TypeId} {cx cy : Bool} {k k' : IntKind} {a b : Int} {K : Value → Prop} (hb : 0 ≤ b) : RunQ P (binS .shl t cx cy (.int k a) (.int k' b)) w K = K (.int k (k.wrap (a * 2 ^ min b.toNat k.bits))) :=
  RunQ.of fun w' _ => by simp [binS, eqGuard, binOp, Op.shift, show ¬ b < 0 by omega]
theorem un_not {c : Bool} {K : Value → Prop} : RunQ P (Op.unary .not (.bool c)) w K = K (.bool !c) := RunQ.of fun w' _ => by simp [Op.unary]
theorem un_neg {k : IntKind} {a : Int} {K : Value → Prop} : RunQ P (Op.unary .neg (.int k a)) w K = K (.int k (k.wrap (0 - a))) := RunQ.of fun w' _ => by simp [Op.unary, Op.intArith]

theorem conv_int {s d : TypeId} {k k' : IntKind} {a : Int} {K : Value → Prop} (hs : P.underlying s = some (.int k')) (hd : P.underlying d = some (.int k)) :
    RunQ P (convert s d (.int k' a)) w K = K (.int k (k.wrap a)) := RunQ.of fun w' _ => by simp [convert, run_underlying hs, run_underlying hd, Conv.intToInt]

theorem binS_eql' {t : TypeId} {cx cy : Bool} {x y : Value} {r : Bool} {K : Value → Prop} (hg : ∀ w', (eqGuard .eql t (cv cx) (cv cy) x y).run P w' = .ok () w')
    (hb : binOp .eql t x y = (do pure (.bool (← Op.equal t x y)))) (h : ∀ w', Ext w w' → (Op.equal t x y).run P w' = .ok r w') : RunQ P (binS .eql t cx cy x y) w K = K (.bool r) := RunQ.of fun w' hx => by
  unfold binS
  rw [hb, Sem.run_bind, hg w', Result.andThen_ok, Sem.run_bind, h w' hx]; rfl
theorem binS_neq' {t : TypeId} {cx cy : Bool} {x y : Value} {r : Bool} {K : Value → Prop} (hg : ∀ w', (eqGuard .neq t (cv cx) (cv cy) x y).run P w' = .ok () w')
    (hb : binOp .neq t x y = (do pure (.bool (!(← Op.equal t x y))))) (h : ∀ w', Ext w w' → (Op.equal t x y).run P w' = .ok r w') : RunQ P (binS .neq t cx cy x y) w K = K (.bool !r) := RunQ.of fun w' hx => by
  unfold binS
  rw [hb, Sem.run_bind, hg w', Result.andThen_ok, Sem.run_bind, h w' hx]; rfl

theorem equalIn_ptr_nil (w : World) (d : Nat) {t e : TypeId} {p : Option Addr} (h : P.underlying t = some (.pointer e)) : (Op.equalIn (d + 1) t (.pointer p) (.pointer none)).run P w = .ok p.isNone w := by
  cases p <;> simp [Op.equalIn, run_underlying h]
theorem eq_slice_nil {t e : TypeId} {cx cy : Bool} {base : Option Addr} {n c : Nat} {K : Value → Prop} (ht : P.underlying t = some (.slice e)) :
    RunQ P (binS .eql t cx cy (.slice base n c) (.slice none 0 0)) w K = K (.bool base.isNone) := binS_eql' (fun _ => rfl) rfl fun w' _ => run_equal_slice_nil w' t e base n c ht
theorem ne_slice_nil {t e : TypeId} {cx cy : Bool} {base : Option Addr} {n c : Nat} {K : Value → Prop} (ht : P.underlying t = some (.slice e)) :
    RunQ P (binS .neq t cx cy (.slice base n c) (.slice none 0 0)) w K = K (.bool !base.isNone) := binS_neq' (fun _ => rfl) rfl fun w' _ => run_equal_slice_nil w' t e base n c ht
theorem eq_ptr_nil {t e : TypeId} {cx cy : Bool} {p : Option Addr} {K : Value → Prop} (ht : P.underlying t = some (.pointer e)) :
    RunQ P (binS .eql t cx cy (.pointer p) (.pointer none)) w K = K (.bool p.isNone) := binS_eql' (fun _ => rfl) rfl fun w' _ => equalIn_ptr_nil w' 9999 ht
theorem ne_ptr_nil {t e : TypeId} {cx cy : Bool} {p : Option Addr} {K : Value → Prop} (ht : P.underlying t = some (.pointer e)) :
    RunQ P (binS .neq t cx cy (.pointer p) (.pointer none)) w K = K (.bool !p.isNone) := binS_neq' (fun _ => rfl) rfl fun w' _ => equalIn_ptr_nil w' 9999 ht

theorem len_slice {t e ty : TypeId} {base : Option Addr} {n c : Nat} {K : Value → Prop} (ht : P.underlying t = some (.slice e)) :
    RunQ P (Builtin.len_ #[t] ty #[.slice base n c]) w K = K (.int .i64 n) := RunQ.of fun w' _ => by simp [Builtin.len_, run_underlying ht, goInt]
theorem min_int {ts : Array TypeId} {ty : TypeId} {k : IntKind} {a b : Int} {K : Value → Prop} :
    RunQ P (Builtin.min_ ts ty #[.int k a, .int k b]) w K = K (.int k (min a b)) := RunQ.of fun w' _ => by
  simp only [Builtin.min_, List.foldlM, Builtin.min2]
  simp only [Sem.run_bind, Sem.run_pure, Result.andThen_ok, Int.min_def]
  congr 2; split <;> split <;> omega
theorem max_int {ts : Array TypeId} {ty : TypeId} {k : IntKind} {a b : Int} {K : Value → Prop} :
    RunQ P (Builtin.max_ ts ty #[.int k a, .int k b]) w K = K (.int k (max a b)) := RunQ.of fun w' _ => by
  simp only [Builtin.max_, List.foldlM, Builtin.max2]
  simp only [Sem.run_bind, Sem.run_pure, Result.andThen_ok, Int.max_def]
  congr 2; split <;> split <;> omega
theorem extract_tuple {vs : Array Value} {i : Nat} {v : Value} {K : Value → Prop} (h : vs[i]? = some v) : RunQ P (Instr.extract (.tuple vs) i) w K = K v := RunQ.of fun w' _ => by simp [Instr.extract, h]
theorem makeFunc_eq {f : Fn} {a b : Array Value} {K : Value → Prop} : RunQ P (Instr.makeFunc f a b) w K = K (.func f a b) := RunQ.of fun _ _ => rfl

/-! ### memory -/
def oneCellT (P : Program) (t : TypeId) : Bool := match P.underlying t with
  | some (.struct _) | some (.array _ _) | none => false
  | _ => true

theorem load_cell {t : TypeId} {b o : Nat} {v : Value} {K : Value → Prop} (ht : oneCellT P t = true) (h : w.cell? ⟨b, o, none⟩ = some v) :
    RunQ P (Instr.loadAt t (.pointer (some ⟨b, o, none⟩))) w K = K v := RunQ.of fun w' hx => by
  have h' := cell?_ext hx h
  unfold oneCellT at ht
  cases hu : P.underlying t with
  | none => rw [hu] at ht; cases ht
  | some d =>
    rw [hu] at ht
    cases d <;> first | (cases ht; done) | simp [Instr.loadAt, Instr.sureAddr, loadVar, isAgg, run_underlying hu, h']
theorem load_agg {t : TypeId} {d : TypeDesc} {b o k by_ : Nat} {z : Value} {cs : List Value} {K : Value → Prop} (hu : P.underlying t = some d) (hd : d.isRow = true) (hi : Inf P t k by_ z) (hl : cs.length = k)
    (h : w.rangeAt b o cs) : RunQ P (Instr.loadAt t (.pointer (some ⟨b, o, none⟩))) w K = K (.agg cs.toArray) := RunQ.of fun w' hx =>
  run_loadAt_mid (P := P) w' b o t cs d (range_ext hx h) hu hd (by rw [hi.size, hl])
theorem load_struct {t : TypeId} {pl : List (Nat × Nat)} {b o k by_ : Nat} {z : Value} {cs : List Value} {K : Value → Prop} (hu : Plc P t pl) (hi : Inf P t k by_ z) (hl : cs.length = k)
    (h : w.rangeAt b o cs) : RunQ P (Instr.loadAt t (.pointer (some ⟨b, o, none⟩))) w K = K (.agg cs.toArray) := by
  obtain ⟨fs, hu, _⟩ := hu
  exact load_agg hu rfl hi hl h
theorem field_at {t : TypeId} {pl : List (Nat × Nat)} {i b o off z : Nat} {K : Value → Prop} (hp : Plc P t pl) (hf : pl[i]? = some (off, z + 1)) :
    RunQ P (Instr.fieldAt t (.pointer (some ⟨b, o, none⟩)) i) w K = K (.pointer (some ⟨b, o + off, none⟩)) := RunQ.of fun w' _ => by
  obtain ⟨fs, hu, rfl⟩ := hp
  rw [List.getElem?_map] at hf
  cases hq : fs[i]? with
  | none => rw [Array.getElem?_toList, hq] at hf; cases hf
  | some f =>
    rw [Array.getElem?_toList, hq] at hf
    simp only [Option.map_some, Option.some.injEq, Prod.mk.injEq] at hf
    obtain ⟨rfl, hz⟩ := hf
    cases hq2 : P.info? f.type with
    | none => simp [hq2] at hz
    | some j =>
      have hs : j.size = z + 1 := by simpa [hq2] using hz
      simp [Instr.fieldAt, run_underlying hu, hq, Instr.sureAddr, fieldPlace, sizeOf, typeInfo, hq2, hs, Addr.add_mid]
theorem index_slice {t e : TypeId} {k : IntKind} {i : Int} {b o n c z by_ : Nat} {zv : Value} {base : Option Addr} {K : Value → Prop} (hu : P.underlying t = some (.slice e)) (hz : Inf P e z by_ zv)
    (h0 : 0 ≤ i) (hi : i < n) (hb : 0 < n → base = some ⟨b, o, none⟩) :
    RunQ P (Instr.indexAt t (.slice base n c) (.int k i)) w K = K (.pointer (some ⟨b, o + i.toNat * z, none⟩)) := RunQ.of fun w' _ => by
  have hb := hb (by omega)
  subst hb
  obtain ⟨j, hq, hs, _⟩ := hz
  simp [Instr.indexAt, asIntOf, run_underlying hu, h0, hi, sizeOf, typeInfo, hq, hs, Addr.add_mid]
theorem index_nat {t e : TypeId} {k : IntKind} {i : Nat} {b o n c z by_ : Nat} {zv : Value} {base : Option Addr} {K : Value → Prop} (hu : P.underlying t = some (.slice e)) (hz : Inf P e z by_ zv)
    (hi : i < n) (hb : 0 < n → base = some ⟨b, o, none⟩) :
    RunQ P (Instr.indexAt t (.slice base n c) (.int k (i : Int))) w K = K (.pointer (some ⟨b, o + i * z, none⟩)) := by
  rw [index_slice (i := (i : Int)) hu hz (by omega) (by omega) hb]; rfl
theorem index_array {t e : TypeId} {k : IntKind} {i : Int} {b o n z by_ : Nat} {zv : Value} {K : Value → Prop} (hu : P.underlying t = some (.array n e)) (hz : Inf P e z by_ zv)
    (h0 : 0 ≤ i) (hi : i < n) :
    RunQ P (Instr.indexAt t (.pointer (some ⟨b, o, none⟩)) (.int k i)) w K = K (.pointer (some ⟨b, o + i.toNat * z, none⟩)) := RunQ.of fun w' _ => by
  obtain ⟨j, hq, hs, _⟩ := hz
  simp [Instr.indexAt, asIntOf, run_underlying hu, Instr.sureAddr, h0, hi, sizeOf, typeInfo, hq, hs, Addr.add_mid]
theorem index_arr_nat {t e : TypeId} {k : IntKind} {i : Nat} {b o n z by_ : Nat} {zv : Value} {K : Value → Prop} (hu : P.underlying t = some (.array n e)) (hz : Inf P e z by_ zv) (hi : i < n) :
    RunQ P (Instr.indexAt t (.pointer (some ⟨b, o, none⟩)) (.int k (i : Int))) w K = K (.pointer (some ⟨b, o + i * z, none⟩)) := by
  rw [index_array (i := (i : Int)) hu hz (by omega) (by omega)]; rfl
theorem index_arr_lit (i : Nat) (x : Int) {t e : TypeId} {k : IntKind} {b o n z by_ : Nat} {zv : Value} {K : Value → Prop} (hu : P.underlying t = some (.array n e)) (hz : Inf P e z by_ zv) (hx : x = (i : Int)) (hi : i < n) :
    RunQ P (Instr.indexAt t (.pointer (some ⟨b, o, none⟩)) (.int k x)) w K = K (.pointer (some ⟨b, o + i * z, none⟩)) := by
  subst hx; exact index_arr_nat hu hz hi
theorem index_lit (i : Nat) (x : Int) {t e : TypeId} {k : IntKind} {b o n c z by_ : Nat} {zv : Value} {base : Option Addr} {K : Value → Prop} (hu : P.underlying t = some (.slice e)) (hz : Inf P e z by_ zv)
    (hx : x = (i : Int)) (hi : i < n) (hb : 0 < n → base = some ⟨b, o, none⟩) :
    RunQ P (Instr.indexAt t (.slice base n c) (.int k x)) w K = K (.pointer (some ⟨b, o + i * z, none⟩)) := by
  subst hx; exact index_nat hu hz hi hb
/-- s[lo:hi], s[lo:], s[:hi], s[:], and with a third bound: the bounds as numbers -/
theorem bound_ok (w : World) {k : IntKind} {i : Int} {y : Nat} {c : BoundsCode} (h0 : 0 ≤ i) (h1 : i ≤ y) {v : Value} (hv : v = .int k i) : (Instr.sliceBound v y c).run P w = .ok i.toNat w := by
  subst hv; simp [Instr.sliceBound, asIntOf, h0, h1]
def lowOf : Option Value → Nat → Prop
  | none, l => l = 0
  | some v, l => ∃ k, v = .int k l
def highOf : Option Value → Nat → Nat → Prop
  | none, n, h => h = n
  | some v, _, h => ∃ k, v = .int k h
def maxOf : Option Value → Option Value → Nat → Nat → Prop
  | none, _, c, m => m = c
  | some v, some _, _, m => ∃ k, v = .int k m
  | some _, none, _, _ => False
theorem lo_at {k : IntKind} {l : Nat} : lowOf (some (.int k (l : Int))) l := ⟨_, rfl⟩
theorem lo_lit (l : Nat) (x : Int) {k : IntKind} (h : x = (l : Int)) : lowOf (some (.int k x)) l := ⟨k, by rw [h]⟩
theorem hi_lit (l : Nat) (x : Int) {k : IntKind} {n : Nat} (h : x = (l : Int)) : highOf (some (.int k x)) n l := ⟨k, by rw [h]⟩
theorem lo_no : lowOf none 0 := rfl
theorem hi_at {k : IntKind} {n h : Nat} : highOf (some (.int k (h : Int))) n h := ⟨_, rfl⟩
theorem hi_no {n : Nat} : highOf none n n := rfl
theorem mx_at {k : IntKind} {v : Value} {c m : Nat} : maxOf (some (.int k (m : Int))) (some v) c m := ⟨_, rfl⟩
theorem mx_no {h : Option Value} {c : Nat} : maxOf none h c c := by cases h <;> rfl
theorem bounds_ok (w : World) {sl : Bool} {n c l h m : Nat} {low high mx : Option Value} (h1 : lowOf low l) (h2 : highOf high n h) (h3 : maxOf mx high c m) (hl : l ≤ h) (hh : h ≤ m) (hm : m ≤ c) :
    (Instr.sliceBounds sl n c low high mx).run P w = .ok (l, h, m) w := by
  cases low <;> cases high <;> cases mx <;> simp only [lowOf, highOf, maxOf] at h1 h2 h3 <;> (try exact h3.elim) <;> (try obtain ⟨k1, rfl⟩ := h1) <;> (try obtain ⟨k2, rfl⟩ := h2) <;> (try obtain ⟨k3, rfl⟩ := h3) <;> (try subst h1) <;> (try subst h2) <;> (try subst h3) <;>
    simp [Instr.sliceBounds, Instr.sliceBound, asIntOf, hl, hh, hm]
theorem slice_slice {t e : TypeId} {n c z by_ l h m : Nat} {zv : Value} {base : Option Addr} {low high mx : Option Value} {K : Value → Prop} (hu : P.underlying t = some (.slice e)) (hz : Inf P e z by_ zv)
    (h1 : lowOf low l) (h2 : highOf high n h) (h3 : maxOf mx high c m) (hl : l ≤ h) (hh : h ≤ m) (hm : m ≤ c) :
    RunQ P (Instr.sliceAt t (.slice base n c) low high mx) w K = K (.slice (if m = l then base else base.map (·.add (l * z))) (h - l) (m - l)) := RunQ.of fun w' _ => by
  obtain ⟨j, hq, hs, _⟩ := hz
  simp [Instr.sliceAt, Instr.slice, run_underlying hu, bounds_ok w' h1 h2 h3 hl hh hm, sizeOf, typeInfo, hq, hs]
theorem slice_array {t e : TypeId} {n z by_ l h m b o : Nat} {zv : Value} {low high mx : Option Value} {K : Value → Prop} (hu : P.underlying t = some (.array n e)) (hz : Inf P e z by_ zv)
    (h1 : lowOf low l) (h2 : highOf high n h) (h3 : maxOf mx high n m) (hl : l ≤ h) (hh : h ≤ m) (hm : m ≤ n) :
    RunQ P (Instr.sliceAt t (.pointer (some ⟨b, o, none⟩)) low high mx) w K = K (.slice (some (if m = l then ⟨b, o, none⟩ else ⟨b, o + l * z, none⟩)) (h - l) (m - l)) := RunQ.of fun w' _ => by
  obtain ⟨j, hq, hs, _⟩ := hz
  simp [Instr.sliceAt, Instr.sureAddr, run_underlying hu, bounds_ok w' h1 h2 h3 hl hh hm, sizeOf, typeInfo, hq, hs, Addr.add_mid]
theorem build_eq {t : TypeId} {parts : Array (Nat × Value)} {cs : Array Value} {K : Value → Prop} (h : P.built t parts.toList = some cs) : RunQ P (Instr.build t parts) w K = K (.agg cs) := RunQ.of fun w' _ =>
  run_build (P := P) w' t parts cs h

end

/-- a part of a slice -/
theorem Sl.part {w : World} {k n c l h m : Nat} {base : Option Addr} {cs : List Value} (hs : Sl w k (.slice base n c) n cs) (hl : l ≤ h) (hh : h ≤ n) (hm : h ≤ m) (hmc : m ≤ c) :
    Sl w k (.slice (if m = l then base else base.map (·.add (l * k))) (h - l) (m - l)) (h - l) ((cs.drop (l * k)).take ((h - l) * k)) := by
  obtain ⟨h1, b, o, base', cap, he, h2, h3, h4, h5⟩ := hs
  cases he
  have hle : h * k ≤ n * k := Nat.mul_le_mul_right _ hh
  have hle2 : l * k + (h - l) * k = h * k := by rw [← Nat.add_mul]; congr 1; omega
  refine ⟨by simp [h1]; omega, b, o + l * k, _, m - l, rfl, by omega, by omega, fun h0 => ?_, fun j v hv => ?_⟩
  · rw [h4 (by omega), if_neg (by omega)]; simp [Addr.add_mid]
  · have hj := (List.getElem?_eq_some_iff.1 hv).1
    simp at hj
    rw [List.getElem?_take_of_lt (by omega), List.getElem?_drop] at hv
    rw [Nat.add_assoc]
    exact h5 _ _ hv
end Go.Vc
