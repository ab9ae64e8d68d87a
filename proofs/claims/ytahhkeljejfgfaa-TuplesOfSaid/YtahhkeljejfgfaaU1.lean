/- Tuples: their keys, and maps of them. -/
import Derived.Test.YtahhkeljejfgfaaM1
import Derived.Test.YtahhkeljejfgfaaM2
import Derived.Test.YtahhkeljejfgfaaL12
import Derived.Test.YtahhkeljejfgfaaKp
namespace Go.Proofs.Ytahhkeljejfgfaa
open Go Go.Vc Go.RowKit Go.Proofs Go.Proofs.Try
set_option maxRecDepth 100000

/-- a key: six small numbers -/
def keyV (ks : List Int) : Value := .agg (ints .i8 ks).toArray
def KeyL (ks : List Int) : Prop := ks.length = 6 ∧ ∀ x ∈ ks, 0 ≤ x ∧ x < 32
theorem keyV_inj {a b : List Int} (h : keyV a = keyV b) : a = b := by
  unfold keyV at h
  have h : ints .i8 a = ints .i8 b := congrArg Array.toList (Value.agg.inj h)
  have e : ∀ l : List Int, (ints .i8 l).map valOf = l := fun l => by
    unfold ints
    rw [List.map_map]
    exact List.map_id l
  rw [← e a, ← e b, h]
theorem keyV_cells (ks : List Int) : (keyV ks).cells.toList = ints .i8 ks := by simp [keyV, Value.cells]
theorem arrKey : WideMaps.ArrKey prog T.t_tuples_key T.t_int8 6 := ⟨T.t_tuples_key.u, by kernel_rfl, by kernel_rfl, by kernel_rfl⟩
theorem keys : Keys prog T.t_tuples_key fun v => ∃ l, keyOf prog T.t_tuples_key v = some l := Keys.law arrKey.law
theorem key_ok {ks : List Int} (h : KeyL ks) : ∃ l, keyOf prog T.t_tuples_key (keyV ks) = some l := by
  obtain ⟨hl, hr⟩ := h
  match ks, hl with
  | [a, b, c, d, e, f], _ =>
    have ra := hr a (by simp)
    have rb := hr b (by simp)
    have rc := hr c (by simp)
    have rd := hr d (by simp)
    have re := hr e (by simp)
    have rf := hr f (by simp)
    have wf : ∀ x : Int, 0 ≤ x ∧ x < 32 → (Lit.int .i8 x).wf = true := fun x hx => by
      simp only [Lit.wf, Bool.and_eq_true, decide_eq_true_eq]
      have e1 : IntKind.i8.min = -128 := by decide
      have e2 : IntKind.i8.max = 127 := by decide
      omega
    have hsz : decide (0 < prog.types.size) = true := by kernel_rfl
    have hsz := of_decide_eq_true hsz
    obtain ⟨n, hn⟩ : ∃ n, prog.types.size = n + 1 := ⟨prog.types.size - 1, by omega⟩
    have one : ∀ x : Int, 0 ≤ x ∧ x < 32 → prog.keyLits (n + 1) T.t_int8 [.int .i8 x] = some [.int .i8 x] := fun x hx => by
      unfold Program.keyLits
      rw [T.t_int8.u]
      simp [wf x hx]
    unfold keyOf
    rw [T.t_tuples_key.u]
    simp only
    have hkt : prog.keyType T.t_tuples_key = true := by kernel_rfl
    have hce : prog.cellsOf T.t_int8 = 1 := by kernel_rfl
    have hck : prog.cellsOf T.t_tuples_key = 6 := by kernel_rfl
    have hf : (keyV [a, b, c, d, e, f]).formed prog T.t_tuples_key = true := by
      unfold keyV Value.formed
      rw [T.t_tuples_key.u, hck]; rfl
    rw [hkt, hf, keyV_cells, hn]
    simp only [Bool.and_self, if_true]
    unfold Program.keyLits
    rw [T.t_tuples_key.u]
    simp only [hck, hce, ints]
    have er : List.range 6 = [0, 1, 2, 3, 4, 5] := by decide
    simp [er, one a ra, one b rb, one c rc, one d rd, one e re, one f rf]

/-- a tuple, filled up -/
def pad (t : List Int) : List Int := t ++ List.replicate (6 - t.length) 0
theorem pad_key {t : List Int} (hl : t.length ≤ 6) (hr : ∀ x ∈ t, 0 ≤ x ∧ x < 32) : KeyL (pad t) :=
  ⟨by simp [pad]; omega, fun x hx => by
    rcases List.mem_append.1 hx with h | h
    · exact hr x h
    · have := (List.mem_replicate.1 h).2; omega⟩
theorem pad_inj {a b : List Int} (hl : a.length = b.length) (h : pad a = pad b) : a = b := by
  unfold pad at h
  exact (List.append_inj h hl).1
theorem pad_take {t : List Int} : (pad t).take t.length = t := by simp [pad]
end Go.Proofs.Ytahhkeljejfgfaa

