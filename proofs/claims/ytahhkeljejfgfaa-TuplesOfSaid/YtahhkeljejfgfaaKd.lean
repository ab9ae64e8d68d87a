/- Lemma kit, part d: from a law's walk to its row. -/
import Derived.Test.YtahhkeljejfgfaaKc
import Derived.Below
namespace Go.Vc
open Go Go.RowKit
theorem Cal.calls {P : Program} {f : FuncId} {args : List Value} {w : World} {K : Value → World → Prop} (h : Cal P f args w K) (hen : Enters P f) : Calls P f args.toArray w fun e w' => ∃ v, e = .returned v ∧ Ns w w' ∧ K v w' := by
  cases h with
  | code _ h => exact h
  | ext v w' h1 => rw [hen] at h1; cases h1
theorem below_of {w w' : World} (hx : Ext w w') (hn : Ns w w') : Below w.heap.size w w' :=
  ⟨hn.os, hn.tape, hn.output, hx.size, fun k hk => by
    have ho : w.heap[k]? = some w.heap[k] := Array.getElem?_eq_getElem hk
    rw [ho]
    cases hs : solid w.heap[k] with
    | true => exact hx.keep k _ ho hs
    | false => exact hn.keep k _ ho hs⟩
theorem spot_none {w : World} {x : Addr} {v : Value} (h : w.cell? x = some v) : x = ⟨x.block, x.off, none⟩ := by
  obtain ⟨b, o, s⟩ := x
  cases s with
  | none => rfl
  | some s =>
    unfold World.cell? at h
    split at h <;> simp at h
/-- a slice of integers that came in -/
theorem sl_of_row {k : IntKind} {w : World} {a : Option Addr} {len cap : Nat} {zs : List Int}
    (h : (a = none ∧ len = 0 ∧ cap = 0 ∧ zs = []) ∨
      ∃ x, a = some x ∧ len ≤ cap ∧ cap ≤ maxLen ∧ zs.length = cap ∧ (∀ i, i < zs.length → w.cell? (x.add i) = some (.int k (zs.getD i 0))) ∧ ∀ n ∈ zs, (Lit.int k n).wf = true) :
    Sl w 1 (.slice a len cap) len (ints k (zs.take len)) ∧ ∀ n ∈ zs.take len, k.min ≤ n ∧ n ≤ k.max := by
  rcases h with ⟨rfl, rfl, rfl, rfl⟩ | ⟨x, rfl, h1, h2, h3, h4, h5⟩
  · exact ⟨Sl.nil _ _, by simp⟩
  · refine ⟨⟨by simp [h3, h1], x.block, x.off, some x, cap, rfl, h1, h2, fun h0 => ?_, fun j v hv => ?_⟩, fun n hn => ?_⟩
    · have := h4 0 (by omega)
      exact congrArg some (spot_none this)
    · have hj := (List.getElem?_eq_some_iff.1 hv).1
      rw [List.length_map, List.length_take] at hj
      have hx : x = ⟨x.block, x.off, none⟩ := spot_none (v := .int k (zs.getD 0 0)) (h4 0 (by omega))
      have hc := h4 j (by omega)
      rw [hx, Addr.add_mid] at hc
      rw [hc, ← hv, ints, List.getElem?_map, List.getElem?_take_of_lt (by omega), List.getD_eq_getElem?_getD, List.getElem?_eq_getElem (by omega)]
      rfl
    · have := h5 n (List.mem_of_mem_take hn)
      simpa [Lit.wf] using this
end Go.Vc
