/- Lemma kit, part k: parts of lists. -/
import Derived.Test.YtahhkeljejfgfaaKj
namespace Go.Vc
open Go Go.RowKit
section
variable {P : Program} {w : World} {m : Bool} {S R : Bs}

theorem part_sl {t e : TypeId} {b n k l h : Nat} {z v : Value} {low high : Option Value} {cs : List Value} {K : Value → Prop} (ht : P.underlying t = some (.slice e)) (hi : Inf P e k b z)
    (hv : Sl w k v n cs) (h1 : lowOf low l) (h2 : highOf high n h) (hl : l ≤ h) (hh : h ≤ n) (hK : ∀ v', Sl w k v' (h - l) ((cs.drop (l * k)).take ((h - l) * k)) → K v') :
    RunQ P (Instr.sliceAt t v low high none) w K := by
  have hv0 := hv
  obtain ⟨_, b', o, base, cap, rfl, hcap, _⟩ := hv
  rw [slice_slice ht hi h1 h2 mx_no hl (by omega) (Nat.le_refl _)]
  exact hK _ (Sl.part hv0 hl hh (by omega) (Nat.le_refl _))
/-- l[i:], l[:i] -/
theorem drop_ls {t e : TypeId} {kk k : IntKind} {b i : Nat} {y : Int} {z v : Value} {l : List Int} {K : Value → Prop} (hy : y = (i : Int)) (ht : P.underlying t = some (.slice e)) (hi : Inf P e 1 b z)
    (h : LS k w v l) (hle : i ≤ l.length) (hK : ∀ v', LS k w v' (l.drop i) → K v') : RunQ P (Instr.sliceAt t v (some (.int kk y)) none none) w K := by
  refine part_sl ht hi h (lo_lit i y hy) hi_no hle (Nat.le_refl _) fun v' h' => hK v' (LS.of (n := l.length - i) ?_)
  have e2 : ((ints k l).drop (i * 1)).take ((l.length - i) * 1) = ints k (l.drop i) := by
    rw [List.take_of_length_le (by simp), Nat.mul_one, ints, ← List.map_drop]
  rw [e2] at h'; exact h'
theorem take_ls {t e : TypeId} {kk k : IntKind} {b i : Nat} {y : Int} {z v : Value} {l : List Int} {K : Value → Prop} (hy : y = (i : Int)) (ht : P.underlying t = some (.slice e)) (hi : Inf P e 1 b z)
    (h : LS k w v l) (hle : i ≤ l.length) (hK : ∀ v', LS k w v' (l.take i) → K v') : RunQ P (Instr.sliceAt t v none (some (.int kk y)) none) w K := by
  refine part_sl ht hi h lo_no (hi_lit i y hy) (Nat.zero_le _) hle fun v' h' => hK v' (LS.of (n := i) ?_)
  have e2 : ((ints k l).drop (0 * 1)).take ((i - 0) * 1) = ints k (l.take i) := by
    simp [ints, List.map_take]
  rw [e2] at h'; exact h'
/-- made, and filled: numbers -/
theorem lits_own {t e : TypeId} {b n : Nat} {parts : Array (Nat × Value)} {l : List Int} {K : Value → World → Prop} (ht : P.underlying t = some (.slice e)) (hi : Inf P e 1 b (.int .i64 0)) (hn : n ≤ 100000) (hl : l.length = n)
    (hf : Instr.fill (fun j => some (j * 1, 1)) ((Array.range (n * 1)).map ((if n * 1 = 0 then #[] else (Value.int .i64 0).cells)[· % (if n * 1 = 0 then #[] else (Value.int .i64 0).cells).size]!)) parts.toList = some (ints .i64 l).toArray)
    (hK : ∀ v g w', g = w.heap.size → Ext w w' → LM .i64 e w' g v l → K v w') : RunC P (Instr.buildSlice t n parts) w K :=
  buildSlice_c ht hi (by omega) hf fun g w' hg hx hb => hK _ g w' hg hx (LM.of (n := n) (Mine.full (by simpa using hb) (by simp [hl]) (by simp [maxLen]; omega)))
end
end Go.Vc
