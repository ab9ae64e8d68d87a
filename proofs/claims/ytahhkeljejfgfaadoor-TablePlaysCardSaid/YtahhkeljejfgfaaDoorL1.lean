/- Small functions of costs, and of slices of numbers: what they answer. -/
import Derived.Test.YtahhkeljejfgfaaDoorBody
import Derived.Test.YtahhkeljejfgfaaDoorTypes
import Derived.Test.YtahhkeljejfgfaaDoorKj
namespace Go.Proofs.YtahhkeljejfgfaaDoor
open Go Go.Vc Go.RowKit Go.Proofs Go.Proofs.Tryd
set_option maxRecDepth 100000

/-! ### costs, in plain numbers -/
def right (k : Int) : Prop := 1 ≤ k ∧ k ≤ 2147483648
def inK (a k : Int) : Prop := right k ∧ 0 ≤ a ∧ a ≤ k
instance (k : Int) : Decidable (right k) := by unfold right; infer_instance
instance (a k : Int) : Decidable (inK a k) := by unfold inK; infer_instance

theorem cRight {k : Int} {w : World} : Cal prog F.cost_Right [.int .i64 k] w fun v w' => v = .bool (decide (right k)) ∧ Ext w w' := by
  apply cost_Right.enter
  unfold cost_Right.body
  simp only [JoinC, binS_geq, binS_leq, split_dec]
  refine ⟨fun h => ⟨?_, Ext.refl _⟩, fun h => ⟨?_, Ext.refl _⟩⟩
  · congr 1; simp [right, h]
  · rw [decide_eq_false]; intro hr; exact h hr.1
theorem cIn {a k : Int} {w : World} : Cal prog F.cost_In [.int .i64 a, .int .i64 k] w fun v w' => v = .bool (decide (inK a k)) ∧ Ext w w' := by
  apply cost_In.enter
  unfold cost_In.body
  simp only [JoinC]
  refine cRight.mono ?_
  rintro _ w1 _ ⟨rfl, hx⟩
  simp only [binS_geq, binS_leq, split_dec]
  refine ⟨fun h => ⟨fun h2 => ⟨?_, hx⟩, fun h2 => ⟨?_, hx⟩⟩, fun h => ⟨?_, hx⟩⟩
  · congr 1; simp [inK, h, h2]
  · rw [decide_eq_false]; intro hr; exact h2 hr.2.1
  · rw [decide_eq_false]; intro hr; exact h hr.1
theorem rRight {k : Int} {w : World} : Cal prog F.ref01_Right [.int .i64 k] w fun v w' => v = .bool (decide (right k)) ∧ Ext w w' := by
  apply ref01_Right.enter
  unfold ref01_Right.body
  simp only [JoinC, binS_gtr, binS_leq, split_dec]
  refine ⟨fun h => ⟨?_, Ext.refl _⟩, fun h => ⟨?_, Ext.refl _⟩⟩
  · congr 1
    have h' : 1 ≤ k := by omega
    simp [right, h']
  · rw [decide_eq_false]; intro hr; have := hr.1; omega
theorem rIn {a k : Int} {w : World} : Cal prog F.ref01_In [.int .i64 a, .int .i64 k] w fun v w' => v = .bool (decide (inK a k)) ∧ Ext w w' := by
  apply ref01_In.enter
  unfold ref01_In.body
  simp only [JoinC]
  refine rRight.mono ?_
  rintro _ w1 _ ⟨rfl, hx⟩
  simp only [binS_geq, binS_leq, split_dec]
  refine ⟨fun h => ⟨fun h2 => ⟨?_, hx⟩, fun h2 => ⟨?_, hx⟩⟩, fun h => ⟨?_, hx⟩⟩
  · congr 1; simp [inK, h, h2]
  · rw [decide_eq_false]; intro hr; exact h2 hr.2.1
  · rw [decide_eq_false]; intro hr; exact h hr.1
end Go.Proofs.YtahhkeljejfgfaaDoor
