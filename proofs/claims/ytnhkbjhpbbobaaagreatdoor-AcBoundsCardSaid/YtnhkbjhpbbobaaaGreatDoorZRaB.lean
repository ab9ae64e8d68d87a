/- The row of AcBounds: for every input the law returns true, and its arguments read behind the call as before. No conditions but the table of math/bits as the text lays it (tied). -/
import Derived.Test.YtnhkbjhpbbobaaaGreatDoorZRaA
namespace Go.Proofs.YtnhkbjhpbbobaaaGreatDoor.acBounds
set_option maxRecDepth 100000
open Go.ChangeShapes Go.WideShapes Go.ChangeAt Go.RowKit
open Go.Proofs.YtnhkbjhpbbobaaaGreatDoor
theorem an {a b : Bool} (ha : a = true) (hb : b = true) : (a && b) = true := by rw [ha, hb]; rfl
set_option maxHeartbeats 4000000 in
/-- the closed facts, each by itself -/
theorem closed : joinedFacts Tryz.pinned.checked.prog 3 Tryz.f3 (OpenSpec.ofChange Rows.acBoundsSpec).bare Rows.acBoundsRow = true := by
  unfold joinedFacts
  repeat' (with_reducible refine an ?_ ?_)
  all_goals (as_aux_lemma => kernel_rfl)
theorem instd : Tryz.f3.isInstance Tryz.pinned.checked.prog Rows.acBoundsRow.origin Rows.acBoundsRow.targs := ty (by kernel_rfl)
theorem wrapd : Tryz.f3.isWrapper Tryz.pinned.checked.prog Rows.acBoundsRow.wrapper Rows.acBoundsRow.mainSum := by unfold Func.isWrapper; first | (rw [ms (by decide +kernel)]; kernel_rfl) | (rw [rc (by decide +kernel)]; exact ⟨rfl, rfl⟩)
theorem said : Rows.AcBoundsSaid :=
  OpenClaim.holds_of_cond 3 Tryz.f3 rfl rfl rfl rfl rfl rfl rfl ⟨rfl, rfl, rfl, rfl, rfl⟩ rfl rfl rfl rfl rfl (by kernel_rfl) Tryz.func3 closed instd wrapd
    (fun os started H enc _ F => by rw [OpenClaim.pre_eq_preRow]; exact lifted os started H enc F)

end Go.Proofs.YtnhkbjhpbbobaaaGreatDoor.acBounds
