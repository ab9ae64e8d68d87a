/- The row of ElimMins: for every input the law returns true, and its arguments read behind the call as before. No conditions but the table of math/bits as the text lays it (tied). -/
import Derived.Test.YtkcigodpbndobaaGreatDoorYRaA
namespace Go.Proofs.YtkcigodpbndobaaGreatDoor.elimMins
set_option maxRecDepth 100000
open Go.ChangeShapes Go.WideShapes Go.ChangeAt Go.RowKit
open Go.Proofs.YtkcigodpbndobaaGreatDoor
theorem an {a b : Bool} (ha : a = true) (hb : b = true) : (a && b) = true := by rw [ha, hb]; rfl
set_option maxHeartbeats 4000000 in
/-- the closed facts, each by itself -/
theorem closed : joinedFacts Tryz.pinned.checked.prog 5 Tryz.f5 (OpenSpec.ofChange Rows.elimMinsSpec).bare Rows.elimMinsRow = true := by
  unfold joinedFacts
  repeat' (with_reducible refine an ?_ ?_)
  all_goals (as_aux_lemma => kernel_rfl)
theorem instd : Tryz.f5.isInstance Tryz.pinned.checked.prog Rows.elimMinsRow.origin Rows.elimMinsRow.targs := ro (by kernel_rfl)
theorem wrapd : Tryz.f5.isWrapper Tryz.pinned.checked.prog Rows.elimMinsRow.wrapper Rows.elimMinsRow.mainSum := by unfold Func.isWrapper; first | (rw [m5 (by decide +kernel)]; kernel_rfl) | (rw [m6 (by decide +kernel)]; exact ⟨rfl, rfl⟩)
theorem said : Rows.ElimMinsSaid :=
  OpenClaim.holds_of_cond 5 Tryz.f5 rfl rfl rfl rfl rfl rfl rfl ⟨rfl, rfl, rfl, rfl, rfl⟩ rfl rfl rfl rfl rfl (by kernel_rfl) Tryz.func5 closed instd wrapd
    (fun os started H enc _ F => by rw [OpenClaim.pre_eq_preRow]; exact lifted os started H enc F)

end Go.Proofs.YtkcigodpbndobaaGreatDoor.elimMins
