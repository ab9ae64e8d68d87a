/- The row of ElimOrders: for every input the law returns true, and its arguments read behind the call as before. No conditions but the table of math/bits as the text lays it (tied). -/
import Derived.Test.YtkcigodpbndobaaGreatDoorWRaA
namespace Go.Proofs.YtkcigodpbndobaaGreatDoor.elimOrders
set_option maxRecDepth 100000
open Go.ChangeShapes Go.WideShapes Go.ChangeAt Go.RowKit
open Go.Proofs.YtkcigodpbndobaaGreatDoor
theorem an {a b : Bool} (ha : a = true) (hb : b = true) : (a && b) = true := by rw [ha, hb]; rfl
set_option maxHeartbeats 4000000 in
/-- the closed facts, each by itself -/
theorem closed : joinedFacts Tryz.pinned.checked.prog 4 Tryz.f4 (OpenSpec.ofChange Rows.elimOrdersSpec).bare Rows.elimOrdersRow = true := by
  unfold joinedFacts
  repeat' (with_reducible refine an ?_ ?_)
  all_goals (as_aux_lemma => kernel_rfl)
theorem instd : Tryz.f4.isInstance Tryz.pinned.checked.prog Rows.elimOrdersRow.origin Rows.elimOrdersRow.targs := rc (by kernel_rfl)
theorem wrapd : Tryz.f4.isWrapper Tryz.pinned.checked.prog Rows.elimOrdersRow.wrapper Rows.elimOrdersRow.mainSum := by unfold Func.isWrapper; first | (rw [m3 (by decide +kernel)]; kernel_rfl) | (rw [m5 (by decide +kernel)]; exact ⟨rfl, rfl⟩)
theorem said : Rows.ElimOrdersSaid :=
  OpenClaim.holds_of_cond 4 Tryz.f4 rfl rfl rfl rfl rfl rfl rfl ⟨rfl, rfl, rfl, rfl, rfl⟩ rfl rfl rfl rfl rfl (by kernel_rfl) Tryz.func4 closed instd wrapd
    (fun os started H enc _ F => by rw [OpenClaim.pre_eq_preRow]; exact lifted os started H enc F)

end Go.Proofs.YtkcigodpbndobaaGreatDoor.elimOrders
