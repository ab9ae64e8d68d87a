/- The row of StateNil: for every input the law returns true, and its arguments read behind the call as before. No conditions but the table of math/bits as the text lays it (tied). -/
import Derived.Test.YtgbkinibgjmodaaGreatDoorYRA
namespace Go.Proofs.YtgbkinibgjmodaaGreatDoor.stateNil
set_option maxRecDepth 100000
open Go.ChangeShapes Go.WideShapes Go.ChangeAt Go.RowKit
open Go.Proofs.YtgbkinibgjmodaaGreatDoor
theorem Hs {a b : Bool} (ha : a = true) (hb : b = true) : (a && b) = true := by rw [ha, hb]; rfl
set_option maxHeartbeats 4000000 in
/-- the closed facts, each by itself -/
theorem closed : joinedFacts Tryz.pinned.checked.prog 10 Tryz.f10 (OpenSpec.ofChange Rows.stateNilSpec).bare Rows.stateNilRow = true := by
  unfold joinedFacts
  repeat' (with_reducible refine Hs ?_ ?_)
  all_goals (as_aux_lemma => kernel_rfl)
theorem Ht : Tryz.f10.isInstance Tryz.pinned.checked.prog Rows.stateNilRow.origin Rows.stateNilRow.targs := of_decide_eq_true (by kernel_rfl)
theorem Hu : Tryz.f10.isWrapper Tryz.pinned.checked.prog Rows.stateNilRow.wrapper Rows.stateNilRow.mainSum := by unfold Func.isWrapper; first | (rw [if_pos (by decide +kernel)]; kernel_rfl) | (rw [if_neg (by decide +kernel)]; exact ⟨rfl, rfl⟩)
theorem said : Rows.StateNilSaid :=
  OpenClaim.holds_of_cond 10 Tryz.f10 rfl rfl rfl rfl rfl rfl rfl ⟨rfl, rfl, rfl, rfl, rfl⟩ rfl rfl rfl rfl rfl (by kernel_rfl) Tryz.func10 closed Ht Hu
    (fun os started H enc _ F => by rw [OpenClaim.pre_eq_preRow]; exact lifted os started H enc F)

end Go.Proofs.YtgbkinibgjmodaaGreatDoor.stateNil
