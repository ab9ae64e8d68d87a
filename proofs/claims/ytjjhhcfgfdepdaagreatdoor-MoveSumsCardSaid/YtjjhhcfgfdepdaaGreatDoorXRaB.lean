/- The row of MoveSums: for every input the law returns true, and its arguments read behind the call as before. No conditions but the table of math/bits as the text lays it (tied). -/
import Derived.Test.YtjjhhcfgfdepdaaGreatDoorXRaA
namespace Go.Proofs.YtjjhhcfgfdepdaaGreatDoor.moveSums
set_option maxRecDepth 100000
open Go.ChangeShapes Go.WideShapes Go.ChangeAt Go.RowKit
open Go.Proofs.YtjjhhcfgfdepdaaGreatDoor
theorem an {a b : Bool} (ha : a = true) (hb : b = true) : (a && b) = true := by rw [ha, hb]; rfl
set_option maxHeartbeats 4000000 in
/-- the closed facts, each by itself -/
theorem closed : joinedFacts Tryz.pinned.checked.prog 7 Tryz.f7 (OpenSpec.ofChange Rows.moveSumsSpec).bare Rows.moveSumsRow = true := by
  unfold joinedFacts
  repeat' (with_reducible refine an ?_ ?_)
  all_goals (as_aux_lemma => kernel_rfl)
theorem instd : Tryz.f7.isInstance Tryz.pinned.checked.prog Rows.moveSumsRow.origin Rows.moveSumsRow.targs := of_decide_eq_true (by kernel_rfl)
theorem wrapd : Tryz.f7.isWrapper Tryz.pinned.checked.prog Rows.moveSumsRow.wrapper Rows.moveSumsRow.mainSum := by unfold Func.isWrapper; first | (rw [if_pos (by decide +kernel)]; kernel_rfl) | (rw [if_neg (by decide +kernel)]; exact ⟨rfl, rfl⟩)
theorem said : Rows.MoveSumsSaid :=
  OpenClaim.holds_of_cond 7 Tryz.f7 rfl rfl rfl rfl rfl rfl rfl ⟨rfl, rfl, rfl, rfl, rfl⟩ rfl rfl rfl rfl rfl (by kernel_rfl) Tryz.func7 closed instd wrapd
    (fun os started H enc _ F => by rw [OpenClaim.pre_eq_preRow]; exact lifted os started H enc F)

end Go.Proofs.YtjjhhcfgfdepdaaGreatDoor.moveSums
