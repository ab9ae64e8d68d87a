/- The row of CheckQuiet: for every input the law returns true, and its arguments read behind the call as before. No conditions but the table of math/bits as the text lays it (tied). -/
import Derived.Test.YtikkpokkcdocoabGreatDoorXRaA
namespace Go.Proofs.YtikkpokkcdocoabGreatDoor.checkQuiet
set_option maxRecDepth 100000
open Go.ChangeShapes Go.WideShapes Go.ChangeAt Go.RowKit
open Go.Proofs.YtikkpokkcdocoabGreatDoor
theorem an {a b : Bool} (ha : a = true) (hb : b = true) : (a && b) = true := by rw [ha, hb]; rfl
set_option maxHeartbeats 4000000 in
/-- the closed facts, each by itself -/
theorem closed : joinedFacts Tryz.pinned.checked.prog 6 Tryz.f6 (OpenSpec.ofChange Rows.checkQuietSpec).bare Rows.checkQuietRow = true := by
  unfold joinedFacts
  repeat' (with_reducible refine an ?_ ?_)
  all_goals (as_aux_lemma => kernel_rfl)
theorem instd : Tryz.f6.isInstance Tryz.pinned.checked.prog Rows.checkQuietRow.origin Rows.checkQuietRow.targs := of_decide_eq_true (by kernel_rfl)
theorem wrapd : Tryz.f6.isWrapper Tryz.pinned.checked.prog Rows.checkQuietRow.wrapper Rows.checkQuietRow.mainSum := by unfold Func.isWrapper; first | (rw [if_pos (by decide +kernel)]; kernel_rfl) | (rw [if_neg (by decide +kernel)]; exact ⟨rfl, rfl⟩)
theorem said : Rows.CheckQuietSaid :=
  OpenClaim.holds_of_cond 6 Tryz.f6 rfl rfl rfl rfl rfl rfl rfl ⟨rfl, rfl, rfl, rfl, rfl⟩ rfl rfl rfl rfl rfl (by kernel_rfl) Tryz.func6 closed instd wrapd
    (fun os started H enc _ F => by rw [OpenClaim.pre_eq_preRow]; exact lifted os started H enc F)

end Go.Proofs.YtikkpokkcdocoabGreatDoor.checkQuiet
