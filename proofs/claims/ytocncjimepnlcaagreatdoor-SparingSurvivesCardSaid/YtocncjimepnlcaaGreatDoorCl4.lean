/- The closed facts of the row of sparingSurvives, each checked by itself. -/
import Derived.Test.YtocncjimepnlcaaGreatDoorRows
import Derived.ProofKit
namespace Go.Proofs.YtocncjimepnlcaaGreatDoor.sparingSurvives
open Go Go.ChangeShapes Go.WideShapes Go.ChangeAt Go.RowKit
theorem and_of {a b : Bool} (ha : a = true) (hb : b = true) : (a && b) = true := by rw [ha, hb]; rfl
set_option maxRecDepth 100000 in
set_option maxHeartbeats 4000000 in
theorem closed : joinedFacts Tryz.pinned.checked.prog 4 Tryz.f4 Rows.sparingSurvivesSpec Rows.sparingSurvivesRow = true := by
  unfold joinedFacts
  with_reducible repeat' (apply and_of)
  all_goals (as_aux_lemma => kernel_rfl)
end Go.Proofs.YtocncjimepnlcaaGreatDoor.sparingSurvives
