/- The closed facts of the row of directoryEncodes, each checked by itself. -/
import Derived.Test.YtnmlephjhcmbhaaGreatRows
import Derived.ProofKit
namespace Go.Proofs.YtnmlephjhcmbhaaGreat.directoryEncodes
open Go Go.ChangeShapes Go.WideShapes Go.ChangeAt Go.RowKit
theorem and_of {a b : Bool} (ha : a = true) (hb : b = true) : (a && b) = true := by rw [ha, hb]; rfl
set_option maxRecDepth 100000 in
set_option maxHeartbeats 4000000 in
theorem closed : joinedFacts Tryz.pinned.checked.prog 6 Tryz.f6 Rows.directoryEncodesSpec Rows.directoryEncodesRow = true := by
  unfold joinedFacts
  with_reducible repeat' (apply and_of)
  all_goals (as_aux_lemma => kernel_rfl)
end Go.Proofs.YtnmlephjhcmbhaaGreat.directoryEncodes
