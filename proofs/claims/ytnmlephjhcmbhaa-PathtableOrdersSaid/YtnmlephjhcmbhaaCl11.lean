/- The closed facts of the row of pathtableOrders, each checked by itself. -/
import Derived.Test.YtnmlephjhcmbhaaRows
import Derived.ProofKit
namespace Go.Proofs.Ytnmlephjhcmbhaa.pathtableOrders
open Go Go.ChangeShapes Go.WideShapes Go.ChangeAt Go.RowKit
theorem and_of {a b : Bool} (ha : a = true) (hb : b = true) : (a && b) = true := by rw [ha, hb]; rfl
set_option maxRecDepth 100000 in
set_option maxHeartbeats 4000000 in
theorem closed : joinedFacts Try.pinned.checked.prog 11 Try.f11 Rows.pathtableOrdersSpec Rows.pathtableOrdersRow = true := by
  unfold joinedFacts
  with_reducible repeat' (apply and_of)
  all_goals (as_aux_lemma => kernel_rfl)
end Go.Proofs.Ytnmlephjhcmbhaa.pathtableOrders
