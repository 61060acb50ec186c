/- Sparing tables: the reference's word and Valid. -/
import Derived.Test.YtocncjimepnlcaaGreatDoorSpa
namespace Go.Proofs.YtocncjimepnlcaaGreatDoor
set_option linter.unusedSimpArgs false
set_option linter.unusedVariables false
open Go Go.RowKit
theorem maxmin (a b : Int) : max a b - min a b = max (a - b) (b - a) := by omega
end Go.Proofs.YtocncjimepnlcaaGreatDoor
