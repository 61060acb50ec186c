/-
  DERIVED. GIVEN WITH THE SEED: THE CARDS: each row of YtocncjimepnlcaaGreatDoorRows.lean that lists a variable, with what it lists TIED to the program's text (the seventh form; the later family's looks); each row that meets fmt, with fmt's text TOLD by the authors' own Lean function (tested against real Go, not proved from fmt's source: count such statements apart). THE CARD IS WHAT COUNTS. Prove the row's statement (the work); the ties are given (YtocncjimepnlcaaGreatDoorTie.lean); close each card by the builder's one call (the guide's Derived/Test/ToyasCard.lean, 'card_holds'). Laid BY PROGRAM, IN A SANDBOX (cutbox-door.mjs). By AI agents, Wed Nov 11 2026. No macro, syntax, notation, axiom, sorry.
-/
import Derived.Test.YtocncjimepnlcaaGreatDoorRows
import GoSem.ClaimSeven
namespace Go.Proofs.YtocncjimepnlcaaGreatDoor
namespace Rows

/-- THE TIED CARD OF 'masterdisclaw39.SparingReturns'. -/
def sparingReturnsCard : Claim7 := { stood := { row := sparingReturnsRow, standIns := [], harness := (true, "9bee5ebece21651ef46ac00643da3a0461533b2cdb2d730c1e174c73e815d775"), looks := false }, kinds := [], alts := [], laidByText := true, laidKinds := [.data, .pinned], laidTests := true, laidLooks := .later }
def SparingReturnsCardSaid : Prop := Claim7.holds Tryz.pinned (.plain (OpenSpec.ofChange sparingReturnsSpec)) sparingReturnsCard

/-- THE TIED CARD OF 'masterdisclaw39.SparingSurvives'. -/
def sparingSurvivesCard : Claim7 := { stood := { row := sparingSurvivesRow, standIns := [], harness := (true, "9bee5ebece21651ef46ac00643da3a0461533b2cdb2d730c1e174c73e815d775"), looks := false }, kinds := [], alts := [], laidByText := true, laidKinds := [.data, .pinned], laidTests := true, laidLooks := .later }
def SparingSurvivesCardSaid : Prop := Claim7.holds Tryz.pinned (.plain (OpenSpec.ofChange sparingSurvivesSpec)) sparingSurvivesCard

/-- THE SECOND FORM's CARD OF 'masterdisclaw39.SparingReturns'. -/
def sparingReturnsUptoCard : Claim7 := { stood := { row := sparingReturnsUptoRow, standIns := [], harness := (true, "9bee5ebece21651ef46ac00643da3a0461533b2cdb2d730c1e174c73e815d775"), looks := false }, kinds := [], alts := [], laidByText := true, laidKinds := [.data, .pinned], laidTests := true, laidLooks := .later }
def SparingReturnsUptoCardSaid : Prop := Claim7.holds Tryz.pinned (.plain (OpenSpec.upto sparingReturnsSpec)) sparingReturnsUptoCard

/-- THE SECOND FORM's CARD OF 'masterdisclaw39.SparingSurvives'. -/
def sparingSurvivesUptoCard : Claim7 := { stood := { row := sparingSurvivesUptoRow, standIns := [], harness := (true, "9bee5ebece21651ef46ac00643da3a0461533b2cdb2d730c1e174c73e815d775"), looks := false }, kinds := [], alts := [], laidByText := true, laidKinds := [.data, .pinned], laidTests := true, laidLooks := .later }
def SparingSurvivesUptoCardSaid : Prop := Claim7.holds Tryz.pinned (.plain (OpenSpec.upto sparingSurvivesSpec)) sparingSurvivesUptoCard
end Rows
end Go.Proofs.YtocncjimepnlcaaGreatDoor
