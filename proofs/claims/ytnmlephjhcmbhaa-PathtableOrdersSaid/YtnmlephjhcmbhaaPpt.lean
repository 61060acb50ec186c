/- pathtable.Order, where all is well. -/
import Derived.Test.YtnmlephjhcmbhaaPpy
namespace Go.Proofs.Ytnmlephjhcmbhaa
set_option linter.unusedSimpArgs false
set_option linter.unusedVariables false
open Go Go.RowKit
theorem porder_good (b off c : Nat) (l : List PE) (wide : Bool) (w : World) (hh : OrdHyp w b off c l wide) (hfin : OrdFin l wide) :
    Calls Try.prog 33 #[.slice (some ⟨b, off, none⟩) l.length c, .bool wide] w (OrdEnd w l wide) := by
  refine (porder_all b off c l wide w ⟨hh.hl, hh.hpos, hh.hc, hh.hsz, hh.hrow, hh.hroot⟩).mono fun e w' h => ?_
  rcases h with ⟨-, -, -, h⟩ | ⟨k, h, -⟩
  · exact h
  · exfalso
    have a1 := hfin.full
    have a2 := hfin.dup
    have a3 := hfin.blk
    rcases h with ⟨-, h | ⟨i, h1, h2, h3⟩⟩ | ⟨-, -, ⟨-, h⟩ | ⟨-, ⟨-, h⟩ | ⟨-, -, h⟩⟩⟩
    · exact h hh.hroot
    · exact h3 (hh.hgood i h1 h2)
    · omega
    · rw [a3] at h; cases h
    · rw [a2] at h; cases h
end Go.Proofs.Ytnmlephjhcmbhaa
