/- A region that draws its order: a loud operation that its guard passes over. -/
import Derived.Test.YtnmlephjhcmbhaaRgn
namespace Go.Proofs.Ytnmlephjhcmbhaa
set_option linter.unusedSimpArgs false
set_option linter.unusedVariables false
open Go Go.RowKit
theorem m_skip {P : Program} {ops : Array Oper} {S : World → Prop} {Q : Exit → Act → World → Prop} {K : Act → World → Prop} {o : Oper} {rest : List (Bool × Oper)} {a : Act} {w : World} (hw : Region.wanted o (yielded ops a.tmps) = false)
    (h : wpM P ops S Q K rest (a.put o.dst undef) w) : wpM P ops S Q K ((false, o) :: rest) a w := by
  unfold wpM
  rw [if_neg (by rw [hw]; decide)]
  exact h
end Go.Proofs.Ytnmlephjhcmbhaa
