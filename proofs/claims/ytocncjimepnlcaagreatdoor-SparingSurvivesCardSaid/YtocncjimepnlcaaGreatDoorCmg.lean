/- The reference's Encode of a sparing table. -/
import Derived.Test.YtocncjimepnlcaaGreatDoorCmf
import Derived.Test.YtocncjimepnlcaaGreatDoorCme
namespace Go.Proofs.YtocncjimepnlcaaGreatDoor
set_option linter.unusedSimpArgs false
set_option linter.unusedVariables false
open Go Go.RowKit
theorem add_str (a b : ByteArray) (h : a.size + b.size < 2 ^ 40) (W : World) : (Op.stringOp .add a b).run Tryz.prog W = .ok (.string (a ++ b)) W := by
  have h1 : (a.size : Int) + (b.size : Int) ≤ 9223372036854775807 := by omega
  simp [Op.stringOp, h1]
/-- The table's box. -/
structure BX (w : World) (s : Int) (v : Value) (W : World) : Prop where
  b0 : W.heap[w.heap.size]? = some (.cells #[cN s, v] 24 (0, 0))
  bel : Below w.heap.size w W
theorem BX.below {w : World} {s : Int} {v : Value} {W W' : World} (h : BX w s v W) (k : Below W.heap.size W W') : BX w s v W' := ⟨(k.block _ (lt_of_block h.b0)).trans h.b0, bthen h.bel k⟩
theorem BX.drew {w : World} {s : Int} {v : Value} {W : World} (h : BX w s v W) : BX w s v W.drew := ⟨h.b0, h.bel.drew⟩
theorem BX.start {w : World} {s : Int} {v : Value} {W : World} (k : Below (w.alloc (.cells #[cN s, v] 24)).heap.size (w.alloc (.cells #[cN s, v] 24)) W) : BX w s v W :=
  ⟨(k.block _ (by rw [World.size_alloc]; omega)).trans (World.alloc_heap_new w (.cells #[cN s, v] 24)), bthen (bal (Below.refl _ w) _) k⟩
end Go.Proofs.YtocncjimepnlcaaGreatDoor
