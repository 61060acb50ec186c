/- checksum.direct. -/
import Derived.Test.YtocncjimepnlcaaGreatDoorCkc
namespace Go.Proofs.YtocncjimepnlcaaGreatDoor
set_option linter.unusedSimpArgs false
set_option linter.unusedVariables false
open Go Go.RowKit
theorem tab_one : (tabL 256).toArray.all (·.oneCell') = true := by
  rw [Array.all_eq_true_iff_forall_mem]
  intro v hv
  simp [tabL] at hv
  obtain ⟨j, -, rfl⟩ := hv
  rfl
theorem tab_info : (Tryz.prog.info? 164).map (·.size) = some (tabL 256).toArray.size := by
  rw [show (tabL 256).toArray.size = 256 by simp [tabL]]
  kernel_rfl
set_option maxRecDepth 100000 in
set_option maxHeartbeats 2000000 in
theorem crcdir_ok (w : World) : Calls Tryz.prog 117 #[] w fun e w' => e = .returned (.agg (tabL 256).toArray) ∧ Below w.heap.size w w' := by
  have h0 : (w.alloc (.cells Tryz.zeroCells164 164)).heap[w.heap.size]? = some (.cells (tabL 0).toArray 164 (0, 0)) := by
    rw [← tab_zero]
    exact World.alloc_heap_new _ _
  have hb0 : Below w.heap.size w (w.alloc (.cells Tryz.zeroCells164 164)) := (Below.refl _ w).alloc (Nat.le_refl _) _
  have H0 := Lib.hid h0
  have HB0 := Lib.hid hb0
  have c1 := fun W => crctab_ok W
  clear h0 hb0
  go_enter Tryz.func117, Tryz.ntmps117
  go_wp2_with fail
  with_reducible refine (c1 _).mono ?_
  rintro e w1 ⟨rfl, hB1⟩
  have h1 := (hB1.block w.heap.size (by simp)).trans H0.out
  have hbw : Below w.heap.size w w1 := HB0.out.trans (hB1.mono (by simp))
  have H1 := Lib.hid h1
  have HB := Lib.hid hbw
  clear h1 hbw hB1 c1
  have hl : (tabL 0).toArray.size = (tabL 256).toArray.size := by simp [tabL]
  go_wp2_with (refine wpList_store_row rfl 164 _ _ rfl w.heap.size (tabL 256).toArray rfl rfl 164 (tabL 0).toArray H1.out tab_info hl tab_one ?_)
  have hrow : (w1.setRow w.heap.size (tabL 256).toArray).heap[w.heap.size]? = some (.cells (tabL 256).toArray 164 (0, 0)) := setRow_heap w1 w.heap.size _ _ 164 (0, 0) H1.out
  have hbe : Below w.heap.size w (w1.setRow w.heap.size (tabL 256).toArray) := ⟨HB.out.os, HB.out.tape, HB.out.output, by have := HB.out.size; simpa [World.setRow] using this, fun j hj => (setRow_other w1 w.heap.size j _ (by omega)).trans (HB.out.block j hj)⟩
  (try simp only [Exit.inBlock, Exit.then])
  refine bodyPost_ret (results_cell_row (p := 0) (ty := 164) rfl _ _ w.heap.size 164 (tabL 256).toArray (0, 0) _ rfl hrow Tryz.underlying164 rfl tab_info) rfl ?_
  exact ⟨rfl, hbe⟩
end Go.Proofs.YtocncjimepnlcaaGreatDoor
