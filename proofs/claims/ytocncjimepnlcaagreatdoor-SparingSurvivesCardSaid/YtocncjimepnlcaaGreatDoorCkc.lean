/- checksum.table of 16 bits. -/
import Derived.Test.YtocncjimepnlcaaGreatDoorCkb
import Derived.RangeFuncRecord
namespace Go.Proofs.YtocncjimepnlcaaGreatDoor
set_option linter.unusedSimpArgs false
set_option linter.unusedVariables false
open Go Go.RowKit
/-- The table, where k of its rows are written. -/
def tabL (k : Nat) : List Value := (List.range k).map (fun i => .int .u16 ((crcN 8 (i * 256) : Nat) : Int)) ++ List.replicate (256 - k) (.int .u16 0)
theorem tabL_len (k : Nat) (h : k ≤ 256) : (tabL k).length = 256 := by simp [tabL]; omega
theorem tab_zero : Tryz.zeroCells164 = (tabL 0).toArray := by kernel_rfl
theorem tab_set (k : Nat) (h : k < 256) : (tabL k).toArray.setIfInBounds k (.int .u16 ((crcN 8 (k * 256) : Nat) : Int)) = (tabL (k + 1)).toArray := by
  apply Array.toList_inj.1
  rw [Array.toList_setIfInBounds, List.toList_toArray, List.toList_toArray]
  unfold tabL
  rw [List.range_succ, List.map_append, show 256 - k = (256 - (k + 1)) + 1 by omega, List.replicate_succ, List.set_append_right _ _ (by simp)]
  simp
theorem tab_get (k j : Nat) (hj : j < k) (hk : k ≤ 256) : (tabL k)[j]? = some (.int .u16 ((crcN 8 (j * 256) : Nat) : Int)) := by
  unfold tabL
  rw [List.getElem?_append_left (by simpa using hj)]
  simp [hj]
theorem lt_blk {W : World} {g : Nat} {o : Obj} (h : W.heap[g]? = some o) : g < W.heap.size := (Array.getElem?_eq_some_iff.1 h).1
set_option maxRecDepth 100000 in
set_option maxHeartbeats 4000000 in
theorem crctab_ok (w : World) : Calls Tryz.prog 126 #[.func (.func 127) #[] #[]] w fun e w' => e = .returned (.agg (tabL 256).toArray) ∧ Below w.heap.size w w' := by
  go_enter Tryz.func126, Tryz.ntmps126
  go_wp2
  go_loopw [5, 4] (fun i _ wr => ∃ k : Nat, i = cN k ∧ k ≤ 256 ∧ wr.heap[w.heap.size + 1]? = some (.cells (tabL k).toArray 164 (0, 0)) ∧ wr.heap[w.heap.size]? = some (.cells (tabL 0).toArray 164 (0, 0)) ∧ Below w.heap.size w wr) (fun i _ _ => 256 - (intOf i).toNat)
  case atStart =>
    refine ⟨0, rfl, Nat.zero_le _, ?_, ?_, ((Below.refl _ w).alloc (Nat.le_refl _) _).alloc (by simp) _⟩
    · have := World.alloc_heap_new (w.alloc (.cells Tryz.zeroCells164 164)) (.cells Tryz.zeroCells164 164)
      rw [World.size_alloc] at this
      rw [← tab_zero]
      exact this
    · rw [← tab_zero]
      exact (Lib.alloc_old _ _ _ (by simp)).trans (World.alloc_heap_new _ _)
  case round =>
    obtain ⟨k, rfl, hk, h1, h0, hB⟩ := hrel
    have HB := Lib.hid hB
    clear hB
    have H1 := Lib.hid h1
    have H0 := Lib.hid h0
    clear h0
    by_cases hlt : (k : Int) < 256
    · have hkl : k < 256 := by omega
      have c1 := fun W => crcdir1_ok k W hkl
      have q0 := Lib.cell_of_heap h1 k
      rw [List.getElem?_toArray] at q0
      obtain ⟨u, hu⟩ : ∃ u, (tabL k)[k]? = some u := ⟨_, List.getElem?_eq_getElem (by rw [tabL_len k hk]; exact hkl)⟩
      rw [hu] at q0
      have fz : wr.frozen? ⟨w.heap.size + 1, k, none⟩ = false := Lib.frozen_of_heap h1 k
      have hw8 : IntKind.u8.wrap (k : Int) = (k : Int) := by rw [IntKind.wrap_u8']; omega
      clear hu h1
      go_wp2_with fail
      with_reducible refine (c1 _).mono ?_
      rintro e w3 ⟨rfl, rfl⟩
      have hs1 : (w3.setCell ⟨w.heap.size + 1, k, none⟩ (.int .u16 ((crcN 8 (k * 256) : Nat) : Int))).heap[w.heap.size + 1]? = some (.cells (tabL (k + 1)).toArray 164 (0, 0)) := by
        rw [heap_setCell_same w3 (w.heap.size + 1) k _ 164 _ H1.out, tab_set k hkl]
      have hs0 : (w3.setCell ⟨w.heap.size + 1, k, none⟩ (.int .u16 ((crcN 8 (k * 256) : Nat) : Int))).heap[w.heap.size]? = some (.cells (tabL 0).toArray 164 (0, 0)) :=
        (heap_setCell_other w3 ⟨w.heap.size + 1, k, none⟩ w.heap.size _ (by simp)).trans H0.out
      have HS1 := Lib.hid hs1
      have HS0 := Lib.hid hs0
      clear hs1 hs0
      go_wp2
      go_roundw
      case rel => exact ⟨k + 1, by go_num, by omega, HS1.out, HS0.out, HB.out.setCell (p := ⟨w.heap.size + 1, k, none⟩) (by simp) _⟩
      case measure => simp [intOf] <;> omega
    · obtain rfl : k = 256 := by omega
      clear h1
      have hone : (tabL 256).toArray.all (·.oneCell') = true := by
        rw [Array.all_eq_true_iff_forall_mem]
        intro v hv
        simp [tabL] at hv
        obtain ⟨j, -, rfl⟩ := hv
        rfl
      have hsz : (Tryz.prog.info? 164).map (·.size) = some 256 := by kernel_rfl
      have hl256 : (tabL 256).toArray.size = 256 := by simp [tabL]
      have hl0 : (tabL 0).toArray.size = 256 := by simp [tabL]
      go_wp2_with (first | (refine wpList_load_row rfl 164 _ rfl (w.heap.size + 1) rfl 164 (tabL 256).toArray (0, 0) _ H1.out Tryz.underlying164 rfl (by rw [hl256]; exact hsz) ?_) | (refine wpList_store_row rfl 164 _ _ rfl w.heap.size (tabL 256).toArray rfl rfl 164 (tabL 0).toArray H0.out (by rw [hl256]; exact hsz) (by rw [hl0, hl256]) hone ?_))
      have hrow : (wr.setRow w.heap.size (tabL 256).toArray).heap[w.heap.size]? = some (.cells (tabL 256).toArray 164 (0, 0)) := setRow_heap wr w.heap.size _ _ 164 (0, 0) H0.out
      have hbe : Below w.heap.size w (wr.setRow w.heap.size (tabL 256).toArray) := ⟨HB.out.os, HB.out.tape, HB.out.output, by have := HB.out.size; simpa [World.setRow] using this, fun j hj => (setRow_other wr w.heap.size j _ (by omega)).trans (HB.out.block j hj)⟩
      (try simp only [Exit.inBlock, Exit.then])
      refine bodyPost_ret (results_cell_row (p := 2) (ty := 164) rfl _ _ w.heap.size 164 (tabL 256).toArray (0, 0) _ rfl hrow Tryz.underlying164 rfl (by rw [hl256]; exact hsz)) rfl ?_
      exact ⟨rfl, hbe⟩
end Go.Proofs.YtocncjimepnlcaaGreatDoor
