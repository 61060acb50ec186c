/- Sparing tables: few, slices.Contains. -/
import Derived.Test.YtocncjimepnlcaaGreatDoorSpd
namespace Go.Proofs.YtocncjimepnlcaaGreatDoor
set_option linter.unusedSimpArgs false
set_option linter.unusedVariables false
open Go Go.RowKit
set_option maxRecDepth 100000 in
set_option maxHeartbeats 400000 in
theorem few1_ok (s : Int) (a : Option Addr) (n c : Nat) (w : World) : Calls Tryz.prog 17 #[.agg #[cN s, .slice a n c]] w fun e w' => e = .returned (.bool (decide ((20 : Int) < (n : Int)))) ∧ Below w.heap.size w w' := by
  go_enter Tryz.func17, Tryz.ntmps17
  go_wp2
  go_ret
  exact ⟨rfl, bal (Below.refl _ w) _⟩
set_option maxRecDepth 100000 in
set_option maxHeartbeats 1000000 in
theorem index29 (s : Int) (a : Option Addr) (n c T : Nat) (w : World) (hT : w.heap[T]? = some (.cells #[cN s, .slice a n c] 24 (0, 0))) :
    Calls Tryz.prog 32 #[.slice (some ⟨T, 0, none⟩) 1 1, .func (.func 17) #[] #[]] w fun e w' => e = .returned (cN (if (20 : Int) < (n : Int) then 0 else -1)) ∧ Below w.heap.size w w' := by
  have c1 := fun W => few1_ok s a n c W
  have q0 := Lib.cell_of_heap hT 0
  have q1 := Lib.cell_of_heap hT 1
  clear hT
  by_cases hn : (20 : Int) < (n : Int)
  · rw [if_pos hn]
    rw [decide_eq_true hn] at c1
    go_enter Tryz.func32, Tryz.ntmps32
    go_wp2
    go_loopw [8] (fun i wr => (i = cN 0 ∧ wr = w)) (fun i _ => 0)
    case atStart => exact ⟨rfl, rfl⟩
    case round =>
      obtain ⟨rfl, rfl⟩ := hrel
      go_wp2_with (go_at_call 17; (with_reducible refine (c1 _).mono ?_); rintro e w1 ⟨rfl, hB1⟩)
      go_ret
      exact ⟨rfl, hB1⟩
  · rw [if_neg hn]
    rw [decide_eq_false hn] at c1
    go_enter Tryz.func32, Tryz.ntmps32
    go_wp2
    go_loopw [8] (fun i wr => (i = cN 0 ∧ wr = w) ∨ (i = cN 1 ∧ Below w.heap.size w wr)) (fun i _ => 1 - (intOf i).toNat)
    case atStart => exact .inl ⟨rfl, rfl⟩
    case round =>
      rcases hrel with ⟨rfl, rfl⟩ | ⟨rfl, hB⟩
      · go_wp2_with (go_at_call 17; (with_reducible refine (c1 _).mono ?_); rintro e w1 ⟨rfl, hB1⟩)
        go_roundw
        case rel => exact .inr ⟨by go_num, hB1⟩
        case measure => simp [intOf]
      · go_wp2
        go_ret
        exact ⟨rfl, hB⟩
set_option maxRecDepth 100000 in
set_option maxHeartbeats 400000 in
theorem contains29 (s : Int) (a : Option Addr) (n c T : Nat) (w : World) (hT : w.heap[T]? = some (.cells #[cN s, .slice a n c] 24 (0, 0))) :
    Calls Tryz.prog 16 #[.slice (some ⟨T, 0, none⟩) 1 1, .func (.func 17) #[] #[]] w fun e w' => e = .returned (.bool (decide ((20 : Int) < (n : Int)))) ∧ Below w.heap.size w w' := by
  have c1 := index29 s a n c T w hT
  clear hT
  by_cases hn : (20 : Int) < (n : Int)
  · rw [if_pos hn] at c1
    rw [decide_eq_true hn]
    go_enter Tryz.func16, Tryz.ntmps16
    go_wp2_with (go_at_call 32; (with_reducible refine c1.mono ?_); rintro e w1 ⟨rfl, hB1⟩)
    go_ret
    exact ⟨rfl, hB1⟩
  · rw [if_neg hn] at c1
    rw [decide_eq_false hn]
    go_enter Tryz.func16, Tryz.ntmps16
    go_wp2_with (go_at_call 32; (with_reducible refine c1.mono ?_); rintro e w1 ⟨rfl, hB1⟩)
    go_ret
    exact ⟨rfl, hB1⟩
set_option maxRecDepth 100000 in
set_option maxHeartbeats 400000 in
theorem few_ok (s : Int) (a : Option Addr) (n c T : Nat) (w : World) (hT : w.heap[T]? = some (.cells #[cN s, .slice a n c] 24 (0, 0))) :
    Calls Tryz.prog 6 #[.slice (some ⟨T, 0, none⟩) 1 1] w fun e w' => e = .returned (.bool (!decide ((20 : Int) < (n : Int)))) ∧ Below w.heap.size w w' := by
  have c1 := contains29 s a n c T w hT
  clear hT
  go_enter Tryz.func6, Tryz.ntmps6
  go_wp2_with (go_at_call 16; (with_reducible refine c1.mono ?_); rintro e w1 ⟨rfl, hB1⟩)
  go_ret
  exact ⟨rfl, hB1⟩
end Go.Proofs.YtocncjimepnlcaaGreatDoor
