/- The reference's Replace: early ends, the best entry. -/
import Derived.Test.YtocncjimepnlcaaGreatCnd
import Derived.Test.YtocncjimepnlcaaGreatCme
namespace Go.Proofs.YtocncjimepnlcaaGreat
set_option linter.unusedSimpArgs false
set_option linter.unusedVariables false
open Go Go.RowKit
/-- The blocks of Replace: the table's box and the result's. -/
structure RX (w : World) (s : Int) (v : Value) (W : World) : Prop where
  b0 : W.heap[w.heap.size]? = some (.cells #[cN s, v] 26 (0, 0))
  b1 : W.heap[w.heap.size + 1]? = some (.cells #[.int .i64 0, .slice none 0 0] 26 (0, 0))
  bel : Below w.heap.size w W
theorem RX.below {w : World} {s : Int} {v : Value} {W W' : World} (h : RX w s v W) (k : Below W.heap.size W W') : RX w s v W' :=
  ⟨(k.block _ (lt_of_block h.b0)).trans h.b0, (k.block _ (lt_of_block h.b1)).trans h.b1, bthen h.bel k⟩
theorem RX.start (w : World) (s : Int) (v : Value) : RX w s v ((w.alloc (.cells #[cN s, v] 26)).alloc (.cells #[.int .i64 0, .slice none 0 0] 26)) := by
  refine ⟨(Lib.alloc_old _ _ _ (by simp)).trans (World.alloc_heap_new w _), ?_, bal (bal (Below.refl _ w) _) _⟩
  have := World.alloc_heap_new (w.alloc (.cells #[cN s, v] 26)) (.cells #[.int .i64 0, .slice none 0 0] 26)
  rwa [World.size_alloc] at this
/-- The result is written. -/
theorem RX.res {w : World} {s : Int} {v : Value} {W : World} (h : RX w s v W) (s2 : Int) (v2 : Value) : let W2 := (W.setCell ⟨w.heap.size + 1, 0, none⟩ (.int .i64 s2)).setCell ⟨w.heap.size + 1, 1, none⟩ v2
    W2.cell? ⟨w.heap.size + 1, 0, none⟩ = some (cN s2) ∧ W2.cell? ⟨w.heap.size + 1, 1, none⟩ = some v2 ∧ Below w.heap.size w W2 := by
  have h1 := row_set 0 (.int .i64 s2) h.b1
  have h2 := row_set 1 v2 h1
  exact ⟨Lib.cell_of_heap h2 0, Lib.cell_of_heap h2 1, (h.bel.setCell (p := ⟨w.heap.size + 1, 0, none⟩) (by simp only; omega) _).setCell (p := ⟨w.heap.size + 1, 1, none⟩) (by simp only; omega) _⟩
set_option maxRecDepth 100000 in
set_option maxHeartbeats 1000000 in
theorem rreplace_bad (s block : Int) (v : Value) (l : List Sp) (w : World) (h : SL w v l) (hv : validB s l = false) :
    Calls Tryz.prog 17 #[.agg #[cN s, v], cN block] w fun e w' => e = .returned (.tuple #[.agg #[cN 0, .slice none 0 0], cN 0, cN 1]) ∧ Below w.heap.size w w' := by
  obtain ⟨a, c, rfl⟩ := h.form
  have c1 := fun (W : World) (k : Below w.heap.size w W) => rvalid_ok s _ l W (h.below k)
  rw [hv] at c1
  clear h hv
  go_enter Tryz.func17, Tryz.ntmps17
  go_wp2_with (go_at_call 13; (with_reducible refine (c1 _ (RX.start w s _).bel).mono ?_); rintro e w1 ⟨rfl, hB1⟩; have HX := Lib.hid ((RX.start w s (.slice a l.length c)).below hB1); clear hB1 c1; have p0 := Lib.cell_of_heap HX.out.b1 0; have p1 := Lib.cell_of_heap HX.out.b1 1; have pf := (fun j => Lib.frozen_of_heap HX.out.b1 j))
  obtain ⟨q0, q1, hq⟩ := HX.out.res 0 (.slice none 0 0)
  refine bodyPost_ret (v := .tuple #[.agg #[cN 0, .slice none 0 0], cN 0, cN 1]) ?_ rfl ⟨rfl, hq⟩
  simp [results, Tryz.results17, go_sem, q0, q1]
set_option maxRecDepth 100000 in
set_option maxHeartbeats 1000000 in
theorem rreplace_far (s block : Int) (v : Value) (l : List Sp) (w : World) (h : SL w v l) (hv : validB s l = true) (hf : block < 0 ∨ (0 ≤ block ∧ 4294967279 < block)) :
    Calls Tryz.prog 17 #[.agg #[cN s, v], cN block] w fun e w' => e = .returned (.tuple #[.agg #[cN 0, .slice none 0 0], cN 0, cN 2]) ∧ Below w.heap.size w w' := by
  obtain ⟨a, c, rfl⟩ := h.form
  have c1 := fun (W : World) (k : Below w.heap.size w W) => rvalid_ok s _ l W (h.below k)
  rw [hv] at c1
  clear h hv
  rcases hf with hf | ⟨hf0, hf⟩
  all_goals
    go_enter Tryz.func17, Tryz.ntmps17
    go_wp2_with (go_at_call 13; (with_reducible refine (c1 _ (RX.start w s _).bel).mono ?_); rintro e w1 ⟨rfl, hB1⟩; have HX := Lib.hid ((RX.start w s (.slice a l.length c)).below hB1); clear hB1 c1; have p0 := Lib.cell_of_heap HX.out.b1 0; have p1 := Lib.cell_of_heap HX.out.b1 1; have pf := (fun j => Lib.frozen_of_heap HX.out.b1 j))
    obtain ⟨q0, q1, hq⟩ := HX.out.res 0 (.slice none 0 0)
    refine bodyPost_ret (v := .tuple #[.agg #[cN 0, .slice none 0 0], cN 0, cN 2]) ?_ rfl ⟨rfl, hq⟩
    simp [results, Tryz.results17, go_sem, q0, q1]
/-- The entries that Replace puts out. -/
def outR (l : List Sp) (b : Nat) (f : Int) : Nat → List Sp
  | 0 => []
  | k + 1 => if k = b then insM (f, (at_ l k).2) (outR l b f k) else if (at_ l k).1 = f then outR l b f k else insM (at_ l k) (outR l b f k)
theorem outR_len (l : List Sp) (b : Nat) (f : Int) : ∀ k, (outR l b f k).length ≤ k
  | 0 => Nat.le_refl _
  | k + 1 => by
    have := outR_len l b f k
    rw [outR]
    split
    · rw [insM_len]; omega
    · split
      · omega
      · rw [insM_len]; omega
def RRPost (s block : Int) (l : List Sp) (w : World) (e : Ending) (w' : World) : Prop :=
  Below w.heap.size w w' ∧ ((e = .returned (.tuple #[.agg #[cN 0, .slice none 0 0], cN 0, cN 12]) ∧ bestK l l.length = -1) ∨
    (e = .returned (.tuple #[.agg #[cN 0, .slice none 0 0], cN 0, cN 7]) ∧ s = 4294967295 ∧ ∃ b : Nat, bestK l l.length = b) ∨
    (∃ (v : Value) (b : Nat), e = .returned (.tuple #[.agg #[cN (s + 1), v], cN (at_ l b).2, cN 0]) ∧ SL w' v (outR l b (block - block % 8) l.length) ∧ bestK l l.length = b ∧ b < l.length ∧ (at_ l b).1 = UN ∧ s ≠ 4294967295))
end Go.Proofs.YtocncjimepnlcaaGreat
