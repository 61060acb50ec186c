/- Package endian: double, fits, Both. -/
import Derived.Test.YtnmlephjhcmbhaaEnd
namespace Go.Proofs.Ytnmlephjhcmbhaa
set_option linter.unusedSimpArgs false
set_option linter.unusedVariables false
open Go Go.RowKit
set_option maxRecDepth 100000 in
set_option maxHeartbeats 400000 in
theorem double_ok (s : Int) (w : World) : Calls Try.prog 106 #[.int .i64 s] w fun e w' => e = .returned (.bool (decide (s = 1 ∨ s = 2 ∨ s = 4))) ∧ w = w' := by
  by_cases h1 : s = 1
  · subst h1
    go_enter Try.func106, Try.ntmps106
    go_wp2
    go_ret
    exact ⟨rfl, rfl⟩
  by_cases h2 : s = 2
  · subst h2
    go_enter Try.func106, Try.ntmps106
    go_wp2
    go_ret
    exact ⟨rfl, rfl⟩
  by_cases h4 : s = 4
  · subst h4
    go_enter Try.func106, Try.ntmps106
    go_wp2
    go_ret
    exact ⟨rfl, rfl⟩
  have t1 : (s == 1) = false := by simpa using h1
  have t2 : (s == 2) = false := by simpa using h2
  have t4 : (s == 4) = false := by simpa using h4
  rw [show decide (s = 1 ∨ s = 2 ∨ s = 4) = false by simp [h1, h2, h4]]
  go_enter Try.func106, Try.ntmps106
  go_wp2
  go_ret
  exact ⟨rfl, rfl⟩
set_option maxRecDepth 100000 in
set_option maxHeartbeats 400000 in
theorem fits_ok (n : Int) (s : Nat) (w : World) (h1 : 1 ≤ s) (h8 : s ≤ 7) : Calls Try.prog 107 #[.int .i64 n, .int .i64 s] w fun e w' => e = .returned (.bool (decide (0 ≤ n ∧ n < 2 ^ (8 * s)))) ∧ w = w' := by
  obtain ⟨c, hc⟩ : ∃ c : Int, (2 : Int) ^ (8 * s) = c := ⟨_, rfl⟩
  have hcc : IntKind.i64.wrap c = c := by
    have h : s = 1 ∨ s = 2 ∨ s = 3 ∨ s = 4 ∨ s = 5 ∨ s = 6 ∨ s = 7 := by omega
    subst hc
    rcases h with rfl | rfl | rfl | rfl | rfl | rfl | rfl <;> rfl
  have hc1 : min (8 * s) 64 = 8 * s := by omega
  have t8 : ((s : Int) == 8) = false := by simp; omega
  have g1 : IntKind.i64.wrap (8 * (s : Int)) = 8 * (s : Int) := by rw [IntKind.wrap_i64]; omega
  have g2 : (0 : Int) ≤ 8 * (s : Int) := by omega
  have g3 : (8 * (s : Int)).toNat = 8 * s := by omega
  rw [hc]
  by_cases h0 : 0 ≤ n
  · by_cases h2 : n < c
    · rw [show decide (0 ≤ n ∧ n < c) = true by simp [h0, h2]]
      go_enter Try.func107, Try.ntmps107
      go_wp2
      go_ret
      exact ⟨rfl, rfl⟩
    · rw [show decide (0 ≤ n ∧ n < c) = false by simp [h2]]
      go_enter Try.func107, Try.ntmps107
      go_wp2
      go_ret
      exact ⟨rfl, rfl⟩
  · rw [show decide (0 ≤ n ∧ n < c) = false by simp [h0]]
    go_enter Try.func107, Try.ntmps107
    go_wp2
    go_ret
    exact ⟨rfl, rfl⟩
/-- A number in both byte orders. -/
def both (n k : Nat) : ByteArray := ⟨(leL n k ++ (leL n k).reverse).toArray⟩
theorem both_size (n k : Nat) : (both n k).size = 2 * k := by
  show (leL n k ++ (leL n k).reverse).toArray.size = _
  rw [List.size_toArray, List.length_append, List.length_reverse, leL_length]
  omega
theorem two_pow_lt_ten (s : Nat) (h : s ≤ 7) : (2 : Int) ^ (8 * s) ≤ 2 ^ 56 := by
  have h2 : s = 0 ∨ s = 1 ∨ s = 2 ∨ s = 3 ∨ s = 4 ∨ s = 5 ∨ s = 6 ∨ s = 7 := by omega
  rcases h2 with rfl | rfl | rfl | rfl | rfl | rfl | rfl | rfl <;> decide
set_option maxRecDepth 100000 in
set_option maxHeartbeats 400000 in
theorem both_bad (n : Int) (s : Nat) (w : World) (hs : s = 1 ∨ s = 2 ∨ s = 4) (h : ¬ (0 ≤ n ∧ n < 2 ^ (8 * s))) :
    Calls Try.prog 51 #[.int .i64 n, .int .i64 s] w fun e w' => e = .returned (.tuple #[.string ByteArray.empty, .int .i64 2]) ∧ Below w.heap.size w w' := by
  have c1 := fun W => double_ok (s : Int) W
  rw [show decide ((s : Int) = 1 ∨ (s : Int) = 2 ∨ (s : Int) = 4) = true by simp; omega] at c1
  have c2 := fun W => fits_ok n s W (by omega) (by omega)
  rw [show decide (0 ≤ n ∧ n < 2 ^ (8 * s)) = false by simpa using h] at c2
  clear h
  go_enter Try.func51, Try.ntmps51
  go_wp2_with (first | (go_at_call 106; (with_reducible refine (c1 _).mono ?_); rintro e w1 ⟨rfl, rfl⟩) | (go_at_call 107; (with_reducible refine (c2 _).mono ?_); rintro e w1 ⟨rfl, rfl⟩))
  go_ret2
  exact ⟨rfl, Below.refl _ _⟩
set_option maxRecDepth 100000 in
set_option maxHeartbeats 400000 in
theorem both_ok (n s : Nat) (w : World) (hs : s = 1 ∨ s = 2 ∨ s = 4) (h : (n : Int) < 2 ^ (8 * s)) :
    Calls Try.prog 51 #[.int .i64 n, .int .i64 s] w fun e w' => e = .returned (.tuple #[.string (both n s), .int .i64 0]) ∧ Below w.heap.size w w' := by
  have c1 := fun W => double_ok (s : Int) W
  rw [show decide ((s : Int) = 1 ∨ (s : Int) = 2 ∨ (s : Int) = 4) = true by simp; omega] at c1
  have c2 := fun W => fits_ok n s W (by omega) (by omega)
  rw [show decide (0 ≤ (n : Int) ∧ (n : Int) < 2 ^ (8 * s)) = true from decide_eq_true ⟨by omega, h⟩] at c2
  have c3 := fun W => writeUp_ok n s W (by omega)
  have c4 := fun B W h => writeDown_ok n s W (by omega) B h
  have hz1 : (⟨(leL n s).toArray⟩ : ByteArray).size = s := by
    show (leL n s).toArray.size = _
    rw [List.size_toArray, leL_length]
  have hz2 : (⟨(leL n s).reverse.toArray⟩ : ByteArray).size = s := by
    show (leL n s).reverse.toArray.size = _
    rw [List.size_toArray, List.length_reverse, leL_length]
  have happ : both n s = (⟨(leL n s).toArray⟩ : ByteArray) ++ ⟨(leL n s).reverse.toArray⟩ := by
    apply ByteArray.ext
    rw [ByteArray.data_append]
    simp [both]
  rw [happ]
  clear h happ
  generalize (⟨(leL n s).toArray⟩ : ByteArray) = A at c3 hz1 ⊢
  generalize (⟨(leL n s).reverse.toArray⟩ : ByteArray) = B at c4 hz2 ⊢
  go_enter Try.func51, Try.ntmps51
  go_wp2_with (first | (go_at_call 106; (with_reducible refine (c1 _).mono ?_); rintro e w1 ⟨rfl, rfl⟩) | (go_at_call 107; (with_reducible refine (c2 _).mono ?_); rintro e w1 ⟨rfl, rfl⟩) | (go_at_call 109; (with_reducible refine (up_ok _ _).mono ?_); rintro e w1 ⟨rfl, rfl⟩) | (go_at_call 108; (with_reducible refine (c3 _).mono ?_); rintro e w2 ⟨rfl, hB2⟩) | (go_at_call 110; (with_reducible refine (down_ok _ _).mono ?_); rintro e w3 ⟨rfl, rfl⟩))
  have hc : (w2.alloc (.cells #[.int .i64 s] 3)).cell? ⟨w2.heap.size, 0, none⟩ = some (.int .i64 s) := by
    rw [Lib.cell_of_heap (World.alloc_heap_new w2 _)]; rfl
  refine (c4 _ _ hc).mono ?_
  rintro e w4 ⟨rfl, hB4⟩
  go_wp2
  go_ret2
  exact ⟨rfl, bthen hB2 (bthen ((Below.refl _ _).alloc (Nat.le_refl _) _) hB4)⟩
end Go.Proofs.Ytnmlephjhcmbhaa
