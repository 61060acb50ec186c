/- Package endian: ReadBoth. -/
import Derived.Test.YtnmlephjhcmbhaaEnb
import Derived.Test.YtnmlephjhcmbhaaEnr
namespace Go.Proofs.Ytnmlephjhcmbhaa
set_option linter.unusedSimpArgs false
set_option linter.unusedVariables false
open Go Go.RowKit
set_option maxRecDepth 100000 in
set_option maxHeartbeats 400000 in
theorem readBoth_ok (s : ByteArray) (a k : Nat) (w : World) (hs : s.size < 2 ^ 61) (hk : k = 1 ∨ k = 2 ∨ k = 4) (hin : a + 2 * k ≤ s.size) :
    Calls Try.prog 65 #[.string s, .int .i64 a, .int .i64 k] w fun e w' => e = .returned (.tuple #[.int .i64 (leR s a k), .bool (decide (leR s a k = beR s (a + k) k)), .int .i64 0]) ∧ Below w.heap.size w w' := by
  have c1 := fun W => double_ok (k : Int) W
  rw [show decide ((k : Int) = 1 ∨ (k : Int) = 2 ∨ (k : Int) = 4) = true by simp; omega] at c1
  have c2 := fun W => inside_ok s a (2 * k) W (by omega) (by omega)
  rw [decide_eq_true hin, show ((2 * k : Nat) : Int) = 2 * (k : Int) by omega] at c2
  have c3 := fun W => readLittle_ok s a k W (by omega) (by omega) (by omega) (by omega)
  have c4 := fun W => readBig_ok s (a + k) k W (by omega) (by omega) (by omega) (by omega)
  rw [show ((a + k : Nat) : Int) = (a : Int) + k by omega] at c4
  have g1 : wrap64 ((a : Int) + (k : Int)) = (a : Int) + (k : Int) := by unfold wrap64; omega
  generalize leR s a k = x at c3 ⊢
  generalize beR s (a + k) k = y at c4 ⊢
  by_cases hxy : x = y
  · subst hxy
    rw [decide_eq_true rfl]
    go_enter Try.func65, Try.ntmps65
    go_wp2_with (first | (go_at_call 106; (with_reducible refine (c1 _).mono ?_); rintro e w1 ⟨rfl, rfl⟩) | (go_at_call 124; (with_reducible refine (c2 _).mono ?_); rintro e w1 ⟨rfl, rfl⟩) | (go_at_call 62; (with_reducible refine (c3 _).mono ?_); rintro e w2 ⟨rfl, hB2⟩) | (go_at_call 88; (with_reducible refine (c4 _).mono ?_); rintro e w3 ⟨rfl, hB3⟩))
    go_ret3
    exact ⟨rfl, bthen hB2 hB3⟩
  · rw [decide_eq_false hxy]
    have t1 : ((x : Int) == (y : Int)) = false := by simp; omega
    go_enter Try.func65, Try.ntmps65
    go_wp2_with (first | (go_at_call 106; (with_reducible refine (c1 _).mono ?_); rintro e w1 ⟨rfl, rfl⟩) | (go_at_call 124; (with_reducible refine (c2 _).mono ?_); rintro e w1 ⟨rfl, rfl⟩) | (go_at_call 62; (with_reducible refine (c3 _).mono ?_); rintro e w2 ⟨rfl, hB2⟩) | (go_at_call 88; (with_reducible refine (c4 _).mono ?_); rintro e w3 ⟨rfl, hB3⟩))
    go_ret3
    exact ⟨rfl, bthen hB2 hB3⟩
end Go.Proofs.Ytnmlephjhcmbhaa
