/- Package datetime and its reference: leap years, days of years and months. -/
import Derived.Test.YtnmlephjhcmbhaaDam
import Derived.Test.YtnmlephjhcmbhaaEnd
namespace Go.Proofs.Ytnmlephjhcmbhaa
set_option linter.unusedSimpArgs false
set_option linter.unusedVariables false
open Go Go.RowKit
theorem nat_beq (z : Nat) : ((z : Int) == 0) = (z == 0) := by
  rw [Bool.eq_iff_iff, beq_iff_eq, beq_iff_eq]
  omega
set_option maxRecDepth 100000 in
set_option maxHeartbeats 400000 in
theorem isTime_ok (t : Int) (w : World) : Calls Try.prog 150 #[.int .i64 t] w fun e w' => e = .returned (.bool (decide (315532800 ≤ t ∧ t ≤ 4102444799))) ∧ w = w' := by
  by_cases h1 : 315532800 ≤ t
  · by_cases h2 : t ≤ 4102444799
    · rw [decide_eq_true ⟨h1, h2⟩]
      go_enter Try.func150, Try.ntmps150
      go_wp2
      go_ret
      exact ⟨rfl, rfl⟩
    · rw [decide_eq_false fun h => h2 h.2]
      go_enter Try.func150, Try.ntmps150
      go_wp2
      go_ret
      exact ⟨rfl, rfl⟩
  · rw [decide_eq_false fun h => h1 h.1]
    go_enter Try.func150, Try.ntmps150
    go_wp2
    go_ret
    exact ⟨rfl, rfl⟩
set_option maxRecDepth 100000 in
set_option maxHeartbeats 400000 in
theorem isZone_ok (t : Int) (w : World) : Calls Try.prog 151 #[.int .i64 t] w fun e w' => e = .returned (.bool (decide (-1440 ≤ t ∧ t ≤ 1440))) ∧ w = w' := by
  by_cases h1 : -1440 ≤ t
  · by_cases h2 : t ≤ 1440
    · rw [decide_eq_true ⟨h1, h2⟩]
      go_enter Try.func151, Try.ntmps151
      go_wp2
      go_ret
      exact ⟨rfl, rfl⟩
    · rw [decide_eq_false fun h => h2 h.2]
      go_enter Try.func151, Try.ntmps151
      go_wp2
      go_ret
      exact ⟨rfl, rfl⟩
  · rw [decide_eq_false fun h => h1 h.1]
    go_enter Try.func151, Try.ntmps151
    go_wp2
    go_ret
    exact ⟨rfl, rfl⟩
set_option maxRecDepth 100000 in
set_option maxHeartbeats 400000 in
theorem isQuarter_ok (t : Int) (w : World) : Calls Try.prog 105 #[.int .i64 t] w fun e w' => e = .returned (.bool (decide (t % 15 = 0 ∧ -720 ≤ t ∧ t ≤ 780))) ∧ w = w' := by
  obtain ⟨r, hr⟩ : ∃ r, t.tmod 15 = r := ⟨_, rfl⟩
  have e : t % 15 = 0 ↔ r = 0 := by
    rw [← hr]
    constructor
    · intro h; exact Int.tmod_eq_zero_of_dvd (Int.dvd_of_emod_eq_zero h)
    · intro h; exact Int.emod_eq_zero_of_dvd (Int.dvd_of_tmod_eq_zero h)
  by_cases h0 : r = 0
  · subst h0
    by_cases h1 : -720 ≤ t
    · by_cases h2 : t ≤ 780
      · rw [decide_eq_true ⟨e.2 rfl, h1, h2⟩]
        clear e
        go_enter Try.func105, Try.ntmps105
        go_wp2
        go_ret
        exact ⟨rfl, rfl⟩
      · rw [decide_eq_false fun h => h2 h.2.2]
        clear e
        go_enter Try.func105, Try.ntmps105
        go_wp2
        go_ret
        exact ⟨rfl, rfl⟩
    · rw [decide_eq_false fun h => h1 h.2.1]
      clear e
      go_enter Try.func105, Try.ntmps105
      go_wp2
      go_ret
      exact ⟨rfl, rfl⟩
  · rw [decide_eq_false fun h => h0 (e.1 h.1)]
    have t0 : (r == 0) = false := by simpa using h0
    clear e
    go_enter Try.func105, Try.ntmps105
    go_wp2
    go_ret
    exact ⟨rfl, rfl⟩
set_option maxRecDepth 100000 in
set_option maxHeartbeats 400000 in
theorem leap_ok (y : Nat) (w : World) : Calls Try.prog 179 #[.int .i64 y] w fun e w' => e = .returned (.bool (leapB y)) ∧ w = w' := by
  have m1 : ∀ c : Nat, ((y : Int).tmod c) = ((y % c : Nat) : Int) := fun c => by rw [Int.tmod_eq_emod_of_nonneg (by omega)]; rfl
  have m400 : ((y : Int).tmod 400) = ((y % 400 : Nat) : Int) := m1 400
  have m4 : ((y : Int).tmod 4) = ((y % 4 : Nat) : Int) := m1 4
  have m100 : ((y : Int).tmod 100) = ((y % 100 : Nat) : Int) := m1 100
  unfold leapB
  clear m1
  generalize y % 400 = a at m400 ⊢
  generalize y % 4 = b at m4 ⊢
  generalize y % 100 = c at m100 ⊢
  by_cases ha : a = 0
  · subst ha
    go_enter Try.func179, Try.ntmps179
    go_wp2
    go_ret
    exact ⟨rfl, rfl⟩
  have ha' : ((a : Int) == 0) = false := by simpa using ha
  by_cases hb : b = 0
  · subst hb
    have e : (a == 0 || ((0 : Nat) == 0 && c != 0)) = ((c : Int) != 0) := by
      rw [show (a == 0) = false by simpa using ha, bne, bne, nat_beq]
      rfl
    rw [e]
    clear e ha
    go_enter Try.func179, Try.ntmps179
    go_wp2
    go_ret
    exact ⟨rfl, rfl⟩
  have hb' : ((b : Int) == 0) = false := by simpa using hb
  rw [show (a == 0 || (b == 0 && c != 0)) = false by simp [ha, hb]]
  clear ha hb
  go_enter Try.func179, Try.ntmps179
  go_wp2
  go_ret
  exact ⟨rfl, rfl⟩
set_option maxRecDepth 100000 in
set_option maxHeartbeats 400000 in
theorem yearDays_ok (y : Nat) (w : World) : Calls Try.prog 152 #[.int .i64 y] w fun e w' => e = .returned (.int .i64 (yD y : Nat)) ∧ w = w' := by
  have c1 := fun W => leap_ok y W
  unfold yD
  cases h : leapB y
  all_goals
    rw [h] at c1
    clear h
    go_enter Try.func152, Try.ntmps152
    go_wp2_with (first | (go_at_call 179; (with_reducible refine (c1 _).mono ?_); rintro e w1 ⟨rfl, rfl⟩))
    go_ret
    exact ⟨rfl, rfl⟩
set_option maxRecDepth 100000 in
set_option maxHeartbeats 1000000 in
theorem monthDays_ok (y m : Nat) (w : World) (h1 : 1 ≤ m) (h2 : m ≤ 12) : Calls Try.prog 153 #[.int .i64 y, .int .i64 m] w fun e w' => e = .returned (.int .i64 (mD y m : Nat)) ∧ Below w.heap.size w w' := by
  have c1 := fun W => leap_ok y W
  by_cases hm : m = 2
  · subst hm
    rw [mD, if_pos rfl]
    cases h : leapB y
    all_goals
      rw [h] at c1
      clear h
      go_enter Try.func153, Try.ntmps153
      go_wp2_with (first | (go_at_call 179; (with_reducible refine (c1 _).mono ?_); rintro e w1 ⟨rfl, rfl⟩))
      go_ret
      exact ⟨rfl, (Below.refl _ w).alloc (Nat.le_refl _) _⟩
  · have h : m = 1 ∨ m = 3 ∨ m = 4 ∨ m = 5 ∨ m = 6 ∨ m = 7 ∨ m = 8 ∨ m = 9 ∨ m = 10 ∨ m = 11 ∨ m = 12 := by omega
    rcases h with rfl | rfl | rfl | rfl | rfl | rfl | rfl | rfl | rfl | rfl | rfl
    all_goals
      go_enter Try.func153, Try.ntmps153
      go_wp2
      go_ret
      exact ⟨rfl, (Below.refl _ w).alloc (Nat.le_refl _) _⟩
set_option maxRecDepth 100000 in
set_option maxHeartbeats 400000 in
theorem rleap_ok (y : Nat) (w : World) : Calls Try.prog 185 #[.int .i64 y] w fun e w' => e = .returned (.bool (leapB y)) ∧ w = w' := by
  have m1 : ∀ c : Nat, ((y : Int).tmod c) = ((y % c : Nat) : Int) := fun c => by rw [Int.tmod_eq_emod_of_nonneg (by omega)]; rfl
  have m400 : ((y : Int).tmod 400) = ((y % 400 : Nat) : Int) := m1 400
  have m4 : ((y : Int).tmod 4) = ((y % 4 : Nat) : Int) := m1 4
  have m100 : ((y : Int).tmod 100) = ((y % 100 : Nat) : Int) := m1 100
  have r1 : y % 400 = 0 → y % 4 = 0 := by omega
  unfold leapB
  clear m1
  generalize y % 400 = a at m400 r1 ⊢
  generalize y % 4 = b at m4 r1 ⊢
  generalize y % 100 = c at m100 ⊢
  by_cases hb : b = 0
  · subst hb
    by_cases hc : c = 0
    · subst hc
      have e : (a == 0 || ((0 : Nat) == 0 && (0 : Nat) != 0)) = ((a : Int) == 0) := by
        rw [nat_beq]
        simp
      rw [e]
      clear e r1
      go_enter Try.func185, Try.ntmps185
      go_wp2
      go_ret
      exact ⟨rfl, rfl⟩
    · have hc' : ((c : Int) == 0) = false := by simpa using hc
      have e : (a == 0 || ((0 : Nat) == 0 && c != 0)) = true := by simp [hc]
      rw [e]
      clear e r1
      go_enter Try.func185, Try.ntmps185
      go_wp2
      go_ret
      exact ⟨rfl, rfl⟩
  · have hb' : ((b : Int) == 0) = false := by simpa using hb
    have ha : a ≠ 0 := fun h => hb (r1 h)
    rw [show (a == 0 || (b == 0 && c != 0)) = false by simp [ha, hb]]
    clear ha hb r1
    go_enter Try.func185, Try.ntmps185
    go_wp2
    go_ret
    exact ⟨rfl, rfl⟩
set_option maxRecDepth 100000 in
set_option maxHeartbeats 400000 in
theorem ryear_ok (y : Nat) (w : World) : Calls Try.prog 180 #[.int .i64 y] w fun e w' => e = .returned (.int .i64 (yD y : Nat)) ∧ w = w' := by
  have c1 := fun W => rleap_ok y W
  unfold yD
  cases h : leapB y
  all_goals
    rw [h] at c1
    clear h
    go_enter Try.func180, Try.ntmps180
    go_wp2_with (first | (go_at_call 185; (with_reducible refine (c1 _).mono ?_); rintro e w1 ⟨rfl, rfl⟩))
    go_ret
    exact ⟨rfl, rfl⟩
set_option maxRecDepth 100000 in
set_option maxHeartbeats 400000 in
theorem rdays_ok (y m : Nat) (w : World) (h1 : 1 ≤ m) (h2 : m ≤ 12) : Calls Try.prog 162 #[.int .i64 y, .int .i64 m] w fun e w' => e = .returned (.int .i64 (mD y m : Nat)) ∧ w = w' := by
  have c1 := fun W => rleap_ok y W
  by_cases hm : m = 2
  · subst hm
    rw [mD, if_pos rfl]
    cases h : leapB y
    all_goals
      rw [h] at c1
      clear h
      go_enter Try.func162, Try.ntmps162
      go_wp2_with (first | (go_at_call 185; (with_reducible refine (c1 _).mono ?_); rintro e w1 ⟨rfl, rfl⟩))
      go_ret
      exact ⟨rfl, rfl⟩
  · have h : m = 1 ∨ m = 3 ∨ m = 4 ∨ m = 5 ∨ m = 6 ∨ m = 7 ∨ m = 8 ∨ m = 9 ∨ m = 10 ∨ m = 11 ∨ m = 12 := by omega
    clear c1 h1 h2 hm
    rcases h with rfl | rfl | rfl | rfl | rfl | rfl | rfl | rfl | rfl | rfl | rfl
    all_goals
      go_enter Try.func162, Try.ntmps162
      go_wp2
      go_ret
      exact ⟨rfl, rfl⟩
end Go.Proofs.Ytnmlephjhcmbhaa
