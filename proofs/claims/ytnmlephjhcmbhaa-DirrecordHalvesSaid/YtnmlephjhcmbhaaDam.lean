/- The calendar: plain mathematics. -/
namespace Go.Proofs.Ytnmlephjhcmbhaa
set_option linter.unusedSimpArgs false
set_option linter.unusedVariables false
def leapB (y : Nat) : Bool := y % 400 == 0 || (y % 4 == 0 && y % 100 != 0)
/-- The days of a year, and of a month. -/
def yD (y : Nat) : Nat := if leapB y then 366 else 365
def mD (y m : Nat) : Nat := if m = 2 then (if leapB y then 29 else 28) else if m = 4 ∨ m = 6 ∨ m = 9 ∨ m = 11 then 30 else 31
/-- The days of the k years from 1970 on; of the k years before 1970; of the first c months of a year. -/
def dU : Nat → Nat
  | 0 => 0
  | k + 1 => dU k + yD (1970 + k)
def dD : Nat → Nat
  | 0 => 0
  | k + 1 => dD k + yD (1969 - k)
def dM (y : Nat) : Nat → Nat
  | 0 => 0
  | c + 1 => dM y c + mD y (c + 1)
theorem yD_ge (y : Nat) : 365 ≤ yD y ∧ yD y ≤ 366 := by unfold yD; split <;> decide
theorem mD_ge (y m : Nat) : 28 ≤ mD y m ∧ mD y m ≤ 31 := by
  unfold mD
  split
  · split <;> decide
  · split <;> decide
theorem dM_12 (y : Nat) : dM y 12 = yD y := by
  simp only [dM, mD, yD]
  cases leapB y <;> simp
theorem dU_mono {a b : Nat} (h : a ≤ b) : dU a ≤ dU b := by
  induction h with
  | refl => exact Nat.le_refl _
  | step _ ih => rw [dU]; omega
theorem dU_ge (k : Nat) : 365 * k ≤ dU k := by
  induction k with
  | zero => simp [dU]
  | succ k ih => rw [dU]; have := (yD_ge (1970 + k)).1; omega
theorem dU_le (k : Nat) : dU k ≤ 366 * k := by
  induction k with
  | zero => simp [dU]
  | succ k ih => rw [dU]; have := (yD_ge (1970 + k)).2; omega
theorem dM_mono (y : Nat) {a b : Nat} (h : a ≤ b) : dM y a ≤ dM y b := by
  induction h with
  | refl => exact Nat.le_refl _
  | step _ ih => rw [dM]; omega
theorem year_of (n : Nat) : ∃ k, dU k ≤ n ∧ n < dU (k + 1) := by
  induction n with
  | zero => exact ⟨0, Nat.le_refl _, by have := (yD_ge (1970 + 0)).1; simp only [dU]; omega⟩
  | succ n ih =>
    obtain ⟨k, h1, h2⟩ := ih
    by_cases h : n + 1 < dU (k + 1)
    · exact ⟨k, by omega, h⟩
    · refine ⟨k + 1, by omega, ?_⟩
      rw [dU]
      have := (yD_ge (1970 + (k + 1))).1
      omega
theorem month_of (y : Nat) : ∀ (N r : Nat), r < dM y N → ∃ c, c < N ∧ dM y c ≤ r ∧ r < dM y (c + 1)
  | 0, r, h => absurd h (by simp [dM])
  | N + 1, r, h => by
    by_cases h1 : r < dM y N
    · obtain ⟨c, a, b⟩ := month_of y N r h1
      exact ⟨c, by omega, b⟩
    · exact ⟨N, by omega, by omega, h⟩
/-- A date: k years from 1970 on, c months, d days: all of them gone. -/
structure Dt where
  (k c d : Nat)
def Dt.Good (x : Dt) : Prop := x.c < 12 ∧ x.d < mD (1970 + x.k) (x.c + 1)
def Dt.days (x : Dt) : Nat := dU x.k + dM (1970 + x.k) x.c + x.d
theorem date_of (n : Nat) : ∃ x : Dt, x.Good ∧ x.days = n := by
  obtain ⟨k, h1, h2⟩ := year_of n
  rw [dU] at h2
  obtain ⟨c, hc, h3, h4⟩ := month_of (1970 + k) 12 (n - dU k) (by rw [dM_12]; omega)
  rw [dM] at h4
  exact ⟨⟨k, c, n - dU k - dM (1970 + k) c⟩, ⟨hc, by simp only; omega⟩, by simp only [Dt.days]; omega⟩
theorem Dt.Good.lt_year {x : Dt} (h : x.Good) : dM (1970 + x.k) x.c + x.d < yD (1970 + x.k) := by
  have h1 := h.2
  have h2 := dM_mono (1970 + x.k) (show x.c + 1 ≤ 12 from h.1)
  rw [dM_12, dM] at h2
  omega
theorem Dt.Good.lt_next {x : Dt} (h : x.Good) : x.days < dU (x.k + 1) := by
  have := h.lt_year
  rw [dU, Dt.days]
  omega
theorem date_inj {x y : Dt} (hx : x.Good) (hy : y.Good) (h : x.days = y.days) : x = y := by
  have hk : x.k = y.k := by
    rcases Nat.lt_trichotomy x.k y.k with hlt | heq | hgt
    · have h1 := hx.lt_next
      have h2 := dU_mono (show x.k + 1 ≤ y.k from hlt)
      have h3 : dU y.k ≤ y.days := by rw [Dt.days]; omega
      omega
    · exact heq
    · have h1 := hy.lt_next
      have h2 := dU_mono (show y.k + 1 ≤ x.k from hgt)
      have h3 : dU x.k ≤ x.days := by rw [Dt.days]; omega
      omega
  obtain ⟨k, c, d⟩ := x
  obtain ⟨k', c', d'⟩ := y
  simp only at hk
  subst hk
  simp only [Dt.days, Dt.Good] at h hx hy
  have hc : c = c' := by
    rcases Nat.lt_trichotomy c c' with hlt | heq | hgt
    · have h2 := dM_mono (1970 + k) (show c + 1 ≤ c' from hlt)
      rw [dM] at h2
      omega
    · exact heq
    · have h2 := dM_mono (1970 + k) (show c' + 1 ≤ c from hgt)
      rw [dM] at h2
      omega
  subst hc
  have hd : d = d' := by omega
  subst hd
  rfl
end Go.Proofs.Ytnmlephjhcmbhaa
