/- The calendar: the seconds of a clock, and the way back. Plain mathematics. -/
import Derived.Test.YtnmlephjhcmbhaaDam
namespace Go.Proofs.Ytnmlephjhcmbhaa
set_option linter.unusedSimpArgs false
set_option linter.unusedVariables false
/-- The days of the n years from a on. -/
def sumY (a : Nat) : Nat → Nat
  | 0 => 0
  | n + 1 => sumY a n + yD (a + n)
theorem sumY_dU (k : Nat) : sumY 1970 k = dU k := by
  induction k with
  | zero => rfl
  | succ k ih => rw [sumY, dU, ih]
theorem sumY_le (a n : Nat) : sumY a n ≤ 366 * n := by
  induction n with
  | zero => simp [sumY]
  | succ n ih => rw [sumY]; have := (yD_ge (a + n)).2; omega
theorem sumY_ge (a n : Nat) : 365 * n ≤ sumY a n := by
  induction n with
  | zero => simp [sumY]
  | succ n ih => rw [sumY]; have := (yD_ge (a + n)).1; omega
theorem dM_le (y n : Nat) : dM y n ≤ 31 * n := by
  induction n with
  | zero => simp [dM]
  | succ n ih => rw [dM]; have := (mD_ge y (n + 1)).2; omega
/-- The days from 1970 to a date, and the seconds to a clock. -/
def dayI (Y M D : Nat) : Int := (sumY 1970 (Y - 1970) : Int) - (sumY Y (1970 - Y) : Int) + (dM Y (M - 1) : Int) + (D : Int) - 1
def secI (Y M D h m s : Nat) : Int := dayI Y M D * 86400 + h * 3600 + m * 60 + s
def validB (Y M D h m s : Nat) : Bool := decide (1900 ≤ Y ∧ Y ≤ 2155 ∧ 1 ≤ M ∧ M ≤ 12 ∧ 1 ≤ D ∧ D ≤ mD Y M ∧ h ≤ 23 ∧ m ≤ 59 ∧ s ≤ 59)
theorem validB_iff (Y M D h m s : Nat) : validB Y M D h m s = true ↔ (1900 ≤ Y ∧ Y ≤ 2155 ∧ 1 ≤ M ∧ M ≤ 12 ∧ 1 ≤ D ∧ D ≤ mD Y M ∧ h ≤ 23 ∧ m ≤ 59 ∧ s ≤ 59) := by
  rw [validB, decide_eq_true_iff]
/-- The clock of a good date has the seconds of the date. -/
theorem secI_date (x : Dt) (h m s : Nat) : secI (1970 + x.k) (x.c + 1) (x.d + 1) h m s = (x.days : Int) * 86400 + h * 3600 + m * 60 + s := by
  have e : dayI (1970 + x.k) (x.c + 1) (x.d + 1) = (x.days : Int) := by
    rw [dayI, show 1970 + x.k - 1970 = x.k by omega, show 1970 - (1970 + x.k) = 0 by omega, sumY_dU, Dt.days, show x.c + 1 - 1 = x.c by omega]
    simp only [sumY]
    omega
  rw [secI, e]
/-- A date before 1970 lies before 1970. -/
theorem dayI_neg (Y M D : Nat) (hY : Y < 1970) (hM : 1 ≤ M) (hM2 : M ≤ 12) (hD : D ≤ mD Y M) : dayI Y M D < 0 := by
  have h1 : dM Y (M - 1) + mD Y M ≤ yD Y := by
    have h2 := dM_mono Y (show M - 1 + 1 ≤ 12 by omega)
    rw [dM_12, dM, show M - 1 + 1 = M by omega] at h2
    exact h2
  have h3 : sumY Y (1970 - Y) ≥ yD Y := by
    obtain ⟨n, hn⟩ : ∃ n, 1970 - Y = n + 1 := ⟨1970 - Y - 1, by omega⟩
    rw [hn]
    clear hn
    induction n with
    | zero => simp [sumY]
    | succ n ih => rw [sumY]; omega
  rw [dayI, show Y - 1970 = 0 by omega]
  simp only [sumY]
  omega
/-- A clock from 1970 on is that of a good date. -/
theorem date_clock (Y M D h m s : Nat) (hv : validB Y M D h m s = true) (hY : 1970 ≤ Y) : ∃ x : Dt, x.Good ∧ 1970 + x.k = Y ∧ x.c + 1 = M ∧ x.d + 1 = D := by
  rw [validB_iff] at hv
  refine ⟨⟨Y - 1970, M - 1, D - 1⟩, ⟨by simp only; omega, ?_⟩, by simp only; omega, by simp only; omega, by simp only; omega⟩
  simp only
  rw [show 1970 + (Y - 1970) = Y by omega, show M - 1 + 1 = M by omega]
  omega
theorem dayI_bd (Y M D h m s : Nat) (hv : validB Y M D h m s = true) : -30000 < dayI Y M D ∧ dayI Y M D < 80000 := by
  rw [validB_iff] at hv
  have h1 := sumY_le 1970 (Y - 1970)
  have h2 := sumY_le Y (1970 - Y)
  have h3 := dM_le Y (M - 1)
  have h4 := (mD_ge Y M).2
  rw [dayI]
  constructor <;> omega
theorem secI_bd (Y M D h m s : Nat) (hv : validB Y M D h m s = true) : -3000000000 < secI Y M D h m s ∧ secI Y M D h m s < 7000000000 := by
  have h1 := dayI_bd Y M D h m s hv
  rw [validB_iff] at hv
  rw [secI]
  constructor <;> omega
end Go.Proofs.Ytnmlephjhcmbhaa
