/- The register has the period 32767, and no state occurs twice in a period. Plain mathematics. -/
import Derived.Test.YtmpojdjknahoiaaRef
namespace Go.Proofs.Ytmpojdjknahoiaa
/-- 2^d steps from x: were all of the states x, stp x, .. unlike 1; and the state behind them. -/
def walk : Nat → Nat → Bool × Nat
  | 0, x => (x != 1, stp x)
  | d + 1, x => let p := walk d x; let q := walk d p.2; (p.1 && q.1, q.2)
def walks : List Nat → Nat → Bool × Nat
  | [], x => (true, x)
  | d :: l, x => let p := walk d x; let q := walks l p.2; (p.1 && q.1, q.2)
def iter : Nat → Nat → Nat
  | 0, x => x
  | n + 1, x => iter n (stp x)
theorem iter_add (a b x : Nat) : iter (a + b) x = iter b (iter a x) := by
  induction a generalizing x with
  | zero => simp [iter]
  | succ a ih => rw [Nat.succ_add]; exact ih (stp x)
theorem iter_succ (n x : Nat) : iter (n + 1) x = stp (iter n x) := iter_add n 1 x
theorem reg_iter (n : Nat) : reg n = iter n 1 := by
  induction n with
  | zero => rfl
  | succ n ih => rw [iter_succ, ← ih]; rfl
theorem walk_spec (d : Nat) : ∀ x, (walk d x).2 = iter (2 ^ d) x ∧ ((walk d x).1 = true → ∀ j, j < 2 ^ d → iter j x ≠ 1) := by
  induction d with
  | zero =>
    intro x
    refine ⟨rfl, fun h j hj => ?_⟩
    have : j = 0 := by simpa using hj
    subst this
    simpa [walk, iter] using h
  | succ d ih =>
    intro x
    obtain ⟨h1, h2⟩ := ih x
    obtain ⟨h3, h4⟩ := ih (walk d x).2
    have e : 2 ^ (d + 1) = 2 ^ d + 2 ^ d := by rw [Nat.pow_succ]; omega
    refine ⟨?_, fun h j hj => ?_⟩
    · show (walk d (walk d x).2).2 = _
      rw [h3, h1, e, iter_add]
    · have h' : ((walk d x).1 && (walk d (walk d x).2).1) = true := h
      rw [Bool.and_eq_true] at h'
      by_cases hlt : j < 2 ^ d
      · exact h2 h'.1 j hlt
      · have := h4 h'.2 (j - 2 ^ d) (by omega)
        rw [h1, ← iter_add] at this
        rwa [show 2 ^ d + (j - 2 ^ d) = j by omega] at this
def total : List Nat → Nat
  | [] => 0
  | d :: l => 2 ^ d + total l
theorem walks_spec (l : List Nat) : ∀ x, (walks l x).2 = iter (total l) x ∧ ((walks l x).1 = true → ∀ j, j < total l → iter j x ≠ 1) := by
  induction l with
  | nil => intro x; exact ⟨rfl, fun _ j hj => absurd hj (Nat.not_lt_zero _)⟩
  | cons d l ih =>
    intro x
    obtain ⟨h1, h2⟩ := walk_spec d x
    obtain ⟨h3, h4⟩ := ih (walk d x).2
    refine ⟨?_, fun h j hj => ?_⟩
    · show (walks l (walk d x).2).2 = _
      rw [h3, h1, total, iter_add]
    · have h' : ((walk d x).1 && (walks l (walk d x).2).1) = true := h
      rw [Bool.and_eq_true] at h'
      rw [total] at hj
      by_cases hlt : j < 2 ^ d
      · exact h2 h'.1 j hlt
      · have := h4 h'.2 (j - 2 ^ d) (by omega)
        rw [h1, ← iter_add] at this
        rwa [show 2 ^ d + (j - 2 ^ d) = j by omega] at this
theorem walked : walks [14, 13, 12, 11, 10, 9, 8, 7, 6, 5, 4, 3, 2, 1] 16384 = (true, 1) := by decide +kernel
theorem reg_period : reg 32767 = 1 := by
  have h := (walks_spec [14, 13, 12, 11, 10, 9, 8, 7, 6, 5, 4, 3, 2, 1] 16384).1
  rw [walked] at h
  rw [reg_iter, show (32767 : Nat) = 1 + total [14, 13, 12, 11, 10, 9, 8, 7, 6, 5, 4, 3, 2, 1] from by decide, iter_add]
  exact h.symm
theorem reg_ne_one {d : Nat} (h0 : 0 < d) (h1 : d < 32767) : reg d ≠ 1 := by
  have h := (walks_spec [14, 13, 12, 11, 10, 9, 8, 7, 6, 5, 4, 3, 2, 1] 16384).2 (by rw [walked]) (d - 1) (by
    have : total [14, 13, 12, 11, 10, 9, 8, 7, 6, 5, 4, 3, 2, 1] = 32766 := by decide
    omega)
  rw [reg_iter, show d = 1 + (d - 1) by omega, iter_add]
  exact h
theorem reg_add (a b : Nat) : reg (a + b) = iter b (reg a) := by rw [reg_iter, reg_iter, iter_add]
theorem reg_add_period (n : Nat) : reg (n + 32767) = reg n := by rw [Nat.add_comm, reg_add, reg_period, reg_iter]
theorem reg_add_mul (n m : Nat) : reg (n + 32767 * m) = reg n := by
  induction m with
  | zero => rfl
  | succ m ih => rw [Nat.mul_succ, ← Nat.add_assoc, reg_add_period, ih]
theorem reg_mod (n : Nat) : reg (n % 32767) = reg n := by
  have h := reg_add_mul (n % 32767) (n / 32767)
  rw [Nat.mod_add_div] at h
  exact h.symm
theorem stp_inj {x y : Nat} (hx : x < 32768) (hy : y < 32768) (h : stp x = stp y) : x = y := by
  unfold stp at h
  have hb : (x % 2 + x / 2 % 2) % 2 < 2 := Nat.mod_lt _ (by decide)
  have hc : (y % 2 + y / 2 % 2) % 2 < 2 := Nat.mod_lt _ (by decide)
  have hxy : x / 2 = y / 2 ∧ (x % 2 + x / 2 % 2) % 2 = (y % 2 + y / 2 % 2) % 2 := by
    generalize (x % 2 + x / 2 % 2) % 2 = b at *
    generalize (y % 2 + y / 2 % 2) % 2 = c at *
    omega
  obtain ⟨h1, h2⟩ := hxy
  rw [h1] at h2
  generalize y / 2 % 2 = q at h2
  omega
theorem reg_inj_aux (i d : Nat) (h : reg (i + d) = reg i) : reg d = 1 := by
  induction i with
  | zero => rw [Nat.zero_add] at h; exact h
  | succ i ih =>
    rw [Nat.succ_add] at h
    exact ih (stp_inj (reg_lt _) (reg_lt _) h)
theorem reg_inj {i k : Nat} (hi : i < 32767) (hk : k < 32767) (h : reg i = reg k) : i = k := by
  rcases Nat.lt_trichotomy i k with hlt | he | hlt
  · have := reg_inj_aux i (k - i) (by rw [show i + (k - i) = k by omega, h])
    exact absurd this (reg_ne_one (by omega) (by omega))
  · exact he
  · have := reg_inj_aux k (i - k) (by rw [show k + (i - k) = i by omega, h])
    exact absurd this (reg_ne_one (by omega) (by omega))
theorem reg_pos (n : Nat) : 1 ≤ reg n := by
  induction n with
  | zero => decide
  | succ n ih =>
    have h : reg (n + 1) = stp (reg n) := rfl
    rw [h]
    unfold stp
    have h1 := reg_lt n
    by_cases h0 : reg n = 1
    · rw [h0]; decide
    · omega
end Go.Proofs.Ytmpojdjknahoiaa
