/- Where a part of the sequence lies: plain mathematics. -/
import Derived.Test.YtmpojdjknahoiaaCon
import Derived.Lib.IndexLaws
import Derived.Lib.IndexMore
namespace Go.Proofs.Ytmpojdjknahoiaa
open Go Go.RowKit
theorem fadd_pow_div (A b j r : Nat) (h : r < j) : (A + b * 2 ^ j) / 2 ^ r % 2 = A / 2 ^ r % 2 := by
  obtain ⟨d, rfl⟩ : ∃ d, j = r + 1 + d := ⟨j - r - 1, by omega⟩
  have e : b * 2 ^ (r + 1 + d) = 2 ^ r * (2 * (b * 2 ^ d)) := by rw [Nat.pow_add, Nat.pow_succ]; ac_rfl
  rw [e, Nat.add_mul_div_left _ _ (Nat.two_pow_pos r)]
  omega
theorem fbyteAcc_bit (s : Nat) : ∀ j r, r < j → byteAcc s j / 2 ^ r % 2 = reg (s + r) % 2
  | 0, _, h => absurd h (Nat.not_lt_zero _)
  | j + 1, r, h => by
    rw [byteAcc]
    by_cases hj : r < j
    · rw [fadd_pow_div _ _ _ _ hj]
      exact fbyteAcc_bit s j r hj
    · obtain rfl : r = j := by omega
      have h2 := byteAcc_lt s r
      rw [Nat.mul_comm, Nat.add_mul_div_left _ _ (Nat.two_pow_pos r), Nat.div_eq_of_lt h2]
      omega
theorem fseqB_bit (q r : Nat) (h : r < 8) : (seqB q).toNat / 2 ^ r % 2 = reg (8 * q + r) % 2 := by
  have h8 := byteAcc_lt (8 * q) 8
  have hm : byteAcc (8 * q) 8 % 2 ^ 8 = byteAcc (8 * q) 8 := Nat.mod_eq_of_lt (by omega)
  rw [seqB, UInt8.toNat_ofNat', hm]
  exact fbyteAcc_bit _ 8 r h
theorem fstp_down (Z i : Nat) (h : i < 14) : stp Z / 2 ^ i % 2 = Z / 2 ^ (i + 1) % 2 := by
  have e : stp Z = Z / 2 + (Z % 2 + Z / 2 % 2) % 2 * 2 ^ 14 := rfl
  rw [e, fadd_pow_div _ _ _ _ h, Nat.div_div_eq_div_mul, Nat.pow_succ, Nat.mul_comm 2]
/-- Bit i of a state is the output i steps later. -/
theorem reg_bit (n : Nat) : ∀ i, i ≤ 14 → reg n / 2 ^ i % 2 = reg (n + i) % 2 := by
  intro i
  induction i generalizing n with
  | zero => intro _; simp
  | succ i ih =>
    intro h
    have h1 : reg (n + 1) = stp (reg n) := rfl
    rw [← fstp_down (reg n) i (by omega), ← h1, ih (n + 1) (by omega), show n + 1 + i = n + (i + 1) by omega]
/-- Two states with the same 15 outputs are one. -/
theorem eq_of_bits {X Y : Nat} (hX : X < 2 ^ 15) (hY : Y < 2 ^ 15) (h : ∀ i, i < 15 → X / 2 ^ i % 2 = Y / 2 ^ i % 2) : X = Y := by
  apply Nat.eq_of_testBit_eq
  intro i
  rw [Nat.testBit_eq_decide_div_mod_eq, Nat.testBit_eq_decide_div_mod_eq]
  by_cases hi : i < 15
  · rw [h i hi]
  · have hp : 2 ^ 15 ≤ 2 ^ i := Nat.pow_le_pow_right (by decide) (by omega)
    rw [Nat.div_eq_of_lt (by omega), Nat.div_eq_of_lt (by omega)]
/-- Four bytes of the sequence tell their place. -/
theorem place_eq {c f : Nat} (hc : c < 32767) (hf : f < 32767) (h : ∀ j, j < 4 → seqB (c + j) = seqB (f + j)) : c = f := by
  have hb : ∀ i, i < 15 → reg (8 * c + i) % 2 = reg (8 * f + i) % 2 := by
    intro i hi
    have h1 := fseqB_bit (c + i / 8) (i % 8) (by omega)
    have h2 := fseqB_bit (f + i / 8) (i % 8) (by omega)
    rw [h (i / 8) (by omega)] at h1
    rw [show 8 * c + i = 8 * (c + i / 8) + i % 8 by omega, show 8 * f + i = 8 * (f + i / 8) + i % 8 by omega, ← h1, ← h2]
  have hr : reg (8 * c) = reg (8 * f) := eq_of_bits (reg_lt _) (reg_lt _) fun i hi => by rw [reg_bit _ i (by omega), reg_bit _ i (by omega)]; exact hb i hi
  rw [← reg_mod (8 * c), ← reg_mod (8 * f)] at hr
  have := reg_inj (Nat.mod_lt _ (by decide)) (Nat.mod_lt _ (by decide)) hr
  omega
theorem isPrefixOf_iff : ∀ (s t : List UInt8), s.isPrefixOf t = true ↔ ∀ j, j < s.length → t[j]? = s[j]?
  | [], t => by simp
  | a :: s, [] => by
    refine ⟨fun h => (by cases h), fun h => ?_⟩
    have := h 0 (by simp)
    simp at this
  | a :: s, b :: t => by
    simp only [List.isPrefixOf_cons_cons, Bool.and_eq_true, beq_iff_eq, isPrefixOf_iff s t]
    constructor
    · rintro ⟨rfl, h⟩ j hj
      cases j with
      | zero => rfl
      | succ j => exact h j (by simpa using hj)
    · intro h
      refine ⟨by simpa using (h 0 (by simp)).symm, fun j hj => by simpa using h (j + 1) (by simpa using hj)⟩
/-- s stands at place i of the sequence. -/
def At (s : List UInt8) (i : Nat) : Prop := ∀ j, j < s.length → s[j]? = some (seqB (i + j))
theorem seqL_at (n j : Nat) (h : j < n) : (seqL n)[j]? = some (seqB j) := by simp [seqL, h]
theorem occ_iff (s : List UInt8) (n i : Nat) (h : i + s.length ≤ n) : Lib.occAt (seqL n) s i = true ↔ At s i := by
  unfold Lib.occAt At
  rw [isPrefixOf_iff]
  constructor
  · intro hh j hj
    have := hh j hj
    rw [List.getElem?_drop, seqL_at n _ (by omega)] at this
    exact this.symm
  · intro hh j hj
    rw [List.getElem?_drop, seqL_at n _ (by omega)]
    exact (hh j hj).symm
theorem occ_len {s t : List UInt8} {i : Nat} (h : Lib.occAt t s i = true) (hs : 0 < s.length) : i + s.length ≤ t.length := by
  unfold Lib.occAt at h
  have h1 := (isPrefixOf_iff s (t.drop i)).1 h (s.length - 1) (by omega)
  rw [List.getElem?_drop, List.getElem?_eq_getElem (show s.length - 1 < s.length by omega)] at h1
  have := (List.getElem?_eq_some_iff.1 h1).1
  omega
/-- The answer of Find: the least place below 32767, or -1. -/
def Place (s : List UInt8) (r : Int) : Prop :=
  (r = -1 ∧ ∀ i, i < 32767 → ¬ At s i) ∨ ∃ i : Nat, r = i ∧ i < 32767 ∧ At s i ∧ ∀ j, j < i → ¬ At s j
theorem index_place (s : List UInt8) (hs : 0 < s.length) : Place s (Lib.index (seqL (32766 + s.length)) s) := by
  rcases Lib.index_spec (seqL (32766 + s.length)) s with ⟨h1, h2⟩ | ⟨i, h1, h2, h3, h4⟩
  · refine .inl ⟨h1, fun i hi hat => ?_⟩
    have := h2 i (by rw [seqL_length]; omega)
    rw [(occ_iff s _ i (by omega)).2 hat] at this
    cases this
  · have hl := occ_len h3 hs
    rw [seqL_length] at hl
    refine .inr ⟨i, h1, by omega, (occ_iff s _ i hl).1 h3, fun j hj hat => ?_⟩
    have := h4 j hj
    rw [(occ_iff s _ j (by omega)).2 hat] at this
    cases this
theorem Place.unique {s : List UInt8} {a b : Int} (ha : Place s a) (hb : Place s b) : a = b := by
  rcases ha with ⟨rfl, h1⟩ | ⟨i, rfl, h1, h2, h3⟩
  · rcases hb with ⟨rfl, _⟩ | ⟨j, rfl, k1, k2, _⟩
    · rfl
    · exact absurd k2 (h1 j k1)
  · rcases hb with ⟨rfl, k1⟩ | ⟨j, rfl, k1, k2, k3⟩
    · exact absurd h2 (k1 i h1)
    · rcases Nat.lt_trichotomy i j with h | h | h
      · exact absurd h2 (k3 i h)
      · rw [h]
      · exact absurd k2 (h3 j h)
theorem Place.exists (s : List UInt8) (hs : 0 < s.length) : ∃ r : Int, Place s r ∧ -1 ≤ r := ⟨_, index_place s hs, Lib.index_ge _ _⟩
/-- What stands at a place below 32767 is found there or before it; with four bytes, there. -/
theorem Place.found {s : List UInt8} {r : Int} {f : Nat} (h : Place s r) (hf : f < 32767) (hat : At s f) : 0 ≤ r ∧ r ≤ f ∧ (4 ≤ s.length → r = f) := by
  rcases h with ⟨rfl, h1⟩ | ⟨i, rfl, h1, h2, h3⟩
  · exact absurd hat (h1 f hf)
  · have hle : i ≤ f := by
      rcases Nat.lt_or_ge f i with hlt | hge
      · exact absurd hat (h3 f hlt)
      · exact hge
    refine ⟨by omega, by omega, fun h4 => ?_⟩
    have := place_eq h1 hf fun j hj => by
      have e1 := h2 j (by omega)
      have e2 := hat j (by omega)
      rw [e1] at e2
      exact Option.some.inj e2
    omega
/-- An injective map of the numbers below n into themselves meets each of them. -/
theorem pigeon : ∀ (n : Nat) (f : Nat → Nat), (∀ i, i < n → f i < n) → (∀ i k, i < n → k < n → f i = f k → i = k) → ∀ y, y < n → ∃ i, i < n ∧ f i = y
  | 0, _, _, _, y, hy => absurd hy (Nat.not_lt_zero _)
  | n + 1, f, hf, hi, y, hy => by
    -- g: f on the numbers below n, with the value n turned into f n
    have hg : ∀ i, i < n → (if f i = n then f n else f i) < n := fun i hin => by
      have h1 := hf i (by omega)
      by_cases h : f i = n
      · rw [if_pos h]
        have h2 := hf n (by omega)
        have : f n ≠ n := fun e => by have := hi i n (by omega) (by omega) (h.trans e.symm); omega
        omega
      · rw [if_neg h]; omega
    have hgi : ∀ i k, i < n → k < n → (if f i = n then f n else f i) = (if f k = n then f n else f k) → i = k := fun i k h1 h2 h => by
      by_cases e1 : f i = n
      · by_cases e2 : f k = n
        · exact hi i k (by omega) (by omega) (e1.trans e2.symm)
        · rw [if_pos e1, if_neg e2] at h
          have := hi n k (by omega) (by omega) h
          omega
      · by_cases e2 : f k = n
        · rw [if_neg e1, if_pos e2] at h
          have := hi i n (by omega) (by omega) h
          omega
        · rw [if_neg e1, if_neg e2] at h
          exact hi i k (by omega) (by omega) h
    by_cases hfy : f n = y
    · exact ⟨n, by omega, hfy⟩
    · by_cases hyn : y = n
      · -- n itself: the place that g has turned
        by_cases hfn : f n = n
        · exact absurd (hfn.trans hyn.symm) hfy
        · obtain ⟨i, h1, h2⟩ := pigeon n _ hg hgi (f n) (by have := hf n (by omega); omega)
          by_cases e : f i = n
          · exact ⟨i, by omega, e.trans hyn.symm⟩
          · rw [if_neg e] at h2
            have := hi i n (by omega) (by omega) h2
            omega
      · obtain ⟨i, h1, h2⟩ := pigeon n _ hg hgi y (by omega)
        by_cases e : f i = n
        · rw [if_pos e] at h2; exact absurd h2 hfy
        · rw [if_neg e] at h2; exact ⟨i, by omega, h2⟩
theorem reg_onto {X : Nat} (h1 : 1 ≤ X) (h2 : X < 32768) : ∃ m, m < 32767 ∧ reg m = X := by
  obtain ⟨m, hm, he⟩ := pigeon 32767 (fun i => reg i - 1) (fun i _ => by have := reg_lt i; omega)
    (fun i k hi hk h => reg_inj hi hk (by have := reg_pos i; have := reg_pos k; omega)) (X - 1) (by omega)
  exact ⟨m, hm, by have := reg_pos m; omega⟩
theorem stp_bit {x : Nat} (hx : x < 32768) (i : Nat) : (stp x).testBit i = if i < 14 then x.testBit (i + 1) else if i = 14 then (x.testBit 0 ^^ x.testBit 1) else false := by
  by_cases h : i < 14
  · rw [if_pos h, Nat.testBit_eq_decide_div_mod_eq, Nat.testBit_eq_decide_div_mod_eq, fstp_down x i h]
  · rw [if_neg h]
    have hs := stp_lt hx
    by_cases h14 : i = 14
    · rw [if_pos h14, h14]
      simp only [Nat.testBit_eq_decide_div_mod_eq]
      have e : stp x = x / 2 + (x % 2 + x / 2 % 2) % 2 * 16384 := rfl
      have hc : (x % 2 + x / 2 % 2) % 2 < 2 := Nat.mod_lt _ (by decide)
      have hq : x / 2 < 16384 := by omega
      have e1 : stp x / 2 ^ 14 % 2 = (x % 2 + x / 2 % 2) % 2 := by
        rw [e, show (2 : Nat) ^ 14 = 16384 from rfl, Nat.add_mul_div_right _ _ (by decide), Nat.div_eq_of_lt hq]
        omega
      rw [e1]
      simp only [Nat.pow_zero, Nat.div_one, Nat.pow_one]
      have h1 : x % 2 = 0 ∨ x % 2 = 1 := by omega
      have h2 : x / 2 % 2 = 0 ∨ x / 2 % 2 = 1 := by omega
      rcases h1 with h1 | h1 <;> rcases h2 with h2 | h2 <;> rw [h1, h2] <;> rfl
    · rw [if_neg h14]
      exact Nat.testBit_lt_two_pow (Nat.lt_of_lt_of_le hs (show 2 ^ 15 ≤ 2 ^ i from Nat.pow_le_pow_right (by decide) (by omega)))
theorem xor_lt {x y : Nat} (hx : x < 32768) (hy : y < 32768) : x ^^^ y < 32768 := Nat.xor_lt_two_pow (n := 15) hx hy
theorem stp_xor {x y : Nat} (hx : x < 32768) (hy : y < 32768) : stp (x ^^^ y) = stp x ^^^ stp y := by
  apply Nat.eq_of_testBit_eq
  intro i
  rw [Nat.testBit_xor, stp_bit (xor_lt hx hy), stp_bit hx, stp_bit hy]
  by_cases h : i < 14
  · simp only [if_pos h, Nat.testBit_xor]
  · simp only [if_neg h]
    by_cases h14 : i = 14
    · simp only [if_pos h14, Nat.testBit_xor]
      cases x.testBit 0 <;> cases x.testBit 1 <;> cases y.testBit 0 <;> cases y.testBit 1 <;> rfl
    · simp only [if_neg h14]; rfl
theorem reg_xor (a b m : Nat) (h : reg a ^^^ reg b = reg m) : ∀ n, reg (a + n) ^^^ reg (b + n) = reg (m + n)
  | 0 => h
  | n + 1 => by
    have e (k : Nat) : reg (k + (n + 1)) = stp (reg (k + n)) := rfl
    rw [e, e, e, ← stp_xor (reg_lt _) (reg_lt _), reg_xor a b m h n]
/-- The exclusive or of two states of a period is a state. -/
theorem reg_xor_at {a b : Nat} (h : a % 32767 ≠ b % 32767) : ∃ m, reg a ^^^ reg b = reg m := by
  have hne : reg a ≠ reg b := fun e => h (reg_inj (Nat.mod_lt _ (by decide)) (Nat.mod_lt _ (by decide)) (by rw [reg_mod, reg_mod, e]))
  have hpos : 1 ≤ reg a ^^^ reg b := by
    rcases Nat.eq_zero_or_pos (reg a ^^^ reg b) with h0 | h0
    · refine absurd ?_ hne
      have h1 := congrArg (fun z => z ^^^ reg b) h0
      simp only [Nat.xor_assoc, Nat.xor_self, Nat.xor_zero, Nat.zero_xor] at h1
      exact h1
    · exact h0
  obtain ⟨m, _, hm⟩ := reg_onto hpos (xor_lt (reg_lt a) (reg_lt b))
  exact ⟨m, hm.symm⟩
theorem byte_eq {x y : UInt8} (h : ∀ r, r < 8 → x.toNat / 2 ^ r % 2 = y.toNat / 2 ^ r % 2) : x = y := by
  apply UInt8.toNat_inj.1
  apply Nat.eq_of_testBit_eq
  intro i
  rw [Nat.testBit_eq_decide_div_mod_eq, Nat.testBit_eq_decide_div_mod_eq]
  by_cases hi : i < 8
  · rw [h i hi]
  · have hp : 2 ^ 8 ≤ 2 ^ i := Nat.pow_le_pow_right (by decide) (by omega)
    have hx := UInt8.toNat_lt x
    have hy := UInt8.toNat_lt y
    rw [Nat.div_eq_of_lt (by omega), Nat.div_eq_of_lt (by omega)]
theorem xor_div_mod (x y r : Nat) : (x ^^^ y) / 2 ^ r % 2 = (x / 2 ^ r % 2 + y / 2 ^ r % 2) % 2 := by
  have h := Nat.testBit_xor x y r
  simp only [Nat.testBit_eq_decide_div_mod_eq] at h
  have h1 : x / 2 ^ r % 2 < 2 := Nat.mod_lt _ (by decide)
  have h2 : y / 2 ^ r % 2 < 2 := Nat.mod_lt _ (by decide)
  have h3 : (x ^^^ y) / 2 ^ r % 2 < 2 := Nat.mod_lt _ (by decide)
  generalize (x ^^^ y) / 2 ^ r % 2 = p at *
  generalize x / 2 ^ r % 2 = q at *
  generalize y / 2 ^ r % 2 = t at *
  have hp : p = 0 ∨ p = 1 := by omega
  have hq : q = 0 ∨ q = 1 := by omega
  have ht : t = 0 ∨ t = 1 := by omega
  rcases hp with rfl | rfl <;> rcases hq with rfl | rfl <;> rcases ht with rfl | rfl <;> simp_all
/-- The exclusive or of a part of the sequence with a later part stands at some place. -/
theorem adds {a d k : Nat} (hd0 : 1 ≤ d) (hd : d < 32767) : ∃ p, p < 32767 ∧ ∀ j, j < k → seqB (a + j) ^^^ seqB (a + d + j) = seqB (p + j) := by
  obtain ⟨m, hm⟩ := reg_xor_at (a := 8 * a) (b := 8 * (a + d)) (by omega)
  refine ⟨4096 * m % 32767, Nat.mod_lt _ (by decide), fun j _ => byte_eq fun r hr => ?_⟩
  have hx := reg_xor _ _ _ hm (8 * j + r)
  have h1 := fseqB_bit (a + j) r hr
  have h2 := fseqB_bit (a + d + j) r hr
  have h3 := fseqB_bit (4096 * m % 32767 + j) r hr
  have hz := xor_div_mod (reg (8 * a + (8 * j + r))) (reg (8 * (a + d) + (8 * j + r))) 0
  simp only [Nat.pow_zero, Nat.div_one] at hz
  rw [hx] at hz
  rw [UInt8.toNat_xor, xor_div_mod, h1, h2, h3, show 8 * (a + j) + r = 8 * a + (8 * j + r) by omega, show 8 * (a + d + j) + r = 8 * (a + d) + (8 * j + r) by omega, ← hz]
  rw [← reg_mod (m + (8 * j + r)), ← reg_mod (8 * (4096 * m % 32767 + j) + r)]
  congr 2
  omega
end Go.Proofs.Ytmpojdjknahoiaa
