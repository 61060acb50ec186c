/- Package endian: inside, read, ReadLittle; udftag.read. -/
import Derived.Test.YtocncjimepnlcaaGreatDoorEna
namespace Go.Proofs.YtocncjimepnlcaaGreatDoor
set_option linter.unusedSimpArgs false
set_option linter.unusedVariables false
open Go Go.RowKit
theorem u64_wraps (n : Int) (h0 : 0 ≤ n) (h1 : n < 2 ^ 64) : IntKind.u64.wrap n = n := by rw [IntKind.wrap_u64]; omega
theorem u64_or {a b : Nat} (ha : a < 2 ^ 64) (hb : b < 2 ^ 64) : bits .or .u64 (a : Int) (b : Int) = ((a ||| b : Nat) : Int) := (bits_nat .u64 64 (by decide) u64_wraps a b ha hb).2
/-- The number whose byte with the weight 256^i is f i, i < k. -/
def acc (f : Nat → Nat) : Nat → Nat
  | 0 => 0
  | k + 1 => acc f k + f k * 2 ^ (8 * k)
theorem acc_lt (f : Nat → Nat) (hf : ∀ i, f i < 256) (k : Nat) : acc f k < 2 ^ (8 * k) := by
  induction k with
  | zero => simp [acc]
  | succ k ih =>
    have e : 2 ^ (8 * (k + 1)) = 256 * 2 ^ (8 * k) := by rw [show 8 * (k + 1) = 8 * k + 8 by omega, Nat.pow_add, Nat.mul_comm]
    have h2 : f k * 2 ^ (8 * k) ≤ 255 * 2 ^ (8 * k) := Nat.mul_le_mul_right _ (by have := hf k; omega)
    rw [acc, e]
    omega
theorem acc_congr {f g : Nat → Nat} {k : Nat} (h : ∀ i, i < k → f i = g i) : acc f k = acc g k := by
  induction k with
  | zero => rfl
  | succ k ih => rw [acc, acc, ih fun i hi => h i (by omega), h k (by omega)]
theorem acc_byteAt (n k : Nat) : acc (fun i => (byteAt n i).toNat) k = n % 2 ^ (8 * k) := by
  induction k with
  | zero => simp [acc, Nat.mod_one]
  | succ k ih =>
    rw [acc, ih, byteAt_nat, show 8 * (k + 1) = 8 * k + 8 by omega, Nat.pow_add, Nat.mod_mul, Nat.mul_comm (2 ^ (8 * k))]
theorem acc_inj {f g : Nat → Nat} (hf : ∀ i, f i < 256) (hg : ∀ i, g i < 256) : ∀ k, acc f k = acc g k → ∀ i, i < k → f i = g i
  | 0, _, i, hi => absurd hi (Nat.not_lt_zero _)
  | k + 1, h, i, hi => by
    rw [acc, acc] at h
    have h1 := acc_lt f hf k
    have h2 := acc_lt g hg k
    have hk : f k = g k := by
      have a1 : (acc f k + f k * 2 ^ (8 * k)) / 2 ^ (8 * k) = f k := by rw [Nat.add_mul_div_right _ _ (Nat.two_pow_pos _), Nat.div_eq_of_lt h1, Nat.zero_add]
      have a2 : (acc g k + g k * 2 ^ (8 * k)) / 2 ^ (8 * k) = g k := by rw [Nat.add_mul_div_right _ _ (Nat.two_pow_pos _), Nat.div_eq_of_lt h2, Nat.zero_add]
      rw [← a1, ← a2, h]
    rcases Nat.lt_or_ge i k with hik | hik
    · exact acc_inj hf hg k (by rw [hk] at h; omega) i hik
    · rw [show i = k by omega, hk]
/-- The byte at a place of a string (0 behind its end). -/
def sB (s : ByteArray) (i : Nat) : Nat := (s.data.toList.getD i 0).toNat
theorem sB_lt (s : ByteArray) (i : Nat) : sB s i < 256 := UInt8.toNat_lt _
theorem sB_get (s : ByteArray) (i : Nat) (h : i < s.size) : (s[i]'h).toNat = sB s i := by
  have h' : i < s.data.toList.length := by rw [list_size]; exact h
  rw [sB, List.getD_eq_getElem?_getD, List.getElem?_eq_getElem h', Option.getD_some]
  rfl
/-- The little-endian, and the big-endian, number of size bytes at a place. -/
def leR (s : ByteArray) (at_ size : Nat) : Nat := acc (fun i => sB s (at_ + i)) size
def beR (s : ByteArray) (at_ size : Nat) : Nat := acc (fun i => sB s (at_ + (size - 1 - i))) size
theorem pow7 (k : Nat) (h : k ≤ 7) : 2 ^ (8 * k) ≤ 2 ^ 56 := Nat.pow_le_pow_right (by decide) (by omega)
set_option maxRecDepth 100000 in
set_option maxHeartbeats 400000 in
theorem inside_ok (s : ByteArray) (a k : Nat) (w : World) (hs : s.size < 2 ^ 62) (hk : k ≤ 1000) : Calls Tryz.prog 68 #[.string s, .int .i64 a, .int .i64 k] w fun e w' => e = .returned (.bool (decide (a + k ≤ s.size))) ∧ w = w' := by
  have g1 : IntKind.i64.wrap ((s.size : Int) - k) = (s.size : Int) - k := by rw [IntKind.wrap_i64]; omega
  have g0 : (0 : Int) ≤ a := by omega
  by_cases h : a + k ≤ s.size
  · rw [decide_eq_true h]
    have g2 : (a : Int) ≤ (s.size : Int) - k := by omega
    go_enter Tryz.func68, Tryz.ntmps68
    go_wp2
    go_ret
    exact ⟨rfl, rfl⟩
  · rw [decide_eq_false h]
    have g2 : ¬ (a : Int) ≤ (s.size : Int) - k := by omega
    go_enter Tryz.func68, Tryz.ntmps68
    go_wp2
    go_ret
    exact ⟨rfl, rfl⟩
set_option maxRecDepth 100000 in
set_option maxHeartbeats 800000 in
theorem readUp_ok (s : ByteArray) (a k : Nat) (w : World) (hs : s.size < 2 ^ 62) (h1 : 1 ≤ k) (h7 : k ≤ 7) (hin : a + k ≤ s.size) :
    Calls Tryz.prog 42 #[.string s, .int .i64 a, .int .i64 k, upV] w fun e w' => e = .returned (.tuple #[.int .i64 (leR s a k), .int .i64 0]) ∧ w = w' := by
  have c1 := fun W => inside_ok s a k W hs (by omega)
  rw [decide_eq_true hin] at c1
  obtain ⟨f, hf⟩ : ∃ f : Nat → Nat, (fun i => sB s (a + i)) = f := ⟨_, rfl⟩
  have hf8 : ∀ i, f i < 256 := fun i => by rw [← hf]; exact sB_lt _ _
  rw [leR, hf]
  go_enter Tryz.func42, Tryz.ntmps42
  go_wp2_with (first | (go_at_call 68; (with_reducible refine (c1 _).mono ?_); rintro e w1 ⟨rfl, rfl⟩))
  go_loop [26, 10] (fun i n => ∃ j : Nat, i = .int .i64 j ∧ j ≤ k ∧ n = .int .u64 (acc f j)) (fun i _ => k - (intOf i).toNat)
  case atStart => exact ⟨0, rfl, Nat.zero_le _, rfl⟩
  case round =>
    obtain ⟨j, rfl, hj, rfl⟩ := hrel
    by_cases hlt : (j : Int) < k
    · have g1 : IntKind.i64.wrap (8 * (j : Int)) = 8 * (j : Int) := by rw [IntKind.wrap_i64]; omega
      have g2 : (0 : Int) ≤ 8 * (j : Int) := by omega
      have g3 : (8 * (j : Int)).toNat = 8 * j := by omega
      obtain ⟨p, hp⟩ : ∃ p : Nat, (fun i => i) j = p := ⟨_, rfl⟩
      simp only at hp
      have hps : p < k := by omega
      have hcall : ∀ W, Calls Tryz.prog 60 #[.int .i64 j] W fun e w' => e = .returned (.int .i64 p) ∧ W = w' := fun W => by
        rw [← hp]
        exact up1_ok j W
      have hqs : a + p < s.size := by omega
      have g4 : wrap64 ((a : Int) + (p : Int)) = (a : Int) + (p : Int) := by unfold wrap64; omega
      have g5 : (0 : Int) ≤ (a : Int) + (p : Int) := by omega
      have g6 : (a : Int) + (p : Int) < (s.size : Int) := by omega
      have g7 : ((a : Int) + (p : Int)).toNat = a + p := by omega
      have hx : (s[a + p]'hqs).toNat = f j := by rw [sB_get s (a + p) hqs, ← hp, ← hf]
      have hA := acc_lt f hf8 j
      have hA1 := acc_lt f hf8 (j + 1)
      have hP := pow7 j (by omega)
      have hP1 := pow7 (j + 1) (by omega)
      have hj8 := hf8 j
      have hS : acc f (j + 1) = acc f j + f j * 2 ^ (8 * j) := rfl
      have g8 : IntKind.u64.wrap ((f j : Nat) : Int) = (f j : Nat) := u64_wraps _ (by omega) (by omega)
      have g9 : IntKind.u64.wrap (((f j : Nat) : Int) * 2 ^ (8 * j)) = ((f j * 2 ^ (8 * j) : Nat) : Int) := by
        rw [Int.natCast_mul, Int.natCast_pow]
        refine u64_wraps _ ?_ ?_
        · exact Int.mul_nonneg (by omega) (Int.pow_nonneg (by decide))
        · have : ((f j * 2 ^ (8 * j) : Nat) : Int) < 2 ^ 64 := by omega
          rwa [Int.natCast_mul, Int.natCast_pow] at this
      have g10 : bits .or .u64 ((acc f j : Nat) : Int) ((f j * 2 ^ (8 * j) : Nat) : Int) = ((acc f (j + 1) : Nat) : Int) := by
        rw [u64_or (by omega) (by omega), Nat.or_comm, nat_join (8 * j) _ _ (Nat.mul_mod_left _ _) hA, hS, Nat.add_comm]
      have HS := Lib.hid (And.intro (And.intro hx g8) (And.intro g9 g10))
      clear hS hA1 hp hx g8 g9 g10 hP hP1 hj8
      go_wp2_with (go_at_call 60; (with_reducible refine (hcall _).mono ?_); rintro e w1 ⟨rfl, rfl⟩)
      case roundEnd =>
        obtain ⟨⟨hx, g8⟩, g9, g10⟩ := HS.out
        refine ⟨⟨j + 1, by go_num, by omega, ?_⟩, by simp only [intOf]; omega⟩
        rw [hx, g8, g9, g10]
    · obtain rfl : j = k := by omega
      have hA := acc_lt f hf8 j
      have hP := pow7 j h7
      have g1 : ((acc f j : Nat) : Int) ≤ 9223372036854775807 := by omega
      have g2 : IntKind.i64.wrap ((acc f j : Nat) : Int) = ((acc f j : Nat) : Int) := by rw [IntKind.wrap_i64]; omega
      go_wp2
      go_ret2
      exact ⟨rfl, rfl⟩
set_option maxRecDepth 100000 in
set_option maxHeartbeats 400000 in
theorem readLittle_ok (s : ByteArray) (a k : Nat) (w : World) (hs : s.size < 2 ^ 62) (h1 : 1 ≤ k) (h7 : k ≤ 7) (hin : a + k ≤ s.size) :
    Calls Tryz.prog 25 #[.string s, .int .i64 a, .int .i64 k] w fun e w' => e = .returned (.tuple #[.int .i64 (leR s a k), .int .i64 0]) ∧ Below w.heap.size w w' := by
  have c1 := fun W => readUp_ok s a k W hs h1 h7 hin
  go_enter Tryz.func25, Tryz.ntmps25
  go_wp2_with (first | (go_at_call 38; (with_reducible refine (up_ok _ _).mono ?_); rintro e w1 ⟨rfl, rfl⟩) | (go_at_call 42; (with_reducible refine (c1 _).mono ?_); rintro e w1 ⟨rfl, rfl⟩))
  go_ret2
  exact ⟨rfl, Below.refl _ _⟩
set_option maxRecDepth 100000 in
set_option maxHeartbeats 400000 in
theorem tread_ok (s : ByteArray) (a k : Nat) (w : World) (hs : s.size < 2 ^ 62) (h1 : 1 ≤ k) (h7 : k ≤ 7) (hin : a + k ≤ s.size) :
    Calls Tryz.prog 66 #[.string s, .int .i64 a, .int .i64 k] w fun e w' => e = .returned (.int .i64 (leR s a k)) ∧ Below w.heap.size w w' := by
  have c1 := fun W => readLittle_ok s a k W hs h1 h7 hin
  clear hs h1 h7 hin
  go_enter Tryz.func66, Tryz.ntmps66
  go_wp2_with (go_at_call 25; (with_reducible refine (c1 _).mono ?_); rintro e w1 ⟨rfl, hB1⟩)
  go_ret
  exact ⟨rfl, hB1⟩
end Go.Proofs.YtocncjimepnlcaaGreatDoor
