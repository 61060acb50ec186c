/- Bit operations on small numbers, and the program's step of the register. -/
import Derived.Test.YtmpojdjknahoiaaRef
namespace Go.Proofs.Ytmpojdjknahoiaa
open Go Go.RowKit
theorem wraps_i64 (n : Int) (h0 : 0 ≤ n) (h1 : n < 2 ^ 62) : IntKind.i64.wrap n = n := by rw [IntKind.wrap_i64]; omega
theorem i64_and {a b : Nat} (ha : a < 2 ^ 62) (hb : b < 2 ^ 62) : bits .and .i64 (a : Int) (b : Int) = ((a &&& b : Nat) : Int) := (bits_nat .i64 62 (by decide) wraps_i64 a b ha hb).1
theorem i64_or {a b : Nat} (ha : a < 2 ^ 62) (hb : b < 2 ^ 62) : bits .or .i64 (a : Int) (b : Int) = ((a ||| b : Nat) : Int) := (bits_nat .i64 62 (by decide) wraps_i64 a b ha hb).2
theorem i64_xor {a b : Nat} (ha : a < 2 ^ 62) (hb : b < 2 ^ 62) : bits .xor .i64 (a : Int) (b : Int) = ((a ^^^ b : Nat) : Int) := by
  have hp : 2 ^ 62 ≤ 2 ^ IntKind.i64.bits := by decide
  have ha' : a % 2 ^ IntKind.i64.bits = a := Nat.mod_eq_of_lt (Nat.lt_of_lt_of_le ha hp)
  have hb' : b % 2 ^ IntKind.i64.bits = b := Nat.mod_eq_of_lt (Nat.lt_of_lt_of_le hb hp)
  simp only [bits, BitVec.ofInt_natCast, BitVec.toNat_xor, BitVec.toNat_ofNat, ha', hb']
  exact wraps_i64 _ (Int.natCast_nonneg _) (by exact_mod_cast Nat.xor_lt_two_pow ha hb)
theorem xor_bit (a b : Nat) (ha : a < 2) (hb : b < 2) : a ^^^ b = (a + b) % 2 := by
  have h1 : a = 0 ∨ a = 1 := by omega
  have h2 : b = 0 ∨ b = 1 := by omega
  rcases h1 with rfl | rfl <;> rcases h2 with rfl | rfl <;> rfl
theorem step_bits (X : Nat) (h : X < 32768) :
    bits BinOp.or IntKind.i64 ((X : Int) / 2) (wrap64 (bits BinOp.xor IntKind.i64 (bits BinOp.and IntKind.i64 (X : Int) 1) (bits BinOp.and IntKind.i64 ((X : Int) / 2) 1) * 16384)) = ((stp X : Nat) : Int) := by
  have e1 : bits BinOp.and IntKind.i64 (X : Int) 1 = ((X % 2 : Nat) : Int) := by
    rw [show (1 : Int) = ((1 : Nat) : Int) from rfl, i64_and (by omega) (by decide), nat_mask1]
  have e2 : bits BinOp.and IntKind.i64 ((X : Int) / 2) 1 = ((X / 2 % 2 : Nat) : Int) := by
    rw [show (1 : Int) = ((1 : Nat) : Int) from rfl, show (X : Int) / 2 = ((X / 2 : Nat) : Int) by omega, i64_and (by omega) (by decide), nat_mask1]
  rw [e1, e2, i64_xor (by omega) (by omega), xor_bit _ _ (by omega) (by omega)]
  have e3 : wrap64 ((((X % 2 + X / 2 % 2) % 2 : Nat) : Int) * 16384) = (((X % 2 + X / 2 % 2) % 2 * 16384 : Nat) : Int) := by
    unfold wrap64; omega
  rw [e3, show (X : Int) / 2 = ((X / 2 : Nat) : Int) by omega, i64_or (by omega) (by omega), Nat.or_comm, nat_join 14 _ _ (by omega) (by omega)]
  unfold stp
  omega
end Go.Proofs.Ytmpojdjknahoiaa
