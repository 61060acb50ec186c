/- The 16-bit check of bytes, said plainly: bit by bit, and byte by byte with a table. -/
import Derived.Tactics
namespace Go.Proofs.YtocncjimepnlcaaGreatDoor
set_option linter.unusedSimpArgs false
set_option linter.unusedVariables false
open Go
/-- One bit. -/
def crc1 (n : Nat) : Nat := if n / 32768 = 1 then (n % 32768 * 2) ^^^ 4129 else n % 32768 * 2
def crcN : Nat → Nat → Nat
  | 0, n => n
  | k + 1, n => crcN k (crc1 n)
/-- One byte. -/
def crcB (c b : Nat) : Nat := crcN 8 (c ^^^ (b * 256))
def crcV (x : BitVec 16) : BitVec 16 := (x <<< 1) ^^^ (if x.msb then 4129#16 else 0#16)
def crcVN : Nat → BitVec 16 → BitVec 16
  | 0, x => x
  | k + 1, x => crcVN k (crcV x)
theorem crcV_xor (x y : BitVec 16) : crcV (x ^^^ y) = crcV x ^^^ crcV y := by
  unfold crcV
  rw [BitVec.shiftLeft_xor_distrib, BitVec.msb_xor]
  cases x.msb <;> cases y.msb <;> simp only [Bool.xor_false, Bool.xor_true, Bool.not_false, Bool.not_true, if_true, Bool.false_eq_true, if_false, BitVec.xor_zero]
  · rw [BitVec.xor_assoc]
  · rw [BitVec.xor_assoc, BitVec.xor_assoc, BitVec.xor_comm (y <<< 1) 4129#16]
  · rw [BitVec.xor_assoc, ← BitVec.xor_assoc 4129#16 (y <<< 1) 4129#16, BitVec.xor_comm 4129#16 (y <<< 1), BitVec.xor_assoc (y <<< 1), BitVec.xor_self, BitVec.xor_zero]
theorem crcVN_xor : ∀ (k : Nat) (x y : BitVec 16), crcVN k (x ^^^ y) = crcVN k x ^^^ crcVN k y
  | 0, _, _ => rfl
  | k + 1, x, y => by
    show crcVN k (crcV (x ^^^ y)) = crcVN k (crcV x) ^^^ crcVN k (crcV y)
    rw [crcV_xor, crcVN_xor k]
theorem crc1_lt (n : Nat) : crc1 n < 65536 := by
  unfold crc1
  have h : n % 32768 * 2 < 2 ^ 16 := by omega
  split
  · exact Nat.xor_lt_two_pow h (by decide)
  · exact h
theorem crcV_ofNat {n : Nat} (h : n < 65536) : (crcV (BitVec.ofNat 16 n)).toNat = crc1 n := by
  unfold crcV crc1
  have hm : (BitVec.ofNat 16 n).msb = decide (n / 32768 = 1) := by
    rw [BitVec.msb_eq_decide, BitVec.toNat_ofNat, Nat.mod_eq_of_lt h]
    congr 1
    simp only [eq_iff_iff]
    omega
  rw [hm]
  by_cases h1 : n / 32768 = 1
  · rw [decide_eq_true h1, if_pos rfl, if_pos h1, BitVec.toNat_xor, BitVec.toNat_shiftLeft, BitVec.toNat_ofNat, Nat.mod_eq_of_lt h, Nat.shiftLeft_eq]
    congr 1
    omega
  · rw [decide_eq_false h1, if_neg (by decide), if_neg h1, BitVec.xor_zero, BitVec.toNat_shiftLeft, BitVec.toNat_ofNat, Nat.mod_eq_of_lt h, Nat.shiftLeft_eq]
    omega
theorem crcVN_ofNat : ∀ (k n : Nat), n < 65536 → (crcVN k (BitVec.ofNat 16 n)).toNat = crcN k n
  | 0, n, h => by
    show (BitVec.ofNat 16 n).toNat = n
    rw [BitVec.toNat_ofNat, Nat.mod_eq_of_lt h]
  | k + 1, n, h => by
    have e : crcV (BitVec.ofNat 16 n) = BitVec.ofNat 16 (crc1 n) := by
      apply BitVec.eq_of_toNat_eq
      rw [crcV_ofNat h, BitVec.toNat_ofNat, Nat.mod_eq_of_lt (crc1_lt n)]
    show (crcVN k (crcV (BitVec.ofNat 16 n))).toNat = crcN k (crc1 n)
    rw [e]
    exact crcVN_ofNat k _ (crc1_lt n)
theorem crcN_xor (k x y : Nat) (hx : x < 65536) (hy : y < 65536) : crcN k (x ^^^ y) = crcN k x ^^^ crcN k y := by
  have hxy : x ^^^ y < 65536 := Nat.xor_lt_two_pow (n := 16) hx hy
  rw [← crcVN_ofNat k _ hxy, ← crcVN_ofNat k x hx, ← crcVN_ofNat k y hy, ← BitVec.toNat_xor, ← crcVN_xor]
  congr 2
  apply BitVec.eq_of_toNat_eq
  rw [BitVec.toNat_xor, BitVec.toNat_ofNat, BitVec.toNat_ofNat, BitVec.toNat_ofNat, Nat.mod_eq_of_lt hx, Nat.mod_eq_of_lt hy, Nat.mod_eq_of_lt hxy]
theorem crc_low : ∀ b : Fin 256, crcN 8 b.val = b.val * 256 := by decide +kernel
theorem split_xor (c b : Nat) (hb : b < 256) : c ^^^ (b * 256) = ((c / 256) ^^^ b) * 256 ^^^ (c % 256) := by
  apply Nat.eq_of_testBit_eq
  intro i
  have e : ∀ z : Nat, z * 256 = z <<< 8 := fun z => by rw [Nat.shiftLeft_eq]
  have e2 : c / 256 = c >>> 8 := by rw [Nat.shiftRight_eq_div_pow]
  have e3 : c % 256 = c % 2 ^ 8 := rfl
  rw [e, e, e2, e3]
  simp only [Nat.testBit_xor, Nat.testBit_shiftLeft, Nat.testBit_shiftRight, Nat.testBit_mod_two_pow]
  by_cases h : 8 ≤ i
  · have h3 : ¬ i < 8 := by omega
    simp [h, h3, show 8 + (i - 8) = i by omega]
  · have h3 : i < 8 := by omega
    simp [h, h3]
/-- The table's step. -/
theorem crc_table (c b : Nat) (hc : c < 65536) (hb : b < 256) : crcB c b = crcN 8 (((c / 256) ^^^ b) * 256) ^^^ (c % 256 * 256) := by
  unfold crcB
  have h1 : (c / 256) ^^^ b < 2 ^ 8 := Nat.xor_lt_two_pow (by omega) hb
  rw [split_xor c b hb, crcN_xor 8 _ _ (by omega) (by omega)]
  congr 1
  exact crc_low ⟨c % 256, by omega⟩
def crcL (l : List UInt8) : Nat := l.foldl (fun c b => crcB c b.toNat) 0
end Go.Proofs.YtocncjimepnlcaaGreatDoor
