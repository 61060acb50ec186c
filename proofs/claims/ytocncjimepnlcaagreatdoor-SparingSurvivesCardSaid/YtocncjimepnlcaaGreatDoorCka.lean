/- The reference's CRC16 and Sum8. -/
import Derived.Test.YtocncjimepnlcaaGreatDoorChecked
import Derived.Test.YtocncjimepnlcaaGreatDoorSpa
import Derived.Test.YtocncjimepnlcaaGreatDoorCrc
import Derived.Laws.BitsAllLaws
namespace Go.Proofs.YtocncjimepnlcaaGreatDoor
set_option linter.unusedSimpArgs false
set_option linter.unusedVariables false
open Go Go.RowKit
theorem crcN_lt : ∀ (k n : Nat), n < 65536 → crcN k n < 65536
  | 0, n, h => h
  | k + 1, n, h => crcN_lt k _ (crc1_lt n)
theorem crcB_lt (c b : Nat) (hc : c < 65536) (hb : b < 256) : crcB c b < 65536 := crcN_lt 8 _ (Nat.xor_lt_two_pow (n := 16) hc (by omega))
theorem crcL_snoc (l : List UInt8) (b : UInt8) : crcL (l ++ [b]) = crcB (crcL l) b.toNat := by simp [crcL]
theorem crcF_lt : ∀ (l : List UInt8) (c : Nat), c < 65536 → l.foldl (fun c b => crcB c b.toNat) c < 65536
  | [], c, h => h
  | b :: l, c, h => crcF_lt l _ (crcB_lt c _ h (UInt8.toNat_lt b))
theorem crcL_lt (l : List UInt8) : crcL l < 65536 := crcF_lt l 0 (by decide)
end Go.Proofs.YtocncjimepnlcaaGreatDoor
