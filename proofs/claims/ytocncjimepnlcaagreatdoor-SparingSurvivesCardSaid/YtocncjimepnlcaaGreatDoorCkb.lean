/- checksum.direct: the table of the CRC. -/
import Derived.Test.YtocncjimepnlcaaGreatDoorCka
namespace Go.Proofs.YtocncjimepnlcaaGreatDoor
set_option linter.unusedSimpArgs false
set_option linter.unusedVariables false
open Go Go.RowKit
set_option maxRecDepth 100000 in
set_option maxHeartbeats 2000000 in
theorem crcdir1_ok (b : Nat) (w : World) (hb : b < 256) : Calls Tryz.prog 127 #[.int .u8 (b : Int)] w fun e w' => e = .returned (.int .u16 ((crcN 8 (b * 256) : Nat) : Int)) ∧ w' = w := by
  obtain ⟨m, hm⟩ : ∃ m, b * 256 = m := ⟨_, rfl⟩
  have hml : m < 65536 := by omega
  rw [hm]
  go_enter Tryz.func127, Tryz.ntmps127
  have hbm : (b : Int) * 256 = (m : Int) := by omega
  go_wp2
  go_loopw [7, 3] (fun j c wq => ∃ (q n' : Nat), j = cN q ∧ q ≤ 8 ∧ c = .int .u16 (n' : Int) ∧ n' < 65536 ∧ crcN 8 m = crcN (8 - q) n' ∧ wq = w) (fun j _ _ => 8 - (intOf j).toNat)
  case atStart => exact ⟨0, m, rfl, Nat.zero_le _, by first | rfl | rw [hbm], hml, rfl, rfl⟩
  case round =>
    obtain ⟨q, n', rfl, hq, rfl, hn', he, rfl⟩ := hrel
    have HE := Lib.hid he
    clear he
    by_cases hlt2 : (q : Int) < 8
    · obtain ⟨D, hD⟩ : ∃ D, n' / 32768 = D := ⟨_, rfl⟩
      obtain ⟨R, hR⟩ : ∃ R, n' % 32768 = R := ⟨_, rfl⟩
      have d1 : (n' : Int) / 32768 = (D : Int) := by omega
      have hRl : R < 32768 := by omega
      have hDl : D ≤ 1 := by omega
      have w1 : IntKind.u16.wrap ((n' : Int) * 2) = (R : Int) * 2 := by rw [IntKind.wrap_u16]; omega
      have w2 : ((n' : Int) * 2) % 65536 = (R : Int) * 2 := by omega
      have hx2 := u16_xor_nat (R * 2) 4129 (by omega) (by decide)
      rw [show ((R * 2 : Nat) : Int) = (R : Int) * 2 by omega, show ((4129 : Nat) : Int) = 4129 from rfl] at hx2
      have hz : (R * 2) ^^^ 4129 < 65536 := Nat.xor_lt_two_pow (n := 16) (by omega) (by decide)
      have HS : Hid (crcN (8 - q) n' = crcN (8 - (q + 1)) (if D = 1 then (R * 2) ^^^ 4129 else R * 2)) := Lib.hid (by
        rw [show 8 - q = 8 - (q + 1) + 1 by omega, crcN, crc1, hD, hR])
      obtain ⟨Z, hZ⟩ : ∃ Z, (R * 2) ^^^ 4129 = Z := ⟨_, rfl⟩
      rw [hZ] at hx2 hz HS
      clear hD hR hZ
      by_cases hD1 : D = 1
      · have HS1 := HS.out
        rw [if_pos hD1] at HS1
        have HS2 := Lib.hid HS1
        have g1 : ((D : Int) == 1) = true := beq_iff_eq.2 (by omega)
        clear HS HS1 hD1
        go_wp2
        go_roundw
        case rel => exact ⟨q + 1, Z, by go_num, by omega, rfl, hz, by rw [HE.out, HS2.out], by trivial⟩
        case measure => simp [intOf] <;> omega
      · have HS1 := HS.out
        rw [if_neg hD1] at HS1
        have HS2 := Lib.hid HS1
        have g1 : ((D : Int) == 1) = false := beq_eq_false_iff_ne.2 (by omega)
        clear HS HS1 hD1
        go_wp2
        go_roundw
        case rel => exact ⟨q + 1, R * 2, by go_num, by omega, rfl, by omega, by rw [HE.out, HS2.out], by trivial⟩
        case measure => simp [intOf] <;> omega
    · have hq8 : q = 8 := by omega
      have HF : Hid (crcN 8 m = n') := Lib.hid (by rw [HE.out, hq8]; rfl)
      clear hq8
      go_wp2
      go_ret
      exact ⟨by rw [HF.out]; rfl, by trivial⟩
end Go.Proofs.YtocncjimepnlcaaGreatDoor
