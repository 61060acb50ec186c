/- The reference's CRC16 and Sum8. -/
import Derived.Test.YtocncjimepnlcaaGreatChecked
import Derived.Test.YtocncjimepnlcaaGreatSpa
import Derived.Test.YtocncjimepnlcaaGreatCrc
import Derived.Laws.BitsAllLaws
namespace Go.Proofs.YtocncjimepnlcaaGreat
set_option linter.unusedSimpArgs false
set_option linter.unusedVariables false
open Go Go.RowKit
theorem crcN_lt : ∀ (k n : Nat), n < 65536 → crcN k n < 65536
  | 0, n, h => h
  | k + 1, n, h => crcN_lt k _ (crc1_lt n)
theorem crcB_lt (c b : Nat) (hc : c < 65536) (hb : b < 256) : crcB c b < 65536 := crcN_lt 8 _ (Nat.xor_lt_two_pow (n := 16) hc (by omega))
theorem crcL_snoc (l : List UInt8) (b : UInt8) : crcL (l ++ [b]) = crcB (crcL l) b.toNat := by simp [crcL]
theorem crcF_lt : ∀ (l : List UInt8) (c : Nat), c < 65536 → l.foldl (fun c b => crcB c b.toNat) c < 65536
  | [], c, h => h
  | b :: l, c, h => crcF_lt l _ (crcB_lt c _ h (UInt8.toNat_lt b))
theorem crcL_lt (l : List UInt8) : crcL l < 65536 := crcF_lt l 0 (by decide)
set_option maxRecDepth 100000 in
set_option maxHeartbeats 2000000 in
theorem rextcrc_ok (s : ByteArray) (w : World) (hs : s.size < 2 ^ 40) : Calls Tryz.prog 103 #[.int .u16 0, .string s] w fun e w' => e = .returned (.int .u16 ((crcL s.data.toList : Nat) : Int)) ∧ w' = w := by
  go_enter Tryz.func103, Tryz.ntmps103
  go_wp2
  go_loopw [5, 0, 6, 7] (fun i c _ _ wr => ∃ (k n : Nat), i = cN k ∧ k ≤ s.size ∧ c = .int .u16 (n : Int) ∧ n < 65536 ∧ crcL (s.data.toList.take k) = n ∧ wr = w) (fun i _ _ _ _ => s.size - (intOf i).toNat)
  case atStart => exact ⟨0, 0, rfl, Nat.zero_le _, rfl, by decide, rfl, rfl⟩
  case round =>
    obtain ⟨k, n, rfl, hk, rfl, hn, hc, rfl⟩ := hrel
    have HC := Lib.hid hc
    clear hc
    by_cases hlt : (k : Int) < (s.size : Int)
    · have hks : k < s.size := by omega
      obtain ⟨b, hb⟩ : ∃ b, s[k]'hks = b := ⟨_, rfl⟩
      have hbl := UInt8.toNat_lt b
      obtain ⟨m, hm⟩ : ∃ m, n ^^^ (b.toNat * 256) = m := ⟨_, rfl⟩
      have hml : m < 65536 := by rw [← hm]; exact Nat.xor_lt_two_pow (n := 16) hn (by omega)
      have hx := u16_xor_nat n (b.toNat * 256) hn (by omega)
      rw [hm, show ((b.toNat * 256 : Nat) : Int) = (b.toNat : Int) * 256 by omega] at hx
      have HN : Hid (crcL (s.data.toList.take (k + 1)) = crcN 8 m) := Lib.hid (by
        rw [List.take_add_one, List.getElem?_eq_getElem (by simpa using hks)]
        show crcL (s.data.toList.take k ++ [_]) = _
        rw [crcL_snoc, HC.out, ← hm]
        show crcB n _ = crcB n b.toNat
        rw [← hb]
        rfl)
      clear hm
      generalize hwo : wr = wo at *
      clear hwo
      go_wp2
      go_loopw [0, 6, 7] (fun c j _ wq => ∃ (q n' : Nat), j = cN q ∧ q ≤ 8 ∧ c = .int .u16 (n' : Int) ∧ n' < 65536 ∧ crcN 8 m = crcN (8 - q) n' ∧ wq = wo) (fun _ j _ _ => 8 - (intOf j).toNat)
      case atStart => exact ⟨0, m, rfl, Nat.zero_le _, rfl, hml, rfl, rfl⟩
      case round =>
        obtain ⟨q, n', rfl, hq, rfl, hn', he, rfl⟩ := hrel
        have HE := Lib.hid he
        clear he
        by_cases hlt2 : (q : Int) < 8
        · obtain ⟨D, hD⟩ : ∃ D, n' / 32768 = D := ⟨_, rfl⟩
          obtain ⟨R, hR⟩ : ∃ R, n' % 32768 = R := ⟨_, rfl⟩
          have d1 : (n' : Int) / 32768 = (D : Int) := by omega
          have d2 : Int.tdiv (n' : Int) 32768 = (D : Int) := by rw [Int.tdiv_eq_ediv_of_nonneg (by omega)]; exact d1
          have r1 : (n' : Int) % 32768 = (R : Int) := by omega
          have r2 : Int.tmod (n' : Int) 32768 = (R : Int) := by rw [Int.tmod_eq_emod_of_nonneg (by omega)]; exact r1
          have hRl : R < 32768 := by omega
          have hDl : D ≤ 1 := by omega
          have hx2 := u16_xor_nat (R * 2) 4129 (by omega) (by decide)
          rw [show ((R * 2 : Nat) : Int) = (R : Int) * 2 by omega, show ((4129 : Nat) : Int) = 4129 from rfl] at hx2
          have hz : (R * 2) ^^^ 4129 < 65536 := Nat.xor_lt_two_pow (n := 16) (by omega) (by decide)
          have HS : Hid (crcN (8 - q) n' = crcN (8 - (q + 1)) (if D = 1 then (R * 2) ^^^ 4129 else R * 2)) := Lib.hid (by
            rw [show 8 - q = 8 - (q + 1) + 1 by omega, crcN, crc1, hD, hR])
          obtain ⟨Z, hZ⟩ : ∃ Z, (R * 2) ^^^ 4129 = Z := ⟨_, rfl⟩
          rw [hZ] at hx2 hz HS
          clear hD hR hZ
          by_cases hD1 : D = 1
          · have HS1 := HS.out
            rw [if_pos hD1] at HS1
            have HS2 := Lib.hid HS1
            have g1 : ((D : Int) == 1) = true := beq_iff_eq.2 (by omega)
            clear HS HS1 hD1
            go_wp2
            go_roundw
            case rel => exact ⟨q + 1, Z, by go_num, by omega, rfl, hz, by rw [HE.out, HS2.out], by trivial⟩
            case measure => simp [intOf] <;> omega
          · have HS1 := HS.out
            rw [if_neg hD1] at HS1
            have HS2 := Lib.hid HS1
            have g1 : ((D : Int) == 1) = false := beq_eq_false_iff_ne.2 (by omega)
            clear HS HS1 hD1
            go_wp2
            go_roundw
            case rel => exact ⟨q + 1, R * 2, by go_num, by omega, rfl, by omega, by rw [HE.out, HS2.out], by trivial⟩
            case measure => simp [intOf] <;> omega
        · have hq8 : q = 8 := by omega
          have HF : Hid (crcL (s.data.toList.take (k + 1)) = n') := Lib.hid (by rw [HN.out, HE.out, hq8]; rfl)
          clear hq8
          go_wp2
          go_roundw
          case rel => exact ⟨k + 1, n', by go_num, by omega, rfl, hn', HF.out, by trivial⟩
          case measure => simp [intOf] <;> omega
    · obtain rfl : k = s.size := by omega
      go_wp2
      go_ret
      refine ⟨?_, by trivial⟩
      have := HC.out
      rw [List.take_of_length_le (by simp)] at this
      rw [this]
      rfl
set_option maxRecDepth 100000 in
set_option maxHeartbeats 400000 in
theorem rcrc_ok (s : ByteArray) (w : World) (hs : s.size < 2 ^ 40) : Calls Tryz.prog 73 #[.string s] w fun e w' => e = .returned (.int .u16 ((crcL s.data.toList : Nat) : Int)) ∧ w' = w := by
  have c1 := rextcrc_ok s w hs
  go_enter Tryz.func73, Tryz.ntmps73
  go_wp2_with fail
  with_reducible refine c1.mono ?_
  rintro e w1 ⟨rfl, rfl⟩
  go_wp2
  go_ret
  exact ⟨rfl, by trivial⟩
end Go.Proofs.YtocncjimepnlcaaGreat
