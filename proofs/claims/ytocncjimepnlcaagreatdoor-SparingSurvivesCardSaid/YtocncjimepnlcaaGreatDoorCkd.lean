/- Sum8 of both. -/
import Derived.Test.YtocncjimepnlcaaGreatDoorCka
namespace Go.Proofs.YtocncjimepnlcaaGreatDoor
set_option linter.unusedSimpArgs false
set_option linter.unusedVariables false
open Go Go.RowKit
def sumL (l : List UInt8) : Nat := l.foldl (fun n b => (n + b.toNat) % 256) 0
theorem sumL_snoc (l : List UInt8) (b : UInt8) : sumL (l ++ [b]) = (sumL l + b.toNat) % 256 := by simp [sumL]
theorem take_byte (s : ByteArray) (k : Nat) (h : k < s.size) : s.data.toList.take (k + 1) = s.data.toList.take k ++ [s[k]'h] := by
  rw [List.take_add_one, List.getElem?_eq_getElem (by simpa using h)]
  rfl
set_option maxRecDepth 100000 in
set_option maxHeartbeats 2000000 in
theorem sum8_ok (s : ByteArray) (w : World) (hs : s.size < 2 ^ 40) : Calls Tryz.prog 104 #[.string s] w fun e w' => e = .returned (.int .u8 ((sumL s.data.toList : Nat) : Int)) ∧ w' = w := by
  go_enter Tryz.func104, Tryz.ntmps104
  go_wp2
  go_loopw [7, 4, 3] (fun i _ c wr => ∃ (k n : Nat), i = cN k ∧ k ≤ s.size ∧ c = .int .u8 (n : Int) ∧ n < 256 ∧ sumL (s.data.toList.take k) = n ∧ wr = w) (fun i _ _ _ => s.size - (intOf i).toNat)
  case atStart => exact ⟨0, 0, rfl, Nat.zero_le _, rfl, by decide, rfl, rfl⟩
  case round =>
    obtain ⟨k, n, rfl, hk, rfl, hn, hc, rfl⟩ := hrel
    have HC := Lib.hid hc
    clear hc
    by_cases hlt : (k : Int) < (s.size : Int)
    · have hks : k < s.size := by omega
      obtain ⟨b, hb⟩ : ∃ b, s[k]'hks = b := ⟨_, rfl⟩
      have hbl := UInt8.toNat_lt b
      obtain ⟨m, hm⟩ : ∃ m, (n + b.toNat) % 256 = m := ⟨_, rfl⟩
      have d1 : IntKind.u8.wrap ((n : Int) + (b.toNat : Int)) = (m : Int) := by rw [IntKind.wrap_u8']; omega
      have d2 : ((n : Int) + (b.toNat : Int)) % 256 = (m : Int) := by omega
      have HN : Hid (sumL (s.data.toList.take (k + 1)) = m) := Lib.hid (by rw [take_byte s k hks, sumL_snoc, HC.out, hb, hm])
      have hml : m < 256 := by omega
      clear hm
      go_wp2
      go_roundw
      case rel => exact ⟨k + 1, m, by go_num, by omega, rfl, hml, HN.out, by trivial⟩
      case measure => simp [intOf] <;> omega
    · obtain rfl : k = s.size := by omega
      go_wp2
      go_ret
      refine ⟨?_, by trivial⟩
      have := HC.out
      rw [List.take_of_length_le (by simp)] at this
      rw [this]
      rfl
end Go.Proofs.YtocncjimepnlcaaGreatDoor
