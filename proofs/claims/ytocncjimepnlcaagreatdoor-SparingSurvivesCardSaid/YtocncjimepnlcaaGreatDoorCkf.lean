/- checksum.CRC16. -/
import Derived.Test.YtocncjimepnlcaaGreatDoorCke
import Derived.Test.YtocncjimepnlcaaGreatDoorCkd
namespace Go.Proofs.YtocncjimepnlcaaGreatDoor
set_option linter.unusedSimpArgs false
set_option linter.unusedVariables false
open Go Go.RowKit
set_option maxRecDepth 100000 in
set_option maxHeartbeats 4000000 in
theorem extcrc_ok (s : ByteArray) (w : World) (hs : s.size < 2 ^ 40) : Calls Tryz.prog 103 #[.int .u16 0, .string s] w fun e w' => e = .returned (.int .u16 ((crcL s.data.toList : Nat) : Int)) ∧ Below w.heap.size w w' := by
  have c1 := fun W => crcdir_ok W
  have hl : Tryz.zeroCells164.size = (tabL 256).toArray.size := by rw [tab_zero]; simp [tabL]
  go_enter Tryz.func103, Tryz.ntmps103
  go_wp2_with fail
  with_reducible refine (c1 _).mono ?_
  rintro e w1 ⟨rfl, hB1⟩
  have hnew : (w1.alloc (.cells Tryz.zeroCells164 164)).heap[w1.heap.size]? = some (.cells Tryz.zeroCells164 164 (0, 0)) := World.alloc_heap_new _ _
  have HB1 := Lib.hid hB1
  clear hB1 c1
  go_wp2_with (refine wpList_store_row rfl 164 _ _ rfl w1.heap.size (tabL 256).toArray rfl rfl 164 Tryz.zeroCells164 hnew tab_info hl tab_one ?_)
  have hrow : ((w1.alloc (.cells Tryz.zeroCells164 164)).setRow w1.heap.size (tabL 256).toArray).heap[w1.heap.size]? = some (.cells (tabL 256).toArray 164 (0, 0)) := setRow_heap _ w1.heap.size _ _ 164 (0, 0) hnew
  have hbe : Below w.heap.size w ((w1.alloc (.cells Tryz.zeroCells164 164)).setRow w1.heap.size (tabL 256).toArray) := by
    have h1 := HB1.out.alloc HB1.out.size (.cells Tryz.zeroCells164 164)
    have h2 := HB1.out.size
    exact ⟨h1.os, h1.tape, h1.output, by have := h1.size; simpa [World.setRow] using this, fun j hj => (setRow_other _ w1.heap.size j _ (by omega)).trans (h1.block j hj)⟩
  have HROW := Lib.hid hrow
  have HBE := Lib.hid hbe
  clear hrow hbe hnew
  generalize (w1.alloc (.cells Tryz.zeroCells164 164)).setRow w1.heap.size (tabL 256).toArray = w2 at *
  go_wp2
  go_loopw [10, 6, 0] (fun i _ c wr => ∃ (k n : Nat), i = cN k ∧ k ≤ s.size ∧ c = .int .u16 (n : Int) ∧ n < 65536 ∧ crcL (s.data.toList.take k) = n ∧ wr = w2) (fun i _ _ _ => s.size - (intOf i).toNat)
  case atStart => exact ⟨0, 0, rfl, Nat.zero_le _, rfl, by decide, rfl, rfl⟩
  case round =>
    obtain ⟨k, n, rfl, hk, rfl, hn, hc, rfl⟩ := hrel
    have HC := Lib.hid hc
    clear hc
    by_cases hlt : (k : Int) < (s.size : Int)
    · have hks : k < s.size := by omega
      obtain ⟨b, hb⟩ : ∃ b, s[k]'hks = b := ⟨_, rfl⟩
      have hbl := UInt8.toNat_lt b
      obtain ⟨x, hx⟩ : ∃ x, (n / 256) ^^^ b.toNat = x := ⟨_, rfl⟩
      have hxl : x < 256 := by rw [← hx]; exact Nat.xor_lt_two_pow (n := 8) (by omega) hbl
      obtain ⟨y, hy⟩ : ∃ y, crcN 8 (x * 256) = y := ⟨_, rfl⟩
      have hyl : y < 65536 := by rw [← hy]; exact crcN_lt 8 _ (by omega)
      obtain ⟨m, hm⟩ : ∃ m, (n % 256 * 256) ^^^ y = m := ⟨_, rfl⟩
      have hml : m < 65536 := by rw [← hm]; exact Nat.xor_lt_two_pow (n := 16) (by omega) hyl
      have q0 := Lib.cell_of_heap HROW.out x
      rw [List.getElem?_toArray, tab_get 256 x hxl (Nat.le_refl _), hy] at q0
      have x1 := u8_xor_nat (n / 256) b.toNat (by omega) hbl
      rw [hx, show ((n / 256 : Nat) : Int) = (n : Int) / 256 by omega] at x1
      have x2 := u16_xor_nat (n % 256 * 256) y (by omega) hyl
      rw [hm, show ((n % 256 * 256 : Nat) : Int) = (n : Int) % 256 * 256 by omega] at x2
      have w1' : IntKind.u16.wrap ((n : Int) * 256) = ((n % 256 * 256 : Nat) : Int) := by rw [IntKind.wrap_u16]; omega
      have w2' : ((n : Int) * 256) % 65536 = ((n % 256 * 256 : Nat) : Int) := by omega
      have w3' : IntKind.u8.wrap ((n : Int) / 256) = (n : Int) / 256 := by rw [IntKind.wrap_u8']; omega
      have HN : Hid (crcL (s.data.toList.take (k + 1)) = m) := Lib.hid (by rw [take_byte s k hks, crcL_snoc, HC.out, hb, crc_table n b.toNat hn hbl, hx, hy, Nat.xor_comm, hm])
      clear hx hy hm
      go_wp2
      go_roundw
      case rel => exact ⟨k + 1, m, by go_num, by omega, rfl, hml, HN.out, by trivial⟩
      case measure => simp [intOf] <;> omega
    · obtain rfl : k = s.size := by omega
      go_wp2
      go_ret
      refine ⟨?_, HBE.out⟩
      have := HC.out
      rw [List.take_of_length_le (by simp)] at this
      rw [this]
      rfl
set_option maxRecDepth 100000 in
set_option maxHeartbeats 400000 in
theorem crc16_ok (s : ByteArray) (w : World) (hs : s.size < 2 ^ 40) : Calls Tryz.prog 63 #[.string s] w fun e w' => e = .returned (.int .u16 ((crcL s.data.toList : Nat) : Int)) ∧ Below w.heap.size w w' := by
  have c1 := extcrc_ok s w hs
  go_enter Tryz.func63, Tryz.ntmps63
  go_wp2_with fail
  with_reducible refine c1.mono ?_
  rintro e w1 ⟨rfl, hB1⟩
  go_wp2
  go_ret
  exact ⟨rfl, hB1⟩
end Go.Proofs.YtocncjimepnlcaaGreatDoor
