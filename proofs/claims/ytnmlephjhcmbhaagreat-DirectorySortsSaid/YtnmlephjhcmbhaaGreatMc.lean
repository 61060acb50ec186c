/- The reference of package endian: fits, Bytes, Reverse, Little, Both; part, value, ReadLittle, ReadBoth. The reference of package endian: Reverse, Little, Both; part, value, ReadLittle. The reference of package endian: part, value, ReadLittle, ReadBoth. The calendar: plain mathematics. The calendar: the seconds of a clock, and the way back. Plain mathematics. Package datetime and its reference: leap years, days of years and months. Package datetime: Split. Package datetime: Split's errors, Record. -/
import Derived.Test.YtnmlephjhcmbhaaGreatMb
namespace Go.Proofs.YtnmlephjhcmbhaaGreat
set_option linter.unusedSimpArgs false
set_option linter.unusedVariables false
open Go Go.RowKit
theorem pow_succ8 (k : Nat) : 2 ^ (8 * (k + 1)) = 2 ^ (8 * k) * 256 := by rw [show 8 * (k + 1) = 8 * k + 8 by omega, Nat.pow_add]
/-- A number, k bytes taken off. -/
def dv8 (m k : Nat) : Nat := m / 2 ^ (8 * k)
theorem dv8_zero (m : Nat) : dv8 m 0 = m := by simp [dv8]
theorem dv8_succ (m k : Nat) : dv8 m (k + 1) = dv8 m k / 256 := by rw [dv8, dv8, pow_succ8, Nat.div_div_eq_div_mul]
theorem dv8_eq_zero (m k : Nat) : dv8 m k = 0 ↔ m < 2 ^ (8 * k) := by rw [dv8, Nat.div_eq_zero_iff]; have := Nat.two_pow_pos (8 * k); omega
theorem dv8_byte (m k : Nat) : byteAt m k = UInt8.ofNat (dv8 m k) := rfl
set_option maxRecDepth 100000 in
set_option maxHeartbeats 400000 in
theorem rfits_ok (n : Int) (s : Nat) (w : World) (h8 : s ≤ 8) (hn : n < 2 ^ 62) : Calls Tryz.prog 135 #[.int .i64 n, .int .i64 s] w fun e w' => e = .returned (.bool (decide (0 ≤ n ∧ n < 2 ^ (8 * s)))) ∧ w = w' := by
  by_cases h0 : n < 0
  · rw [show decide (0 ≤ n ∧ n < 2 ^ (8 * s)) = false by simp; omega]
    go_enter Tryz.func135, Tryz.ntmps135
    go_wp2
    go_ret
    exact ⟨rfl, rfl⟩
  · obtain ⟨m, rfl⟩ : ∃ m : Nat, n = m := ⟨n.toNat, by omega⟩
    have HM : Hid (m < 2 ^ 62) := Lib.hid (by omega)
    clear hn
    have e : decide (0 ≤ (m : Int) ∧ (m : Int) < 2 ^ (8 * s)) = (((dv8 m s : Nat) : Int) == 0) := by
      rw [Bool.eq_iff_iff, decide_eq_true_iff, beq_iff_eq]
      have := dv8_eq_zero m s
      have e2 : ((2 ^ (8 * s) : Nat) : Int) = (2 : Int) ^ (8 * s) := Int.natCast_pow _ _
      rw [← e2]
      omega
    rw [e]
    clear e
    go_enter Tryz.func135, Tryz.ntmps135
    go_wp2
    go_loop [0, 5] (fun x i => ∃ k : Nat, i = .int .i64 k ∧ k ≤ s ∧ x = .int .i64 (dv8 m k : Nat)) (fun _ i => s - (intOf i).toNat)
    case atStart => exact ⟨0, rfl, Nat.zero_le _, by rw [dv8_zero]⟩
    case round =>
      obtain ⟨k, rfl, hk, rfl⟩ := hrel
      by_cases hlt : (k : Int) < s
      · have hd := dv8_succ m k
        have hm62 : dv8 m k < 2 ^ 62 := Nat.lt_of_le_of_lt (Nat.div_le_self _ _) HM.out
        obtain ⟨y, hy⟩ : ∃ y, dv8 m (k + 1) = y := ⟨_, rfl⟩
        rw [hy] at hd
        have HY := Lib.hid hy
        clear hy
        generalize dv8 m k = x at hd hm62
        have g1 : ((x : Nat) : Int) / 256 = (y : Int) := by omega
        have g2 : ((x : Nat) : Int).tdiv 256 = (y : Int) := by rw [Int.tdiv_eq_ediv_of_nonneg (by omega)]; omega
        have g4 : wrap64 (y : Int) = (y : Int) := by unfold wrap64; omega
        clear hd hm62
        go_wp2
        case roundEnd =>
          refine ⟨⟨k + 1, by go_num, by omega, ?_⟩, by simp only [intOf]; omega⟩
          rw [HY.out, g4]
      · obtain rfl : k = s := by omega
        go_wp2
        go_ret
        exact ⟨rfl, rfl⟩
set_option maxRecDepth 100000 in
set_option maxHeartbeats 400000 in
theorem rbytes_ok (m s : Nat) (w : World) (h8 : s ≤ 8) (hm : m < 2 ^ 62) : Calls Tryz.prog 136 #[.int .i64 m, .int .i64 s] w fun e w' => e = .returned (.string ⟨(leL m s).toArray⟩) ∧ Below w.heap.size w w' := by
  obtain ⟨i0, hi, hz0, hz1, hz2⟩ := info_parts u8Info
  have HM := Lib.hid hm
  clear hm
  go_enter Tryz.func136, Tryz.ntmps136
  go_wp2
  go_loopw [0, 5, 6] (fun x out i wr => ∃ k : Nat, i = .int .i64 k ∧ k ≤ s ∧ x = .int .i64 (dv8 m k : Nat) ∧ wr.ownsRow w.heap.size 5 1 out k (cb (leL m k)) ∧ Below w.heap.size w wr) (fun _ _ i _ => s - (intOf i).toNat)
  case atStart =>
    exact ⟨0, rfl, Nat.zero_le _, by rw [dv8_zero], World.ownsRow_made w #[] 0 (Nat.le_refl _) (by decide) rfl, (Below.refl _ _).alloc (Nat.le_refl _) _⟩
  case round =>
    obtain ⟨k, rfl, hk, rfl, hown, hB⟩ := hrel
    by_cases hlt : (k : Int) < s
    · have hd := dv8_succ m k
      have hm62 : dv8 m k < 2 ^ 62 := Nat.lt_of_le_of_lt (Nat.div_le_self _ _) HM.out
      have hsz := hB.size
      have HN := Lib.hid (leL_succ m k)
      have hb : IntKind.u8.wrap (((dv8 m k : Nat) : Int) % 256) = ((byteAt m k).toNat : Int) := by
        rw [dv8_byte, IntKind.wrap_u8]
        simp
      obtain ⟨y, hy⟩ : ∃ y, dv8 m (k + 1) = y := ⟨_, rfl⟩
      rw [hy] at hd
      have HY := Lib.hid hy
      clear hy
      generalize byteAt m k = c at hb HN
      generalize dv8 m k = x at hd hb hm62
      have g1 : ((x : Nat) : Int) / 256 = (y : Int) := by omega
      have g2 : ((x : Nat) : Int).tdiv 256 = (y : Int) := by rw [Int.tdiv_eq_ediv_of_nonneg (by omega)]; omega
      have g3 : ((x : Nat) : Int).tmod 256 = ((x : Nat) : Int) % 256 := Int.tmod_eq_emod_of_nonneg (by omega)
      have g4 : wrap64 (y : Int) = (y : Int) := by unfold wrap64; omega
      clear hd hm62
      go_wp2_with (at_builtin; refine wpList_append_own _ rfl _ _ 69 rfl w.heap.size 5 i0 (.int .u8 0) 1 1 Tryz.underlying69 hi hz0 hz1 hz2 rfl (by decide) _ _ _ rfl (hown.alloc _) ⟨wr.heap.size, 0, none⟩ 1 1 [.int .u8 c.toNat] rfl rfl ?c1 ?c2 ?c3 ?c4 ?c5 ?_)
      case c1 => intro j u h; exact cell_one_new _ _ _ j u h
      case c2 => intro u h; rw [List.mem_singleton.1 h]; rfl
      case c3 => unfold maxLen; omega
      case c4 => omega
      case c5 => simp; omega
      intro v' w1 hown1 hgrow hnn
      have hB1 : Below w.heap.size w w1 := (hB.alloc hB.size _).grown hgrow (by simp; omega) (fun k e => (hown.lt k e).1)
      have HO : Hid (w1.ownsRow w.heap.size 5 1 v' (k + 1) (cb (leL m (k + 1))) ∧ Below w.heap.size w w1) := Lib.hid ⟨by rw [HN.out, cb_snoc]; exact hown1, hB1⟩
      clear hown1 hgrow hnn hown hB hB1
      go_wp2
      case roundEnd => exact ⟨⟨k + 1, by go_num, by omega, by rw [HY.out, g4], HO.out.1, HO.out.2⟩, by simp [intOf]; omega⟩
    · obtain rfl : k = s := by omega
      generalize dv8 m k = x
      have hcv := own_bytes_string (P := Tryz.prog) (src := 69) (dst := 9) Tryz.underlying69 Tryz.underlying5 Tryz.underlying9 hown
      go_wp2
      go_ret
      exact ⟨rfl, hB⟩
end Go.Proofs.YtnmlephjhcmbhaaGreat
namespace Go.Proofs.YtnmlephjhcmbhaaGreat
set_option linter.unusedSimpArgs false
set_option linter.unusedVariables false
open Go Go.RowKit
/-- The last k bytes of a list, the last one first. -/
def revK (l : List UInt8) (k : Nat) : List UInt8 := l.reverse.take k
theorem revK_succ (s : ByteArray) (k : Nat) (h : k < s.size) : revK s.data.toList (k + 1) = revK s.data.toList k ++ [s[s.size - 1 - k]'(by omega)] := by
  have hl : k < s.data.toList.reverse.length := by rw [List.length_reverse, list_size]; exact h
  rw [revK, revK, List.take_succ_eq_append_getElem hl, List.getElem_reverse]
  congr 2
set_option maxRecDepth 100000 in
set_option maxHeartbeats 400000 in
theorem reverse_ok (s : ByteArray) (w : World) (hs : s.size ≤ 100000) : Calls Tryz.prog 125 #[.string s] w fun e w' => e = .returned (.string ⟨s.data.toList.reverse.toArray⟩) ∧ Below w.heap.size w w' := by
  obtain ⟨i0, hi, hz0, hz1, hz2⟩ := info_parts u8Info
  have g1 : wrap64 ((s.size : Int) - 1) = (s.size : Int) - 1 := by unfold wrap64; omega
  have g2 : IntKind.i64.wrap ((s.size : Int) - 1) = (s.size : Int) - 1 := by rw [IntKind.wrap_i64]; omega
  go_enter Tryz.func125, Tryz.ntmps125
  go_wp2
  go_loopw [3, 4] (fun out i wr => ∃ k : Nat, i = .int .i64 ((s.size : Int) - 1 - k) ∧ k ≤ s.size ∧ wr.ownsRow w.heap.size 5 1 out k (cb (revK s.data.toList k)) ∧ Below w.heap.size w wr) (fun _ i _ => (intOf i + 1).toNat)
  case atStart =>
    exact ⟨0, by simp, Nat.zero_le _, World.ownsRow_made w #[] 0 (Nat.le_refl _) (by decide) rfl, (Below.refl _ _).alloc (Nat.le_refl _) _⟩
  case round =>
    obtain ⟨k, rfl, hk, hown, hB⟩ := hrel
    obtain ⟨j, hj⟩ : ∃ j : Int, (s.size : Int) - 1 - k = j := ⟨_, rfl⟩
    rw [hj]
    by_cases hlt : k < s.size
    · have HN := Lib.hid (revK_succ s k hlt)
      have hsz := hB.size
      obtain ⟨p, hp⟩ : ∃ p : Nat, s.size - 1 - k = p := ⟨_, rfl⟩
      obtain rfl : j = (p : Int) := by omega
      have hps : p < s.size := by omega
      have hc : (s[s.size - 1 - k]'(by omega)) = s[p]'hps := by simp only [hp]
      rw [hc] at HN
      clear hc
      have q1 : (0 : Int) ≤ (p : Int) := by omega
      have q2 : (p : Int) < (s.size : Int) := by omega
      have q3 : (p : Int).toNat = p := Int.toNat_natCast p
      have q4 : wrap64 ((p : Int) - 1) = (p : Int) - 1 := by unfold wrap64; omega
      have q5 : IntKind.i64.wrap ((p : Int) - 1) = (p : Int) - 1 := by rw [IntKind.wrap_i64]; omega
      have HC := Lib.hid hps
      go_wp2_with (at_builtin; refine wpList_append_own _ rfl _ _ 69 rfl w.heap.size 5 i0 (.int .u8 0) 1 1 Tryz.underlying69 hi hz0 hz1 hz2 rfl (by decide) _ _ _ rfl (hown.alloc _) ⟨wr.heap.size, 0, none⟩ 1 1 [.int .u8 (s[p]'hps).toNat] rfl rfl ?c1 ?c2 ?c3 ?c4 ?c5 ?_)
      case c1 => intro j u h; exact cell_one_new _ _ _ j u h
      case c2 => intro u h; rw [List.mem_singleton.1 h]; rfl
      case c3 => unfold maxLen; omega
      case c4 => omega
      case c5 => simp; omega
      intro v' w1 hown1 hgrow hnn
      have hB1 : Below w.heap.size w w1 := (hB.alloc hB.size _).grown hgrow (by simp; omega) (fun k e => (hown.lt k e).1)
      have HO : Hid (w1.ownsRow w.heap.size 5 1 v' (k + 1) (cb (revK s.data.toList (k + 1))) ∧ Below w.heap.size w w1) := Lib.hid ⟨by rw [HN.out, cb_snoc]; exact hown1, hB1⟩
      clear hown1 hgrow hnn hown hB hB1
      go_wp2
      case roundEnd => exact ⟨⟨k + 1, by go_num, by omega, HO.out.1, HO.out.2⟩, by simp only [intOf]; omega⟩
    · obtain rfl : k = s.size := by omega
      obtain rfl : j = -1 := by omega
      have hfull : revK s.data.toList s.size = s.data.toList.reverse := by
        rw [revK]
        exact List.take_of_length_le (by rw [List.length_reverse, list_size]; exact Nat.le_refl _)
      rw [hfull] at hown
      have hcv := own_bytes_string (P := Tryz.prog) (src := 69) (dst := 9) Tryz.underlying69 Tryz.underlying5 Tryz.underlying9 hown
      clear hfull
      go_wp2
      go_ret
      exact ⟨rfl, hB⟩
set_option maxRecDepth 100000 in
set_option maxHeartbeats 400000 in
theorem rlittle_ok (n s : Nat) (w : World) (h1 : 1 ≤ s) (h8 : s ≤ 7) (hn : (n : Int) < 2 ^ (8 * s)) :
    Calls Tryz.prog 124 #[.int .i64 n, .int .i64 s] w fun e w' => e = .returned (.tuple #[.string ⟨(leL n s).toArray⟩, .int .i64 0]) ∧ Below w.heap.size w w' := by
  have hn62 : (n : Int) < 2 ^ 62 := by have := two_pow_lt_ten s h8; omega
  have c1 := fun W => rfits_ok n s W (by omega) hn62
  rw [decide_eq_true ⟨by omega, hn⟩] at c1
  have c2 := fun W => rbytes_ok n s W (by omega) (by omega)
  clear hn hn62
  go_enter Tryz.func124, Tryz.ntmps124
  go_wp2_with (first | (go_at_call 135; (with_reducible refine (c1 _).mono ?_); rintro e w1 ⟨rfl, rfl⟩) | (go_at_call 136; (with_reducible refine (c2 _).mono ?_); rintro e w1 ⟨rfl, hB⟩))
  go_ret2
  exact ⟨rfl, hB⟩
set_option maxRecDepth 100000 in
set_option maxHeartbeats 400000 in
theorem rboth_ok (n s : Nat) (w : World) (hs : s = 1 ∨ s = 2 ∨ s = 4) (hn : (n : Int) < 2 ^ (8 * s)) :
    Calls Tryz.prog 104 #[.int .i64 n, .int .i64 s] w fun e w' => e = .returned (.tuple #[.string (both n s), .int .i64 0]) ∧ Below w.heap.size w w' := by
  have c1 := fun W => rlittle_ok n s W (by omega) (by omega) hn
  have hz1 : (⟨(leL n s).toArray⟩ : ByteArray).size = s := by
    show (leL n s).toArray.size = _
    rw [List.size_toArray, leL_length]
  have hz2 : (⟨(leL n s).reverse.toArray⟩ : ByteArray).size = s := by
    show (leL n s).reverse.toArray.size = _
    rw [List.size_toArray, List.length_reverse, leL_length]
  have c2 : ∀ W, Calls Tryz.prog 125 #[.string ⟨(leL n s).toArray⟩] W fun e w' => e = .returned (.string ⟨(leL n s).reverse.toArray⟩) ∧ Below W.heap.size W w' := fun W => reverse_ok ⟨(leL n s).toArray⟩ W (by omega)
  have happ : both n s = (⟨(leL n s).toArray⟩ : ByteArray) ++ ⟨(leL n s).reverse.toArray⟩ := by
    apply ByteArray.ext
    rw [ByteArray.data_append]
    simp [both]
  rw [happ]
  clear hn happ
  generalize (⟨(leL n s).toArray⟩ : ByteArray) = A at c1 c2 hz1 ⊢
  generalize (⟨(leL n s).reverse.toArray⟩ : ByteArray) = B at c2 hz2 ⊢
  have h9 : ¬ 9223372036854775807 < s + s := by omega
  have t : (((s : Int) != 1) = false) ∨ (((s : Int) != 1) = true ∧ ((s : Int) != 2) = false) ∨ (((s : Int) != 1) = true ∧ ((s : Int) != 2) = true ∧ ((s : Int) != 4) = false) := by
    rcases hs with rfl | rfl | rfl <;> simp
  clear hs
  rcases t with t1 | ⟨t1, t2⟩ | ⟨t1, t2, t4⟩
  all_goals
    go_enter Tryz.func104, Tryz.ntmps104
    go_wp2_with (first | (go_at_call 124; (with_reducible refine (c1 _).mono ?_); rintro e w1 ⟨rfl, hB1⟩) | (go_at_call 125; (with_reducible refine (c2 _).mono ?_); rintro e w2 ⟨rfl, hB2⟩))
    go_ret2
    exact ⟨rfl, bthen hB1 hB2⟩
set_option maxRecDepth 100000 in
set_option maxHeartbeats 400000 in
theorem rboth20_ok (n s : Nat) (w : World) (hs : s = 1 ∨ s = 2 ∨ s = 4) (hn : (n : Int) < 2 ^ (8 * s)) :
    Calls Tryz.prog 74 #[.int .i64 n, .int .i64 s] w fun e w' => e = .returned (.string (both n s)) ∧ Below w.heap.size w w' := by
  have c1 := fun W => rboth_ok n s W hs hn
  clear hn hs
  go_enter Tryz.func74, Tryz.ntmps74
  go_wp2_with (first | (go_at_call 104; (with_reducible refine (c1 _).mono ?_); rintro e w1 ⟨rfl, hB1⟩))
  go_ret
  exact ⟨rfl, hB1⟩
end Go.Proofs.YtnmlephjhcmbhaaGreat
namespace Go.Proofs.YtnmlephjhcmbhaaGreat
set_option linter.unusedSimpArgs false
set_option linter.unusedVariables false
open Go Go.RowKit
/-- The number of the last m bytes of a string. -/
def lastN (s : ByteArray) (m : Nat) : Nat := acc (fun j => sB s (s.size - m + j)) m
theorem acc_shift (f : Nat → Nat) : ∀ k, acc f (k + 1) = f 0 + 256 * acc (fun j => f (j + 1)) k
  | 0 => by simp [acc]
  | k + 1 => by
    rw [acc, acc_shift f k, acc]
    have e : 2 ^ (8 * (k + 1)) = 256 * 2 ^ (8 * k) := by rw [pow_succ8, Nat.mul_comm]
    rw [e, Nat.mul_add, Nat.add_assoc]
    congr 2
    rw [← Nat.mul_assoc, Nat.mul_comm (f (k + 1)) 256, Nat.mul_assoc]
theorem lastN_succ (s : ByteArray) (m : Nat) (h : m < s.size) : lastN s (m + 1) = 256 * lastN s m + sB s (s.size - 1 - m) := by
  rw [lastN, acc_shift, lastN, Nat.add_comm]
  congr 2
  · congr 1
    funext j
    congr 1
    omega
  · omega
theorem lastN_lt (s : ByteArray) (m : Nat) (h : m ≤ 7) : lastN s m < 72057594037927936 := Nat.lt_of_lt_of_le (acc_lt _ (fun _ => sB_lt _ _) m) (pow7 m h)
theorem wrap_small (z : Nat) (h : z < 256) : wrap64 (z : Int) = (z : Int) := by unfold wrap64; omega
theorem wrap_small2 (x z : Nat) (h : 256 * x + z < 72057594037927936) : wrap64 (256 * (x : Int) + (z : Int)) = ((256 * x + z : Nat) : Int) := by unfold wrap64; omega
theorem sB_extract (s : ByteArray) (a b j : Nat) (h : j < b - a)  : sB (s.extract a b) j = sB s (a + j) := by
  have hl : (s.extract a b).data.toList = (s.data.toList.drop a).take (b - a) := by
    rw [ByteArray.data_extract, Array.toList_extract, List.extract_eq_take_drop]
  rw [sB, sB, hl, List.getD_eq_getElem?_getD, List.getD_eq_getElem?_getD, List.getElem?_take_of_lt h, List.getElem?_drop]
theorem lastN_part (s : ByteArray) (a k : Nat) (hin : a + k ≤ s.size) : lastN (s.extract a (a + k)) (s.extract a (a + k)).size = leR s a k := by
  have hz : (s.extract a (a + k)).size = k := by rw [ByteArray.size_extract]; omega
  rw [hz, lastN, hz, leR]
  refine acc_congr fun i hi => ?_
  rw [Nat.sub_self, Nat.zero_add, sB_extract s a (a + k) i (by omega)]
theorem bytes_ext {x y : ByteArray} (hz : x.size = y.size) (h : ∀ i, i < x.size → sB x i = sB y i) : x = y := by
  apply ByteArray.ext
  apply Array.toList_inj.1
  apply List.ext_getElem?
  intro i
  rcases Nat.lt_or_ge i x.size with hi | hi
  · have := h i hi
    rw [sB, sB, List.getD_eq_getElem?_getD, List.getD_eq_getElem?_getD, List.getElem?_eq_getElem (by rw [list_size]; exact hi), List.getElem?_eq_getElem (by rw [list_size]; omega)] at this
    rw [List.getElem?_eq_getElem (by rw [list_size]; exact hi), List.getElem?_eq_getElem (by rw [list_size]; omega)]
    exact congrArg some (UInt8.toNat_inj.1 this)
  · rw [List.getElem?_eq_none (by rw [list_size]; exact hi), List.getElem?_eq_none (by rw [list_size]; omega)]
theorem sB_reverse (x : ByteArray) (i : Nat) (h : i < x.size) : sB ⟨x.data.toList.reverse.toArray⟩ i = sB x (x.size - 1 - i) := by
  have hl : i < x.data.toList.length := by rw [list_size]; exact h
  rw [sB, sB, List.getD_eq_getElem?_getD, List.getD_eq_getElem?_getD, List.toList_toArray, List.getElem?_reverse hl, list_size]
/-- The two halves of a number in both byte orders agree. -/
theorem halves_iff (s : ByteArray) (a k : Nat) (hin : a + 2 * k ≤ s.size) :
    ((s.extract a (a + 2 * k)).extract k (2 * k) = ⟨((s.extract a (a + 2 * k)).extract 0 k).data.toList.reverse.toArray⟩) ↔ leR s a k = beR s (a + k) k := by
  have z0 : (s.extract a (a + 2 * k)).size = 2 * k := by rw [ByteArray.size_extract]; omega
  have z1 : ((s.extract a (a + 2 * k)).extract k (2 * k)).size = k := by rw [ByteArray.size_extract, z0]; omega
  have z2 : ((s.extract a (a + 2 * k)).extract 0 k).size = k := by rw [ByteArray.size_extract, z0]; omega
  have z3 : (⟨((s.extract a (a + 2 * k)).extract 0 k).data.toList.reverse.toArray⟩ : ByteArray).size = k := by
    show Array.size (List.toArray _) = k
    rw [List.size_toArray, List.length_reverse, list_size, z2]
  have b1 : ∀ i, i < k → sB ((s.extract a (a + 2 * k)).extract k (2 * k)) i = sB s (a + k + i) := fun i hi => by
    rw [sB_extract _ _ _ _ (by omega), sB_extract _ _ _ _ (by omega)]
    congr 1
    omega
  have b2 : ∀ i, i < k → sB ⟨((s.extract a (a + 2 * k)).extract 0 k).data.toList.reverse.toArray⟩ i = sB s (a + (k - 1 - i)) := fun i hi => by
    rw [sB_reverse _ _ (by omega), z2, sB_extract _ _ _ _ (by omega), sB_extract _ _ _ _ (by omega)]
    congr 1
    omega
  constructor
  · intro h
    rw [leR, beR]
    refine acc_congr fun i hi => ?_
    have e1 := b1 (k - 1 - i) (by omega)
    have e2 := b2 (k - 1 - i) (by omega)
    rw [h, e2] at e1
    rw [show k - 1 - (k - 1 - i) = i by omega] at e1
    exact e1
  · intro h
    have hi := acc_inj (fun _ => sB_lt _ _) (fun _ => sB_lt _ _) k h
    refine bytes_ext (by omega) fun i hi' => ?_
    rw [b1 i (by omega), b2 i (by omega)]
    have e : sB s (a + (k - 1 - i)) = sB s (a + k + (k - 1 - (k - 1 - i))) := hi (k - 1 - i) (by omega)
    rw [e]
    congr 1
    omega
end Go.Proofs.YtnmlephjhcmbhaaGreat
namespace Go.Proofs.YtnmlephjhcmbhaaGreat
set_option linter.unusedSimpArgs false
set_option linter.unusedVariables false
def leapB (y : Nat) : Bool := y % 400 == 0 || (y % 4 == 0 && y % 100 != 0)
/-- The days of a year, and of a month. -/
def yD (y : Nat) : Nat := if leapB y then 366 else 365
def mD (y m : Nat) : Nat := if m = 2 then (if leapB y then 29 else 28) else if m = 4 ∨ m = 6 ∨ m = 9 ∨ m = 11 then 30 else 31
/-- The days of the k years from 1970 on; of the k years before 1970; of the first c months of a year. -/
def dU : Nat → Nat
  | 0 => 0
  | k + 1 => dU k + yD (1970 + k)
def dD : Nat → Nat
  | 0 => 0
  | k + 1 => dD k + yD (1969 - k)
def dM (y : Nat) : Nat → Nat
  | 0 => 0
  | c + 1 => dM y c + mD y (c + 1)
theorem yD_ge (y : Nat) : 365 ≤ yD y ∧ yD y ≤ 366 := by unfold yD; split <;> decide
theorem mD_ge (y m : Nat) : 28 ≤ mD y m ∧ mD y m ≤ 31 := by
  unfold mD
  split
  · split <;> decide
  · split <;> decide
theorem dM_12 (y : Nat) : dM y 12 = yD y := by
  simp only [dM, mD, yD]
  cases leapB y <;> simp
theorem dU_mono {a b : Nat} (h : a ≤ b) : dU a ≤ dU b := by
  induction h with
  | refl => exact Nat.le_refl _
  | step _ ih => rw [dU]; omega
theorem dU_ge (k : Nat) : 365 * k ≤ dU k := by
  induction k with
  | zero => simp [dU]
  | succ k ih => rw [dU]; have := (yD_ge (1970 + k)).1; omega
theorem dU_le (k : Nat) : dU k ≤ 366 * k := by
  induction k with
  | zero => simp [dU]
  | succ k ih => rw [dU]; have := (yD_ge (1970 + k)).2; omega
theorem dM_mono (y : Nat) {a b : Nat} (h : a ≤ b) : dM y a ≤ dM y b := by
  induction h with
  | refl => exact Nat.le_refl _
  | step _ ih => rw [dM]; omega
theorem year_of (n : Nat) : ∃ k, dU k ≤ n ∧ n < dU (k + 1) := by
  induction n with
  | zero => exact ⟨0, Nat.le_refl _, by have := (yD_ge (1970 + 0)).1; simp only [dU]; omega⟩
  | succ n ih =>
    obtain ⟨k, h1, h2⟩ := ih
    by_cases h : n + 1 < dU (k + 1)
    · exact ⟨k, by omega, h⟩
    · refine ⟨k + 1, by omega, ?_⟩
      rw [dU]
      have := (yD_ge (1970 + (k + 1))).1
      omega
theorem month_of (y : Nat) : ∀ (N r : Nat), r < dM y N → ∃ c, c < N ∧ dM y c ≤ r ∧ r < dM y (c + 1)
  | 0, r, h => absurd h (by simp [dM])
  | N + 1, r, h => by
    by_cases h1 : r < dM y N
    · obtain ⟨c, a, b⟩ := month_of y N r h1
      exact ⟨c, by omega, b⟩
    · exact ⟨N, by omega, by omega, h⟩
/-- A date: k years from 1970 on, c months, d days: all of them gone. -/
structure Dt where
  (k c d : Nat)
def Dt.Good (x : Dt) : Prop := x.c < 12 ∧ x.d < mD (1970 + x.k) (x.c + 1)
def Dt.days (x : Dt) : Nat := dU x.k + dM (1970 + x.k) x.c + x.d
theorem date_of (n : Nat) : ∃ x : Dt, x.Good ∧ x.days = n := by
  obtain ⟨k, h1, h2⟩ := year_of n
  rw [dU] at h2
  obtain ⟨c, hc, h3, h4⟩ := month_of (1970 + k) 12 (n - dU k) (by rw [dM_12]; omega)
  rw [dM] at h4
  exact ⟨⟨k, c, n - dU k - dM (1970 + k) c⟩, ⟨hc, by simp only; omega⟩, by simp only [Dt.days]; omega⟩
theorem Dt.Good.lt_year {x : Dt} (h : x.Good) : dM (1970 + x.k) x.c + x.d < yD (1970 + x.k) := by
  have h1 := h.2
  have h2 := dM_mono (1970 + x.k) (show x.c + 1 ≤ 12 from h.1)
  rw [dM_12, dM] at h2
  omega
theorem Dt.Good.lt_next {x : Dt} (h : x.Good) : x.days < dU (x.k + 1) := by
  have := h.lt_year
  rw [dU, Dt.days]
  omega
theorem date_inj {x y : Dt} (hx : x.Good) (hy : y.Good) (h : x.days = y.days) : x = y := by
  have hk : x.k = y.k := by
    rcases Nat.lt_trichotomy x.k y.k with hlt | heq | hgt
    · have h1 := hx.lt_next
      have h2 := dU_mono (show x.k + 1 ≤ y.k from hlt)
      have h3 : dU y.k ≤ y.days := by rw [Dt.days]; omega
      omega
    · exact heq
    · have h1 := hy.lt_next
      have h2 := dU_mono (show y.k + 1 ≤ x.k from hgt)
      have h3 : dU x.k ≤ x.days := by rw [Dt.days]; omega
      omega
  obtain ⟨k, c, d⟩ := x
  obtain ⟨k', c', d'⟩ := y
  simp only at hk
  subst hk
  simp only [Dt.days, Dt.Good] at h hx hy
  have hc : c = c' := by
    rcases Nat.lt_trichotomy c c' with hlt | heq | hgt
    · have h2 := dM_mono (1970 + k) (show c + 1 ≤ c' from hlt)
      rw [dM] at h2
      omega
    · exact heq
    · have h2 := dM_mono (1970 + k) (show c' + 1 ≤ c from hgt)
      rw [dM] at h2
      omega
  subst hc
  have hd : d = d' := by omega
  subst hd
  rfl
end Go.Proofs.YtnmlephjhcmbhaaGreat
namespace Go.Proofs.YtnmlephjhcmbhaaGreat
set_option linter.unusedSimpArgs false
set_option linter.unusedVariables false
/-- The days of the n years from a on. -/
def sumY (a : Nat) : Nat → Nat
  | 0 => 0
  | n + 1 => sumY a n + yD (a + n)
theorem sumY_dU (k : Nat) : sumY 1970 k = dU k := by
  induction k with
  | zero => rfl
  | succ k ih => rw [sumY, dU, ih]
theorem sumY_le (a n : Nat) : sumY a n ≤ 366 * n := by
  induction n with
  | zero => simp [sumY]
  | succ n ih => rw [sumY]; have := (yD_ge (a + n)).2; omega
theorem sumY_ge (a n : Nat) : 365 * n ≤ sumY a n := by
  induction n with
  | zero => simp [sumY]
  | succ n ih => rw [sumY]; have := (yD_ge (a + n)).1; omega
theorem dM_le (y n : Nat) : dM y n ≤ 31 * n := by
  induction n with
  | zero => simp [dM]
  | succ n ih => rw [dM]; have := (mD_ge y (n + 1)).2; omega
/-- The days from 1970 to a date, and the seconds to a clock. -/
def dayI (Y M D : Nat) : Int := (sumY 1970 (Y - 1970) : Int) - (sumY Y (1970 - Y) : Int) + (dM Y (M - 1) : Int) + (D : Int) - 1
def secI (Y M D h m s : Nat) : Int := dayI Y M D * 86400 + h * 3600 + m * 60 + s
def validB (Y M D h m s : Nat) : Bool := decide (1900 ≤ Y ∧ Y ≤ 2155 ∧ 1 ≤ M ∧ M ≤ 12 ∧ 1 ≤ D ∧ D ≤ mD Y M ∧ h ≤ 23 ∧ m ≤ 59 ∧ s ≤ 59)
theorem validB_iff (Y M D h m s : Nat) : validB Y M D h m s = true ↔ (1900 ≤ Y ∧ Y ≤ 2155 ∧ 1 ≤ M ∧ M ≤ 12 ∧ 1 ≤ D ∧ D ≤ mD Y M ∧ h ≤ 23 ∧ m ≤ 59 ∧ s ≤ 59) := by
  rw [validB, decide_eq_true_iff]
/-- The clock of a good date has the seconds of the date. -/
theorem secI_date (x : Dt) (h m s : Nat) : secI (1970 + x.k) (x.c + 1) (x.d + 1) h m s = (x.days : Int) * 86400 + h * 3600 + m * 60 + s := by
  have e : dayI (1970 + x.k) (x.c + 1) (x.d + 1) = (x.days : Int) := by
    rw [dayI, show 1970 + x.k - 1970 = x.k by omega, show 1970 - (1970 + x.k) = 0 by omega, sumY_dU, Dt.days, show x.c + 1 - 1 = x.c by omega]
    simp only [sumY]
    omega
  rw [secI, e]
/-- A date before 1970 lies before 1970. -/
theorem dayI_neg (Y M D : Nat) (hY : Y < 1970) (hM : 1 ≤ M) (hM2 : M ≤ 12) (hD : D ≤ mD Y M) : dayI Y M D < 0 := by
  have h1 : dM Y (M - 1) + mD Y M ≤ yD Y := by
    have h2 := dM_mono Y (show M - 1 + 1 ≤ 12 by omega)
    rw [dM_12, dM, show M - 1 + 1 = M by omega] at h2
    exact h2
  have h3 : sumY Y (1970 - Y) ≥ yD Y := by
    obtain ⟨n, hn⟩ : ∃ n, 1970 - Y = n + 1 := ⟨1970 - Y - 1, by omega⟩
    rw [hn]
    clear hn
    induction n with
    | zero => simp [sumY]
    | succ n ih => rw [sumY]; omega
  rw [dayI, show Y - 1970 = 0 by omega]
  simp only [sumY]
  omega
/-- A clock from 1970 on is that of a good date. -/
theorem date_clock (Y M D h m s : Nat) (hv : validB Y M D h m s = true) (hY : 1970 ≤ Y) : ∃ x : Dt, x.Good ∧ 1970 + x.k = Y ∧ x.c + 1 = M ∧ x.d + 1 = D := by
  rw [validB_iff] at hv
  refine ⟨⟨Y - 1970, M - 1, D - 1⟩, ⟨by simp only; omega, ?_⟩, by simp only; omega, by simp only; omega, by simp only; omega⟩
  simp only
  rw [show 1970 + (Y - 1970) = Y by omega, show M - 1 + 1 = M by omega]
  omega
theorem dayI_bd (Y M D h m s : Nat) (hv : validB Y M D h m s = true) : -30000 < dayI Y M D ∧ dayI Y M D < 80000 := by
  rw [validB_iff] at hv
  have h1 := sumY_le 1970 (Y - 1970)
  have h2 := sumY_le Y (1970 - Y)
  have h3 := dM_le Y (M - 1)
  have h4 := (mD_ge Y M).2
  rw [dayI]
  constructor <;> omega
theorem secI_bd (Y M D h m s : Nat) (hv : validB Y M D h m s = true) : -3000000000 < secI Y M D h m s ∧ secI Y M D h m s < 7000000000 := by
  have h1 := dayI_bd Y M D h m s hv
  rw [validB_iff] at hv
  rw [secI]
  constructor <;> omega
end Go.Proofs.YtnmlephjhcmbhaaGreat
namespace Go.Proofs.YtnmlephjhcmbhaaGreat
set_option linter.unusedSimpArgs false
set_option linter.unusedVariables false
open Go Go.RowKit
theorem nat_beq (z : Nat) : ((z : Int) == 0) = (z == 0) := by
  rw [Bool.eq_iff_iff, beq_iff_eq, beq_iff_eq]
  omega
set_option maxRecDepth 100000 in
set_option maxHeartbeats 400000 in
theorem isTime_ok (t : Int) (w : World) : Calls Tryz.prog 116 #[.int .i64 t] w fun e w' => e = .returned (.bool (decide (315532800 ≤ t ∧ t ≤ 4102444799))) ∧ w = w' := by
  by_cases h1 : 315532800 ≤ t
  · by_cases h2 : t ≤ 4102444799
    · rw [decide_eq_true ⟨h1, h2⟩]
      go_enter Tryz.func116, Tryz.ntmps116
      go_wp2
      go_ret
      exact ⟨rfl, rfl⟩
    · rw [decide_eq_false fun h => h2 h.2]
      go_enter Tryz.func116, Tryz.ntmps116
      go_wp2
      go_ret
      exact ⟨rfl, rfl⟩
  · rw [decide_eq_false fun h => h1 h.1]
    go_enter Tryz.func116, Tryz.ntmps116
    go_wp2
    go_ret
    exact ⟨rfl, rfl⟩
set_option maxRecDepth 100000 in
set_option maxHeartbeats 400000 in
theorem isZone_ok (t : Int) (w : World) : Calls Tryz.prog 117 #[.int .i64 t] w fun e w' => e = .returned (.bool (decide (-1440 ≤ t ∧ t ≤ 1440))) ∧ w = w' := by
  by_cases h1 : -1440 ≤ t
  · by_cases h2 : t ≤ 1440
    · rw [decide_eq_true ⟨h1, h2⟩]
      go_enter Tryz.func117, Tryz.ntmps117
      go_wp2
      go_ret
      exact ⟨rfl, rfl⟩
    · rw [decide_eq_false fun h => h2 h.2]
      go_enter Tryz.func117, Tryz.ntmps117
      go_wp2
      go_ret
      exact ⟨rfl, rfl⟩
  · rw [decide_eq_false fun h => h1 h.1]
    go_enter Tryz.func117, Tryz.ntmps117
    go_wp2
    go_ret
    exact ⟨rfl, rfl⟩
set_option maxRecDepth 100000 in
set_option maxHeartbeats 400000 in
theorem isQuarter_ok (t : Int) (w : World) : Calls Tryz.prog 94 #[.int .i64 t] w fun e w' => e = .returned (.bool (decide (t % 15 = 0 ∧ -720 ≤ t ∧ t ≤ 780))) ∧ w = w' := by
  obtain ⟨r, hr⟩ : ∃ r, t.tmod 15 = r := ⟨_, rfl⟩
  have e : t % 15 = 0 ↔ r = 0 := by
    rw [← hr]
    constructor
    · intro h; exact Int.tmod_eq_zero_of_dvd (Int.dvd_of_emod_eq_zero h)
    · intro h; exact Int.emod_eq_zero_of_dvd (Int.dvd_of_tmod_eq_zero h)
  by_cases h0 : r = 0
  · subst h0
    by_cases h1 : -720 ≤ t
    · by_cases h2 : t ≤ 780
      · rw [decide_eq_true ⟨e.2 rfl, h1, h2⟩]
        clear e
        go_enter Tryz.func94, Tryz.ntmps94
        go_wp2
        go_ret
        exact ⟨rfl, rfl⟩
      · rw [decide_eq_false fun h => h2 h.2.2]
        clear e
        go_enter Tryz.func94, Tryz.ntmps94
        go_wp2
        go_ret
        exact ⟨rfl, rfl⟩
    · rw [decide_eq_false fun h => h1 h.2.1]
      clear e
      go_enter Tryz.func94, Tryz.ntmps94
      go_wp2
      go_ret
      exact ⟨rfl, rfl⟩
  · rw [decide_eq_false fun h => h0 (e.1 h.1)]
    have t0 : (r == 0) = false := by simpa using h0
    clear e
    go_enter Tryz.func94, Tryz.ntmps94
    go_wp2
    go_ret
    exact ⟨rfl, rfl⟩
set_option maxRecDepth 100000 in
set_option maxHeartbeats 400000 in
theorem leap_ok (y : Nat) (w : World) : Calls Tryz.prog 132 #[.int .i64 y] w fun e w' => e = .returned (.bool (leapB y)) ∧ w = w' := by
  have m1 : ∀ c : Nat, ((y : Int).tmod c) = ((y % c : Nat) : Int) := fun c => by rw [Int.tmod_eq_emod_of_nonneg (by omega)]; rfl
  have m400 : ((y : Int).tmod 400) = ((y % 400 : Nat) : Int) := m1 400
  have m4 : ((y : Int).tmod 4) = ((y % 4 : Nat) : Int) := m1 4
  have m100 : ((y : Int).tmod 100) = ((y % 100 : Nat) : Int) := m1 100
  unfold leapB
  clear m1
  generalize y % 400 = a at m400 ⊢
  generalize y % 4 = b at m4 ⊢
  generalize y % 100 = c at m100 ⊢
  by_cases ha : a = 0
  · subst ha
    go_enter Tryz.func132, Tryz.ntmps132
    go_wp2
    go_ret
    exact ⟨rfl, rfl⟩
  have ha' : ((a : Int) == 0) = false := by simpa using ha
  by_cases hb : b = 0
  · subst hb
    have e : (a == 0 || ((0 : Nat) == 0 && c != 0)) = ((c : Int) != 0) := by
      rw [show (a == 0) = false by simpa using ha, bne, bne, nat_beq]
      rfl
    rw [e]
    clear e ha
    go_enter Tryz.func132, Tryz.ntmps132
    go_wp2
    go_ret
    exact ⟨rfl, rfl⟩
  have hb' : ((b : Int) == 0) = false := by simpa using hb
  rw [show (a == 0 || (b == 0 && c != 0)) = false by simp [ha, hb]]
  clear ha hb
  go_enter Tryz.func132, Tryz.ntmps132
  go_wp2
  go_ret
  exact ⟨rfl, rfl⟩
set_option maxRecDepth 100000 in
set_option maxHeartbeats 400000 in
theorem yearDays_ok (y : Nat) (w : World) : Calls Tryz.prog 118 #[.int .i64 y] w fun e w' => e = .returned (.int .i64 (yD y : Nat)) ∧ w = w' := by
  have c1 := fun W => leap_ok y W
  unfold yD
  cases h : leapB y
  all_goals
    rw [h] at c1
    clear h
    go_enter Tryz.func118, Tryz.ntmps118
    go_wp2_with (first | (go_at_call 132; (with_reducible refine (c1 _).mono ?_); rintro e w1 ⟨rfl, rfl⟩))
    go_ret
    exact ⟨rfl, rfl⟩
set_option maxRecDepth 100000 in
set_option maxHeartbeats 1000000 in
theorem monthDays_ok (y m : Nat) (w : World) (h1 : 1 ≤ m) (h2 : m ≤ 12) : Calls Tryz.prog 119 #[.int .i64 y, .int .i64 m] w fun e w' => e = .returned (.int .i64 (mD y m : Nat)) ∧ Below w.heap.size w w' := by
  have c1 := fun W => leap_ok y W
  by_cases hm : m = 2
  · subst hm
    rw [mD, if_pos rfl]
    cases h : leapB y
    all_goals
      rw [h] at c1
      clear h
      go_enter Tryz.func119, Tryz.ntmps119
      go_wp2_with (first | (go_at_call 132; (with_reducible refine (c1 _).mono ?_); rintro e w1 ⟨rfl, rfl⟩))
      go_ret
      exact ⟨rfl, (Below.refl _ w).alloc (Nat.le_refl _) _⟩
  · have h : m = 1 ∨ m = 3 ∨ m = 4 ∨ m = 5 ∨ m = 6 ∨ m = 7 ∨ m = 8 ∨ m = 9 ∨ m = 10 ∨ m = 11 ∨ m = 12 := by omega
    rcases h with rfl | rfl | rfl | rfl | rfl | rfl | rfl | rfl | rfl | rfl | rfl
    all_goals
      go_enter Tryz.func119, Tryz.ntmps119
      go_wp2
      go_ret
      exact ⟨rfl, (Below.refl _ w).alloc (Nat.le_refl _) _⟩
set_option maxRecDepth 100000 in
set_option maxHeartbeats 400000 in
theorem rleap_ok (y : Nat) (w : World) : Calls Tryz.prog 141 #[.int .i64 y] w fun e w' => e = .returned (.bool (leapB y)) ∧ w = w' := by
  have m1 : ∀ c : Nat, ((y : Int).tmod c) = ((y % c : Nat) : Int) := fun c => by rw [Int.tmod_eq_emod_of_nonneg (by omega)]; rfl
  have m400 : ((y : Int).tmod 400) = ((y % 400 : Nat) : Int) := m1 400
  have m4 : ((y : Int).tmod 4) = ((y % 4 : Nat) : Int) := m1 4
  have m100 : ((y : Int).tmod 100) = ((y % 100 : Nat) : Int) := m1 100
  have r1 : y % 400 = 0 → y % 4 = 0 := by omega
  unfold leapB
  clear m1
  generalize y % 400 = a at m400 r1 ⊢
  generalize y % 4 = b at m4 r1 ⊢
  generalize y % 100 = c at m100 ⊢
  by_cases hb : b = 0
  · subst hb
    by_cases hc : c = 0
    · subst hc
      have e : (a == 0 || ((0 : Nat) == 0 && (0 : Nat) != 0)) = ((a : Int) == 0) := by
        rw [nat_beq]
        simp
      rw [e]
      clear e r1
      go_enter Tryz.func141, Tryz.ntmps141
      go_wp2
      go_ret
      exact ⟨rfl, rfl⟩
    · have hc' : ((c : Int) == 0) = false := by simpa using hc
      have e : (a == 0 || ((0 : Nat) == 0 && c != 0)) = true := by simp [hc]
      rw [e]
      clear e r1
      go_enter Tryz.func141, Tryz.ntmps141
      go_wp2
      go_ret
      exact ⟨rfl, rfl⟩
  · have hb' : ((b : Int) == 0) = false := by simpa using hb
    have ha : a ≠ 0 := fun h => hb (r1 h)
    rw [show (a == 0 || (b == 0 && c != 0)) = false by simp [ha, hb]]
    clear ha hb r1
    go_enter Tryz.func141, Tryz.ntmps141
    go_wp2
    go_ret
    exact ⟨rfl, rfl⟩
set_option maxRecDepth 100000 in
set_option maxHeartbeats 400000 in
theorem ryear_ok (y : Nat) (w : World) : Calls Tryz.prog 133 #[.int .i64 y] w fun e w' => e = .returned (.int .i64 (yD y : Nat)) ∧ w = w' := by
  have c1 := fun W => rleap_ok y W
  unfold yD
  cases h : leapB y
  all_goals
    rw [h] at c1
    clear h
    go_enter Tryz.func133, Tryz.ntmps133
    go_wp2_with (first | (go_at_call 141; (with_reducible refine (c1 _).mono ?_); rintro e w1 ⟨rfl, rfl⟩))
    go_ret
    exact ⟨rfl, rfl⟩
set_option maxRecDepth 100000 in
set_option maxHeartbeats 400000 in
theorem rdays_ok (y m : Nat) (w : World) (h1 : 1 ≤ m) (h2 : m ≤ 12) : Calls Tryz.prog 134 #[.int .i64 y, .int .i64 m] w fun e w' => e = .returned (.int .i64 (mD y m : Nat)) ∧ w = w' := by
  have c1 := fun W => rleap_ok y W
  by_cases hm : m = 2
  · subst hm
    rw [mD, if_pos rfl]
    cases h : leapB y
    all_goals
      rw [h] at c1
      clear h
      go_enter Tryz.func134, Tryz.ntmps134
      go_wp2_with (first | (go_at_call 141; (with_reducible refine (c1 _).mono ?_); rintro e w1 ⟨rfl, rfl⟩))
      go_ret
      exact ⟨rfl, rfl⟩
  · have h : m = 1 ∨ m = 3 ∨ m = 4 ∨ m = 5 ∨ m = 6 ∨ m = 7 ∨ m = 8 ∨ m = 9 ∨ m = 10 ∨ m = 11 ∨ m = 12 := by omega
    clear c1 h1 h2 hm
    rcases h with rfl | rfl | rfl | rfl | rfl | rfl | rfl | rfl | rfl | rfl | rfl
    all_goals
      go_enter Tryz.func134, Tryz.ntmps134
      go_wp2
      go_ret
      exact ⟨rfl, rfl⟩
end Go.Proofs.YtnmlephjhcmbhaaGreat
namespace Go.Proofs.YtnmlephjhcmbhaaGreat
set_option linter.unusedSimpArgs false
set_option linter.unusedVariables false
open Go Go.RowKit
abbrev cI (n : Int) : Value := .int .i64 n
/-- The clock of a date and a time of day, as a value. -/
def clkA (x : Dt) (h m s : Nat) : Array Value := #[cI ((1970 + x.k : Nat) : Int), cI ((x.c + 1 : Nat) : Int), cI ((x.d + 1 : Nat) : Int), cI h, cI m, cI s]
theorem wrap_le (z : Int) (h0 : 0 ≤ z) (h1 : z < 1000000000000) : wrap64 z = z := by unfold wrap64; omega
theorem year_step {x : Dt} {j Y D : Nat} (hY : 1970 + j = Y) (hD : D + dU j = x.days) (hN : x.days < 48000) (hlt : j < x.k) :
    ∃ E, Hid (1970 + (j + 1) = Y + 1 ∧ j + 1 ≤ x.k ∧ E + dU (j + 1) = x.days) ∧ Hid (E < D) ∧ ((yD Y : Nat) : Int) ≤ (D : Int) ∧ wrap64 ((D : Int) - ((yD Y : Nat) : Int)) = (E : Int) ∧ wrap64 ((Y : Int) + 1) = ((Y + 1 : Nat) : Int) := by
  have q0 : dU (j + 1) ≤ dU x.k := dU_mono (by omega)
  have qs : dU (j + 1) = dU j + yD (1970 + j) := rfl
  rw [hY] at qs
  have q1 : dU x.k ≤ x.days := by rw [Dt.days]; omega
  have q2 := yD_ge Y
  have q3 := dU_ge j
  refine ⟨D - yD Y, Lib.hid ⟨by omega, by omega, by omega⟩, Lib.hid (by omega), by omega, ?_, ?_⟩
  · rw [wrap_le _ (by omega) (by omega)]; omega
  · rw [wrap_le _ (by omega) (by omega)]; omega
theorem year_stop {x : Dt} {j Y D : Nat} (hx : x.Good) (hY : 1970 + j = Y) (hj : j ≤ x.k) (hD : D + dU j = x.days) (hlt : ¬ j < x.k) :
    ¬ ((yD Y : Nat) : Int) ≤ (D : Int) ∧ Hid (1970 + x.k = Y ∧ D = dM Y x.c + x.d) := by
  have h1 := hx.lt_year
  obtain rfl : j = x.k := by omega
  rw [hY] at h1
  rw [Dt.days, hY] at hD
  exact ⟨by omega, Lib.hid ⟨hY, by omega⟩⟩
theorem month_step {c d Y e M D : Nat} (hM : e + 1 = M) (hD : D + dM Y e = dM Y c + d) (hc : c < 12) (hlt : e < c) (hN : D < 48000) :
    ∃ E, Hid (e + 1 + 1 = M + 1 ∧ e + 1 ≤ c ∧ E + dM Y (e + 1) = dM Y c + d) ∧ Hid (E < D) ∧ ((mD Y M : Nat) : Int) ≤ (D : Int) ∧ wrap64 ((D : Int) - ((mD Y M : Nat) : Int)) = (E : Int) ∧ wrap64 ((M : Int) + 1) = ((M + 1 : Nat) : Int) ∧ 1 ≤ M ∧ M ≤ 12 := by
  have q0 : dM Y (e + 1) ≤ dM Y c := dM_mono Y (by omega)
  have qs : dM Y (e + 1) = dM Y e + mD Y M := by rw [← hM]; rfl
  have q2 := mD_ge Y M
  refine ⟨D - mD Y M, Lib.hid ⟨by omega, by omega, by omega⟩, Lib.hid (by omega), by omega, ?_, ?_, by omega, by omega⟩
  · rw [wrap_le _ (by omega) (by omega)]; omega
  · rw [wrap_le _ (by omega) (by omega)]; omega
theorem month_stop {c d Y e M D : Nat} (hd : d < mD Y (c + 1)) (hc : c < 12) (hM : e + 1 = M) (he : e ≤ c) (hD : D + dM Y e = dM Y c + d) (hlt : ¬ e < c) :
    ¬ ((mD Y M : Nat) : Int) ≤ (D : Int) ∧ Hid (c + 1 = M ∧ D = d) ∧ 1 ≤ M ∧ M ≤ 12 ∧ wrap64 ((D : Int) + 1) = ((D + 1 : Nat) : Int) := by
  obtain rfl : e = c := by omega
  rw [hM] at hd
  have q2 := mD_ge Y M
  exact ⟨by omega, Lib.hid ⟨hM, by omega⟩, by omega, by omega, by rw [wrap_le _ (by omega) (by omega)]; omega⟩
/-- The two clocks of a Split: the result's, still zero, and the one under way. -/
def CkSt (w : World) (Y M D h m s : Nat) (wr : World) : Prop :=
  wr.heap[w.heap.size + 1]? = some (.cells #[cI (Y : Int), cI (M : Int), cI (D : Int), cI h, cI m, cI s] 119 (0, 0)) ∧ wr.heap[w.heap.size]? = some (.cells #[cI 0, cI 0, cI 0, cI 0, cI 0, cI 0] 119 (0, 0)) ∧ Below w.heap.size w wr
theorem CkSt.c0 {w wr : World} {Y M D h m s : Nat} (H : CkSt w Y M D h m s wr) : wr.cell? ⟨w.heap.size + 1, 0, none⟩ = some (cI Y) := by rw [Lib.cell_of_heap H.1]; rfl
theorem CkSt.c1 {w wr : World} {Y M D h m s : Nat} (H : CkSt w Y M D h m s wr) : wr.cell? ⟨w.heap.size + 1, 1, none⟩ = some (cI M) := by rw [Lib.cell_of_heap H.1]; rfl
theorem CkSt.c2 {w wr : World} {Y M D h m s : Nat} (H : CkSt w Y M D h m s wr) : wr.cell? ⟨w.heap.size + 1, 2, none⟩ = some (cI D) := by rw [Lib.cell_of_heap H.1]; rfl
theorem CkSt.c345 {w wr : World} {Y M D h m s : Nat} (H : CkSt w Y M D h m s wr) : wr.cell? ⟨w.heap.size + 1, 3, none⟩ = some (cI h) ∧ wr.cell? ⟨w.heap.size + 1, 4, none⟩ = some (cI m) ∧ wr.cell? ⟨w.heap.size + 1, 5, none⟩ = some (cI s) := by
  rw [Lib.cell_of_heap H.1, Lib.cell_of_heap H.1, Lib.cell_of_heap H.1]; exact ⟨rfl, rfl, rfl⟩
theorem CkSt.r {w wr : World} {Y M D h m s : Nat} (H : CkSt w Y M D h m s wr) (j : Nat) (hj : j < 6) : wr.cell? ⟨w.heap.size, j, none⟩ = some (cI 0) := by
  rw [Lib.cell_of_heap H.2.1]
  match j, hj with
  | 0, _ | 1, _ | 2, _ | 3, _ | 4, _ | 5, _ => rfl
theorem CkSt.rf {w wr : World} {Y M D h m s : Nat} (H : CkSt w Y M D h m s wr) (j : Nat) : wr.frozen? ⟨w.heap.size, j, none⟩ = false := Lib.frozen_of_heap H.2.1 j
theorem CkSt.fz {w wr : World} {Y M D h m s : Nat} (H : CkSt w Y M D h m s wr) (j : Nat) : wr.frozen? ⟨w.heap.size + 1, j, none⟩ = false := Lib.frozen_of_heap H.1 j
theorem CkSt.lt {w wr : World} {Y M D h m s : Nat} (H : CkSt w Y M D h m s wr) : w.heap.size + 1 < wr.heap.size := by
  rcases Nat.lt_or_ge (w.heap.size + 1) wr.heap.size with h' | h'
  · exact h'
  · have := H.1
    simp [Array.getElem?_eq_none h'] at this
theorem CkSt.below {w wr w1 : World} {Y M D h m s : Nat} (H : CkSt w Y M D h m s wr) (k : Below wr.heap.size wr w1) : CkSt w Y M D h m s w1 :=
  ⟨(k.block _ H.lt).trans H.1, (k.block _ (by have := H.lt; omega)).trans H.2.1, H.2.2.trans (k.mono H.2.2.size)⟩
theorem CkSt.year {w wr : World} {Y M D h m s : Nat} (H : CkSt w Y M D h m s wr) : CkSt w (Y + 1) M D h m s (wr.setCell ⟨w.heap.size + 1, 0, none⟩ (.int .i64 ((Y : Int) + 1))) :=
  ⟨row_set 0 _ H.1, row_other 0 _ H.2.1 (by omega), H.2.2.setCell (p := ⟨w.heap.size + 1, 0, none⟩) (by simp) _⟩
theorem CkSt.month {w wr : World} {Y M D h m s : Nat} (H : CkSt w Y M D h m s wr) : CkSt w Y (M + 1) D h m s (wr.setCell ⟨w.heap.size + 1, 1, none⟩ (.int .i64 ((M : Int) + 1))) :=
  ⟨row_set 1 _ H.1, row_other 1 _ H.2.1 (by omega), H.2.2.setCell (p := ⟨w.heap.size + 1, 1, none⟩) (by simp) _⟩
theorem CkSt.day {w wr : World} {Y M D h m s : Nat} (H : CkSt w Y M D h m s wr) (D' : Nat) : CkSt w Y M D' h m s (wr.setCell ⟨w.heap.size + 1, 2, none⟩ (.int .i64 (D' : Int))) :=
  ⟨row_set 2 _ H.1, row_other 2 _ H.2.1 (by omega), H.2.2.setCell (p := ⟨w.heap.size + 1, 2, none⟩) (by simp) _⟩
/-- A row of six cells, written over. -/
abbrev put6 (W : World) (b : Nat) (v0 v1 v2 v3 v4 v5 : Value) : World :=
  (((((W.setCell ⟨b, 0, none⟩ v0).setCell ⟨b, 1, none⟩ v1).setCell ⟨b, 2, none⟩ v2).setCell ⟨b, 3, none⟩ v3).setCell ⟨b, 4, none⟩ v4).setCell ⟨b, 5, none⟩ v5
theorem set6 {W : World} {b : Nat} {u0 u1 u2 u3 u4 u5 : Value} {t : TypeId} (h : W.heap[b]? = some (.cells #[u0, u1, u2, u3, u4, u5] t (0, 0))) (v0 v1 v2 v3 v4 v5 : Value) :
    (put6 W b v0 v1 v2 v3 v4 v5).heap[b]? = some (.cells #[v0, v1, v2, v3, v4, v5] t (0, 0)) :=
  row_set 5 v5 (row_set 4 v4 (row_set 3 v3 (row_set 2 v2 (row_set 1 v1 (row_set 0 v0 h)))))
theorem below6 {w W : World} (h : Below w.heap.size w W) (v0 v1 v2 v3 v4 v5 : Value) : Below w.heap.size w (put6 W w.heap.size v0 v1 v2 v3 v4 v5) :=
  (((((h.setCell (p := ⟨w.heap.size, 0, none⟩) (Nat.le_refl _) v0).setCell (p := ⟨w.heap.size, 1, none⟩) (Nat.le_refl _) v1).setCell (p := ⟨w.heap.size, 2, none⟩) (Nat.le_refl _) v2).setCell (p := ⟨w.heap.size, 3, none⟩) (Nat.le_refl _) v3).setCell (p := ⟨w.heap.size, 4, none⟩) (Nat.le_refl _) v4).setCell (p := ⟨w.heap.size, 5, none⟩) (Nat.le_refl _) v5
theorem cells6 {W : World} {b : Nat} {u0 u1 u2 u3 u4 u5 : Value} {t : TypeId} (h : W.heap[b]? = some (.cells #[u0, u1, u2, u3, u4, u5] t (0, 0))) :
    W.cell? ⟨b, 0, none⟩ = some u0 ∧ W.cell? ⟨b, 1, none⟩ = some u1 ∧ W.cell? ⟨b, 2, none⟩ = some u2 ∧ W.cell? ⟨b, 3, none⟩ = some u3 ∧ W.cell? ⟨b, 4, none⟩ = some u4 ∧ W.cell? ⟨b, 5, none⟩ = some u5 := by
  simp only [Lib.cell_of_heap h]
  exact ⟨rfl, rfl, rfl, rfl, rfl, rfl⟩
set_option maxRecDepth 100000 in
set_option maxHeartbeats 1000000 in
theorem split_ok (t z : Int) (x : Dt) (h m s : Nat) (w : World) (hx : x.Good) (ht : 315532800 ≤ t ∧ t ≤ 4102444799) (hz : -1440 ≤ z ∧ z ≤ 1440)
    (hh : h < 24) (hm : m < 60) (hs : s < 60) (hl : t + 60 * z = (x.days : Int) * 86400 + h * 3600 + m * 60 + s) :
    Calls Tryz.prog 93 #[cI t, cI z] w fun e w' => e = .returned (.tuple #[.agg (clkA x h m s), cI 0]) ∧ Below w.heap.size w w' := by
  have c1 := fun W => isTime_ok t W
  rw [decide_eq_true ht] at c1
  have c2 := fun W => isZone_ok z W
  rw [decide_eq_true hz] at c2
  have a1 : IntKind.i64.wrap (60 * z) = 60 * z := by rw [IntKind.wrap_i64]; omega
  have a2 : IntKind.i64.wrap (t + 60 * z) = (x.days : Int) * 86400 + h * 3600 + m * 60 + s := by rw [IntKind.wrap_i64]; omega
  have a1' : wrap64 (60 * z) = 60 * z := by unfold wrap64; omega
  have a2' : wrap64 (t + 60 * z) = (x.days : Int) * 86400 + h * 3600 + m * 60 + s := by unfold wrap64; omega
  obtain ⟨L, hL⟩ : ∃ L : Nat, (x.days : Int) * 86400 + h * 3600 + m * 60 + s = L := ⟨x.days * 86400 + h * 3600 + m * 60 + s, by omega⟩
  rw [hL] at a2 a2'
  have hN : x.days < 48000 := by omega
  obtain ⟨sec, hsec⟩ : ∃ sec : Nat, L % 86400 = sec := ⟨_, rfl⟩
  have b1 : (L : Int).tdiv 86400 = (x.days : Int) := by rw [Int.tdiv_eq_ediv_of_nonneg (by omega)]; omega
  have b2 : (L : Int).tmod 86400 = (sec : Int) := by rw [Int.tmod_eq_emod_of_nonneg (by omega)]; omega
  have b1' : (L : Int) / 86400 = (x.days : Int) := by omega
  have b2' : (L : Int) % 86400 = (sec : Int) := by omega
  have b3 : (sec : Int) / 3600 = h := by omega
  have b4 : (sec : Int) / 60 % 60 = m := by omega
  have b5 : (sec : Int) % 60 = s := by omega
  have b6 : wrap64 (x.days : Int) = (x.days : Int) := by unfold wrap64; omega
  have HH := Lib.hid (And.intro hx hN)
  clear hl hL hsec ht hz hN hx
  go_enter Tryz.func93, Tryz.ntmps93
  go_wp2_with (first | (go_at_call 116; (with_reducible refine (c1 _).mono ?_); rintro e w1 ⟨rfl, rfl⟩) | (go_at_call 117; (with_reducible refine (c2 _).mono ?_); rintro e w1 ⟨rfl, rfl⟩))
  have HB6 := Lib.hid b6
  clear a1 a2 a1' a2' b1 b2 b1' b2' b3 b4 b5 b6 c1 c2
  go_loopw [7] (fun d wr => ∃ j Y D : Nat, Hid (1970 + j = Y ∧ j ≤ x.k ∧ D + dU j = x.days) ∧ d = cI (D : Int) ∧ CkSt w Y 1 0 h m s wr) (fun d _ => (intOf d).toNat)
  case atStart =>
    refine ⟨0, 1970, x.days, Lib.hid ⟨rfl, by omega, by simp [dU]⟩, by rw [HB6.out], ?_, ?_, ((Below.refl _ w).alloc (Nat.le_refl _) _).alloc (by simp) _⟩
    · have := World.alloc_heap_new (w.alloc (.cells #[cI 0, cI 0, cI 0, cI 0, cI 0, cI 0] 119)) (.cells #[cI 1970, cI 1, cI 0, cI h, cI m, cI s] 119)
      rw [World.size_alloc] at this
      exact this
    · rw [heap_alloc_get, if_neg (by simp)]
      exact World.alloc_heap_new _ _
  case round =>
    obtain ⟨j, Y, D, HR, rfl, H⟩ := hrel
    have e0 := H.c0
    have f0 := H.fz 0
    have c3 := fun W => yearDays_ok Y W
    obtain ⟨hY, hj, hD⟩ := HR.out
    by_cases hlt : j < x.k
    · obtain ⟨E, HR2, HM, g1, g2, g3⟩ := year_step hY hD HH.out.2 hlt
      clear hY hj hD hlt
      generalize yD Y = yd at c3 g1 g2
      go_wp2_with (first | (go_at_call 118; (with_reducible refine (c3 _).mono ?_); rintro e w1 ⟨rfl, rfl⟩))
      go_roundw
      case rel => exact ⟨j + 1, Y + 1, E, HR2, by rw [g2], H.year⟩
      case measure =>
        simp only [intOf]
        rw [g2, Int.toNat_natCast, Int.toNat_natCast]
        exact HM.out
    · obtain ⟨g1, HS⟩ := year_stop HH.out.1 hY hj hD hlt
      clear hY hj hD hlt
      go_wp2_with (first | (go_at_call 118; (with_reducible refine (c3 _).mono ?_); rintro e w1 ⟨rfl, rfl⟩))
      clear e0 f0 c3 g1 HR
      generalize decide (yD Y ≤ D) = bb
      generalize yD Y = yd
      go_loopw [7] (fun d wr => ∃ e M D : Nat, Hid (e + 1 = M ∧ e ≤ x.c ∧ D + dM Y e = dM Y x.c + x.d) ∧ d = cI (D : Int) ∧ CkSt w Y M 0 h m s wr) (fun d _ => (intOf d).toNat)
      case atStart => exact ⟨0, 1, D, Lib.hid ⟨rfl, Nat.zero_le _, by rw [HS.out.2]; simp [dM]⟩, rfl, H⟩
      case round =>
        clear H
        obtain ⟨e, M, D', HR, rfl, H⟩ := hrel
        have e0 := H.c0
        have e1 := H.c1
        have c3 := fun W => monthDays_ok Y M W
        obtain ⟨hM, he, hD⟩ := HR.out
        by_cases hlt : e < x.c
        · have hDN : D' < 48000 := by
            have q1 := HS.out.2
            have q2 := HH.out.2
            rw [Dt.days, HS.out.1] at q2
            omega
          obtain ⟨E, HR2, HM, g1, g2, g3, g4, g5⟩ := month_step hM hD HH.out.1.1 hlt hDN
          have c4 := fun W => c3 W g4 g5
          clear hM he hD hlt hDN c3 g4 g5
          generalize mD Y M = md at c4 g1 g2
          go_wp2_with (first | (go_at_call 119; (with_reducible refine (c4 _).mono ?_); rintro e w1 ⟨rfl, hBm⟩; have H := H.below hBm; have e0 := H.c0; have e1 := H.c1; have f1 := H.fz 1; clear hBm))
          go_roundw
          case rel => exact ⟨e + 1, M + 1, E, HR2, by rw [g2], H.month⟩
          case measure =>
            simp only [intOf]
            rw [g2, Int.toNat_natCast, Int.toNat_natCast]
            exact HM.out
        · obtain ⟨g1, HS2, g4, g5, g6⟩ := month_stop (by have := HH.out.1.2; rw [HS.out.1] at this; exact this) HH.out.1.1 hM he hD hlt
          have c4 := fun W => c3 W g4 g5
          clear hM he hD hlt c3 g4 g5
          generalize mD Y M = md at c4 g1
          go_wp2_with (first | (go_at_call 119; (with_reducible refine (c4 _).mono ?_); rintro e w1 ⟨rfl, hBm⟩; have H := H.below hBm; have e0 := H.c0; have e1 := H.c1; have e2 := H.c2; have f2 := H.fz 2; obtain ⟨e3, e4, e5⟩ := H.c345; have r0 := H.r 0 (by decide); have r1 := H.r 1 (by decide); have r2 := H.r 2 (by decide); have r3 := H.r 3 (by decide); have r4 := H.r 4 (by decide); have r5 := H.r 5 (by decide); have rf := H.rf; clear hBm))
          have hclk : clkA x h m s = #[cI Y, cI M, .int .i64 ((D' : Int) + 1), cI h, cI m, cI s] := by
            rw [clkA, HS.out.1, HS2.out.1, HS2.out.2, Int.natCast_add x.d 1]
            rfl
          rw [hclk]
          have hrow := set6 (row_other (B' := w.heap.size + 1) 2 (.int .i64 ((D' : Int) + 1)) H.2.1 (by omega)) (cI Y) (cI M) (.int .i64 ((D' : Int) + 1)) (cI h) (cI m) (cI s)
          have hbel := below6 (((H.2.2.setCell (p := ⟨w.heap.size + 1, 2, none⟩) (by simp) (.int .i64 ((D' : Int) + 1))))) (cI Y) (cI M) (.int .i64 ((D' : Int) + 1)) (cI h) (cI m) (cI s)
          refine bodyPost_ret (v := .tuple #[.agg #[cI Y, cI M, .int .i64 ((D' : Int) + 1), cI h, cI m, cI s], cI 0]) ?_ rfl ⟨rfl, hbel⟩
          obtain ⟨q0, q1, q2, q3, q4, q5⟩ := cells6 hrow
          simp [results, Tryz.results93, go_sem, q0, q1, q2, q3, q4, q5]
end Go.Proofs.YtnmlephjhcmbhaaGreat
namespace Go.Proofs.YtnmlephjhcmbhaaGreat
set_option linter.unusedSimpArgs false
set_option linter.unusedVariables false
open Go Go.RowKit
theorem split_okv (t z : Int) (x : Dt) (Y M D h m s : Nat) (w : World) (hY : 1970 + x.k = Y) (hM : x.c + 1 = M) (hD : x.d + 1 = D) (hx : x.Good) (ht : 315532800 ≤ t ∧ t ≤ 4102444799) (hz : -1440 ≤ z ∧ z ≤ 1440)
    (hh : h < 24) (hm : m < 60) (hs : s < 60) (hl : t + 60 * z = (x.days : Int) * 86400 + h * 3600 + m * 60 + s) :
    Calls Tryz.prog 93 #[cI t, cI z] w fun e w' => e = .returned (.tuple #[.agg #[cI Y, cI M, cI D, cI h, cI m, cI s], cI 0]) ∧ Below w.heap.size w w' := by
  subst hY hM hD
  exact split_ok t z x h m s w hx ht hz hh hm hs hl
set_option maxRecDepth 100000 in
set_option maxHeartbeats 1000000 in
theorem split_bad (t z : Int) (w : World) (h : ¬ ((315532800 ≤ t ∧ t ≤ 4102444799) ∧ -1440 ≤ z ∧ z ≤ 1440)) :
    Calls Tryz.prog 93 #[cI t, cI z] w fun e w' => e = .returned (.tuple #[.agg #[cI 0, cI 0, cI 0, cI 0, cI 0, cI 0], cI 2]) ∧ Below w.heap.size w w' := by
  have c1 := fun W => isTime_ok t W
  have c2 := fun W => isZone_ok z W
  by_cases h1 : 315532800 ≤ t ∧ t ≤ 4102444799
  · have h2 : ¬ (-1440 ≤ z ∧ z ≤ 1440) := fun k => h ⟨h1, k⟩
    rw [decide_eq_true h1] at c1
    rw [decide_eq_false h2] at c2
    clear h h1 h2
    go_enter Tryz.func93, Tryz.ntmps93
    go_wp2_with (first | (go_at_call 116; (with_reducible refine (c1 _).mono ?_); rintro e w1 ⟨rfl, rfl⟩) | (go_at_call 117; (with_reducible refine (c2 _).mono ?_); rintro e w1 ⟨rfl, rfl⟩))
    have H0 : (w.alloc (.cells #[cI 0, cI 0, cI 0, cI 0, cI 0, cI 0] 119)).heap[w.heap.size]? = some (.cells #[cI 0, cI 0, cI 0, cI 0, cI 0, cI 0] 119 (0, 0)) := World.alloc_heap_new _ _
    obtain ⟨q0, q1, q2, q3, q4, q5⟩ := cells6 H0
    refine bodyPost_ret (v := .tuple #[.agg #[cI 0, cI 0, cI 0, cI 0, cI 0, cI 0], cI 2]) ?_ rfl ⟨rfl, (Below.refl _ w).alloc (Nat.le_refl _) _⟩
    simp [results, Tryz.results93, go_sem, q0, q1, q2, q3, q4, q5]
  · rw [decide_eq_false h1] at c1
    clear h h1
    go_enter Tryz.func93, Tryz.ntmps93
    go_wp2_with (first | (go_at_call 116; (with_reducible refine (c1 _).mono ?_); rintro e w1 ⟨rfl, rfl⟩) | (go_at_call 117; (with_reducible refine (c2 _).mono ?_); rintro e w1 ⟨rfl, rfl⟩))
    have H0 : (w.alloc (.cells #[cI 0, cI 0, cI 0, cI 0, cI 0, cI 0] 119)).heap[w.heap.size]? = some (.cells #[cI 0, cI 0, cI 0, cI 0, cI 0, cI 0] 119 (0, 0)) := World.alloc_heap_new _ _
    obtain ⟨q0, q1, q2, q3, q4, q5⟩ := cells6 H0
    refine bodyPost_ret (v := .tuple #[.agg #[cI 0, cI 0, cI 0, cI 0, cI 0, cI 0], cI 2]) ?_ rfl ⟨rfl, (Below.refl _ w).alloc (Nat.le_refl _) _⟩
    simp [results, Tryz.results93, go_sem, q0, q1, q2, q3, q4, q5]
set_option maxRecDepth 100000 in
set_option maxHeartbeats 1000000 in
theorem record_bad (t z : Int) (w : World) (h : ¬ ((315532800 ≤ t ∧ t ≤ 4102444799) ∧ z % 15 = 0 ∧ -720 ≤ z ∧ z ≤ 780)) :
    Calls Tryz.prog 67 #[cI t, cI z] w fun e w' => e = .returned (.tuple #[.string ByteArray.empty, cI 2]) ∧ Below w.heap.size w w' := by
  have c2 := fun W => isQuarter_ok z W
  by_cases h1 : (315532800 ≤ t ∧ t ≤ 4102444799) ∧ -1440 ≤ z ∧ z ≤ 1440
  · have h2 : ¬ (z % 15 = 0 ∧ -720 ≤ z ∧ z ≤ 780) := fun k => h ⟨h1.1, k⟩
    rw [decide_eq_false h2] at c2
    obtain ⟨L, hL⟩ : ∃ L : Nat, t + 60 * z = L := ⟨(t + 60 * z).toNat, by omega⟩
    obtain ⟨x, hx, hxd⟩ := date_of (L / 86400)
    obtain ⟨hs, hse⟩ : ∃ hs, L % 86400 = hs := ⟨_, rfl⟩
    have c1 := fun W => split_okv t z x _ _ _ (hs / 3600) (hs / 60 % 60) (hs % 60) W rfl rfl rfl hx h1.1 h1.2 (by omega) (by omega) (by omega) (by omega)
    generalize 1970 + x.k = Y at c1
    generalize x.c + 1 = M at c1
    generalize x.d + 1 = D at c1
    generalize hs / 3600 = a1 at c1
    generalize hs / 60 % 60 = a2 at c1
    generalize hs % 60 = a3 at c1
    clear h h1 h2 hL hse hx hxd
    go_enter Tryz.func67, Tryz.ntmps67
    go_wp2_with (first | (go_at_call 93; (with_reducible refine (c1 _).mono ?_); rintro e w1 ⟨rfl, hB1⟩) | (go_at_call 94; (with_reducible refine (c2 _).mono ?_); rintro e w1 ⟨rfl, rfl⟩))
    go_ret2
    exact ⟨rfl, hB1.alloc hB1.size _⟩
  · have c1 := fun W => split_bad t z W h1
    clear h h1
    go_enter Tryz.func67, Tryz.ntmps67
    go_wp2_with (first | (go_at_call 93; (with_reducible refine (c1 _).mono ?_); rintro e w1 ⟨rfl, hB1⟩) | (go_at_call 94; (with_reducible refine (c2 _).mono ?_); rintro e w1 ⟨rfl, rfl⟩))
    go_ret2
    exact ⟨rfl, hB1.alloc hB1.size _⟩
/-- The byte of a zone. -/
def zB (z : Int) : UInt8 := UInt8.ofNat ((z / 15 + 256) % 256).toNat
/-- The seven bytes of a time in a directory record. -/
def recL (Y M D h m s : Nat) (z : Int) : List UInt8 := [UInt8.ofNat (Y - 1900), UInt8.ofNat M, UInt8.ofNat D, UInt8.ofNat h, UInt8.ofNat m, UInt8.ofNat s, zB z]
theorem cutB (n : Nat) (h : n < 256) : IntKind.u8.wrap (n : Int) = ((UInt8.ofNat n).toNat : Int) := by
  rw [IntKind.wrap_u8, UInt8.toNat_ofNat', Nat.mod_eq_of_lt (show n < 2 ^ 8 by omega)]
  omega
theorem i8_wrap (q : Int) (h1 : -128 ≤ q) (h2 : q ≤ 127) : IntKind.i8.wrap q = q := by
  simp [IntKind.wrap, IntKind.bits, IntKind.signed]
  omega
theorem zB_wrap (z : Int) (h : z % 15 = 0 ∧ -720 ≤ z ∧ z ≤ 780) : IntKind.u8.wrap (IntKind.i8.wrap (z.tdiv 15)) = ((zB z).toNat : Int) ∧ wrap64 (z.tdiv 15) = z.tdiv 15 := by
  have e : z.tdiv 15 = z / 15 := Int.tdiv_eq_ediv_of_dvd (Int.dvd_of_emod_eq_zero h.1)
  obtain ⟨q, hq⟩ : ∃ q, z / 15 = q := ⟨_, rfl⟩
  have hb : -48 ≤ q ∧ q ≤ 52 := by omega
  rw [e, hq]
  constructor
  · rw [zB, hq, UInt8.toNat_ofNat', Nat.mod_eq_of_lt (show ((q + 256) % 256).toNat < 2 ^ 8 by omega), IntKind.wrap_u8, i8_wrap q (by omega) (by omega)]
    omega
  · unfold wrap64; omega
set_option maxRecDepth 100000 in
set_option maxHeartbeats 1000000 in
theorem record_walk (t z : Int) (Y M D h m s : Nat) (b0 b1 b2 b3 b4 b5 b6 : UInt8) (w : World) (hq : z % 15 = 0 ∧ -720 ≤ z ∧ z ≤ 780)
    (e0 : IntKind.u8.wrap (wrap64 ((Y : Int) - 1900)) = (b0.toNat : Int)) (e1 : IntKind.u8.wrap (M : Int) = (b1.toNat : Int)) (e2 : IntKind.u8.wrap (D : Int) = (b2.toNat : Int)) (e3 : IntKind.u8.wrap (h : Int) = (b3.toNat : Int))
    (e4 : IntKind.u8.wrap (m : Int) = (b4.toNat : Int)) (e5 : IntKind.u8.wrap (s : Int) = (b5.toNat : Int)) (e6 : IntKind.u8.wrap (IntKind.i8.wrap (z.tdiv 15)) = (b6.toNat : Int)) (e7 : wrap64 (z.tdiv 15) = z.tdiv 15)
    (c1 : ∀ w : World, Calls Tryz.prog 93 #[cI t, cI z] w fun e w' => e = .returned (.tuple #[.agg #[cI Y, cI M, cI D, cI h, cI m, cI s], cI 0]) ∧ Below w.heap.size w w') :
    Calls Tryz.prog 67 #[cI t, cI z] w fun e w' => e = .returned (.tuple #[.string ⟨#[b0, b1, b2, b3, b4, b5, b6]⟩, cI 0]) ∧ Below w.heap.size w w' := by
  have c2 := fun W => isQuarter_ok z W
  rw [decide_eq_true hq] at c2
  have hcv : ∀ (W : World) (B : Nat), W.heap[B]? = some (.cells (cb [b0, b1, b2, b3, b4, b5, b6]).toArray 5 (0, 0)) → (convert 69 9 (.slice (some ⟨B, 0, none⟩) 7 7)).run Tryz.prog W = .ok (.string ⟨#[b0, b1, b2, b3, b4, b5, b6]⟩) W := fun W B hr =>
    row_string (P := Tryz.prog) (src := 69) (dst := 9) (n := 7) (cap := 7) (bs := [b0, b1, b2, b3, b4, b5, b6]) Tryz.underlying69 Tryz.underlying5 Tryz.underlying9 rfl hr
  clear hq
  go_enter Tryz.func67, Tryz.ntmps67
  go_wp2_with (first | (go_at_call 93; (with_reducible refine (c1 _).mono ?_); rintro e w1 ⟨rfl, hB1⟩) | (go_at_call 94; (with_reducible refine (c2 _).mono ?_); rintro e w1 ⟨rfl, rfl⟩))
  have hrow : ((w1.alloc (.cells #[cI Y, cI M, cI D, cI h, cI m, cI s] 119)).alloc (.cells #[.int .u8 b0.toNat, .int .u8 b1.toNat, .int .u8 b2.toNat, .int .u8 b3.toNat, .int .u8 b4.toNat, .int .u8 b5.toNat, .int .u8 b6.toNat] 5)).heap[w1.heap.size + 1]? = some (.cells (cb [b0, b1, b2, b3, b4, b5, b6]).toArray 5 (0, 0)) := by
    have := World.alloc_heap_new (w1.alloc (.cells #[cI Y, cI M, cI D, cI h, cI m, cI s] 119)) (.cells #[.int .u8 b0.toNat, .int .u8 b1.toNat, .int .u8 b2.toNat, .int .u8 b3.toNat, .int .u8 b4.toNat, .int .u8 b5.toNat, .int .u8 b6.toNat] 5)
    rw [World.size_alloc] at this
    exact this
  rw [hcv _ _ hrow]
  simp only [Result.andThen]
  rw [Oper.upon_value]
  go_wp2
  go_ret2
  exact ⟨rfl, (hB1.alloc hB1.size _).alloc (by have := hB1.size; simp; omega) _⟩
theorem year_byte (Y : Nat) (h1 : 1900 ≤ Y) (h2 : Y ≤ 2155) : IntKind.u8.wrap (wrap64 ((Y : Int) - 1900)) = ((UInt8.ofNat (Y - 1900)).toNat : Int) := by
  have e : wrap64 ((Y : Int) - 1900) = ((Y - 1900 : Nat) : Int) := by rw [wrap_le _ (by omega) (by omega)]; omega
  rw [e]
  exact cutB _ (by omega)
/-- The dates of times: at most 130 years behind 1970. -/
theorem years_le {x : Dt} {t z : Int} {h m s : Nat} (ht : t ≤ 4102444799) (hz : z ≤ 1440) (hl : t + 60 * z = (x.days : Int) * 86400 + h * 3600 + m * 60 + s) : x.k ≤ 130 := by
  have h1 : x.days < 47484 := by omega
  have h2 : dU x.k ≤ x.days := by rw [Dt.days]; omega
  have h3 := dU_ge x.k
  omega
theorem record_ok (t z : Int) (x : Dt) (h m s : Nat) (w : World) (hx : x.Good) (ht : 315532800 ≤ t ∧ t ≤ 4102444799) (hq : z % 15 = 0 ∧ -720 ≤ z ∧ z ≤ 780)
    (hh : h < 24) (hm : m < 60) (hs : s < 60) (hl : t + 60 * z = (x.days : Int) * 86400 + h * 3600 + m * 60 + s) :
    Calls Tryz.prog 67 #[cI t, cI z] w fun e w' => e = .returned (.tuple #[.string ⟨(recL (1970 + x.k) (x.c + 1) (x.d + 1) h m s z).toArray⟩, cI 0]) ∧ Below w.heap.size w w' := by
  have hk := years_le ht.2 (by omega) hl
  have hd := (mD_ge (1970 + x.k) (x.c + 1)).2
  have hx1 := hx.1
  have hx2 := hx.2
  exact record_walk t z (1970 + x.k) (x.c + 1) (x.d + 1) h m s _ _ _ _ _ _ _ w hq (year_byte _ (by omega) (by omega)) (cutB _ (by omega)) (cutB _ (by omega)) (cutB _ (by omega)) (cutB _ (by omega)) (cutB _ (by omega))
    (zB_wrap z hq).1 (zB_wrap z hq).2 fun W => split_okv t z x _ _ _ h m s W rfl rfl rfl hx ht (by omega) hh hm hs hl
end Go.Proofs.YtnmlephjhcmbhaaGreat
