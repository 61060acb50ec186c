/- The reference of package endian: part, value, ReadLittle, ReadBoth. -/
import Derived.Test.YtnmlephjhcmbhaaRfb
namespace Go.Proofs.Ytnmlephjhcmbhaa
set_option linter.unusedSimpArgs false
set_option linter.unusedVariables false
open Go Go.RowKit
set_option maxRecDepth 100000 in
set_option maxHeartbeats 400000 in
theorem part_ok (s : ByteArray) (a k : Nat) (w : World) (hs : s.size < 2 ^ 61) (hk : k ≤ 1000) (hin : a + k ≤ s.size) :
    Calls Try.prog 125 #[.string s, .int .i64 a, .int .i64 k] w fun e w' => e = .returned (.tuple #[.string (s.extract a (a + k)), .bool true]) ∧ w = w' := by
  have g1 : wrap64 ((s.size : Int) - a) = (s.size : Int) - a := by unfold wrap64; omega
  have g2 : IntKind.i64.wrap ((s.size : Int) - a) = (s.size : Int) - a := by rw [IntKind.wrap_i64]; omega
  have g3 : ¬ (a : Int) < 0 := by omega
  have g4 : ¬ (s.size : Int) < (a : Int) := by omega
  have g5 : ¬ (s.size : Int) - a < (k : Int) := by omega
  have g6 : wrap64 ((a : Int) + k) = (a : Int) + k := by unfold wrap64; omega
  have g7 : IntKind.i64.wrap ((a : Int) + k) = (a : Int) + k := by rw [IntKind.wrap_i64]; omega
  have g8 : (0 : Int) ≤ (a : Int) := by omega
  have g9 : (a : Int) ≤ (a : Int) + k := by omega
  have g10 : (a : Int) + k ≤ (s.size : Int) := by omega
  have g11 : (a : Int).toNat = a := Int.toNat_natCast a
  have g12 : ((a : Int) + k).toNat = a + k := by omega
  have g13 : (0 : Int) ≤ (a : Int) + k := by omega
  have g14 : a ≤ a + k := by omega
  clear hs
  go_enter Try.func125, Try.ntmps125
  go_wp2
  go_ret2
  exact ⟨rfl, rfl⟩
/-- The number of the last m bytes of a string. -/
def lastN (s : ByteArray) (m : Nat) : Nat := acc (fun j => sB s (s.size - m + j)) m
theorem acc_shift (f : Nat → Nat) : ∀ k, acc f (k + 1) = f 0 + 256 * acc (fun j => f (j + 1)) k
  | 0 => by simp [acc]
  | k + 1 => by
    rw [acc, acc_shift f k, acc]
    have e : 2 ^ (8 * (k + 1)) = 256 * 2 ^ (8 * k) := by rw [pow_succ8, Nat.mul_comm]
    rw [e, Nat.mul_add, Nat.add_assoc]
    congr 2
    rw [← Nat.mul_assoc, Nat.mul_comm (f (k + 1)) 256, Nat.mul_assoc]
theorem lastN_succ (s : ByteArray) (m : Nat) (h : m < s.size) : lastN s (m + 1) = 256 * lastN s m + sB s (s.size - 1 - m) := by
  rw [lastN, acc_shift, lastN, Nat.add_comm]
  congr 2
  · congr 1
    funext j
    congr 1
    omega
  · omega
theorem lastN_lt (s : ByteArray) (m : Nat) (h : m ≤ 7) : lastN s m < 72057594037927936 := Nat.lt_of_lt_of_le (acc_lt _ (fun _ => sB_lt _ _) m) (pow7 m h)
theorem wrap_small (z : Nat) (h : z < 256) : wrap64 (z : Int) = (z : Int) := by unfold wrap64; omega
theorem wrap_small2 (x z : Nat) (h : 256 * x + z < 72057594037927936) : wrap64 (256 * (x : Int) + (z : Int)) = ((256 * x + z : Nat) : Int) := by unfold wrap64; omega
set_option maxRecDepth 100000 in
set_option maxHeartbeats 400000 in
theorem value_ok (s : ByteArray) (w : World) (hs : s.size ≤ 7) :
    Calls Try.prog 126 #[.string s] w fun e w' => e = .returned (.tuple #[.int .i64 (lastN s s.size), .int .i64 0]) ∧ w = w' := by
  have t8 : ((s.size : Int) == 8) = false := by simp; omega
  have g1 : wrap64 ((s.size : Int) - 1) = (s.size : Int) - 1 := by unfold wrap64; omega
  have g2 : IntKind.i64.wrap ((s.size : Int) - 1) = (s.size : Int) - 1 := by rw [IntKind.wrap_i64]; omega
  go_enter Try.func126, Try.ntmps126
  go_wp2
  go_loop [4, 5] (fun n i => ∃ k : Nat, i = .int .i64 ((s.size : Int) - 1 - k) ∧ k ≤ s.size ∧ n = .int .i64 (lastN s k : Nat)) (fun _ i => (intOf i + 1).toNat)
  case atStart => exact ⟨0, by simp, Nat.zero_le _, rfl⟩
  case round =>
    obtain ⟨k, rfl, hk, rfl⟩ := hrel
    obtain ⟨j, hj⟩ : ∃ j : Int, (s.size : Int) - 1 - k = j := ⟨_, rfl⟩
    rw [hj]
    by_cases hlt : k < s.size
    · obtain ⟨p, hp⟩ : ∃ p : Nat, s.size - 1 - k = p := ⟨_, rfl⟩
      obtain rfl : j = (p : Int) := by omega
      have hps : p < s.size := by omega
      have hS := lastN_succ s k hlt
      rw [hp, ← sB_get s p hps] at hS
      have hl := lastN_lt s (k + 1) (by omega)
      have hl0 := lastN_lt s k (by omega)
      obtain ⟨y, hy⟩ : ∃ y, lastN s (k + 1) = y := ⟨_, rfl⟩
      rw [hy] at hS hl
      have HY := Lib.hid hy
      clear hy
      generalize lastN s k = x at hS hl0
      have q1 : (0 : Int) ≤ (p : Int) := by omega
      have q2 : (p : Int) < (s.size : Int) := by omega
      have q3 : (p : Int).toNat = p := Int.toNat_natCast p
      have q4 : wrap64 ((p : Int) - 1) = (p : Int) - 1 := by unfold wrap64; omega
      have q5 : IntKind.i64.wrap ((p : Int) - 1) = (p : Int) - 1 := by rw [IntKind.wrap_i64]; omega
      have q6 : wrap64 (256 * (x : Int)) = 256 * (x : Int) := by unfold wrap64; omega
      have hb8 := UInt8.toNat_lt (s[p]'hps)
      have q7 : wrap64 (256 * (x : Int) + wrap64 ((s[p]'hps).toNat : Int)) = (y : Int) := by
        rw [wrap_small _ hb8, wrap_small2 x _ (by omega), ← hS]
      have HQ := Lib.hid q7
      clear hS hl hl0 q7 hb8
      go_wp2
      case roundEnd =>
        refine ⟨⟨k + 1, by go_num, by omega, ?_⟩, by simp only [intOf]; omega⟩
        rw [HY.out, HQ.out]
    · obtain rfl : k = s.size := by omega
      obtain rfl : j = -1 := by omega
      go_wp2
      go_ret2
      exact ⟨rfl, rfl⟩
theorem sB_extract (s : ByteArray) (a b j : Nat) (h : j < b - a)  : sB (s.extract a b) j = sB s (a + j) := by
  have hl : (s.extract a b).data.toList = (s.data.toList.drop a).take (b - a) := by
    rw [ByteArray.data_extract, Array.toList_extract, List.extract_eq_take_drop]
  rw [sB, sB, hl, List.getD_eq_getElem?_getD, List.getD_eq_getElem?_getD, List.getElem?_take_of_lt h, List.getElem?_drop]
theorem lastN_part (s : ByteArray) (a k : Nat) (hin : a + k ≤ s.size) : lastN (s.extract a (a + k)) (s.extract a (a + k)).size = leR s a k := by
  have hz : (s.extract a (a + k)).size = k := by rw [ByteArray.size_extract]; omega
  rw [hz, lastN, hz, leR]
  refine acc_congr fun i hi => ?_
  rw [Nat.sub_self, Nat.zero_add, sB_extract s a (a + k) i (by omega)]
set_option maxRecDepth 100000 in
set_option maxHeartbeats 400000 in
theorem rreadLittle_ok (s : ByteArray) (a k : Nat) (w : World) (hs : s.size < 2 ^ 61) (h1 : 1 ≤ k) (h7 : k ≤ 7) (hin : a + k ≤ s.size) :
    Calls Try.prog 123 #[.string s, .int .i64 a, .int .i64 k] w fun e w' => e = .returned (.tuple #[.int .i64 (leR s a k), .int .i64 0]) ∧ w = w' := by
  have c1 := fun W => part_ok s a k W hs (by omega) hin
  have hz : (s.extract a (a + k)).size = k := by rw [ByteArray.size_extract]; omega
  have c2 := fun W => value_ok (s.extract a (a + k)) W (by omega)
  rw [lastN_part s a k hin] at c2
  generalize s.extract a (a + k) = x at c1 c2
  go_enter Try.func123, Try.ntmps123
  go_wp2_with (first | (go_at_call 125; (with_reducible refine (c1 _).mono ?_); rintro e w1 ⟨rfl, rfl⟩) | (go_at_call 126; (with_reducible refine (c2 _).mono ?_); rintro e w2 ⟨rfl, rfl⟩))
  go_ret2
  exact ⟨rfl, rfl⟩
set_option maxRecDepth 100000 in
set_option maxHeartbeats 400000 in
theorem little20_ok (s : ByteArray) (a k : Nat) (w : World) (hs : s.size < 2 ^ 61) (h1 : 1 ≤ k) (h7 : k ≤ 7) (hin : a + k ≤ s.size) :
    Calls Try.prog 64 #[.string s, .int .i64 a, .int .i64 k] w fun e w' => e = .returned (.int .i64 (leR s a k)) ∧ w = w' := by
  have c1 := fun W => rreadLittle_ok s a k W hs h1 h7 hin
  go_enter Try.func64, Try.ntmps64
  go_wp2_with (first | (go_at_call 123; (with_reducible refine (c1 _).mono ?_); rintro e w1 ⟨rfl, rfl⟩))
  go_ret
  exact ⟨rfl, rfl⟩
theorem bytes_ext {x y : ByteArray} (hz : x.size = y.size) (h : ∀ i, i < x.size → sB x i = sB y i) : x = y := by
  apply ByteArray.ext
  apply Array.toList_inj.1
  apply List.ext_getElem?
  intro i
  rcases Nat.lt_or_ge i x.size with hi | hi
  · have := h i hi
    rw [sB, sB, List.getD_eq_getElem?_getD, List.getD_eq_getElem?_getD, List.getElem?_eq_getElem (by rw [list_size]; exact hi), List.getElem?_eq_getElem (by rw [list_size]; omega)] at this
    rw [List.getElem?_eq_getElem (by rw [list_size]; exact hi), List.getElem?_eq_getElem (by rw [list_size]; omega)]
    exact congrArg some (UInt8.toNat_inj.1 this)
  · rw [List.getElem?_eq_none (by rw [list_size]; exact hi), List.getElem?_eq_none (by rw [list_size]; omega)]
theorem sB_reverse (x : ByteArray) (i : Nat) (h : i < x.size) : sB ⟨x.data.toList.reverse.toArray⟩ i = sB x (x.size - 1 - i) := by
  have hl : i < x.data.toList.length := by rw [list_size]; exact h
  rw [sB, sB, List.getD_eq_getElem?_getD, List.getD_eq_getElem?_getD, List.toList_toArray, List.getElem?_reverse hl, list_size]
/-- The two halves of a number in both byte orders agree. -/
theorem halves_iff (s : ByteArray) (a k : Nat) (hin : a + 2 * k ≤ s.size) :
    ((s.extract a (a + 2 * k)).extract k (2 * k) = ⟨((s.extract a (a + 2 * k)).extract 0 k).data.toList.reverse.toArray⟩) ↔ leR s a k = beR s (a + k) k := by
  have z0 : (s.extract a (a + 2 * k)).size = 2 * k := by rw [ByteArray.size_extract]; omega
  have z1 : ((s.extract a (a + 2 * k)).extract k (2 * k)).size = k := by rw [ByteArray.size_extract, z0]; omega
  have z2 : ((s.extract a (a + 2 * k)).extract 0 k).size = k := by rw [ByteArray.size_extract, z0]; omega
  have z3 : (⟨((s.extract a (a + 2 * k)).extract 0 k).data.toList.reverse.toArray⟩ : ByteArray).size = k := by
    show Array.size (List.toArray _) = k
    rw [List.size_toArray, List.length_reverse, list_size, z2]
  have b1 : ∀ i, i < k → sB ((s.extract a (a + 2 * k)).extract k (2 * k)) i = sB s (a + k + i) := fun i hi => by
    rw [sB_extract _ _ _ _ (by omega), sB_extract _ _ _ _ (by omega)]
    congr 1
    omega
  have b2 : ∀ i, i < k → sB ⟨((s.extract a (a + 2 * k)).extract 0 k).data.toList.reverse.toArray⟩ i = sB s (a + (k - 1 - i)) := fun i hi => by
    rw [sB_reverse _ _ (by omega), z2, sB_extract _ _ _ _ (by omega), sB_extract _ _ _ _ (by omega)]
    congr 1
    omega
  constructor
  · intro h
    rw [leR, beR]
    refine acc_congr fun i hi => ?_
    have e1 := b1 (k - 1 - i) (by omega)
    have e2 := b2 (k - 1 - i) (by omega)
    rw [h, e2] at e1
    rw [show k - 1 - (k - 1 - i) = i by omega] at e1
    exact e1
  · intro h
    have hi := acc_inj (fun _ => sB_lt _ _) (fun _ => sB_lt _ _) k h
    refine bytes_ext (by omega) fun i hi' => ?_
    rw [b1 i (by omega), b2 i (by omega)]
    have e : sB s (a + (k - 1 - i)) = sB s (a + k + (k - 1 - (k - 1 - i))) := hi (k - 1 - i) (by omega)
    rw [e]
    congr 1
    omega
set_option maxRecDepth 100000 in
set_option maxHeartbeats 800000 in
theorem rreadBoth_ok (s : ByteArray) (a k : Nat) (w : World) (hs : s.size < 2 ^ 61) (hk : k = 1 ∨ k = 2 ∨ k = 4) (hin : a + 2 * k ≤ s.size) :
    Calls Try.prog 66 #[.string s, .int .i64 a, .int .i64 k] w fun e w' => e = .returned (.tuple #[.int .i64 (leR s a k), .bool (decide (leR s a k = beR s (a + k) k)), .int .i64 0]) ∧ Below w.heap.size w w' := by
  have c1 := fun W => part_ok s a (2 * k) W hs (by omega) hin
  rw [show ((2 * k : Nat) : Int) = 2 * (k : Int) by omega] at c1
  have z0 : (s.extract a (a + 2 * k)).size = 2 * k := by rw [ByteArray.size_extract]; omega
  have z2 : ((s.extract a (a + 2 * k)).extract 0 k).size = k := by rw [ByteArray.size_extract, z0]; omega
  have c2 := fun W => value_ok ((s.extract a (a + 2 * k)).extract 0 k) W (by omega)
  have hv : lastN ((s.extract a (a + 2 * k)).extract 0 k) ((s.extract a (a + 2 * k)).extract 0 k).size = leR s a k := by
    rw [z2, lastN, z2, leR]
    refine acc_congr fun i hi => ?_
    rw [Nat.sub_self, Nat.zero_add, sB_extract _ _ _ _ (by omega), Nat.zero_add, sB_extract _ _ _ _ (by omega)]
  rw [hv] at c2
  have c3 := fun W => reverse_ok ((s.extract a (a + 2 * k)).extract 0 k) W (by omega)
  have hh := halves_iff s a k hin
  have hx : decide (leR s a k = beR s (a + k) k) = (((s.extract a (a + 2 * k)).extract k (2 * k)).toList == (⟨((s.extract a (a + 2 * k)).extract 0 k).data.toList.reverse.toArray⟩ : ByteArray).toList) := by
    rw [Bool.eq_iff_iff, decide_eq_true_iff, Lib.bytes_beq_iff]
    exact hh.symm
  rw [hx]
  clear hx hh hv hin
  generalize s.extract a (a + 2 * k) = x at c1 c2 c3 z0 z2 ⊢
  generalize (⟨(x.extract 0 k).data.toList.reverse.toArray⟩ : ByteArray) = y at c3 ⊢
  generalize leR s a k = v at c2 ⊢
  have g1 : (0 : Int) ≤ (k : Int) := by omega
  have g2 : (k : Int) ≤ (x.size : Int) := by omega
  have g3 : (k : Int).toNat = k := Int.toNat_natCast k
  have g4 : k ≤ 2 * k := by omega
  have g7 : (k : Int) ≤ 2 * (k : Int) := by omega
  have g5 : IntKind.i64.wrap (2 * (k : Int)) = 2 * (k : Int) := by rw [IntKind.wrap_i64]; omega
  have g6 : wrap64 (2 * (k : Int)) = 2 * (k : Int) := by unfold wrap64; omega
  have t : (((k : Int) != 1) = false) ∨ (((k : Int) != 1) = true ∧ ((k : Int) != 2) = false) ∨ (((k : Int) != 1) = true ∧ ((k : Int) != 2) = true ∧ ((k : Int) != 4) = false) := by
    rcases hk with rfl | rfl | rfl <;> simp
  clear hk hs
  rcases t with t1 | ⟨t1, t2⟩ | ⟨t1, t2, t4⟩
  all_goals
    go_enter Try.func66, Try.ntmps66
    go_wp2_with (first | (go_at_call 125; (with_reducible refine (c1 _).mono ?_); rintro e w1 ⟨rfl, rfl⟩) | (go_at_call 126; (with_reducible refine (c2 _).mono ?_); rintro e w2 ⟨rfl, rfl⟩))
    refine region_sch (fun _ => True) [(true, 0), (true, 1), (true, 2), (true, 3), (true, 4), (true, 5), (true, 6), (false, 7), (true, 8), (true, 9)] [10, 11] (by kernel_rfl) (by kernel_rfl) (by rintro ⟨_, _, h, _⟩; cases h) (fun _ _ d _ _ h => by cases d <;> exact h) trivial ?_
    simp only [pickM, pickT, List.filterMap_cons, List.filterMap_nil, List.getElem?_cons_zero, List.getElem?_cons_succ, Option.map_some]
    repeat (refine m_float ⟨?_, .inl ⟨?_, .inl ?_⟩, fun K' hK => ?_⟩; rotate_left; (first | rfl | (go_simp; done)); (intro w' hS; go_simp; try rfl); (simp only [Act.put, List.setIfInBounds_toArray, List.set_cons_succ, List.set_cons_zero]; refine hK _ ?_; clear hK K'))
    refine m_loud ?_ (fun K' hK => ?_)
    · rintro ⟨_, _, h, _⟩; cases h
    go_wp2_with (first | (go_at_call 127; (with_reducible refine (c3 _).mono ?_); rintro e w3 ⟨rfl, hB3⟩))
    refine hK _ _ trivial ?_
    clear hK K'
    repeat (refine m_float ⟨?_, .inl ⟨?_, .inl ?_⟩, fun K' hK => ?_⟩; rotate_left; (first | rfl | (go_simp; done)); (intro w' hS; go_simp; try rfl); (simp only [Act.put, List.setIfInBounds_toArray, List.set_cons_succ, List.set_cons_zero]; refine hK _ ?_; clear hK K'))
    refine m_nil ?_
    show wpList Try.prog _ _ (List.cons _ _) _ _
    go_wp2
    go_ret3
    exact ⟨rfl, drew_left hB3⟩
end Go.Proofs.Ytnmlephjhcmbhaa
