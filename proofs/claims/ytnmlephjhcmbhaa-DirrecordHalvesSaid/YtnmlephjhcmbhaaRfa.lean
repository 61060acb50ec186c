/- The reference of package endian: fits, Bytes, Reverse, Little, Both; part, value, ReadLittle, ReadBoth. -/
import Derived.Test.YtnmlephjhcmbhaaEnq
namespace Go.Proofs.Ytnmlephjhcmbhaa
set_option linter.unusedSimpArgs false
set_option linter.unusedVariables false
open Go Go.RowKit
theorem pow_succ8 (k : Nat) : 2 ^ (8 * (k + 1)) = 2 ^ (8 * k) * 256 := by rw [show 8 * (k + 1) = 8 * k + 8 by omega, Nat.pow_add]
/-- A number, k bytes taken off. -/
def dv8 (m k : Nat) : Nat := m / 2 ^ (8 * k)
theorem dv8_zero (m : Nat) : dv8 m 0 = m := by simp [dv8]
theorem dv8_succ (m k : Nat) : dv8 m (k + 1) = dv8 m k / 256 := by rw [dv8, dv8, pow_succ8, Nat.div_div_eq_div_mul]
theorem dv8_eq_zero (m k : Nat) : dv8 m k = 0 ↔ m < 2 ^ (8 * k) := by rw [dv8, Nat.div_eq_zero_iff]; have := Nat.two_pow_pos (8 * k); omega
theorem dv8_byte (m k : Nat) : byteAt m k = UInt8.ofNat (dv8 m k) := rfl
set_option maxRecDepth 100000 in
set_option maxHeartbeats 400000 in
theorem rfits_ok (n : Int) (s : Nat) (w : World) (h8 : s ≤ 8) (hn : n < 2 ^ 62) : Calls Try.prog 181 #[.int .i64 n, .int .i64 s] w fun e w' => e = .returned (.bool (decide (0 ≤ n ∧ n < 2 ^ (8 * s)))) ∧ w = w' := by
  by_cases h0 : n < 0
  · rw [show decide (0 ≤ n ∧ n < 2 ^ (8 * s)) = false by simp; omega]
    go_enter Try.func181, Try.ntmps181
    go_wp2
    go_ret
    exact ⟨rfl, rfl⟩
  · obtain ⟨m, rfl⟩ : ∃ m : Nat, n = m := ⟨n.toNat, by omega⟩
    have HM : Hid (m < 2 ^ 62) := Lib.hid (by omega)
    clear hn
    have e : decide (0 ≤ (m : Int) ∧ (m : Int) < 2 ^ (8 * s)) = (((dv8 m s : Nat) : Int) == 0) := by
      rw [Bool.eq_iff_iff, decide_eq_true_iff, beq_iff_eq]
      have := dv8_eq_zero m s
      have e2 : ((2 ^ (8 * s) : Nat) : Int) = (2 : Int) ^ (8 * s) := Int.natCast_pow _ _
      rw [← e2]
      omega
    rw [e]
    clear e
    go_enter Try.func181, Try.ntmps181
    go_wp2
    go_loop [0, 5] (fun x i => ∃ k : Nat, i = .int .i64 k ∧ k ≤ s ∧ x = .int .i64 (dv8 m k : Nat)) (fun _ i => s - (intOf i).toNat)
    case atStart => exact ⟨0, rfl, Nat.zero_le _, by rw [dv8_zero]⟩
    case round =>
      obtain ⟨k, rfl, hk, rfl⟩ := hrel
      by_cases hlt : (k : Int) < s
      · have hd := dv8_succ m k
        have hm62 : dv8 m k < 2 ^ 62 := Nat.lt_of_le_of_lt (Nat.div_le_self _ _) HM.out
        obtain ⟨y, hy⟩ : ∃ y, dv8 m (k + 1) = y := ⟨_, rfl⟩
        rw [hy] at hd
        have HY := Lib.hid hy
        clear hy
        generalize dv8 m k = x at hd hm62
        have g1 : ((x : Nat) : Int) / 256 = (y : Int) := by omega
        have g2 : ((x : Nat) : Int).tdiv 256 = (y : Int) := by rw [Int.tdiv_eq_ediv_of_nonneg (by omega)]; omega
        have g4 : wrap64 (y : Int) = (y : Int) := by unfold wrap64; omega
        clear hd hm62
        go_wp2
        case roundEnd =>
          refine ⟨⟨k + 1, by go_num, by omega, ?_⟩, by simp only [intOf]; omega⟩
          rw [HY.out, g4]
      · obtain rfl : k = s := by omega
        go_wp2
        go_ret
        exact ⟨rfl, rfl⟩
set_option maxRecDepth 100000 in
set_option maxHeartbeats 400000 in
theorem rbytes_ok (m s : Nat) (w : World) (h8 : s ≤ 8) (hm : m < 2 ^ 62) : Calls Try.prog 182 #[.int .i64 m, .int .i64 s] w fun e w' => e = .returned (.string ⟨(leL m s).toArray⟩) ∧ Below w.heap.size w w' := by
  obtain ⟨i0, hi, hz0, hz1, hz2⟩ := info_parts u8Info
  have HM := Lib.hid hm
  clear hm
  go_enter Try.func182, Try.ntmps182
  go_wp2
  go_loopw [0, 5, 6] (fun x out i wr => ∃ k : Nat, i = .int .i64 k ∧ k ≤ s ∧ x = .int .i64 (dv8 m k : Nat) ∧ wr.ownsRow w.heap.size 5 1 out k (cb (leL m k)) ∧ Below w.heap.size w wr) (fun _ _ i _ => s - (intOf i).toNat)
  case atStart =>
    exact ⟨0, rfl, Nat.zero_le _, by rw [dv8_zero], World.ownsRow_made w #[] 0 (Nat.le_refl _) (by decide) rfl, (Below.refl _ _).alloc (Nat.le_refl _) _⟩
  case round =>
    obtain ⟨k, rfl, hk, rfl, hown, hB⟩ := hrel
    by_cases hlt : (k : Int) < s
    · have hd := dv8_succ m k
      have hm62 : dv8 m k < 2 ^ 62 := Nat.lt_of_le_of_lt (Nat.div_le_self _ _) HM.out
      have hsz := hB.size
      have HN := Lib.hid (leL_succ m k)
      have hb : IntKind.u8.wrap (((dv8 m k : Nat) : Int) % 256) = ((byteAt m k).toNat : Int) := by
        rw [dv8_byte, IntKind.wrap_u8]
        simp
      obtain ⟨y, hy⟩ : ∃ y, dv8 m (k + 1) = y := ⟨_, rfl⟩
      rw [hy] at hd
      have HY := Lib.hid hy
      clear hy
      generalize byteAt m k = c at hb HN
      generalize dv8 m k = x at hd hb hm62
      have g1 : ((x : Nat) : Int) / 256 = (y : Int) := by omega
      have g2 : ((x : Nat) : Int).tdiv 256 = (y : Int) := by rw [Int.tdiv_eq_ediv_of_nonneg (by omega)]; omega
      have g3 : ((x : Nat) : Int).tmod 256 = ((x : Nat) : Int) % 256 := Int.tmod_eq_emod_of_nonneg (by omega)
      have g4 : wrap64 (y : Int) = (y : Int) := by unfold wrap64; omega
      clear hd hm62
      go_wp2_with (at_builtin; refine wpList_append_own _ rfl _ _ 37 rfl w.heap.size 5 i0 (.int .u8 0) 1 1 Try.underlying37 hi hz0 hz1 hz2 rfl (by decide) _ _ _ rfl (hown.alloc _) ⟨wr.heap.size, 0, none⟩ 1 1 [.int .u8 c.toNat] rfl rfl ?c1 ?c2 ?c3 ?c4 ?c5 ?_)
      case c1 => intro j u h; exact cell_one_new _ _ _ j u h
      case c2 => intro u h; rw [List.mem_singleton.1 h]; rfl
      case c3 => unfold maxLen; omega
      case c4 => omega
      case c5 => simp; omega
      intro v' w1 hown1 hgrow hnn
      have hB1 : Below w.heap.size w w1 := (hB.alloc hB.size _).grown hgrow (by simp; omega) (fun k e => (hown.lt k e).1)
      have HO : Hid (w1.ownsRow w.heap.size 5 1 v' (k + 1) (cb (leL m (k + 1))) ∧ Below w.heap.size w w1) := Lib.hid ⟨by rw [HN.out, cb_snoc]; exact hown1, hB1⟩
      clear hown1 hgrow hnn hown hB hB1
      go_wp2
      case roundEnd => exact ⟨⟨k + 1, by go_num, by omega, by rw [HY.out, g4], HO.out.1, HO.out.2⟩, by simp [intOf]; omega⟩
    · obtain rfl : k = s := by omega
      generalize dv8 m k = x
      have hcv := own_bytes_string (P := Try.prog) (src := 37) (dst := 9) Try.underlying37 Try.underlying5 Try.underlying9 hown
      go_wp2
      go_ret
      exact ⟨rfl, hB⟩
end Go.Proofs.Ytnmlephjhcmbhaa
