/- The reference of package endian: Reverse, Little, Both; part, value, ReadLittle. -/
import Derived.Test.YtnmlephjhcmbhaaRfa
namespace Go.Proofs.Ytnmlephjhcmbhaa
set_option linter.unusedSimpArgs false
set_option linter.unusedVariables false
open Go Go.RowKit
/-- The last k bytes of a list, the last one first. -/
def revK (l : List UInt8) (k : Nat) : List UInt8 := l.reverse.take k
theorem revK_succ (s : ByteArray) (k : Nat) (h : k < s.size) : revK s.data.toList (k + 1) = revK s.data.toList k ++ [s[s.size - 1 - k]'(by omega)] := by
  have hl : k < s.data.toList.reverse.length := by rw [List.length_reverse, list_size]; exact h
  rw [revK, revK, List.take_succ_eq_append_getElem hl, List.getElem_reverse]
  congr 2
set_option maxRecDepth 100000 in
set_option maxHeartbeats 400000 in
theorem reverse_ok (s : ByteArray) (w : World) (hs : s.size ≤ 100000) : Calls Try.prog 127 #[.string s] w fun e w' => e = .returned (.string ⟨s.data.toList.reverse.toArray⟩) ∧ Below w.heap.size w w' := by
  obtain ⟨i0, hi, hz0, hz1, hz2⟩ := info_parts u8Info
  have g1 : wrap64 ((s.size : Int) - 1) = (s.size : Int) - 1 := by unfold wrap64; omega
  have g2 : IntKind.i64.wrap ((s.size : Int) - 1) = (s.size : Int) - 1 := by rw [IntKind.wrap_i64]; omega
  go_enter Try.func127, Try.ntmps127
  go_wp2
  go_loopw [3, 4] (fun out i wr => ∃ k : Nat, i = .int .i64 ((s.size : Int) - 1 - k) ∧ k ≤ s.size ∧ wr.ownsRow w.heap.size 5 1 out k (cb (revK s.data.toList k)) ∧ Below w.heap.size w wr) (fun _ i _ => (intOf i + 1).toNat)
  case atStart =>
    exact ⟨0, by simp, Nat.zero_le _, World.ownsRow_made w #[] 0 (Nat.le_refl _) (by decide) rfl, (Below.refl _ _).alloc (Nat.le_refl _) _⟩
  case round =>
    obtain ⟨k, rfl, hk, hown, hB⟩ := hrel
    obtain ⟨j, hj⟩ : ∃ j : Int, (s.size : Int) - 1 - k = j := ⟨_, rfl⟩
    rw [hj]
    by_cases hlt : k < s.size
    · have HN := Lib.hid (revK_succ s k hlt)
      have hsz := hB.size
      obtain ⟨p, hp⟩ : ∃ p : Nat, s.size - 1 - k = p := ⟨_, rfl⟩
      obtain rfl : j = (p : Int) := by omega
      have hps : p < s.size := by omega
      have hc : (s[s.size - 1 - k]'(by omega)) = s[p]'hps := by simp only [hp]
      rw [hc] at HN
      clear hc
      have q1 : (0 : Int) ≤ (p : Int) := by omega
      have q2 : (p : Int) < (s.size : Int) := by omega
      have q3 : (p : Int).toNat = p := Int.toNat_natCast p
      have q4 : wrap64 ((p : Int) - 1) = (p : Int) - 1 := by unfold wrap64; omega
      have q5 : IntKind.i64.wrap ((p : Int) - 1) = (p : Int) - 1 := by rw [IntKind.wrap_i64]; omega
      have HC := Lib.hid hps
      go_wp2_with (at_builtin; refine wpList_append_own _ rfl _ _ 37 rfl w.heap.size 5 i0 (.int .u8 0) 1 1 Try.underlying37 hi hz0 hz1 hz2 rfl (by decide) _ _ _ rfl (hown.alloc _) ⟨wr.heap.size, 0, none⟩ 1 1 [.int .u8 (s[p]'hps).toNat] rfl rfl ?c1 ?c2 ?c3 ?c4 ?c5 ?_)
      case c1 => intro j u h; exact cell_one_new _ _ _ j u h
      case c2 => intro u h; rw [List.mem_singleton.1 h]; rfl
      case c3 => unfold maxLen; omega
      case c4 => omega
      case c5 => simp; omega
      intro v' w1 hown1 hgrow hnn
      have hB1 : Below w.heap.size w w1 := (hB.alloc hB.size _).grown hgrow (by simp; omega) (fun k e => (hown.lt k e).1)
      have HO : Hid (w1.ownsRow w.heap.size 5 1 v' (k + 1) (cb (revK s.data.toList (k + 1))) ∧ Below w.heap.size w w1) := Lib.hid ⟨by rw [HN.out, cb_snoc]; exact hown1, hB1⟩
      clear hown1 hgrow hnn hown hB hB1
      go_wp2
      case roundEnd => exact ⟨⟨k + 1, by go_num, by omega, HO.out.1, HO.out.2⟩, by simp only [intOf]; omega⟩
    · obtain rfl : k = s.size := by omega
      obtain rfl : j = -1 := by omega
      have hfull : revK s.data.toList s.size = s.data.toList.reverse := by
        rw [revK]
        exact List.take_of_length_le (by rw [List.length_reverse, list_size]; exact Nat.le_refl _)
      rw [hfull] at hown
      have hcv := own_bytes_string (P := Try.prog) (src := 37) (dst := 9) Try.underlying37 Try.underlying5 Try.underlying9 hown
      clear hfull
      go_wp2
      go_ret
      exact ⟨rfl, hB⟩
set_option maxRecDepth 100000 in
set_option maxHeartbeats 400000 in
theorem rlittle_ok (n s : Nat) (w : World) (h1 : 1 ≤ s) (h8 : s ≤ 7) (hn : (n : Int) < 2 ^ (8 * s)) :
    Calls Try.prog 159 #[.int .i64 n, .int .i64 s] w fun e w' => e = .returned (.tuple #[.string ⟨(leL n s).toArray⟩, .int .i64 0]) ∧ Below w.heap.size w w' := by
  have hn62 : (n : Int) < 2 ^ 62 := by have := two_pow_lt_ten s h8; omega
  have c1 := fun W => rfits_ok n s W (by omega) hn62
  rw [decide_eq_true ⟨by omega, hn⟩] at c1
  have c2 := fun W => rbytes_ok n s W (by omega) (by omega)
  clear hn hn62
  go_enter Try.func159, Try.ntmps159
  go_wp2_with (first | (go_at_call 181; (with_reducible refine (c1 _).mono ?_); rintro e w1 ⟨rfl, rfl⟩) | (go_at_call 182; (with_reducible refine (c2 _).mono ?_); rintro e w1 ⟨rfl, hB⟩))
  go_ret2
  exact ⟨rfl, hB⟩
set_option maxRecDepth 100000 in
set_option maxHeartbeats 400000 in
theorem rboth_ok (n s : Nat) (w : World) (hs : s = 1 ∨ s = 2 ∨ s = 4) (hn : (n : Int) < 2 ^ (8 * s)) :
    Calls Try.prog 116 #[.int .i64 n, .int .i64 s] w fun e w' => e = .returned (.tuple #[.string (both n s), .int .i64 0]) ∧ Below w.heap.size w w' := by
  have c1 := fun W => rlittle_ok n s W (by omega) (by omega) hn
  have hz1 : (⟨(leL n s).toArray⟩ : ByteArray).size = s := by
    show (leL n s).toArray.size = _
    rw [List.size_toArray, leL_length]
  have hz2 : (⟨(leL n s).reverse.toArray⟩ : ByteArray).size = s := by
    show (leL n s).reverse.toArray.size = _
    rw [List.size_toArray, List.length_reverse, leL_length]
  have c2 : ∀ W, Calls Try.prog 127 #[.string ⟨(leL n s).toArray⟩] W fun e w' => e = .returned (.string ⟨(leL n s).reverse.toArray⟩) ∧ Below W.heap.size W w' := fun W => reverse_ok ⟨(leL n s).toArray⟩ W (by omega)
  have happ : both n s = (⟨(leL n s).toArray⟩ : ByteArray) ++ ⟨(leL n s).reverse.toArray⟩ := by
    apply ByteArray.ext
    rw [ByteArray.data_append]
    simp [both]
  rw [happ]
  clear hn happ
  generalize (⟨(leL n s).toArray⟩ : ByteArray) = A at c1 c2 hz1 ⊢
  generalize (⟨(leL n s).reverse.toArray⟩ : ByteArray) = B at c2 hz2 ⊢
  have h9 : ¬ 9223372036854775807 < s + s := by omega
  have t : (((s : Int) != 1) = false) ∨ (((s : Int) != 1) = true ∧ ((s : Int) != 2) = false) ∨ (((s : Int) != 1) = true ∧ ((s : Int) != 2) = true ∧ ((s : Int) != 4) = false) := by
    rcases hs with rfl | rfl | rfl <;> simp
  clear hs
  rcases t with t1 | ⟨t1, t2⟩ | ⟨t1, t2, t4⟩
  all_goals
    go_enter Try.func116, Try.ntmps116
    go_wp2_with (first | (go_at_call 159; (with_reducible refine (c1 _).mono ?_); rintro e w1 ⟨rfl, hB1⟩) | (go_at_call 127; (with_reducible refine (c2 _).mono ?_); rintro e w2 ⟨rfl, hB2⟩))
    go_ret2
    exact ⟨rfl, bthen hB1 hB2⟩
set_option maxRecDepth 100000 in
set_option maxHeartbeats 400000 in
theorem rboth20_ok (n s : Nat) (w : World) (hs : s = 1 ∨ s = 2 ∨ s = 4) (hn : (n : Int) < 2 ^ (8 * s)) :
    Calls Try.prog 58 #[.int .i64 n, .int .i64 s] w fun e w' => e = .returned (.string (both n s)) ∧ Below w.heap.size w w' := by
  have c1 := fun W => rboth_ok n s W hs hn
  clear hn hs
  go_enter Try.func58, Try.ntmps58
  go_wp2_with (first | (go_at_call 116; (with_reducible refine (c1 _).mono ?_); rintro e w1 ⟨rfl, hB1⟩))
  go_ret
  exact ⟨rfl, hB1⟩
end Go.Proofs.Ytnmlephjhcmbhaa
