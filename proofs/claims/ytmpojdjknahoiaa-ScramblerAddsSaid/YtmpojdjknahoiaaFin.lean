/- What Find of package scrambler and of the reference return. -/
import Derived.Test.YtmpojdjknahoiaaFnd
import Derived.Test.YtmpojdjknahoiaaShelf
import Derived.Lib.SlicesS
namespace Go.Proofs.Ytmpojdjknahoiaa
open Go Go.RowKit
theorem list_size (s : ByteArray) : s.data.toList.length = s.size := Array.length_toList
theorem at_iff_ext (s : ByteArray) (n i : Nat) (h : i + s.size ≤ n) : At s.data.toList i ↔ (⟨(seqL n).toArray⟩ : ByteArray).extract i (i + s.size) = s := by
  have hl : ((⟨(seqL n).toArray⟩ : ByteArray).extract i (i + s.size)).data.toList = ((seqL n).drop i).take s.size := by
    rw [ByteArray.data_extract, List.extract_toArray, List.extract_eq_take_drop, Nat.add_sub_cancel_left]
  constructor
  · intro hat
    apply ByteArray.ext
    apply Array.toList_inj.mp
    rw [hl]
    apply List.ext_getElem?
    intro j
    rcases Nat.lt_or_ge j s.size with hj | hj
    · rw [hat j (by rw [list_size]; exact hj), List.getElem?_take_of_lt hj, List.getElem?_drop, seqL_at n _ (by omega)]
    · rw [List.getElem?_eq_none (by rw [List.length_take]; omega), List.getElem?_eq_none (by rw [list_size]; exact hj)]
  · intro he j hj
    rw [list_size] at hj
    rw [← he, hl, List.getElem?_take_of_lt hj, List.getElem?_drop, seqL_at n _ (by omega)]
set_option maxRecDepth 100000 in
set_option maxHeartbeats 400000 in
theorem find_err (s : ByteArray) (w : World) (h : s.size < 2 ∨ 4096 < s.size) :
    Calls Try.prog 19 #[.string s] w fun e w' => e = .returned (.tuple #[.int .i64 0, .bool false]) ∧ w = w' := by
  rcases h with h | h
  all_goals
    go_enter Try.func19, Try.ntmps19
    go_wp2_with fail
    go_ret2
    exact ⟨rfl, rfl⟩
set_option maxRecDepth 100000 in
set_option maxHeartbeats 400000 in
theorem refFind_err (s : ByteArray) (w : World) (h : s.size < 2 ∨ 4096 < s.size) :
    Calls Try.prog 20 #[.string s] w fun e w' => e = .returned (.tuple #[.int .i64 0, .bool false]) ∧ w = w' := by
  rcases h with h | h
  all_goals
    go_enter Try.func20, Try.ntmps20
    go_wp2_with fail
    go_ret2
    exact ⟨rfl, rfl⟩
set_option maxRecDepth 100000 in
set_option maxHeartbeats 400000 in
theorem find_ok (s : ByteArray) (m r : Int) (w : World) (h2 : 2 ≤ s.size) (h4 : s.size ≤ 4096) (hm : w.cell? ⟨0, 0, none⟩ = some (.int .i64 m)) (hP : Place s.data.toList r) :
    Calls Try.prog 19 #[.string s] w fun e w' => e = .returned (.tuple #[.int .i64 (max r 0), .bool (decide (0 ≤ r))]) ∧ Below w.heap.size w w' := by
  have c1 := fun W => callsIn_wide.1 (sequence_in (32766 + s.size) W (by omega))
  rw [show ((32766 + s.size : Nat) : Int) = 32767 + (s.size : Int) - 1 by omega] at c1
  have hI := index_place s.data.toList (by rw [list_size]; omega)
  rw [list_size] at hI
  have hr := hP.unique hI
  have hlen := seqL_length (32766 + s.size)
  have hw0 := World.block_lt_of_cell? w _ hm
  simp only at hw0
  clear hI hP
  generalize seqL (32766 + s.size) = L at c1 hr hlen
  have c2 : ∀ W : World, W.cell? ⟨0, 0, none⟩ = some (.int .i64 m) → Calls Try.prog 24 #[.string ⟨L.toArray⟩, .string s] W fun e w' => e = .returned (.int .i64 r) ∧ W = w' := by
    intro W hW
    refine (Try.strings_Index ⟨L.toArray⟩ s m W ?_ hW).mono fun e w' ⟨he, hw⟩ => ⟨by rw [he, hr], hw.symm⟩
    show L.toArray.size < _
    rw [List.size_toArray]
    omega
  have HL := Lib.hid hlen
  clear hlen hr
  go_enter Try.func19, Try.ntmps19
  go_wp2_with (first | (go_at_call 21; (with_reducible refine (c1 _).mono ?_); rintro e w1 ⟨rfl, hr, hB⟩; have hcv := row_string (P := Try.prog) (src := 40) (dst := 9) (cap := 32766 + s.size) Try.underlying40 Try.underlying5 Try.underlying9 HL.out hr; clear hr; have hm1 := (hB.cell (p := ⟨0, 0, none⟩) hw0).trans hm) | (go_at_call 24; (with_reducible refine (c2 _ hm1).mono ?_); rintro e w2 ⟨rfl, rfl⟩))
  go_ret2
  exact ⟨rfl, hB⟩
set_option maxRecDepth 100000 in
set_option maxHeartbeats 400000 in
theorem refFind_ok (s : ByteArray) (r : Int) (w : World) (h2 : 2 ≤ s.size) (h4 : s.size ≤ 4096) (hP : Place s.data.toList r) :
    Calls Try.prog 20 #[.string s] w fun e w' => e = .returned (.tuple #[.int .i64 (max r 0), .bool (decide (0 ≤ r))]) ∧ Below w.heap.size w w' := by
  have c1 := fun W => refSeq_ok (32767 + s.size) W (by omega)
  rw [show ((32767 + s.size : Nat) : Int) = 32767 + (s.size : Int) by omega] at c1
  have hsz : (⟨(seqL (32767 + s.size)).toArray⟩ : ByteArray).size = 32767 + s.size := by
    show (seqL (32767 + s.size)).toArray.size = _
    rw [List.size_toArray, seqL_length]
  have HO : Hid (∀ i, i < 32767 → ((⟨(seqL (32767 + s.size)).toArray⟩ : ByteArray).extract i (i + s.size) = s ↔ At s.data.toList i)) := Lib.hid fun i hi => by
    rw [at_iff_ext s (32767 + s.size) i (by omega)]
  have HP := Lib.hid hP
  have hsz1 : ∀ k : Nat, k < 32767 → k + s.size ≤ (⟨(seqL (32767 + s.size)).toArray⟩ : ByteArray).size := fun k hk => by rw [hsz]; omega
  clear hP hsz
  generalize (⟨(seqL (32767 + s.size)).toArray⟩ : ByteArray) = A at c1 HO hsz1
  have HZ := Lib.hid hsz1
  clear hsz1
  go_enter Try.func20, Try.ntmps20
  go_wp2_with (go_at_call 12; (with_reducible refine (c1 _).mono ?_); rintro e w1 ⟨rfl, hB⟩)
  obtain ⟨N, hN⟩ : ∃ N : Nat, N = 32767 := ⟨_, rfl⟩
  have HM := Lib.hid hN
  clear hN
  go_loop [6] (fun i => ∃ k : Nat, i = .int .i64 k ∧ k ≤ N ∧ ∀ j, j < k → ¬ At s.data.toList j) (fun i => N - (intOf i).toNat)
  case atStart => exact ⟨0, rfl, Nat.zero_le _, fun j hj => absurd hj (Nat.not_lt_zero _)⟩
  case round =>
    obtain ⟨k, rfl, hk, hno⟩ := hrel
    have HN := Lib.hid hno
    clear hno
    by_cases hlt : (k : Int) < 32767
    · have hs1 := HZ.out k (by omega)
      have f1 : (0 : Int) ≤ (k : Int) := Int.natCast_nonneg k
      have f2 : (k : Int) + (s.size : Int) ≤ (A.size : Int) := by omega
      have f3 : ((k : Int) + (s.size : Int)).toNat = k + s.size := by omega
      have f4 : (k : Int) ≤ (k : Int) + (s.size : Int) := by omega
      have f5 : (k : Int).toNat = k := Int.toNat_natCast k
      have f6 : IntKind.i64.wrap ((k : Int) + (s.size : Int)) = (k : Int) + (s.size : Int) := by rw [IntKind.wrap_i64]; omega
      by_cases hat : At s.data.toList k
      · have f7 := (HO.out k (by omega)).2 hat
        iterate 44 go_step
        generalize A.extract k (k + s.size) = B at f7 ⊢
        have hr : r = (k : Int) := HP.out.unique (.inr ⟨k, rfl, by omega, hat, HN.out⟩)
        clear HP HN HO HZ hs1 hat
        subst hr f7
        have e1 : max (k : Int) 0 = (k : Int) := by omega
        have e2 : decide (0 ≤ (k : Int)) = true := by simp
        go_wp2
        go_ret2
        refine ⟨?_, hB⟩
        rfl
      · have f7 := fun h => hat ((HO.out k (by omega)).1 h)
        iterate 44 go_step
        generalize A.extract k (k + s.size) = B at f7 ⊢
        have f8 : (B.toList == s.toList) = false := (Lib.bytes_beq_false_iff B s).2 f7
        have f10 : IntKind.i64.wrap ((k : Int) + 1) = ((k + 1 : Nat) : Int) := by rw [IntKind.wrap_i64]; omega
        have HA := Lib.hid hat
        clear f7 hat
        go_wp2
        go_goals
        have HM1 := HM.out
        refine ⟨⟨k + 1, rfl, by omega, fun j hj => ?_⟩, ?_⟩
        · rcases Nat.lt_or_ge j k with h | h
          · exact HN.out j h
          · rw [show j = k by omega]; exact HA.out
        · simp only [intOf]
          omega
    · have hr : r = -1 := HP.out.unique (.inl ⟨rfl, fun i hi => HN.out i (by omega)⟩)
      subst hr
      go_wp2
      go_ret2
      exact ⟨rfl, hB⟩
end Go.Proofs.Ytmpojdjknahoiaa
