/- Contracts of Sequence and Register of package scrambler and of the reference, and of awake. -/
import Derived.Test.YtmpojdjknahoiaaSeq
import Derived.Test.YtmpojdjknahoiaaPer
namespace Go.Proofs.Ytmpojdjknahoiaa
open Go Go.RowKit
abbrev Seqs (n : Nat) : Value := .string ⟨(seqL n).toArray⟩
theorem row_string {P : Program} {w : World} {B e src dst : Nat} {bs : List UInt8} {n cap : Nat}
    (hs : P.underlying src = some (.slice e)) (he : P.underlying e = some (.int .u8)) (hd : P.underlying dst = some .string) (hn : bs.length = n)
    (h : w.heap[B]? = some (.cells (cb bs).toArray e (0, 0))) : (convert src dst (.slice (some ⟨B, 0, none⟩) n cap)).run P w = .ok (.string ⟨bs.toArray⟩) w := by
  rw [run_convert_bytes_arg (P := P) w src e hs he B 0 n cap (bs.map fun b => (b.toNat : Int)) (by simpa using hn) ?_ dst hd]
  · congr 2
    simp only [strOfNums, List.map_map]
    congr 2
    rw [show ((fun n : Int => UInt8.ofNat n.toNat) ∘ fun b : UInt8 => (b.toNat : Int)) = id from by funext b; simp]
    simp
  · intro i hi
    rw [Nat.zero_add, cell_of_row w _ _ _ _ _ h]
    simp [cb, List.getElem?_eq_getElem (show i < bs.length by omega)]
theorem seqL_length (n : Nat) : (seqL n).length = n := by simp [seqL]
set_option maxHeartbeats 400000 in
theorem seq_ok (n : Nat) (w : World) (h : (n : Int) ≤ 65536) :
    Calls Try.prog 11 #[.int .i64 n] w fun e w' => e = .returned (.tuple #[Seqs n, .int .i64 0]) ∧ Below w.heap.size w w' := by
  go_enter Try.func11, Try.ntmps11
  go_wp2_with (go_at_call 21; refine (callsIn_wide.1 (sequence_in n _ h)).mono ?_; rintro e w1 ⟨rfl, hr, hB⟩; have hcv := row_string (P := Try.prog) (src := 40) (dst := 9) (cap := n) Try.underlying40 Try.underlying5 Try.underlying9 (seqL_length n) hr; clear hr)
  go_ret2
  exact ⟨rfl, hB⟩
set_option maxHeartbeats 400000 in
theorem seq_err (n : Int) (w : World) (h : n < 0 ∨ 65536 < n) :
    Calls Try.prog 11 #[.int .i64 n] w fun e w' => e = .returned (.tuple #[.string ByteArray.empty, .int .i64 2]) ∧ w = w' := by
  rcases h with h | h
  all_goals
    go_enter Try.func11, Try.ntmps11
    go_wp2_with fail
    go_ret2
    exact ⟨rfl, rfl⟩
set_option maxHeartbeats 400000 in
theorem refSeq_err (n : Int) (w : World) (h : n < 0 ∨ 65536 < n) :
    Calls Try.prog 12 #[.int .i64 n] w fun e w' => e = .returned (.tuple #[.string ByteArray.empty, .int .i64 2]) ∧ w = w' := by
  rcases h with h | h
  all_goals
    go_enter Try.func12, Try.ntmps12
    go_wp2_with fail
    go_ret2
    exact ⟨rfl, rfl⟩

theorem reg13_ok (n : Nat) (w : World) (h : (n : Int) ≤ 1048576) :
    Calls Try.prog 13 #[.int .i64 n] w fun e w' => e = .returned (.tuple #[.int .i64 (reg n), .int .i64 0]) ∧ Below w.heap.size w w' := callsIn_wide.1 (register_ok n w h)
set_option maxHeartbeats 400000 in
theorem reg13_err (n : Int) (w : World) (h : n < 0 ∨ 1048576 < n) :
    Calls Try.prog 13 #[.int .i64 n] w fun e w' => e = .returned (.tuple #[.int .i64 0, .int .i64 2]) ∧ Below w.heap.size w w' := by
  rcases h with h | h
  all_goals
    go_enter Try.func13, Try.ntmps13
    go_wp2_with fail
    refine bodyPost_ret (v := .tuple #[.int .i64 0, .int .i64 2]) (by simp [results, Try.results13, go_sem]) rfl ⟨rfl, ?_⟩
    exact (((Below.refl _ w).alloc (Nat.le_refl _) _).alloc (by simp) _).alloc (by simp; omega) _
theorem ref14_ok (n : Nat) (w : World) (h : n ≤ 1048576) :
    Calls Try.prog 14 #[.int .i64 n] w fun e w' => e = .returned (.tuple #[.int .i64 (reg n), .int .i64 0]) ∧ w = w' := by
  have := refRegister_ok n w h
  rwa [reg_mod] at this
theorem seqL_eight : seqL 8 = [1, 128, 0, 96, 0, 40, 0, 30] := by decide +kernel
theorem reg_one : reg 1 = 16384 := by decide
set_option maxHeartbeats 400000 in
theorem awake_ok (w : World) : Calls Try.prog 10 #[] w fun e w' => e = .returned (.bool true) ∧ Below w.heap.size w w' := by
  have h1 := fun W => seq_ok 8 W (by omega)
  have h2 := fun W => reg13_ok 1 W (by omega)
  simp only [Seqs, seqL_eight, reg_one] at h1 h2
  go_enter Try.func10, Try.ntmps10
  go_wp2_with (first | (go_at_call 11; refine (h1 _).mono ?_; rintro e w1 ⟨rfl, hB1⟩) | (go_at_call 13; refine (h2 _).mono ?_; rintro e w2 ⟨rfl, hB2⟩))
  go_ret
  exact ⟨rfl, hB1.trans (hB2.mono hB1.size)⟩
end Go.Proofs.Ytmpojdjknahoiaa
