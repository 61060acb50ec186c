/- The register and the sequence of the reference: what masterdiscref05.step, Register and Sequence return. -/
import Derived.Test.YtmpojdjknahoiaaProg
import Derived.WalkKit
import Derived.WalkSpells
import Derived.WalkLawsBesides
import Derived.Lib.Hide
namespace Go.Proofs.Ytmpojdjknahoiaa
open Go.RowKit
def stp (x : Nat) : Nat := x / 2 + (x % 2 + x / 2 % 2) % 2 * 16384
def reg : Nat → Nat
  | 0 => 1
  | n + 1 => stp (reg n)
theorem stp_lt {x : Nat} (h : x < 32768) : stp x < 32768 := by unfold stp; omega
theorem reg_lt (n : Nat) : reg n < 32768 := by
  induction n with
  | zero => decide
  | succ n ih => exact stp_lt ih
theorem ret_int {k : IntKind} {a b : Int} (h : a = b) : Ending.returned (.int k a) = .returned (.int k b) := by rw [h]
set_option maxHeartbeats 400000 in
theorem step_any (a : Nat) (w : World) (h1 : a < 32768) :
    Calls Try.prog 22 #[.int .i64 a] w fun e w' => e = .returned (.int .i64 (stp a)) ∧ w = w' := by
  go_enter Try.func22, Try.ntmps22
  go_wp2
  go_ret
  exact ⟨ret_int (by unfold stp; omega), rfl⟩

/-- the cells of a list of bytes -/
def cb (bs : List UInt8) : List Value := bs.map fun b => .int .u8 (b.toNat : Int)
theorem cb_length (bs : List UInt8) : (cb bs).length = bs.length := by simp [cb]
theorem cb_snoc (bs : List UInt8) (b : UInt8) : cb (bs ++ [b]) = cb bs ++ [.int .u8 (b.toNat : Int)] := by simp [cb]
theorem own_bytes_string {P : Program} {w : World} {base e src dst n : Nat} {v : Value} {bs : List UInt8}
    (hs : P.underlying src = some (.slice e)) (he : P.underlying e = some (.int .u8)) (hd : P.underlying dst = some .string)
    (h : w.ownsRow base e 1 v n (cb bs)) : (convert src dst v).run P w = .ok (.string ⟨bs.toArray⟩) w := by
  have hlen : bs.length = n := by have := h.1; simpa [cb_length] using this
  rcases h.2 with ⟨rfl, rfl⟩ | ⟨g, cap, cur, rfl, hb, hg, hnc, hcm, hcs, htake⟩
  · obtain rfl : bs = [] := List.eq_nil_of_length_eq_zero hlen
    exact run_convert_bytes_nil (P := P) w src e hs he 0 0 dst hd
  · rw [run_convert_bytes_arg (P := P) w src e hs he g 0 n cap (bs.map fun b => (b.toNat : Int)) (by simpa using hlen) ?_ dst hd]
    · congr 2
      simp only [strOfNums, List.map_map]
      congr 2
      rw [show ((fun n : Int => UInt8.ofNat n.toNat) ∘ fun b : UInt8 => (b.toNat : Int)) = id from by funext b; simp]
      simp
    · intro i hi
      have hc := World.ownsRow.cellAt h i (by omega)
      rw [Nat.zero_add, hc]
      simp [cb, List.getElem?_eq_getElem (show i < bs.length by omega)]

def byteAcc (s : Nat) : Nat → Nat
  | 0 => 0
  | j + 1 => byteAcc s j + reg (s + j) % 2 * 2 ^ j
theorem byteAcc_lt (s j : Nat) : byteAcc s j < 2 ^ j := by
  induction j with
  | zero => simp [byteAcc]
  | succ j ih =>
    simp only [byteAcc, Nat.pow_succ]
    rcases Nat.mod_two_eq_zero_or_one (reg (s + j)) with h | h <;> rw [h] <;> omega
def seqB (i : Nat) : UInt8 := UInt8.ofNat (byteAcc (8 * i) 8)
def seqL (n : Nat) : List UInt8 := (List.range n).map seqB
theorem seqL_succ (n : Nat) : seqL (n + 1) = seqL n ++ [seqB n] := by simp [seqL, List.range_succ]
theorem pow_le_256 {j : Nat} (h : j ≤ 8) : 2 ^ j ≤ 256 := Nat.pow_le_pow_right (n := 2) (by decide) h

theorem Try.infoB : (Try.prog.info? 5).map (fun i => (i.zero, i.size, i.bytes)) = some (some (.int .u8 0), 1, 1) := by kernel_rfl

def SeqRel (w : World) (n k : Nat) (v : Value) (wr : World) : Prop := k ≤ n ∧ wr.ownsRow w.heap.size 5 1 v k (cb (seqL k)) ∧ Below w.heap.size w wr

set_option maxHeartbeats 400000 in
theorem refSeq_ok (n : Nat) (w : World) (h : (n : Int) ≤ 65536) :
    Calls Try.prog 12 #[.int .i64 n] w fun e w' => e = .returned (.tuple #[.string ⟨(seqL n).toArray⟩, .int .i64 0]) ∧ Below w.heap.size w w' := by
  obtain ⟨i0, hi, hz0, hz1, hz2⟩ := info_parts Try.infoB
  go_enter Try.func12, Try.ntmps12
  go_wp2
  go_loopw [4, 5, 6] (fun x out i wr => ∃ k : Nat, i = .int .i64 k ∧ x = .int .i64 (reg (8 * k)) ∧ SeqRel w n k out wr) (fun _ _ i _ => n - (intOf i).toNat)
  case atStart =>
    exact ⟨0, rfl, rfl, Nat.zero_le _, World.ownsRow_made w #[] 0 (Nat.le_refl _) (by decide) rfl, (Below.refl _ _).alloc (Nat.le_refl _) _⟩
  case round =>
    obtain ⟨k, rfl, rfl, hkn, hown, hB⟩ := hrel
    by_cases hlt : k < n
    · go_wp2
      go_loop [4, 7, 8, 9] (fun x b wt jj => ∃ j : Nat, j ≤ 8 ∧ jj = .int .i64 j ∧ x = .int .i64 (reg (8 * k + j)) ∧ b = .int .i64 (byteAcc (8 * k) j) ∧ wt = .int .i64 ((2 ^ j : Nat) : Int)) (fun _ _ _ j => 8 - (intOf j).toNat)
      case atStart => exact ⟨0, by omega, rfl, rfl, rfl, rfl⟩
      case round =>
        obtain ⟨j, hj, rfl, rfl, rfl, rfl⟩ := hrel
        have hr := reg_lt (8 * k + j)
        have HS : Hid (reg (8 * k + (j + 1)) = stp (reg (8 * k + j))) := rfl
        have HA : Hid (byteAcc (8 * k) (j + 1) = byteAcc (8 * k) j + reg (8 * k + j) % 2 * 2 ^ j) := rfl
        have HP : Hid (2 ^ (j + 1) = 2 * 2 ^ j) := Nat.pow_succ'
        have hacc := byteAcc_lt (8 * k) j
        have hpow := pow_le_256 hj
        generalize hX : reg (8 * k + j) = X at *
        generalize hY : byteAcc (8 * k) j = Y at *
        generalize hZ : 2 ^ j = Z at *
        have HX := Lib.hid hX
        have HY := Lib.hid hY
        clear hX hY hZ
        have hq0 : 0 ≤ (X : Int) % 2 * (Z : Int) := Int.mul_nonneg (by omega) (by omega)
        have hq1 : (X : Int) % 2 * (Z : Int) ≤ 256 := by
          rcases Int.emod_two_eq (X : Int) with h | h <;> rw [h] <;> omega
        by_cases hj8 : j < 8
        · go_wp2_with (go_at_call 22; refine (step_any _ _ hr).mono ?_; rintro e w' ⟨rfl, rfl⟩)
          go_round
          case rel => exact ⟨j + 1, by omega, by go_num, by rw [HS.out], by rw [HA.out]; go_num, by rw [HP.out]; go_num⟩
          case measure => simp [intOf]; omega
        · obtain rfl : j = 8 := by omega
          have hlenk : (cb (seqL k)).length = k := hown.1.trans (Nat.mul_one k)
          have hsz := hB.size
          have HN : Hid (seqL (k + 1) = seqL k ++ [seqB k]) := seqL_succ k
          go_wp2_with (at_builtin; refine wpList_append_own _ rfl _ _ 40 rfl w.heap.size 5 i0 (.int .u8 0) 1 1 Try.underlying40 hi hz0 hz1 hz2 rfl (by decide) _ _ _ rfl (hown.alloc _) ⟨wr.heap.size, 0, none⟩ 1 1 [.int .u8 Y] rfl rfl ?c1 ?c2 ?c3 ?c4 ?c5 ?_)
          case c2 => rfl
          case c3 => unfold maxLen; omega
          case c4 => omega
          case c5 => omega
          intro v' w1 hown1 hgrow hnn
          have hB1 : Below w.heap.size w w1 := (hB.alloc hB.size _).grown hgrow (by simp; omega) (fun k e => (hown.lt k e).1)
          have hown2 : SeqRel w n (k + 1) v' w1 := ⟨by omega, by rw [HN.out, cb_snoc, seqB, HY.out, UInt8.toNat_ofNat', Nat.mod_eq_of_lt (by omega)]; exact hown1, hB1⟩
          have HO := Lib.hid hown2
          clear hown1 hown2 hgrow hnn hown hB
          go_wp2
          go_roundw
          case rel => exact ⟨k + 1, by go_num, by rw [← HX.out]; rfl, HO.out⟩
          case measure => simp [intOf]; omega
    · obtain rfl : k = n := by omega
      have hcv := own_bytes_string (P := Try.prog) (src := 40) (dst := 9) Try.underlying40 Try.underlying5 Try.underlying9 hown
      go_wp2
      go_ret2
      exact ⟨rfl, hB⟩
set_option maxHeartbeats 400000 in
theorem refRegister_err (n : Int) (w : World) (h : n < 0 ∨ 1048576 < n) :
    Calls Try.prog 14 #[.int .i64 n] w fun e w' => e = .returned (.tuple #[.int .i64 0, .int .i64 2]) ∧ w = w' := by
  rcases h with h | h
  all_goals
    go_enter Try.func14, Try.ntmps14
    go_wp2
    go_ret2
    exact ⟨rfl, rfl⟩
set_option maxHeartbeats 400000 in
theorem refRegister_ok (n : Nat) (w : World) (h : n ≤ 1048576) :
    Calls Try.prog 14 #[.int .i64 n] w fun e w' => e = .returned (.tuple #[.int .i64 (reg (n % 32767)), .int .i64 0]) ∧ w = w' := by
  have h2 : (n : Int) ≤ 1048576 := by omega
  clear h
  go_enter Try.func14, Try.ntmps14
  go_wp2
  go_loop [4, 5] (fun x i => ∃ k : Nat, k ≤ n % 32767 ∧ i = .int .i64 k ∧ x = .int .i64 (reg k)) (fun _ i => (n % 32767) - (intOf i).toNat)
  case atStart => exact ⟨0, Nat.zero_le _, rfl, rfl⟩
  case round =>
    obtain ⟨k, hk, rfl, rfl⟩ := hrel
    have hr := reg_lt k
    by_cases hlt : k < n % 32767
    · go_wp2_with (go_at_call 22; refine (step_any _ _ hr).mono ?_; rintro e w' ⟨rfl, rfl⟩)
      go_round
      case rel => exact ⟨k + 1, by omega, by go_num, rfl⟩
      case measure => simp [intOf]; omega
    · have hk' : k = n % 32767 := by omega
      go_wp2
      go_ret2
      exact ⟨rfl, rfl⟩
end Go.Proofs.Ytmpojdjknahoiaa
