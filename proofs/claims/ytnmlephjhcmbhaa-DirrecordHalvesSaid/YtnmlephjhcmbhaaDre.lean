/- Package dirrecord: Encode, where the record is good. -/
import Derived.Test.YtnmlephjhcmbhaaDrd
namespace Go.Proofs.Ytnmlephjhcmbhaa
set_option linter.unusedSimpArgs false
set_option linter.unusedVariables false
open Go Go.RowKit
set_option maxRecDepth 100000 in
set_option maxHeartbeats 4000000 in
theorem enc_good (r : Rec) (n : Nat) (d : ByteArray) (de : Int) (w : World) (hi : r.id.toList.isEmpty = false) (hu : ((r.use.size : Int) % 2 != 0) = false) (hn : ((n : Int) == 0) = false) (hd : d.size ≤ 7) (hid : r.id.size ≤ 254) (hus : r.use.size ≤ 254)
    (c1 : ∀ W : World, Calls Try.prog 21 #[cN r.id.size, cN r.use.size] W fun e w' => e = .returned (cN n) ∧ W = w')
    (c2 : ∀ W : World, Calls Try.prog 49 #[cN r.time, cN r.zone] W fun e w' => e = .returned (.tuple #[.string d, cN de]) ∧ Below W.heap.size W w')
    (hx : encX r de = 0) (hf0 : 0 ≤ r.flags) (hf1 : r.flags ≤ 255) : Calls Try.prog 19 #[.agg (recA r)] w fun e w' => e = .returned (.tuple #[.string ⟨(encL r n d).toArray⟩, cN 0]) ∧ Below w.heap.size w w' := by
  have hb := bN_wrap n
  have hf := bN_wrap r.flags
  have hl := bN_wrap r.id.size
  have HX := Lib.hid hx
  clear hx
  have hp : (((r.id.size : Int) % 2 == 0) = true ∧ padB r.id.size = [0]) ∨ (((r.id.size : Int) % 2 == 0) = false ∧ padB r.id.size = []) := by
    rw [padB]
    rcases (by omega : r.id.size % 2 = 0 ∨ r.id.size % 2 = 1) with h | h
    · left; rw [if_pos h]; refine ⟨?_, rfl⟩; rw [beq_iff_eq]; omega
    · right; rw [if_neg (by omega)]; refine ⟨?_, rfl⟩; rw [beq_eq_false_iff_ne]; omega
  obtain ⟨R, hR⟩ : ∃ R, (⟨(encL r n d).toArray⟩ : ByteArray) = R := ⟨_, rfl⟩
  rw [hR]
  have HR := Lib.hid hR
  clear hR
  rcases hp with ⟨hp, hp2⟩ | ⟨hp, hp2⟩
  all_goals
    have HP2 := Lib.hid hp2
    clear hp2
    go_enter Try.func19, Try.ntmps19
    go_wp2_with (first | (go_at_call 21; (with_reducible refine (c1 _).mono ?_); rintro e w1 ⟨rfl, rfl⟩) | (go_at_call 49; (with_reducible refine (c2 _).mono ?_); rintro e w1 ⟨rfl, hB⟩; have E0 := ES.init r de hB; obtain ⟨k0, k1, k2, k5, k6, k7⟩ := E0.cr; clear hB))
    have hx5 : wrongs (wrongs de [(r.lba, 4), (r.len, 4)]) [(r.seq, 2)] = 0 := HX.out
    have o1 := outs1_le r
    have HA : Hid ((#[.int .u8 ((bN n).toNat : Int), .int .u8 0] : Array Value) = (cb [bN n, 0]).toArray) := Lib.hid rfl
    have HF : Hid ((#[.int .u8 ((bN r.flags).toNat : Int), .int .u8 0, .int .u8 0] : Array Value) = (cb [bN r.flags, 0, 0]).toArray) := Lib.hid rfl
    have HP : Hid ((#[cN r.lba, cN 4, cN r.len, cN 4] : Array Value) = (flatP [(r.lba, 4), (r.len, 4)]).toArray) := Lib.hid rfl
    have HS : Hid ((#[cN r.seq, cN 2] : Array Value) = (flatP [(r.seq, 2)]).toArray) := Lib.hid rfl
    with_reducible refine (E0.write [bN n, 0] 2 (w1.heap.size + 1 + 1) _ (by simp) HA.out rfl (by simp) (by decide)).mono ?_
    rintro e w2 ⟨rfl, E1⟩
    obtain ⟨k0, k1, k2, k5, k6, k7⟩ := E1.cr
    go_wp2_with fail
    with_reducible refine (E1.nums [(r.lba, 4), (r.len, 4)] 4 _ HP.out rfl (by simp) (by simp) (by simp)).mono ?_
    rintro e w3 ⟨rfl, E2⟩
    clear k0 k1 k2 k5 k6 k7 E1
    go_wp2_with fail
    with_reducible refine (E2.str d (by simp; omega) (by omega)).mono ?_
    rintro e w4 ⟨rfl, E3⟩
    clear E2
    obtain ⟨k0, k1, k2, k5, k6, k7⟩ := E3.cr
    go_wp2_with fail
    with_reducible refine (E3.write [bN r.flags, 0, 0] 3 _ _ rfl HF.out rfl (by simp; omega) (by decide)).mono ?_
    rintro e w5 ⟨rfl, E4⟩
    clear k0 k1 k2 k5 k6 k7 E3
    obtain ⟨k0, k1, k2, k5, k6, k7⟩ := E4.cr
    go_wp2_with fail
    with_reducible refine (E4.nums [(r.seq, 2)] 2 _ HS.out rfl (by simp) (by simp; omega) (by simp)).mono ?_
    rintro e w6 ⟨rfl, E5⟩
    clear k0 k1 k2 k5 k6 k7 E4
    rw [hx5] at E5
    obtain ⟨k0, k1, k2, k5, k6, k7⟩ := E5.cr
    have cx := E5.cx
    clear hx5
    have E6 : ES w _ _ r 0 (encH r n d) w6 := E5
    have hel := encH_len r n d hd
    obtain ⟨H, hH⟩ : ∃ H, encH r n d = H := ⟨_, rfl⟩
    rw [hH] at E6 hel
    have HH := Lib.hid hH
    clear hH
    clear E5
    go_wp2_with fail
    with_reducible refine (E6.byte (bN r.id.size) (by omega)).mono ?_
    rintro e w7 ⟨rfl, E7⟩
    obtain ⟨k0, k1, k2, k5, k6, k7⟩ := E7.cr
    clear E6
    go_wp2_with fail
    with_reducible refine (E7.str r.id (by simp; omega) (by omega)).mono ?_
    rintro e w8 ⟨rfl, E8⟩
    clear k0 k1 k2 k5 k6 k7 E7
    obtain ⟨k0, k1, k2, k5, k6, k7⟩ := E8.cr
    go_wp2_with fail
    first
    | (have cz := E8.byte 0 (by simp; omega)
       rw [show ((0 : UInt8).toNat : Int) = 0 from rfl] at cz
       with_reducible refine cz.mono ?_
       rintro e w9 ⟨rfl, E9⟩
       clear k0 k1 k2 k5 k6 k7 E8 cz
       obtain ⟨k0, k1, k2, k5, k6, k7⟩ := E9.cr
       go_wp2_with fail
       with_reducible refine (E9.str r.use (by simp; omega) (by omega)).mono ?_
       rintro e w10 ⟨rfl, E10⟩
       clear k0 k1 k2 k5 k6 k7 E9
       go_wp2_with fail
       with_reducible refine E10.done.mono ?_
       rintro e w11 ⟨rfl, hB⟩
       go_wp2
       go_ret2
       refine ⟨?_, hB⟩
       have hL : encL r n d = H ++ bN r.id.size :: (r.id.data.toList ++ 0 :: r.use.data.toList) := by rw [encL, HH.out, HP2.out]; simp
       rw [← HR.out, hL]
       rfl)
    | (with_reducible refine (E8.str r.use (by simp; omega) (by omega)).mono ?_
       rintro e w10 ⟨rfl, E10⟩
       clear k0 k1 k2 k5 k6 k7 E8
       go_wp2_with fail
       with_reducible refine E10.done.mono ?_
       rintro e w11 ⟨rfl, hB⟩
       go_wp2
       go_ret2
       refine ⟨?_, hB⟩
       have hL : encL r n d = H ++ bN r.id.size :: (r.id.data.toList ++ r.use.data.toList) := by rw [encL, HH.out, HP2.out]; simp
       rw [← HR.out, hL]
       rfl)
end Go.Proofs.Ytnmlephjhcmbhaa
