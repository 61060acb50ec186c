/- Package dirrecord: Encode, walked. -/
import Derived.Test.YtnmlephjhcmbhaaDrc
namespace Go.Proofs.Ytnmlephjhcmbhaa
set_option linter.unusedSimpArgs false
set_option linter.unusedVariables false
open Go Go.RowKit
theorem wrongs_cases (ps : List (Int × Nat)) : ∀ x : Int, x = 0 ∨ x = 2 → wrongs x ps = 0 ∨ wrongs x ps = 2 := by
  induction ps with
  | nil => exact fun x h => h
  | cons p ps ih =>
    intro x h
    refine ih _ ?_
    split
    · exact h
    · exact .inr rfl
theorem encX_cases (r : Rec) {de : Int} (h : de = 0 ∨ de = 2) : encX r de = 0 ∨ encX r de = 2 := wrongs_cases _ _ (wrongs_cases _ _ h)
theorem encH_len (r : Rec) (n : Int) (d : ByteArray) (hd : d.size ≤ 7) : (encH r n d).length ≤ 100 := by
  have h1 := outs_le [(r.lba, 4), (r.len, 4)] (by simp)
  have h2 := outs_le [(r.seq, 2)] (by simp)
  simp only [encH, List.length_append, List.length_cons, List.length_nil, list_size] at *
  omega
theorem outs1_le (r : Rec) : (outs [(r.lba, 4), (r.len, 4)]).length ≤ 16 := outs_le _ (by simp)
set_option maxRecDepth 100000 in
set_option maxHeartbeats 2000000 in
theorem enc_bad1 (r : Rec) (n : Nat) (d : ByteArray) (de : Int) (w : World) (hi : r.id.toList.isEmpty = false) (hu : ((r.use.size : Int) % 2 != 0) = false) (hn : ((n : Int) == 0) = false) (hd : d.size ≤ 7)
    (c1 : ∀ W : World, Calls Try.prog 21 #[cN r.id.size, cN r.use.size] W fun e w' => e = .returned (cN n) ∧ W = w')
    (c2 : ∀ W : World, Calls Try.prog 49 #[cN r.time, cN r.zone] W fun e w' => e = .returned (.tuple #[.string d, cN de]) ∧ Below W.heap.size W w')
    (hx : encX r de = 2) : Calls Try.prog 19 #[.agg (recA r)] w fun e w' => e = .returned (.tuple #[.string ByteArray.empty, cN 2]) ∧ Below w.heap.size w w' := by
  have hb := bN_wrap n
  have hf := bN_wrap r.flags
  have HX := Lib.hid hx
  clear hx
  go_enter Try.func19, Try.ntmps19
  go_wp2_with (first | (go_at_call 21; (with_reducible refine (c1 _).mono ?_); rintro e w1 ⟨rfl, rfl⟩) | (go_at_call 49; (with_reducible refine (c2 _).mono ?_); rintro e w1 ⟨rfl, hB⟩; have E0 := ES.init r de hB; obtain ⟨k0, k1, k2, k5, k6, k7⟩ := E0.cr; clear hB))
  have hx5 : wrongs (wrongs de [(r.lba, 4), (r.len, 4)]) [(r.seq, 2)] = 2 := HX.out
  have o1 := outs1_le r
  have HA : Hid ((#[.int .u8 ((bN n).toNat : Int), .int .u8 0] : Array Value) = (cb [bN n, 0]).toArray) := Lib.hid rfl
  have HF : Hid ((#[.int .u8 ((bN r.flags).toNat : Int), .int .u8 0, .int .u8 0] : Array Value) = (cb [bN r.flags, 0, 0]).toArray) := Lib.hid rfl
  have HP : Hid ((#[cN r.lba, cN 4, cN r.len, cN 4] : Array Value) = (flatP [(r.lba, 4), (r.len, 4)]).toArray) := Lib.hid rfl
  have HS : Hid ((#[cN r.seq, cN 2] : Array Value) = (flatP [(r.seq, 2)]).toArray) := Lib.hid rfl
  with_reducible refine (E0.write [bN n, 0] 2 (w1.heap.size + 1 + 1) _ (by simp) HA.out rfl (by simp) (by decide)).mono ?_
  rintro e w2 ⟨rfl, E1⟩
  obtain ⟨k0, k1, k2, k5, k6, k7⟩ := E1.cr
  go_wp2_with fail
  with_reducible refine (E1.nums [(r.lba, 4), (r.len, 4)] 4 _ HP.out rfl (by simp) (by simp) (by simp)).mono ?_
  rintro e w3 ⟨rfl, E2⟩
  clear k0 k1 k2 k5 k6 k7 E1
  go_wp2_with fail
  with_reducible refine (E2.str d (by simp; omega) (by omega)).mono ?_
  rintro e w4 ⟨rfl, E3⟩
  clear E2
  obtain ⟨k0, k1, k2, k5, k6, k7⟩ := E3.cr
  go_wp2_with fail
  with_reducible refine (E3.write [bN r.flags, 0, 0] 3 _ _ rfl HF.out rfl (by simp; omega) (by decide)).mono ?_
  rintro e w5 ⟨rfl, E4⟩
  clear k0 k1 k2 k5 k6 k7 E3
  obtain ⟨k0, k1, k2, k5, k6, k7⟩ := E4.cr
  go_wp2_with fail
  with_reducible refine (E4.nums [(r.seq, 2)] 2 _ HS.out rfl (by simp) (by simp; omega) (by simp)).mono ?_
  rintro e w6 ⟨rfl, E5⟩
  clear k0 k1 k2 k5 k6 k7 E4
  rw [hx5] at E5
  obtain ⟨k0, k1, k2, k5, k6, k7⟩ := E5.cr
  have cx := E5.cx
  clear hx5
  go_wp2
  go_ret2
  exact ⟨rfl, E5.bel⟩
set_option maxRecDepth 100000 in
set_option maxHeartbeats 2000000 in
theorem enc_bad2 (r : Rec) (n : Nat) (d : ByteArray) (de : Int) (w : World) (hi : r.id.toList.isEmpty = false) (hu : ((r.use.size : Int) % 2 != 0) = false) (hn : ((n : Int) == 0) = false) (hd : d.size ≤ 7)
    (c1 : ∀ W : World, Calls Try.prog 21 #[cN r.id.size, cN r.use.size] W fun e w' => e = .returned (cN n) ∧ W = w')
    (c2 : ∀ W : World, Calls Try.prog 49 #[cN r.time, cN r.zone] W fun e w' => e = .returned (.tuple #[.string d, cN de]) ∧ Below W.heap.size W w')
    (hx : encX r de = 0) (hfl : r.flags < 0 ∨ 255 < r.flags) : Calls Try.prog 19 #[.agg (recA r)] w fun e w' => e = .returned (.tuple #[.string ByteArray.empty, cN 2]) ∧ Below w.heap.size w w' := by
  have hb := bN_wrap n
  have hf := bN_wrap r.flags
  have HX := Lib.hid hx
  clear hx
  rcases hfl with hfl | hfl
  all_goals
    go_enter Try.func19, Try.ntmps19
    go_wp2_with (first | (go_at_call 21; (with_reducible refine (c1 _).mono ?_); rintro e w1 ⟨rfl, rfl⟩) | (go_at_call 49; (with_reducible refine (c2 _).mono ?_); rintro e w1 ⟨rfl, hB⟩; have E0 := ES.init r de hB; obtain ⟨k0, k1, k2, k5, k6, k7⟩ := E0.cr; clear hB))
    have hx5 : wrongs (wrongs de [(r.lba, 4), (r.len, 4)]) [(r.seq, 2)] = 0 := HX.out
    have o1 := outs1_le r
    have HA : Hid ((#[.int .u8 ((bN n).toNat : Int), .int .u8 0] : Array Value) = (cb [bN n, 0]).toArray) := Lib.hid rfl
    have HF : Hid ((#[.int .u8 ((bN r.flags).toNat : Int), .int .u8 0, .int .u8 0] : Array Value) = (cb [bN r.flags, 0, 0]).toArray) := Lib.hid rfl
    have HP : Hid ((#[cN r.lba, cN 4, cN r.len, cN 4] : Array Value) = (flatP [(r.lba, 4), (r.len, 4)]).toArray) := Lib.hid rfl
    have HS : Hid ((#[cN r.seq, cN 2] : Array Value) = (flatP [(r.seq, 2)]).toArray) := Lib.hid rfl
    with_reducible refine (E0.write [bN n, 0] 2 (w1.heap.size + 1 + 1) _ (by simp) HA.out rfl (by simp) (by decide)).mono ?_
    rintro e w2 ⟨rfl, E1⟩
    obtain ⟨k0, k1, k2, k5, k6, k7⟩ := E1.cr
    go_wp2_with fail
    with_reducible refine (E1.nums [(r.lba, 4), (r.len, 4)] 4 _ HP.out rfl (by simp) (by simp) (by simp)).mono ?_
    rintro e w3 ⟨rfl, E2⟩
    clear k0 k1 k2 k5 k6 k7 E1
    go_wp2_with fail
    with_reducible refine (E2.str d (by simp; omega) (by omega)).mono ?_
    rintro e w4 ⟨rfl, E3⟩
    clear E2
    obtain ⟨k0, k1, k2, k5, k6, k7⟩ := E3.cr
    go_wp2_with fail
    with_reducible refine (E3.write [bN r.flags, 0, 0] 3 _ _ rfl HF.out rfl (by simp; omega) (by decide)).mono ?_
    rintro e w5 ⟨rfl, E4⟩
    clear k0 k1 k2 k5 k6 k7 E3
    obtain ⟨k0, k1, k2, k5, k6, k7⟩ := E4.cr
    go_wp2_with fail
    with_reducible refine (E4.nums [(r.seq, 2)] 2 _ HS.out rfl (by simp) (by simp; omega) (by simp)).mono ?_
    rintro e w6 ⟨rfl, E5⟩
    clear k0 k1 k2 k5 k6 k7 E4
    rw [hx5] at E5
    obtain ⟨k0, k1, k2, k5, k6, k7⟩ := E5.cr
    have cx := E5.cx
    clear hx5
    go_wp2
    go_ret2
    exact ⟨rfl, E5.bel⟩
end Go.Proofs.Ytnmlephjhcmbhaa
