/- Package udftag and its reference: seal, Block, Make, Pad. -/
import Derived.Test.YtocncjimepnlcaaGreatDoorCmb
import Derived.Test.YtocncjimepnlcaaGreatDoorCkf
import Derived.Test.YtocncjimepnlcaaGreatDoorShelf
namespace Go.Proofs.YtocncjimepnlcaaGreatDoor
set_option linter.unusedSimpArgs false
set_option linter.unusedVariables false
open Go Go.RowKit
theorem repeat_z (n : Nat) : Lib.repeatL [0] n = List.replicate n 0 := by
  induction n with
  | zero => rfl
  | succ n ih => rw [Lib.repeatL, ih, List.replicate_succ]; rfl
theorem rep0_ok (n : Nat) (w : World) (hn : n ≤ 2 ^ 40) : Calls Tryz.prog 35 #[.string ⟨#[0]⟩, .int .i64 n] w fun e w' => e = .returned (.string (zerosB n)) ∧ Below w.heap.size w w' := by
  refine (Tryz.strings_Repeat ⟨#[0]⟩ n w (by omega) (by show 1 * n ≤ _; omega)).mono ?_
  rintro e w' ⟨rfl, hB⟩
  exact ⟨by unfold zerosB; rw [← repeat_z]; rfl, hB⟩
set_option maxRecDepth 100000 in
set_option maxHeartbeats 4000000 in
theorem seal_ok (loc : Nat) (body : ByteArray) (w : World) (hl : loc < 4294967296) (hb : body.size ≤ 2032) :
    Calls Tryz.prog 39 #[cN 0, cN 1, cN loc, .string body, cN 2032] w fun e w' => e = .returned (.tuple #[.string (sealB loc body), cN 0]) ∧ Below w.heap.size w w' := by
  have f1 : ∀ W, Calls Tryz.prog 61 #[cN 0, cN 2] W fun e w' => e = .returned (.bool true) ∧ W = w' := fun W => tfits2_ok 0 W (by decide)
  have f2 : ∀ W, Calls Tryz.prog 61 #[cN 1, cN 2] W fun e w' => e = .returned (.bool true) ∧ W = w' := fun W => tfits2_ok 1 W (by decide)
  have f3 : ∀ W, Calls Tryz.prog 61 #[cN (loc : Int), cN 4] W fun e w' => e = .returned (.bool true) ∧ W = w' := fun W => tfits4_ok loc W hl
  have l1 : ∀ W, Calls Tryz.prog 62 #[cN 0, cN 2] W fun e w' => e = .returned (.string (leB 0 2)) ∧ Below W.heap.size W w' := fun W => tlittle_ok 0 2 W (.inl rfl) (by decide)
  have l2 : ∀ W, Calls Tryz.prog 62 #[cN 3, cN 2] W fun e w' => e = .returned (.string (leB 3 2)) ∧ Below W.heap.size W w' := fun W => tlittle_ok 3 2 W (.inl rfl) (by decide)
  have l3 : ∀ W, Calls Tryz.prog 62 #[cN 1, cN 2] W fun e w' => e = .returned (.string (leB 1 2)) ∧ Below W.heap.size W w' := fun W => tlittle_ok 1 2 W (.inl rfl) (by decide)
  have hcrc := crcL_lt16 body.data.toList
  have l4 : ∀ W, Calls Tryz.prog 62 #[cN ((crcL body.data.toList : Nat) : Int), cN 2] W fun e w' => e = .returned (.string (leB (crcL body.data.toList) 2)) ∧ Below W.heap.size W w' := fun W => tlittle_ok (crcL body.data.toList) 2 W (.inl rfl) hcrc
  have l5 : ∀ W, Calls Tryz.prog 62 #[cN (body.size : Int), cN 2] W fun e w' => e = .returned (.string (leB body.size 2)) ∧ Below W.heap.size W w' := fun W => tlittle_ok body.size 2 W (.inl rfl) (by omega)
  have l6 : ∀ W, Calls Tryz.prog 62 #[cN (loc : Int), cN 4] W fun e w' => e = .returned (.string (leB loc 4)) ∧ Below W.heap.size W w' := fun W => tlittle_ok loc 4 W (.inr rfl) hl
  have k1 := fun W => crc16_ok body W (by omega)
  have hts := tagB_size loc body
  have s1 := fun W => tsummed_ok (tagB loc body) W (by rw [hts]; decide) (by rw [hts]; decide)
  have hss := sumdB_size (tagB loc body) (by rw [hts]; decide)
  rw [hts] at hss
  unfold sealB
  generalize sumdB (tagB loc body) = S at s1 hss ⊢
  unfold tagB at s1
  generalize crcL body.data.toList = crc at hcrc l4 k1 s1
  obtain ⟨x1, h1⟩ : ∃ x, leB 0 2 = x := ⟨_, rfl⟩
  obtain ⟨x2, h2⟩ : ∃ x, leB 3 2 = x := ⟨_, rfl⟩
  obtain ⟨x3, h3⟩ : ∃ x, leB 1 2 = x := ⟨_, rfl⟩
  obtain ⟨x4, h4⟩ : ∃ x, leB crc 2 = x := ⟨_, rfl⟩
  obtain ⟨x5, h5⟩ : ∃ x, leB body.size 2 = x := ⟨_, rfl⟩
  obtain ⟨x6, h6⟩ : ∃ x, leB loc 4 = x := ⟨_, rfl⟩
  rw [h1] at l1 s1
  rw [h2] at l2 s1
  rw [h3] at l3 s1
  rw [h4] at l4 s1
  rw [h5] at l5 s1
  rw [h6] at l6 s1
  have z1 : x1.size = 2 := by rw [← h1, leB_size]
  have z2 : x2.size = 2 := by rw [← h2, leB_size]
  have z3 : x3.size = 2 := by rw [← h3, leB_size]
  have z4 : x4.size = 2 := by rw [← h4, leB_size]
  have z5 : x5.size = 2 := by rw [← h5, leB_size]
  have z6 : x6.size = 4 := by rw [← h6, leB_size]
  have hcv : IntKind.i64.wrap (crc : Int) = (crc : Int) := by rw [IntKind.wrap_i64]; omega
  have g1 : ¬ (2032 : Int) < (body.size : Int) := by omega
  clear h1 h2 h3 h4 h5 h6 hcrc hts hl
  have HB := Lib.hid (Below.refl w.heap.size w)
  go_enter Tryz.func39, Tryz.ntmps39
  go_wp2_with (first | (go_at_call 61; (first | (with_reducible refine (f3 _).mono ?_) | (with_reducible refine (f1 _).mono ?_) | (with_reducible refine (f2 _).mono ?_)); rintro e w1 ⟨rfl, rfl⟩) | (go_at_call 62; (first | (with_reducible refine (l4 _).mono ?_) | (with_reducible refine (l5 _).mono ?_) | (with_reducible refine (l6 _).mono ?_) | (with_reducible refine (l1 _).mono ?_) | (with_reducible refine (l2 _).mono ?_) | (with_reducible refine (l3 _).mono ?_)); rintro e w2 ⟨rfl, hB2⟩; have HB := Lib.hid (bthen HB.out hB2); clear hB2) | (go_at_call 63; (with_reducible refine (k1 _).mono ?_); rintro e w3 ⟨rfl, hB3⟩; have HB := Lib.hid (bthen HB.out hB3); clear hB3) | (go_at_call 64; (with_reducible refine (s1 _).mono ?_); rintro e w4 ⟨rfl, hB4⟩; have HB := Lib.hid (bthen HB.out hB4); clear hB4))
  go_ret2
  exact ⟨rfl, HB.out⟩
set_option maxRecDepth 100000 in
set_option maxHeartbeats 1000000 in
theorem block_ok (loc : Nat) (body : ByteArray) (w : World) (hl : loc < 4294967296) (hb : body.size ≤ 2032) :
    Calls Tryz.prog 22 #[cN 0, cN 1, cN loc, .string body] w fun e w' => e = .returned (.tuple #[.string (blockB loc body), cN 0]) ∧ Below w.heap.size w w' := by
  have c1 := fun W => seal_ok loc body W hl hb
  have hs := sealB_size loc body
  unfold blockB
  generalize sealB loc body = S at c1 hs ⊢
  obtain ⟨n, hn⟩ : ∃ n, S.size = n := ⟨_, rfl⟩
  obtain ⟨k, hk⟩ : ∃ k, 2048 - n = k := ⟨_, rfl⟩
  have c2 := fun W => rep0_ok k W (by omega)
  have e1 : IntKind.i64.wrap (2048 - (n : Int)) = (k : Int) := by rw [IntKind.wrap_i64]; omega
  have e2 : (2048 : Int) - (n : Int) = (k : Int) := by omega
  rw [hn, hk]
  obtain ⟨z, hz⟩ : ∃ z, zerosB k = z := ⟨_, rfl⟩
  have hzs : z.size ≤ 2048 := by rw [← hz, zerosB_size]; omega
  have hns : n ≤ 2048 := by omega
  rw [hz] at c2 ⊢
  clear hz hk hs hl hb
  go_enter Tryz.func22, Tryz.ntmps22
  go_wp2_with (first | (go_at_call 39; (with_reducible refine (c1 _).mono ?_); rintro e w1 ⟨rfl, hB1⟩; have HB1 := Lib.hid hB1; clear hB1) | (go_at_call 35; (with_reducible refine (c2 _).mono ?_); rintro e w2 ⟨rfl, hB2⟩))
  go_ret2
  exact ⟨rfl, bthen HB1.out hB2⟩
end Go.Proofs.YtocncjimepnlcaaGreatDoor
