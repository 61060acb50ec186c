/- Package udftag and its reference: seal, Block, Make, Pad. -/
import Derived.Test.YtocncjimepnlcaaGreatCmb
import Derived.Test.YtocncjimepnlcaaGreatCkf
import Derived.Test.YtocncjimepnlcaaGreatShelf
namespace Go.Proofs.YtocncjimepnlcaaGreat
set_option linter.unusedSimpArgs false
set_option linter.unusedVariables false
open Go Go.RowKit
theorem repeat_z (n : Nat) : Lib.repeatL [0] n = List.replicate n 0 := by
  induction n with
  | zero => rfl
  | succ n ih => rw [Lib.repeatL, ih, List.replicate_succ]; rfl
theorem rep0_ok (n : Nat) (w : World) (hn : n ≤ 2 ^ 40) : Calls Tryz.prog 42 #[.string ⟨#[0]⟩, .int .i64 n] w fun e w' => e = .returned (.string (zerosB n)) ∧ Below w.heap.size w w' := by
  refine (Tryz.strings_Repeat ⟨#[0]⟩ n w (by omega) (by show 1 * n ≤ _; omega)).mono ?_
  rintro e w' ⟨rfl, hB⟩
  exact ⟨by unfold zerosB; rw [← repeat_z]; rfl, hB⟩
theorem rrep0_ok (n : Nat) (w : World) (hn : n ≤ 2 ^ 31) : Calls Tryz.prog 48 #[.int .u8 0, .int .i64 n] w fun e w' => e = .returned (.string (zerosB n)) ∧ Below w.heap.size w w' := by
  refine (rrep_ok 0 n w (by omega)).mono ?_
  rintro e w' ⟨rfl, hB⟩
  exact ⟨by unfold zerosB; rw [Int.toNat_natCast], hB⟩
set_option maxRecDepth 100000 in
set_option maxHeartbeats 4000000 in
theorem seal_ok (loc : Nat) (body : ByteArray) (w : World) (hl : loc < 4294967296) (hb : body.size ≤ 2032) :
    Calls Tryz.prog 46 #[cN 0, cN 1, cN loc, .string body, cN 2032] w fun e w' => e = .returned (.tuple #[.string (sealB loc body), cN 0]) ∧ Below w.heap.size w w' := by
  have f1 : ∀ W, Calls Tryz.prog 69 #[cN 0, cN 2] W fun e w' => e = .returned (.bool true) ∧ W = w' := fun W => tfits2_ok 0 W (by decide)
  have f2 : ∀ W, Calls Tryz.prog 69 #[cN 1, cN 2] W fun e w' => e = .returned (.bool true) ∧ W = w' := fun W => tfits2_ok 1 W (by decide)
  have f3 : ∀ W, Calls Tryz.prog 69 #[cN (loc : Int), cN 4] W fun e w' => e = .returned (.bool true) ∧ W = w' := fun W => tfits4_ok loc W hl
  have l1 : ∀ W, Calls Tryz.prog 70 #[cN 0, cN 2] W fun e w' => e = .returned (.string (leB 0 2)) ∧ Below W.heap.size W w' := fun W => tlittle_ok 0 2 W (.inl rfl) (by decide)
  have l2 : ∀ W, Calls Tryz.prog 70 #[cN 3, cN 2] W fun e w' => e = .returned (.string (leB 3 2)) ∧ Below W.heap.size W w' := fun W => tlittle_ok 3 2 W (.inl rfl) (by decide)
  have l3 : ∀ W, Calls Tryz.prog 70 #[cN 1, cN 2] W fun e w' => e = .returned (.string (leB 1 2)) ∧ Below W.heap.size W w' := fun W => tlittle_ok 1 2 W (.inl rfl) (by decide)
  have hcrc := crcL_lt16 body.data.toList
  have l4 : ∀ W, Calls Tryz.prog 70 #[cN ((crcL body.data.toList : Nat) : Int), cN 2] W fun e w' => e = .returned (.string (leB (crcL body.data.toList) 2)) ∧ Below W.heap.size W w' := fun W => tlittle_ok (crcL body.data.toList) 2 W (.inl rfl) hcrc
  have l5 : ∀ W, Calls Tryz.prog 70 #[cN (body.size : Int), cN 2] W fun e w' => e = .returned (.string (leB body.size 2)) ∧ Below W.heap.size W w' := fun W => tlittle_ok body.size 2 W (.inl rfl) (by omega)
  have l6 : ∀ W, Calls Tryz.prog 70 #[cN (loc : Int), cN 4] W fun e w' => e = .returned (.string (leB loc 4)) ∧ Below W.heap.size W w' := fun W => tlittle_ok loc 4 W (.inr rfl) hl
  have k1 := fun W => crc16_ok body W (by omega)
  have hts := tagB_size loc body
  have s1 := fun W => tsummed_ok (tagB loc body) W (by rw [hts]; decide) (by rw [hts]; decide)
  have hss := sumdB_size (tagB loc body) (by rw [hts]; decide)
  rw [hts] at hss
  unfold sealB
  generalize sumdB (tagB loc body) = S at s1 hss ⊢
  unfold tagB at s1
  generalize crcL body.data.toList = crc at hcrc l4 k1 s1
  obtain ⟨x1, h1⟩ : ∃ x, leB 0 2 = x := ⟨_, rfl⟩
  obtain ⟨x2, h2⟩ : ∃ x, leB 3 2 = x := ⟨_, rfl⟩
  obtain ⟨x3, h3⟩ : ∃ x, leB 1 2 = x := ⟨_, rfl⟩
  obtain ⟨x4, h4⟩ : ∃ x, leB crc 2 = x := ⟨_, rfl⟩
  obtain ⟨x5, h5⟩ : ∃ x, leB body.size 2 = x := ⟨_, rfl⟩
  obtain ⟨x6, h6⟩ : ∃ x, leB loc 4 = x := ⟨_, rfl⟩
  rw [h1] at l1 s1
  rw [h2] at l2 s1
  rw [h3] at l3 s1
  rw [h4] at l4 s1
  rw [h5] at l5 s1
  rw [h6] at l6 s1
  have z1 : x1.size = 2 := by rw [← h1, leB_size]
  have z2 : x2.size = 2 := by rw [← h2, leB_size]
  have z3 : x3.size = 2 := by rw [← h3, leB_size]
  have z4 : x4.size = 2 := by rw [← h4, leB_size]
  have z5 : x5.size = 2 := by rw [← h5, leB_size]
  have z6 : x6.size = 4 := by rw [← h6, leB_size]
  have hcv : IntKind.i64.wrap (crc : Int) = (crc : Int) := by rw [IntKind.wrap_i64]; omega
  have g1 : ¬ (2032 : Int) < (body.size : Int) := by omega
  clear h1 h2 h3 h4 h5 h6 hcrc hts hl
  have HB := Lib.hid (Below.refl w.heap.size w)
  go_enter Tryz.func46, Tryz.ntmps46
  go_wp2_with (first | (go_at_call 69; (first | (with_reducible refine (f3 _).mono ?_) | (with_reducible refine (f1 _).mono ?_) | (with_reducible refine (f2 _).mono ?_)); rintro e w1 ⟨rfl, rfl⟩) | (go_at_call 70; (first | (with_reducible refine (l4 _).mono ?_) | (with_reducible refine (l5 _).mono ?_) | (with_reducible refine (l6 _).mono ?_) | (with_reducible refine (l1 _).mono ?_) | (with_reducible refine (l2 _).mono ?_) | (with_reducible refine (l3 _).mono ?_)); rintro e w2 ⟨rfl, hB2⟩; have HB := Lib.hid (bthen HB.out hB2); clear hB2) | (go_at_call 71; (with_reducible refine (k1 _).mono ?_); rintro e w3 ⟨rfl, hB3⟩; have HB := Lib.hid (bthen HB.out hB3); clear hB3) | (go_at_call 72; (with_reducible refine (s1 _).mono ?_); rintro e w4 ⟨rfl, hB4⟩; have HB := Lib.hid (bthen HB.out hB4); clear hB4))
  go_ret2
  exact ⟨rfl, HB.out⟩
set_option maxRecDepth 100000 in
set_option maxHeartbeats 1000000 in
theorem block_ok (loc : Nat) (body : ByteArray) (w : World) (hl : loc < 4294967296) (hb : body.size ≤ 2032) :
    Calls Tryz.prog 27 #[cN 0, cN 1, cN loc, .string body] w fun e w' => e = .returned (.tuple #[.string (blockB loc body), cN 0]) ∧ Below w.heap.size w w' := by
  have c1 := fun W => seal_ok loc body W hl hb
  have hs := sealB_size loc body
  unfold blockB
  generalize sealB loc body = S at c1 hs ⊢
  obtain ⟨n, hn⟩ : ∃ n, S.size = n := ⟨_, rfl⟩
  obtain ⟨k, hk⟩ : ∃ k, 2048 - n = k := ⟨_, rfl⟩
  have c2 := fun W => rep0_ok k W (by omega)
  have e1 : IntKind.i64.wrap (2048 - (n : Int)) = (k : Int) := by rw [IntKind.wrap_i64]; omega
  have e2 : (2048 : Int) - (n : Int) = (k : Int) := by omega
  rw [hn, hk]
  obtain ⟨z, hz⟩ : ∃ z, zerosB k = z := ⟨_, rfl⟩
  have hzs : z.size ≤ 2048 := by rw [← hz, zerosB_size]; omega
  have hns : n ≤ 2048 := by omega
  rw [hz] at c2 ⊢
  clear hz hk hs hl hb
  go_enter Tryz.func27, Tryz.ntmps27
  go_wp2_with (first | (go_at_call 46; (with_reducible refine (c1 _).mono ?_); rintro e w1 ⟨rfl, hB1⟩; have HB1 := Lib.hid hB1; clear hB1) | (go_at_call 42; (with_reducible refine (c2 _).mono ?_); rintro e w2 ⟨rfl, hB2⟩))
  go_ret2
  exact ⟨rfl, bthen HB1.out hB2⟩
set_option maxRecDepth 100000 in
set_option maxHeartbeats 400000 in
theorem rranged_ok (loc : Nat) (w : World) (hl : loc < 4294967296) : Calls Tryz.prog 49 #[cN 0, cN 1, cN loc] w fun e w' => e = .returned (.bool true) ∧ w = w' := by
  have h1 : (0 : Int) ≤ (loc : Int) := by omega
  have h2 : (loc : Int) < 4294967296 := by omega
  go_enter Tryz.func49, Tryz.ntmps49
  go_wp2
  go_ret
  exact ⟨rfl, rfl⟩
set_option maxRecDepth 100000 in
set_option maxHeartbeats 4000000 in
theorem rmake_ok (loc : Nat) (body : ByteArray) (w : World) (hl : loc < 4294967296) (hb : body.size ≤ 2032) :
    Calls Tryz.prog 51 #[cN 0, cN 1, cN loc, .string body] w fun e w' => e = .returned (.string (sealB loc body)) ∧ Below w.heap.size w w' := by
  have bk : ∀ (n s : Nat) (W : World), s ≤ 8 → n < 2 ^ 62 → Calls Tryz.prog 30 #[cN (n : Int), cN (s : Int)] W fun e w' => e = .returned (.string (leB n s)) ∧ Below W.heap.size W w' := fun n s W h1 h2 => rbytes_ok n s W h1 h2
  have hcrc := crcL_lt16 body.data.toList
  have l1 : ∀ W, Calls Tryz.prog 30 #[cN 0, cN 2] W fun e w' => e = .returned (.string (leB 0 2)) ∧ Below W.heap.size W w' := fun W => bk 0 2 W (by decide) (by decide)
  have l3 : ∀ W, Calls Tryz.prog 30 #[cN 1, cN 2] W fun e w' => e = .returned (.string (leB 1 2)) ∧ Below W.heap.size W w' := fun W => bk 1 2 W (by decide) (by decide)
  have l4 : ∀ W, Calls Tryz.prog 30 #[cN ((crcL body.data.toList : Nat) : Int), cN 2] W fun e w' => e = .returned (.string (leB (crcL body.data.toList) 2)) ∧ Below W.heap.size W w' := fun W => bk _ 2 W (by decide) (by omega)
  have l5 : ∀ W, Calls Tryz.prog 30 #[cN (body.size : Int), cN 2] W fun e w' => e = .returned (.string (leB body.size 2)) ∧ Below W.heap.size W w' := fun W => bk _ 2 W (by decide) (by omega)
  have l6 : ∀ W, Calls Tryz.prog 30 #[cN (loc : Int), cN 4] W fun e w' => e = .returned (.string (leB loc 4)) ∧ Below W.heap.size W w' := fun W => bk _ 4 W (by decide) (by omega)
  have k1 := fun W => rcrc_ok body W (by omega)
  have hts := tagB_size loc body
  have s1 := fun W => rsummed_ok (tagB loc body) W (by rw [hts]; decide) (by rw [hts]; decide)
  have hss := sumdB_size (tagB loc body) (by rw [hts]; decide)
  rw [hts] at hss
  unfold sealB
  generalize sumdB (tagB loc body) = S at s1 hss ⊢
  rw [← tagB_ref] at s1
  generalize crcL body.data.toList = crc at hcrc l4 k1 s1
  obtain ⟨x1, h1⟩ : ∃ x, leB 0 2 = x := ⟨_, rfl⟩
  obtain ⟨x3, h3⟩ : ∃ x, leB 1 2 = x := ⟨_, rfl⟩
  obtain ⟨x4, h4⟩ : ∃ x, leB crc 2 = x := ⟨_, rfl⟩
  obtain ⟨x5, h5⟩ : ∃ x, leB body.size 2 = x := ⟨_, rfl⟩
  obtain ⟨x6, h6⟩ : ∃ x, leB loc 4 = x := ⟨_, rfl⟩
  rw [h1] at l1 s1
  rw [h3] at l3 s1
  rw [h4] at l4 s1
  rw [h5] at l5 s1
  rw [h6] at l6 s1
  have z1 : x1.size = 2 := by rw [← h1, leB_size]
  have z3 : x3.size = 2 := by rw [← h3, leB_size]
  have z4 : x4.size = 2 := by rw [← h4, leB_size]
  have z5 : x5.size = 2 := by rw [← h5, leB_size]
  have z6 : x6.size = 4 := by rw [← h6, leB_size]
  have hcv : IntKind.i64.wrap (crc : Int) = (crc : Int) := by rw [IntKind.wrap_i64]; omega
  clear h1 h3 h4 h5 h6 hcrc hts hl bk
  have HB := Lib.hid (Below.refl w.heap.size w)
  go_enter Tryz.func51, Tryz.ntmps51
  go_wp2_with (first | (go_at_call 30; (first | (with_reducible refine (l4 _).mono ?_) | (with_reducible refine (l5 _).mono ?_) | (with_reducible refine (l6 _).mono ?_) | (with_reducible refine (l1 _).mono ?_) | (with_reducible refine (l3 _).mono ?_)); rintro e w2 ⟨rfl, hB2⟩; have HB := Lib.hid (bthen HB.out hB2); clear hB2) | (go_at_call 73; (with_reducible refine (k1 _).mono ?_); rintro e w3 ⟨rfl, rfl⟩) | (go_at_call 74; (with_reducible refine (s1 _).mono ?_); rintro e w4 ⟨rfl, hB4⟩; have HB := Lib.hid (bthen HB.out hB4); clear hB4))
  go_ret
  exact ⟨rfl, HB.out⟩
set_option maxRecDepth 100000 in
set_option maxHeartbeats 1000000 in
theorem rpad_ok (s : ByteArray) (k : Nat) (w : World) (h : s.size + k = 2048) : Calls Tryz.prog 50 #[.string s, cN 2048] w fun e w' => e = .returned (.string (s ++ zerosB k)) ∧ Below w.heap.size w w' := by
  obtain ⟨n, hn⟩ : ∃ n, s.size = n := ⟨_, rfl⟩
  have c2 := fun W => rrep0_ok k W (by omega)
  have e1 : IntKind.i64.wrap (2048 - (n : Int)) = (k : Int) := by rw [IntKind.wrap_i64]; omega
  have e2 : (2048 : Int) - (n : Int) = (k : Int) := by omega
  obtain ⟨z, hz⟩ : ∃ z, zerosB k = z := ⟨_, rfl⟩
  have hzs : z.size ≤ 2048 := by rw [← hz, zerosB_size]; omega
  have hns : n ≤ 2048 := by omega
  rw [hz] at c2 ⊢
  clear hz h
  go_enter Tryz.func50, Tryz.ntmps50
  go_wp2_with (go_at_call 48; (with_reducible refine (c2 _).mono ?_); rintro e w2 ⟨rfl, hB2⟩)
  go_ret
  exact ⟨rfl, hB2⟩
set_option maxRecDepth 100000 in
set_option maxHeartbeats 1000000 in
theorem rblock_ok (loc : Nat) (body : ByteArray) (w : World) (hl : loc < 4294967296) (hb : body.size ≤ 2032) :
    Calls Tryz.prog 31 #[cN 0, cN 1, cN loc, .string body] w fun e w' => e = .returned (.tuple #[.string (blockB loc body), cN 0]) ∧ Below w.heap.size w w' := by
  have c1 := fun W => rmake_ok loc body W hl hb
  have c0 := fun W => rranged_ok loc W hl
  have hs := sealB_size loc body
  unfold blockB
  have c2 := fun W => rpad_ok (sealB loc body) (2048 - (sealB loc body).size) W (by omega)
  generalize zerosB (2048 - (sealB loc body).size) = z at c2 ⊢
  generalize sealB loc body = S at c1 c2 hs ⊢
  have g1 : ¬ (2032 : Int) < (body.size : Int) := by omega
  clear hl hs
  go_enter Tryz.func31, Tryz.ntmps31
  go_wp2_with (first | (go_at_call 49; (with_reducible refine (c0 _).mono ?_); rintro e w0 ⟨rfl, rfl⟩) | (go_at_call 51; (with_reducible refine (c1 _).mono ?_); rintro e w1 ⟨rfl, hB1⟩; have HB1 := Lib.hid hB1; clear hB1) | (go_at_call 50; (with_reducible refine (c2 _).mono ?_); rintro e w2 ⟨rfl, hB2⟩))
  go_ret2
  exact ⟨rfl, bthen HB1.out hB2⟩
end Go.Proofs.YtocncjimepnlcaaGreat
