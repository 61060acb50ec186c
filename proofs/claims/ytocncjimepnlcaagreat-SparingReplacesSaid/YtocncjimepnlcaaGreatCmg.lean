/- The reference's Encode of a sparing table. -/
import Derived.Test.YtocncjimepnlcaaGreatCmf
import Derived.Test.YtocncjimepnlcaaGreatCme
namespace Go.Proofs.YtocncjimepnlcaaGreat
set_option linter.unusedSimpArgs false
set_option linter.unusedVariables false
open Go Go.RowKit
theorem add_str (a b : ByteArray) (h : a.size + b.size < 2 ^ 40) (W : World) : (Op.stringOp .add a b).run Tryz.prog W = .ok (.string (a ++ b)) W := by
  have h1 : (a.size : Int) + (b.size : Int) ≤ 9223372036854775807 := by omega
  simp [Op.stringOp, h1]
/-- The table's box. -/
structure BX (w : World) (s : Int) (v : Value) (W : World) : Prop where
  b0 : W.heap[w.heap.size]? = some (.cells #[cN s, v] 26 (0, 0))
  bel : Below w.heap.size w W
theorem BX.below {w : World} {s : Int} {v : Value} {W W' : World} (h : BX w s v W) (k : Below W.heap.size W W') : BX w s v W' := ⟨(k.block _ (lt_of_block h.b0)).trans h.b0, bthen h.bel k⟩
theorem BX.drew {w : World} {s : Int} {v : Value} {W : World} (h : BX w s v W) : BX w s v W.drew := ⟨h.b0, h.bel.drew⟩
theorem BX.start {w : World} {s : Int} {v : Value} {W : World} (k : Below (w.alloc (.cells #[cN s, v] 26)).heap.size (w.alloc (.cells #[cN s, v] 26)) W) : BX w s v W :=
  ⟨(k.block _ (by rw [World.size_alloc]; omega)).trans (World.alloc_heap_new w (.cells #[cN s, v] 26)), bthen (bal (Below.refl _ w) _) k⟩
theorem rb2_ok (n : Nat) (W : World) (h : n < 65536) : Calls Tryz.prog 30 #[cN (n : Int), cN 2] W fun e w' => e = .returned (.string (leB n 2)) ∧ Below W.heap.size W w' := rbytes_ok n 2 W (by decide) (by omega)
theorem rb4_ok (n : Nat) (W : World) (h : n < 4294967296) : Calls Tryz.prog 30 #[cN (n : Int), cN 4] W fun e w' => e = .returned (.string (leB n 4)) ∧ Below W.heap.size W w' := rbytes_ok n 4 W (by decide) (by omega)
set_option maxRecDepth 100000 in
set_option maxHeartbeats 1000000 in
theorem rsenc_bad (s loc : Int) (v : Value) (l : List Sp) (w : World) (h : SL w v l) (hv : validB s l = false) : Calls Tryz.prog 10 #[.agg #[cN s, v], cN loc] w fun e w' => e = .returned (.tuple #[.string ByteArray.empty, cN 1]) ∧ Below w.heap.size w w' := by
  obtain ⟨a, c, rfl, -⟩ := h.rows
  have c1 := fun (W : World) (k : Below w.heap.size w W) => rvalid_ok s _ l W (h.below k)
  rw [hv] at c1
  clear h hv
  go_enter Tryz.func10, Tryz.ntmps10
  go_wp2_with (go_at_call 13; (with_reducible refine (c1 _ (bal (Below.refl _ w) _)).mono ?_); rintro e w1 ⟨rfl, hB1⟩)
  go_ret2
  exact ⟨rfl, bthen (bal (Below.refl _ w) _) hB1⟩
set_option maxRecDepth 100000 in
set_option maxHeartbeats 1000000 in
theorem rsenc_far (s loc : Int) (v : Value) (l : List Sp) (w : World) (h : SL w v l) (hv : validB s l = true) (hw : wordB loc = false) : Calls Tryz.prog 10 #[.agg #[cN s, v], cN loc] w fun e w' => e = .returned (.tuple #[.string ByteArray.empty, cN 2]) ∧ Below w.heap.size w w' := by
  obtain ⟨a, c, rfl, -⟩ := h.rows
  have c1 := fun (W : World) (k : Below w.heap.size w W) => rvalid_ok s _ l W (h.below k)
  have c2 := fun W => rword_ok loc W
  rw [hv] at c1
  rw [hw] at c2
  clear h hv hw
  go_enter Tryz.func10, Tryz.ntmps10
  go_wp2_with (first | (go_at_call 13; (with_reducible refine (c1 _ (bal (Below.refl _ w) _)).mono ?_); rintro e w1 ⟨rfl, hB1⟩) | (go_at_call 28; (with_reducible refine (c2 _).mono ?_); rintro e w1 ⟨rfl, rfl⟩))
  go_ret2
  exact ⟨rfl, bthen (bal (Below.refl _ w) _) hB1⟩
set_option maxRecDepth 100000 in
set_option maxHeartbeats 4000000 in
theorem rsenc_good (s : Int) (loc : Nat) (v : Value) (l : List Sp) (w : World) (h : SL w v l) (hv : validB s l = true) (hw : wordB loc = true) : Calls Tryz.prog 10 #[.agg #[cN s, v], cN (loc : Int)] w fun e w' => e = .returned (.tuple #[.string (blockB loc (bodyB s.toNat l)), cN 0]) ∧ Below w.heap.size w w' := by
  obtain ⟨a, c, rfl, hrow⟩ := h.rows
  have V := (valid_iff s l).1 hv
  obtain ⟨sn, rfl⟩ : ∃ sn : Nat, s = sn := ⟨s.toNat, by have := V.s0; omega⟩
  rw [Int.toNat_natCast]
  have hs1 : sn < 4294967296 := by have := V.s1; omega
  have hl8 := V.len
  have VW := Lib.hid V.w
  have hloc : loc < 4294967296 := by
    simp only [wordB, decide_eq_true_eq] at hw
    omega
  have c1 := fun (W : World) (k : Below w.heap.size w W) => rvalid_ok sn _ l W (h.below k)
  have c2 := fun W => rword_ok loc W
  rw [hv] at c1
  rw [hw] at c2
  have HR := Lib.hid hrow
  have c9 := fun W => rblock_ok loc (bodyB sn l) W hloc (by rw [bodyB_size]; omega)
  generalize hBK : blockB loc (bodyB sn l) = BK at c9 ⊢
  have c3 : ∀ W, Calls Tryz.prog 29 #[.string ⟨#[42, 85, 68, 70, 32, 83, 112, 97, 114, 105, 110, 103, 32, 84, 97, 98, 108, 101]⟩, .string ⟨#[1, 2]⟩] W fun e w' => e = .returned (.tuple #[.string entB, cN 0]) ∧ Below W.heap.size W w' := fun W => rentity_ok W
  have c4 := fun W => rb2_ok l.length W (by omega)
  have c5 := fun W => rb4_ok sn W hs1
  have hHD := hdB_ref sn l.length
  have hes := entB_size
  have HBD : Hid (∀ k, (rowB (hdB sn l.length) (l.take k)).size ≤ 2 ^ 19) := Lib.hid (by
    intro k
    rw [rowB_size, List.length_take]
    have : (hdB sn l.length).size = 40 := by unfold hdB; simp only [size_app, leB_size, entB_size]
    omega)
  have HBB : Hid (rowB (hdB sn l.length) (l.take l.length) = bodyB sn l) := Lib.hid (by rw [List.take_length]; rfl)
  have hz1 := leB_size l.length 2
  have hz2 := leB_size sn 4
  generalize bodyB sn l = BO at c9 HBB
  generalize hdB sn l.length = HD at HBD HBB hHD
  generalize entB = E at c3 hes hHD
  generalize leB l.length 2 = z1 at c4 hz1 hHD
  generalize leB sn 4 = z2 at c5 hz2 hHD
  have HHD := Lib.hid hHD
  have a1 := fun W => add_str E z1 (by omega) W
  have a2 := fun W => add_str (E ++ z1) ⟨#[0, 0]⟩ (by rw [size_app, hes, hz1]; decide) W
  clear hrow h hv hw V hBK hHD
  go_enter Tryz.func10, Tryz.ntmps10
  go_wp2_with (first | (go_at_call 13; (with_reducible refine (c1 _ (bal (Below.refl _ w) _)).mono ?_); rintro e w1 ⟨rfl, hB1⟩; have HB1 := Lib.hid hB1; clear hB1 c1) | (go_at_call 28; (with_reducible refine (c2 _).mono ?_); rintro e w1 ⟨rfl, rfl⟩) | (go_at_call 29; (with_reducible refine (c3 _).mono ?_); rintro e w2 ⟨rfl, hB2⟩; have HX := Lib.hid (BX.start (bthen HB1.out hB2)); clear hB2 HB1 c3))
  refine region_sch (fun W => BX w sn (.slice a l.length c) W) [(true, 0), (true, 1), (true, 2), (true, 3), (true, 7), (true, 8), (false, 4), (true, 5), (true, 6), (false, 9)] [10, 11] (by kernel_rfl) (by kernel_rfl) (by rintro ⟨_, _, h, _⟩; cases h) (fun _ _ d _ _ h => by cases d <;> exact h) HX.out.drew ?_
  simp only [pickM, pickT, List.filterMap_cons, List.filterMap_nil, List.getElem?_cons_zero, List.getElem?_cons_succ, Option.map_some]
  repeat (first | (refine m_float ⟨?_, .inl ⟨?_, .inl ?_⟩, fun K' hK => ?_⟩; rotate_left; (first | rfl | (go_simp; done)); (intro w' hS; (have p0 := Lib.cell_of_heap hS.b0 0; have p1 := Lib.cell_of_heap hS.b0 1); go_simp; try rfl); (simp only [Act.put, List.setIfInBounds_toArray, List.set_cons_succ, List.set_cons_zero]; refine hK _ ?_; clear hK K')) | (refine m_float ⟨undef, .inr ⟨?_, rfl⟩, fun K' hK => ?_⟩; (first | rfl | (go_simp; done)); (simp only [Act.put, List.setIfInBounds_toArray, List.set_cons_succ, List.set_cons_zero]; refine hK _ ?_; clear hK K')))
  refine m_loud ?_ (fun K' hK => ?_)
  · rintro ⟨_, _, h, _⟩; cases h
  go_wp2_with (go_at_call 30; (with_reducible refine (c4 _).mono ?_); rintro e w3 ⟨rfl, hB3⟩)
  have HX3 := Lib.hid (HX.out.drew.below hB3)
  refine hK _ _ HX3.out ?_
  clear hK K'
  repeat (first | (refine m_float ⟨?_, .inl ⟨?_, .inl ?_⟩, fun K' hK => ?_⟩; rotate_left; (first | rfl | (go_simp; done)); (intro w' hS; (skip); go_simp; try rfl); (simp only [Act.put, List.setIfInBounds_toArray, List.set_cons_succ, List.set_cons_zero]; refine hK _ ?_; clear hK K')) | (refine m_float ⟨undef, .inr ⟨?_, rfl⟩, fun K' hK => ?_⟩; (first | rfl | (go_simp; done)); (simp only [Act.put, List.setIfInBounds_toArray, List.set_cons_succ, List.set_cons_zero]; refine hK _ ?_; clear hK K')))
  refine m_loud ?_ (fun K' hK => ?_)
  · rintro ⟨_, _, h, _⟩; cases h
  go_wp2_with (go_at_call 30; (with_reducible refine (c5 _).mono ?_); rintro e w4 ⟨rfl, hB4⟩)
  have HX4 := Lib.hid (HX3.out.below hB4)
  refine hK _ _ HX4.out ?_
  clear hK K'
  refine m_nil ?_
  show wpList Tryz.prog _ _ (List.cons _ _) _ _
  go_wp2
  rw [HHD.out]
  clear HHD hz1 hz2 hes c4 c5 hB3 hB4 HX HX3
  go_loopw [9, 8] (fun i o wr => ∃ k : Nat, i = cN k ∧ k ≤ l.length ∧ o = .string (rowB HD (l.take k)) ∧ BX w sn (.slice a l.length c) wr) (fun i _ _ => l.length - (intOf i).toNat)
  case atStart => exact ⟨0, rfl, Nat.zero_le _, rfl, HX4.out⟩
  case round =>
    obtain ⟨k, rfl, hk, rfl, hX⟩ := hrel
    have p1 := Lib.cell_of_heap hX.b0 1
    have HX := Lib.hid hX
    clear hX
    by_cases hlt : (k : Int) < (l.length : Int)
    · have hkl : k < l.length := by omega
      obtain ⟨b, off, rfl, hlc, hb, hc0, hc1⟩ := HR.out k hkl
      have HV := Lib.hid (VW.out (at_ l k) (at_mem hkl))
      have HT := Lib.hid (take_snocS l k hkl)
      obtain ⟨xo, xm, hx⟩ : ∃ xo xm, at_ l k = (xo, xm) := ⟨_, _, rfl⟩
      rw [hx] at hc0 hc1 HV HT
      obtain ⟨⟨g1, g2⟩, ⟨g3, g4⟩, -⟩ := HV.out
      simp only at g1 g2 g3 g4 hc0 hc1
      obtain ⟨on, rfl⟩ : ∃ on : Nat, xo = on := ⟨xo.toNat, by omega⟩
      obtain ⟨mn, rfl⟩ : ∃ mn : Nat, xm = mn := ⟨xm.toNat, by omega⟩
      have CX : Hid (∀ W, BX w sn (.slice (some ⟨b, off, none⟩) l.length c) W → W.cell? ⟨b, off + k * 2, none⟩ = some (cN on) ∧ W.cell? ⟨b, off + k * 2 + 1, none⟩ = some (cN mn) ∧ W.cell? ⟨w.heap.size, 1, none⟩ = some (.slice (some ⟨b, off, none⟩) l.length c)) := Lib.hid fun W hW => ⟨(hW.bel.cell (p := ⟨b, off + k * 2, none⟩) hb).trans hc0, (hW.bel.cell (p := ⟨b, off + k * 2 + 1, none⟩) hb).trans hc1, Lib.cell_of_heap hW.b0 1⟩
      have hbd := HBD.out k
      have hkc : (k : Int) ≤ (c : Int) := by omega
      have c6 := fun W => rb4_ok on W (by omega)
      have c7 := fun W => rb4_ok mn W (by omega)
      have hz1 := leB_size on 4
      have hz2 := leB_size mn 4
      have HN : Hid (rowB HD (l.take (k + 1)) = rowB HD (l.take k) ++ leB on 4 ++ leB mn 4) := Lib.hid (by rw [HT.out, rowB_snoc]; rfl)
      generalize hR1 : rowB HD (l.take (k + 1)) = R1 at HN
      have HR1 := Lib.hid hR1
      clear hR1
      generalize rowB HD (l.take k) = R0 at HN hbd
      generalize leB on 4 = z1 at c6 hz1 HN
      generalize leB mn 4 = z2 at c7 hz2 HN
      have a3 := fun W => add_str R0 z1 (by omega) W
      clear hx hc0 hc1 g1 g2 g3 g4 HV HT
      go_wp2
      refine region_sch (fun W => BX w sn (.slice (some ⟨b, off, none⟩) l.length c) W) [(true, 0), (true, 1), (true, 2), (true, 3), (true, 4), (true, 5), (true, 6), (true, 9), (true, 10), (true, 11), (true, 12), (true, 13), (true, 14), (false, 7), (true, 8), (false, 15)] [16, 17] (by kernel_rfl) (by kernel_rfl) (by rintro ⟨_, _, h, _⟩; cases h) (fun _ _ d _ _ h => by cases d <;> exact h) HX.out.drew ?_
      simp only [pickM, pickT, List.filterMap_cons, List.filterMap_nil, List.getElem?_cons_zero, List.getElem?_cons_succ, Option.map_some]
      repeat (first | (refine m_float ⟨?_, .inl ⟨?_, .inl ?_⟩, fun K' hK => ?_⟩; rotate_left; (first | rfl | (go_simp; done)); (intro w' hS; (obtain ⟨q0, q1, q2⟩ := CX.out _ hS); go_simp; try rfl); (simp only [Act.put, List.setIfInBounds_toArray, List.set_cons_succ, List.set_cons_zero]; refine hK _ ?_; clear hK K')) | (refine m_float ⟨undef, .inr ⟨?_, rfl⟩, fun K' hK => ?_⟩; (first | rfl | (go_simp; done)); (simp only [Act.put, List.setIfInBounds_toArray, List.set_cons_succ, List.set_cons_zero]; refine hK _ ?_; clear hK K')))
      refine m_loud ?_ (fun K' hK => ?_)
      · rintro ⟨_, _, h, _⟩; cases h
      go_wp2_with (go_at_call 30; (with_reducible refine (c6 _).mono ?_); rintro e w5 ⟨rfl, hB5⟩)
      have HX5 := Lib.hid (HX.out.drew.below hB5)
      refine hK _ _ HX5.out ?_
      clear hK K'
      repeat (first | (refine m_float ⟨?_, .inl ⟨?_, .inl ?_⟩, fun K' hK => ?_⟩; rotate_left; (first | rfl | (go_simp; done)); (intro w' hS; (skip); go_simp; try rfl); (simp only [Act.put, List.setIfInBounds_toArray, List.set_cons_succ, List.set_cons_zero]; refine hK _ ?_; clear hK K')) | (refine m_float ⟨undef, .inr ⟨?_, rfl⟩, fun K' hK => ?_⟩; (first | rfl | (go_simp; done)); (simp only [Act.put, List.setIfInBounds_toArray, List.set_cons_succ, List.set_cons_zero]; refine hK _ ?_; clear hK K')))
      refine m_loud ?_ (fun K' hK => ?_)
      · rintro ⟨_, _, h, _⟩; cases h
      go_wp2_with (go_at_call 30; (with_reducible refine (c7 _).mono ?_); rintro e w6 ⟨rfl, hB6⟩)
      have HX6 := Lib.hid (HX5.out.below hB6)
      refine hK _ _ HX6.out ?_
      clear hK K'
      refine m_nil ?_
      show wpList Tryz.prog _ _ (List.cons _ _) _ _
      go_wp2
      go_roundw
      case rel => exact ⟨k + 1, by go_num, by omega, by rw [HR1.out, HN.out], HX6.out⟩
      case measure => simp [intOf]; omega
    · obtain rfl : k = l.length := by omega
      rw [HBB.out]
      go_wp2_with (go_at_call 31; (with_reducible refine (c9 _).mono ?_); rintro e w8 ⟨rfl, hB8⟩)
      go_ret2
      exact ⟨rfl, bthen HX.out.bel hB8⟩
theorem rsenc_ok (s loc : Int) (v : Value) (l : List Sp) (w : World) (h : SL w v l) : Calls Tryz.prog 10 #[.agg #[cN s, v], cN loc] w fun e w' => e = .returned (.tuple #[.string (encS s loc l), cN (encE s loc l)]) ∧ Below w.heap.size w w' := by
  unfold encS encE
  cases hv : validB s l with
  | false => simpa using rsenc_bad s loc v l w h hv
  | true =>
    cases hw : wordB loc with
    | false => simpa using rsenc_far s loc v l w h hv hw
    | true =>
      obtain ⟨n, rfl⟩ : ∃ n : Nat, loc = n := ⟨loc.toNat, by simp only [wordB, decide_eq_true_eq] at hw; omega⟩
      simpa using rsenc_good s n v l w h hv hw
end Go.Proofs.YtocncjimepnlcaaGreat
