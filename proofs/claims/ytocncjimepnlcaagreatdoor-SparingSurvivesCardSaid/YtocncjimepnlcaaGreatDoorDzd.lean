/- Package udftag: Faults and Is at the block of a sparing table. -/
import Derived.Test.YtocncjimepnlcaaGreatDoorDzc
import Derived.Test.YtocncjimepnlcaaGreatDoorRgn
namespace Go.Proofs.YtocncjimepnlcaaGreatDoor
set_option linter.unusedSimpArgs false
set_option linter.unusedVariables false
open Go Go.RowKit
/-- The blocks of Faults. -/
structure FSt (w : World) (x7 size loc : Nat) (W : World) : Prop where
  bp : W.heap[w.heap.size]? = some (.cells #[.slice none 0 0] 37 (0, 0))
  b7 : W.heap[x7]? = some (.cells #[cN 0, cN 1, cN (size : Int), cN (loc : Int)] 83 (0, 0))
  bel : Below w.heap.size w W
theorem FSt.below {w : World} {x7 size loc : Nat} {W W' : World} (h : FSt w x7 size loc W) (k : Below W.heap.size W W') : FSt w x7 size loc W' :=
  ⟨(k.block _ (lt_of_block h.bp)).trans h.bp, (k.block _ (lt_of_block h.b7)).trans h.b7, bthen h.bel k⟩
theorem FSt.start {w : World} {size loc : Nat} {W : World} (k : Below (w.alloc (.cells #[.slice none 0 0] 37)).heap.size (w.alloc (.cells #[.slice none 0 0] 37)) W) : FSt w W.heap.size size loc (W.alloc (.cells #[cN 0, cN 1, cN (size : Int), cN (loc : Int)] 83)) := by
  have hs := k.size
  rw [World.size_alloc] at hs
  have h0 := (k.block _ (by rw [World.size_alloc]; omega)).trans (World.alloc_heap_new w (.cells #[.slice none 0 0] 37))
  exact ⟨(Lib.alloc_old W _ _ (by omega)).trans h0, World.alloc_heap_new W _, bal (bthen (bal (Below.refl _ w) _) k) _⟩
set_option maxRecDepth 100000 in
set_option maxHeartbeats 4000000 in
theorem tfaults_same {D : ByteArray} {loc size crc x : Nat} (T : TG D loc size crc x) (w : World) : Calls Tryz.prog 40 #[.string D, cN (loc : Int)] w fun e w' => (∃ a c, e = .returned (.slice a 0 c)) ∧ Below w.heap.size w w' := by
  have hs := T.sz
  have hs2 := T.hs
  have k1 := fun W => tvalues_ok T W
  have k2 : ∀ W, Calls Tryz.prog 66 #[.string D, cN 2, cN 2] W fun e w' => e = .returned (cN 3) ∧ Below W.heap.size W w' := fun W => by
    have := tread_ok D 2 2 W (by omega) (by decide) (by decide) (by omega)
    rw [T.ver] at this
    exact this
  have k3 : ∀ W, Calls Tryz.prog 66 #[.string D, cN 8, cN 2] W fun e w' => e = .returned (cN (crc : Int)) ∧ Below W.heap.size W w' := fun W => by
    have := tread_ok D 8 2 W (by omega) (by decide) (by decide) (by omega)
    rw [T.crcR] at this
    exact this
  have k4 : ∀ W, Calls Tryz.prog 67 #[.string D] W fun e w' => e = .returned (.int .u8 (x : Int)) ∧ Below W.heap.size W w' := fun W => by
    have := tsum_ok D W (by omega) (by omega)
    rw [T.sum] at this
    exact this
  have k5 : ∀ W, Calls Tryz.prog 63 #[.string (D.extract 16 (16 + size))] W fun e w' => e = .returned (.int .u16 (crc : Int)) ∧ Below W.heap.size W w' := fun W => by
    have := crc16_ok (D.extract 16 (16 + size)) W (by rw [extract_size _ _ _ (by omega)]; omega)
    rw [T.body] at this
    exact this
  have h4 : 4 < D.size := by omega
  have hb4 : (D[4]'h4).toNat = x := by rw [sB_get D 4 h4, T.b4]
  have g1 : IntKind.i64.wrap (crc : Int) = (crc : Int) := by have := T.hc; rw [IntKind.wrap_i64]; omega
  have g2 : IntKind.i64.wrap (16 + (size : Int)) = 16 + (size : Int) := by rw [IntKind.wrap_i64]; omega
  have g3 : ((16 : Int) + (size : Int)).toNat = 16 + size := by omega
  have G4 := Lib.hid (decide_eq_false (show ¬ (2032 : Int) < (size : Int) by omega))
  have g5 : (0 : Int) ≤ 16 + (size : Int) := by omega
  have g6 : (16 : Int) + (size : Int) ≤ 2048 := by omega
  have g7 : (16 : Int) ≤ 16 + (size : Int) := by omega
  clear T
  go_enter Tryz.func40, Tryz.ntmps40
  go_wp2_with (go_at_call 41; (with_reducible refine (k1 _).mono ?_); rintro e w1 ⟨rfl, hB1⟩; have HF := Lib.hid (FSt.start (size := size) (loc := loc) hB1); clear hB1 k1)
  with_reducible refine (k2 _).mono ?_
  rintro e w2 ⟨rfl, hB2⟩
  have HF' := Lib.hid (HF.out.below hB2)
  generalize w1.heap.size = x7 at *
  clear HF hB2
  have HF := HF'
  clear HF'
  have HF0 := Lib.hid (HF.out.below (Below.refl _ w2).drew)
  go_wp2
  refine region_sch (fun W => FSt w x7 size loc W) [(true, 0), (true, 1), (true, 2), (true, 3), (false, 4), (true, 5)] [6] (by kernel_rfl) (by kernel_rfl) (by rintro ⟨_, _, ⟨_, _, h⟩, -⟩; cases h) (fun _ _ d _ _ h => by cases d <;> exact h) HF0.out ?_
  simp only [pickM, pickT, List.filterMap_cons, List.filterMap_nil, List.getElem?_cons_zero, List.getElem?_cons_succ, Option.map_some]
  repeat (first | (refine m_float ⟨?_, .inl ⟨?_, .inl ?_⟩, fun K' hK => ?_⟩; rotate_left; (first | rfl | (go_simp; done)); (intro w' hS; skip; go_simp; try rfl); (simp only [Act.put, List.setIfInBounds_toArray, List.set_cons_succ, List.set_cons_zero]; refine hK _ ?_; clear hK K')) | (refine m_float ⟨undef, .inr ⟨?_, rfl⟩, fun K' hK => ?_⟩; (first | rfl | (go_simp; done)); (simp only [Act.put, List.setIfInBounds_toArray, List.set_cons_succ, List.set_cons_zero]; refine hK _ ?_; clear hK K')))
  refine m_loud ?_ (fun K' hK => ?_)
  · rintro ⟨_, _, ⟨_, _, h⟩, -⟩; cases h
  go_wp2_with (go_at_call 67; (with_reducible refine (k4 _).mono ?_); rintro e w3 ⟨rfl, hB3⟩)
  have HF3 := Lib.hid (HF0.out.below hB3)
  refine hK _ _ HF3.out ?_
  clear hK K'
  repeat (first | (refine m_float ⟨?_, .inl ⟨?_, .inl ?_⟩, fun K' hK => ?_⟩; rotate_left; (first | rfl | (go_simp; done)); (intro w' hS; skip; go_simp; try rfl); (simp only [Act.put, List.setIfInBounds_toArray, List.set_cons_succ, List.set_cons_zero]; refine hK _ ?_; clear hK K')) | (refine m_float ⟨undef, .inr ⟨?_, rfl⟩, fun K' hK => ?_⟩; (first | rfl | (go_simp; done)); (simp only [Act.put, List.setIfInBounds_toArray, List.set_cons_succ, List.set_cons_zero]; refine hK _ ?_; clear hK K')))
  refine m_nil ?_
  show wpList Tryz.prog _ _ (List.cons _ _) _ _
  clear HF
  go_wp2_with fail
  with_reducible refine (tadd_no _ _ _).mono ?_
  rintro e w4 ⟨rfl, rfl⟩
  go_wp2_with fail
  with_reducible refine (tadd_no _ _ _).mono ?_
  rintro e w5 ⟨rfl, rfl⟩
  have p1 := Lib.cell_of_heap HF3.out.b7 2
  have p2 := Lib.cell_of_heap HF3.out.b7 3
  go_wp2_with fail
  rw [G4.out]
  with_reducible refine (tadd_no _ _ _).mono ?_
  rintro e w6 ⟨rfl, rfl⟩
  have HF4 := Lib.hid (HF3.out.below (Below.refl _ _).drew)
  go_wp2
  clear p1 p2
  refine region_sch (fun W => FSt w x7 size loc W) [(true, 0), (true, 1), (true, 3), (true, 4), (true, 5), (true, 6), (true, 7), (false, 2), (false, 8), (true, 9), (true, 10)] [11] (by kernel_rfl) (by kernel_rfl) (by rintro ⟨_, _, ⟨_, _, h⟩, -⟩; cases h) (fun _ _ d _ _ h => by cases d <;> exact h) HF4.out ?_
  simp only [pickM, pickT, List.filterMap_cons, List.filterMap_nil, List.getElem?_cons_zero, List.getElem?_cons_succ, Option.map_some]
  repeat (first | (refine m_float ⟨?_, .inl ⟨?_, .inl ?_⟩, fun K' hK => ?_⟩; rotate_left; (first | rfl | (go_simp; done)); (intro w' hS; (have p1 := Lib.cell_of_heap hS.b7 2; have p2 := Lib.cell_of_heap hS.b7 3); go_simp; try rfl); (simp only [Act.put, List.setIfInBounds_toArray, List.set_cons_succ, List.set_cons_zero]; refine hK _ ?_; clear hK K')) | (refine m_float ⟨undef, .inr ⟨?_, rfl⟩, fun K' hK => ?_⟩; (first | rfl | (go_simp; done)); (simp only [Act.put, List.setIfInBounds_toArray, List.set_cons_succ, List.set_cons_zero]; refine hK _ ?_; clear hK K')))
  refine m_loud ?_ (fun K' hK => ?_)
  · rintro ⟨_, _, ⟨_, _, h⟩, -⟩; cases h
  go_wp2_with (go_at_call 66; (with_reducible refine (k3 _).mono ?_); rintro e w7 ⟨rfl, hB7⟩)
  have HF7 := Lib.hid (HF4.out.below hB7)
  refine hK _ _ HF7.out ?_
  clear hK K'
  refine m_loud ?_ (fun K' hK => ?_)
  · rintro ⟨_, _, ⟨_, _, h⟩, -⟩; cases h
  go_wp2_with (go_at_call 63; (with_reducible refine (k5 _).mono ?_); rintro e w8 ⟨rfl, hB8⟩)
  have HF8 := Lib.hid (HF7.out.below hB8)
  refine hK _ _ HF8.out ?_
  clear hK K'
  repeat (first | (refine m_float ⟨?_, .inl ⟨?_, .inl ?_⟩, fun K' hK => ?_⟩; rotate_left; (first | rfl | (go_simp; done)); (intro w' hS; skip; go_simp; try rfl); (simp only [Act.put, List.setIfInBounds_toArray, List.set_cons_succ, List.set_cons_zero]; refine hK _ ?_; clear hK K')) | (refine m_float ⟨undef, .inr ⟨?_, rfl⟩, fun K' hK => ?_⟩; (first | rfl | (go_simp; done)); (simp only [Act.put, List.setIfInBounds_toArray, List.set_cons_succ, List.set_cons_zero]; refine hK _ ?_; clear hK K')))
  refine m_nil ?_
  show wpList Tryz.prog _ _ (List.cons _ _) _ _
  go_wp2_with fail
  with_reducible refine (tadd_no _ _ _).mono ?_
  rintro e w9 ⟨rfl, rfl⟩
  have p1 := Lib.cell_of_heap HF8.out.b7 2
  have p2 := Lib.cell_of_heap HF8.out.b7 3
  have p3 := Lib.cell_of_heap HF8.out.bp 0
  go_wp2_with fail
  with_reducible refine (tadd_no _ _ _).mono ?_
  rintro e w10 ⟨rfl, rfl⟩
  go_wp2
  go_ret
  exact ⟨⟨_, _, rfl⟩, HF8.out.bel⟩
set_option maxRecDepth 100000 in
set_option maxHeartbeats 4000000 in
theorem tfaults_diff {D : ByteArray} {loc size crc x : Nat} (T : TG D loc size crc x) (loc2 : Int) (hne : ((loc : Int) != loc2) = true) (w : World) : Calls Tryz.prog 40 #[.string D, cN loc2] w fun e w' => (∃ a c, e = .returned (.slice a 1 c)) ∧ Below w.heap.size w w' := by
  have hs := T.sz
  have hs2 := T.hs
  have k1 := fun W => tvalues_ok T W
  have k2 : ∀ W, Calls Tryz.prog 66 #[.string D, cN 2, cN 2] W fun e w' => e = .returned (cN 3) ∧ Below W.heap.size W w' := fun W => by
    have := tread_ok D 2 2 W (by omega) (by decide) (by decide) (by omega)
    rw [T.ver] at this
    exact this
  have k3 : ∀ W, Calls Tryz.prog 66 #[.string D, cN 8, cN 2] W fun e w' => e = .returned (cN (crc : Int)) ∧ Below W.heap.size W w' := fun W => by
    have := tread_ok D 8 2 W (by omega) (by decide) (by decide) (by omega)
    rw [T.crcR] at this
    exact this
  have k4 : ∀ W, Calls Tryz.prog 67 #[.string D] W fun e w' => e = .returned (.int .u8 (x : Int)) ∧ Below W.heap.size W w' := fun W => by
    have := tsum_ok D W (by omega) (by omega)
    rw [T.sum] at this
    exact this
  have k5 : ∀ W, Calls Tryz.prog 63 #[.string (D.extract 16 (16 + size))] W fun e w' => e = .returned (.int .u16 (crc : Int)) ∧ Below W.heap.size W w' := fun W => by
    have := crc16_ok (D.extract 16 (16 + size)) W (by rw [extract_size _ _ _ (by omega)]; omega)
    rw [T.body] at this
    exact this
  have h4 : 4 < D.size := by omega
  have hb4 : (D[4]'h4).toNat = x := by rw [sB_get D 4 h4, T.b4]
  have g1 : IntKind.i64.wrap (crc : Int) = (crc : Int) := by have := T.hc; rw [IntKind.wrap_i64]; omega
  have g2 : IntKind.i64.wrap (16 + (size : Int)) = 16 + (size : Int) := by rw [IntKind.wrap_i64]; omega
  have g3 : ((16 : Int) + (size : Int)).toNat = 16 + size := by omega
  have G4 := Lib.hid (decide_eq_false (show ¬ (2032 : Int) < (size : Int) by omega))
  have g5 : (0 : Int) ≤ 16 + (size : Int) := by omega
  have g6 : (16 : Int) + (size : Int) ≤ 2048 := by omega
  have g7 : (16 : Int) ≤ 16 + (size : Int) := by omega
  have HNE := Lib.hid hne
  clear T hne
  go_enter Tryz.func40, Tryz.ntmps40
  go_wp2_with (go_at_call 41; (with_reducible refine (k1 _).mono ?_); rintro e w1 ⟨rfl, hB1⟩; have HF := Lib.hid (FSt.start (size := size) (loc := loc) hB1); clear hB1 k1)
  with_reducible refine (k2 _).mono ?_
  rintro e w2 ⟨rfl, hB2⟩
  have HF' := Lib.hid (HF.out.below hB2)
  generalize w1.heap.size = x7 at *
  clear HF hB2
  have HF := HF'
  clear HF'
  have HF0 := Lib.hid (HF.out.below (Below.refl _ w2).drew)
  go_wp2
  refine region_sch (fun W => FSt w x7 size loc W) [(true, 0), (true, 1), (true, 2), (true, 3), (false, 4), (true, 5)] [6] (by kernel_rfl) (by kernel_rfl) (by rintro ⟨_, _, ⟨_, _, h⟩, -⟩; cases h) (fun _ _ d _ _ h => by cases d <;> exact h) HF0.out ?_
  simp only [pickM, pickT, List.filterMap_cons, List.filterMap_nil, List.getElem?_cons_zero, List.getElem?_cons_succ, Option.map_some]
  repeat (first | (refine m_float ⟨?_, .inl ⟨?_, .inl ?_⟩, fun K' hK => ?_⟩; rotate_left; (first | rfl | (go_simp; done)); (intro w' hS; skip; go_simp; try rfl); (simp only [Act.put, List.setIfInBounds_toArray, List.set_cons_succ, List.set_cons_zero]; refine hK _ ?_; clear hK K')) | (refine m_float ⟨undef, .inr ⟨?_, rfl⟩, fun K' hK => ?_⟩; (first | rfl | (go_simp; done)); (simp only [Act.put, List.setIfInBounds_toArray, List.set_cons_succ, List.set_cons_zero]; refine hK _ ?_; clear hK K')))
  refine m_loud ?_ (fun K' hK => ?_)
  · rintro ⟨_, _, ⟨_, _, h⟩, -⟩; cases h
  go_wp2_with (go_at_call 67; (with_reducible refine (k4 _).mono ?_); rintro e w3 ⟨rfl, hB3⟩)
  have HF3 := Lib.hid (HF0.out.below hB3)
  refine hK _ _ HF3.out ?_
  clear hK K'
  repeat (first | (refine m_float ⟨?_, .inl ⟨?_, .inl ?_⟩, fun K' hK => ?_⟩; rotate_left; (first | rfl | (go_simp; done)); (intro w' hS; skip; go_simp; try rfl); (simp only [Act.put, List.setIfInBounds_toArray, List.set_cons_succ, List.set_cons_zero]; refine hK _ ?_; clear hK K')) | (refine m_float ⟨undef, .inr ⟨?_, rfl⟩, fun K' hK => ?_⟩; (first | rfl | (go_simp; done)); (simp only [Act.put, List.setIfInBounds_toArray, List.set_cons_succ, List.set_cons_zero]; refine hK _ ?_; clear hK K')))
  refine m_nil ?_
  show wpList Tryz.prog _ _ (List.cons _ _) _ _
  clear HF
  go_wp2_with fail
  with_reducible refine (tadd_no _ _ _).mono ?_
  rintro e w4 ⟨rfl, rfl⟩
  go_wp2_with fail
  with_reducible refine (tadd_no _ _ _).mono ?_
  rintro e w5 ⟨rfl, rfl⟩
  have p1 := Lib.cell_of_heap HF3.out.b7 2
  have p2 := Lib.cell_of_heap HF3.out.b7 3
  go_wp2_with fail
  rw [G4.out]
  with_reducible refine (tadd_no _ _ _).mono ?_
  rintro e w6 ⟨rfl, rfl⟩
  have HF4 := Lib.hid (HF3.out.below (Below.refl _ _).drew)
  go_wp2
  clear p1 p2
  refine region_sch (fun W => FSt w x7 size loc W) [(true, 0), (true, 1), (true, 3), (true, 4), (true, 5), (true, 6), (true, 7), (false, 2), (false, 8), (true, 9), (true, 10)] [11] (by kernel_rfl) (by kernel_rfl) (by rintro ⟨_, _, ⟨_, _, h⟩, -⟩; cases h) (fun _ _ d _ _ h => by cases d <;> exact h) HF4.out ?_
  simp only [pickM, pickT, List.filterMap_cons, List.filterMap_nil, List.getElem?_cons_zero, List.getElem?_cons_succ, Option.map_some]
  repeat (first | (refine m_float ⟨?_, .inl ⟨?_, .inl ?_⟩, fun K' hK => ?_⟩; rotate_left; (first | rfl | (go_simp; done)); (intro w' hS; (have p1 := Lib.cell_of_heap hS.b7 2; have p2 := Lib.cell_of_heap hS.b7 3); go_simp; try rfl); (simp only [Act.put, List.setIfInBounds_toArray, List.set_cons_succ, List.set_cons_zero]; refine hK _ ?_; clear hK K')) | (refine m_float ⟨undef, .inr ⟨?_, rfl⟩, fun K' hK => ?_⟩; (first | rfl | (go_simp; done)); (simp only [Act.put, List.setIfInBounds_toArray, List.set_cons_succ, List.set_cons_zero]; refine hK _ ?_; clear hK K')))
  refine m_loud ?_ (fun K' hK => ?_)
  · rintro ⟨_, _, ⟨_, _, h⟩, -⟩; cases h
  go_wp2_with (go_at_call 66; (with_reducible refine (k3 _).mono ?_); rintro e w7 ⟨rfl, hB7⟩)
  have HF7 := Lib.hid (HF4.out.below hB7)
  refine hK _ _ HF7.out ?_
  clear hK K'
  refine m_loud ?_ (fun K' hK => ?_)
  · rintro ⟨_, _, ⟨_, _, h⟩, -⟩; cases h
  go_wp2_with (go_at_call 63; (with_reducible refine (k5 _).mono ?_); rintro e w8 ⟨rfl, hB8⟩)
  have HF8 := Lib.hid (HF7.out.below hB8)
  refine hK _ _ HF8.out ?_
  clear hK K'
  repeat (first | (refine m_float ⟨?_, .inl ⟨?_, .inl ?_⟩, fun K' hK => ?_⟩; rotate_left; (first | rfl | (go_simp; done)); (intro w' hS; skip; go_simp; try rfl); (simp only [Act.put, List.setIfInBounds_toArray, List.set_cons_succ, List.set_cons_zero]; refine hK _ ?_; clear hK K')) | (refine m_float ⟨undef, .inr ⟨?_, rfl⟩, fun K' hK => ?_⟩; (first | rfl | (go_simp; done)); (simp only [Act.put, List.setIfInBounds_toArray, List.set_cons_succ, List.set_cons_zero]; refine hK _ ?_; clear hK K')))
  refine m_nil ?_
  show wpList Tryz.prog _ _ (List.cons _ _) _ _
  go_wp2_with fail
  with_reducible refine (tadd_no _ _ _).mono ?_
  rintro e w9 ⟨rfl, rfl⟩
  have p1 := Lib.cell_of_heap HF8.out.b7 2
  have p2 := Lib.cell_of_heap HF8.out.b7 3
  have p3 := Lib.cell_of_heap HF8.out.bp 0
  go_wp2_with fail
  rw [HNE.out]
  with_reducible refine (tadd_yes _ _ _ HF8.out.bp).mono ?_
  rintro e w10 ⟨rfl, a, c, hb10, hB10⟩
  have p4 := Lib.cell_of_heap hb10 0
  have HB10 := Lib.hid (HF8.out.bel.trans hB10)
  clear hB10 hb10 p1 p2 p3
  go_wp2
  go_ret
  exact ⟨⟨_, _, rfl⟩, HB10.out⟩
theorem tg_field (a b c d : Int) (W : World) : (Instr.field 83 (.agg #[cN a, cN b, cN c, cN d]) 0).run Tryz.prog W = .ok (cN a) W := by kernel_rfl
set_option maxRecDepth 100000 in
set_option maxHeartbeats 400000 in
theorem tis_same {D : ByteArray} {loc size crc x : Nat} (T : TG D loc size crc x) (w : World) : Calls Tryz.prog 23 #[.string D, cN 0, cN (loc : Int)] w fun e w' => e = .returned (.bool true) ∧ Below w.heap.size w w' := by
  have k1 := fun W => tfaults_same T W
  have k2 := fun W => tvalues_ok T W
  have hf := fun W => tg_field 0 1 (size : Int) (loc : Int) W
  clear T
  go_enter Tryz.func23, Tryz.ntmps23
  go_wp2_with (first | (go_at_call 40; (with_reducible refine (k1 _).mono ?_); rintro e w1 ⟨⟨a, c, rfl⟩, hB1⟩; have HB1 := Lib.hid hB1; clear hB1) | (go_at_call 41; (with_reducible refine (k2 _).mono ?_); rintro e w2 ⟨rfl, hB2⟩))
  go_ret
  exact ⟨rfl, bthen HB1.out hB2⟩
set_option maxRecDepth 100000 in
set_option maxHeartbeats 400000 in
theorem tis_diff {D : ByteArray} {loc size crc x : Nat} (T : TG D loc size crc x) (loc2 : Int) (hne : ((loc : Int) != loc2) = true) (w : World) : Calls Tryz.prog 23 #[.string D, cN 0, cN loc2] w fun e w' => e = .returned (.bool false) ∧ Below w.heap.size w w' := by
  have k1 := fun W => tfaults_diff T loc2 hne W
  clear T hne
  go_enter Tryz.func23, Tryz.ntmps23
  go_wp2_with (go_at_call 40; (with_reducible refine (k1 _).mono ?_); rintro e w1 ⟨⟨a, c, rfl⟩, hB1⟩)
  go_ret
  exact ⟨rfl, hB1⟩
end Go.Proofs.YtocncjimepnlcaaGreatDoor
