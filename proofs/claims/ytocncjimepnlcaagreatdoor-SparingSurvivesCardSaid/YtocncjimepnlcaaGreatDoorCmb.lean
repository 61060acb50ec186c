/- Package udftag: most, fits, little, sum, summed. -/
import Derived.Test.YtocncjimepnlcaaGreatDoorCma
import Derived.Test.YtocncjimepnlcaaGreatDoorRgn
namespace Go.Proofs.YtocncjimepnlcaaGreatDoor
set_option linter.unusedSimpArgs false
set_option linter.unusedVariables false
open Go Go.RowKit
set_option maxRecDepth 100000 in
set_option maxHeartbeats 400000 in
theorem tmost2_ok (w : World) : Calls Tryz.prog 102 #[cN 2] w fun e w' => e = .returned (cN 65535) ∧ w = w' := by
  go_enter Tryz.func102, Tryz.ntmps102
  go_wp2
  go_ret
  exact ⟨rfl, rfl⟩
set_option maxRecDepth 100000 in
set_option maxHeartbeats 400000 in
theorem tmost4_ok (w : World) : Calls Tryz.prog 102 #[cN 4] w fun e w' => e = .returned (cN 4294967295) ∧ w = w' := by
  go_enter Tryz.func102, Tryz.ntmps102
  go_wp2
  go_ret
  exact ⟨rfl, rfl⟩
set_option maxRecDepth 100000 in
set_option maxHeartbeats 400000 in
theorem tfits2_ok (n : Nat) (w : World) (h : n < 65536) : Calls Tryz.prog 61 #[cN n, cN 2] w fun e w' => e = .returned (.bool true) ∧ w = w' := by
  have h2 : (n : Int) ≤ 65535 := by omega
  go_enter Tryz.func61, Tryz.ntmps61
  go_wp2_with (go_at_call 102; (with_reducible refine (tmost2_ok _).mono ?_); rintro e w1 ⟨rfl, rfl⟩)
  go_ret
  exact ⟨rfl, rfl⟩
set_option maxRecDepth 100000 in
set_option maxHeartbeats 400000 in
theorem tfits4_ok (n : Nat) (w : World) (h : n < 4294967296) : Calls Tryz.prog 61 #[cN n, cN 4] w fun e w' => e = .returned (.bool true) ∧ w = w' := by
  have h2 : (n : Int) ≤ 4294967295 := by omega
  go_enter Tryz.func61, Tryz.ntmps61
  go_wp2_with (go_at_call 102; (with_reducible refine (tmost4_ok _).mono ?_); rintro e w1 ⟨rfl, rfl⟩)
  go_ret
  exact ⟨rfl, rfl⟩
set_option maxRecDepth 100000 in
set_option maxHeartbeats 400000 in
theorem tlittle_ok (m s : Nat) (w : World) (hs : s = 2 ∨ s = 4) (hm : m < 2 ^ (8 * s)) : Calls Tryz.prog 62 #[cN m, cN s] w fun e w' => e = .returned (.string (leB m s)) ∧ Below w.heap.size w w' := by
  have c1 := fun W => little_ok m s W hs hm
  clear hs hm
  go_enter Tryz.func62, Tryz.ntmps62
  go_wp2_with (go_at_call 21; (with_reducible refine (c1 _).mono ?_); rintro e w1 ⟨rfl, hB1⟩)
  go_ret
  exact ⟨rfl, hB1⟩
set_option maxRecDepth 100000 in
set_option maxHeartbeats 1000000 in
theorem tsum_ok (t : ByteArray) (w : World) (h : 16 ≤ t.size) (hs : t.size < 2 ^ 40) : Calls Tryz.prog 67 #[.string t] w fun e w' => e = .returned (.int .u8 ((sumL (t.extract 0 4 ++ t.extract 5 16).data.toList : Nat) : Int)) ∧ Below w.heap.size w w' := by
  have c1 := fun W => sum8_ok (t.extract 0 4 ++ t.extract 5 16) W (by rw [size_app, extract_size t 0 4 (by omega), extract_size t 5 16 h]; decide)
  generalize sumL (t.extract 0 4 ++ t.extract 5 16).data.toList = x at c1 ⊢
  have g1 : (4 : Int) ≤ (t.size : Int) := by omega
  have g2 : (16 : Int) ≤ (t.size : Int) := by omega
  clear hs h
  go_enter Tryz.func67, Tryz.ntmps67
  go_wp2
  refine region_sch (fun w' => w' = w.drew) [(true, 0), (true, 1), (true, 2), (true, 3)] [4, 5, 6] (by kernel_rfl) (by kernel_rfl) (by rintro ⟨_, _, h, _⟩; cases h) (fun _ _ d _ _ h => by cases d <;> exact h) rfl ?_
  simp only [pickM, pickT, List.filterMap_cons, List.filterMap_nil, List.getElem?_cons_zero, List.getElem?_cons_succ, Option.map_some]
  repeat (refine m_float ⟨?_, .inl ⟨?_, .inl ?_⟩, fun K' hK => ?_⟩; rotate_left; (first | rfl | (go_simp; done)); (intro w' hS; subst hS; go_simp; try rfl); (simp only [Act.put, List.setIfInBounds_toArray, List.set_cons_succ, List.set_cons_zero]; refine hK _ ?_; clear hK K'))
  refine m_nil ?_
  show wpList Tryz.prog _ _ (List.cons _ _) _ _
  go_wp2_with (go_at_call 104; (with_reducible refine (c1 _).mono ?_); rintro e w1 ⟨rfl, rfl⟩)
  go_ret
  exact ⟨rfl, (Below.refl _ w).drew⟩
theorem one_str {W : World} {n : Nat} (h : n < 256) : (convert 103 9 (.slice (some ⟨W.heap.size, 0, none⟩) 1 1)).run Tryz.prog (W.alloc (.cells #[.int .u8 (n : Int)] 5)) = .ok (.string (oneB n)) (W.alloc (.cells #[.int .u8 (n : Int)] 5)) := by
  have h1 := World.alloc_heap_new W (.cells #[.int .u8 (n : Int)] 5)
  have e : (#[.int .u8 (n : Int)] : Array Value) = (cb [UInt8.ofNat n]).toArray := by
    unfold cb
    rw [List.map_cons, oneB_nat n h]
    rfl
  rw [e] at h1 ⊢
  exact row_string (P := Tryz.prog) (src := 103) (dst := 9) (n := 1) (cap := 1) Tryz.underlying103 Tryz.underlying5 Tryz.underlying9 rfl h1
set_option maxRecDepth 100000 in
set_option maxHeartbeats 1000000 in
theorem tsummed_ok (t : ByteArray) (w : World) (h : 16 ≤ t.size) (hs : t.size < 2 ^ 40) : Calls Tryz.prog 64 #[.string t] w fun e w' => e = .returned (.string (sumdB t)) ∧ Below w.heap.size w w' := by
  have c1 := fun W => tsum_ok t W h hs
  have hx := sumL_lt (t.extract 0 4 ++ t.extract 5 16).data.toList
  unfold sumdB
  generalize sumL (t.extract 0 4 ++ t.extract 5 16).data.toList = x at c1 hx ⊢
  have g1 : (4 : Int) ≤ (t.size : Int) := by omega
  have g2 : (5 : Int) ≤ (t.size : Int) := by omega
  have hcv := fun W => one_str (W := W) hx
  have z1 : (oneB x).size = 1 := rfl
  clear h hx
  go_enter Tryz.func64, Tryz.ntmps64
  go_wp2
  refine region_sch (fun w' => Below w.heap.size w w') [(true, 0), (true, 1), (true, 2), (true, 7), (true, 8), (false, 3), (false, 4), (false, 5), (false, 6)] [9, 10] (by kernel_rfl) (by kernel_rfl) (by rintro ⟨_, _, h, _⟩; cases h) (fun _ _ d _ _ h => by cases d <;> exact h) (Below.refl _ w).drew ?_
  simp only [pickM, pickT, List.filterMap_cons, List.filterMap_nil, List.getElem?_cons_zero, List.getElem?_cons_succ, Option.map_some]
  repeat (first | (refine m_float ⟨?_, .inl ⟨?_, .inl ?_⟩, fun K' hK => ?_⟩; rotate_left; (first | rfl | (go_simp; done)); (intro w' hS; skip; go_simp; try rfl); (simp only [Act.put, List.setIfInBounds_toArray, List.set_cons_succ, List.set_cons_zero]; refine hK _ ?_; clear hK K')) | (refine m_float ⟨undef, .inr ⟨?_, rfl⟩, fun K' hK => ?_⟩; (first | rfl | (go_simp; done)); (simp only [Act.put, List.setIfInBounds_toArray, List.set_cons_succ, List.set_cons_zero]; refine hK _ ?_; clear hK K')))
  refine m_loud ?_ (fun K' hK => ?_)
  · rintro ⟨_, _, h, _⟩; cases h
  go_wp2_with (go_at_call 67; (with_reducible refine (c1 _).mono ?_); rintro e w1 ⟨rfl, hB1⟩)
  have HB1 := Lib.hid (bthen (Below.refl _ w).drew hB1)
  refine hK _ _ HB1.out ?_
  clear hK K'
  refine m_loud ?_ (fun K' hK => ?_)
  · rintro ⟨_, _, h, _⟩; cases h
  go_wp2
  refine hK _ _ (bal HB1.out _) ?_
  clear hK K'
  refine m_loud ?_ (fun K' hK => ?_)
  · rintro ⟨_, _, h, _⟩; cases h
  go_wp2
  refine hK _ _ (bal HB1.out _) ?_
  clear hK K'
  refine m_loud ?_ (fun K' hK => ?_)
  · rintro ⟨_, _, h, _⟩; cases h
  go_wp2
  refine hK _ _ (bal HB1.out _) ?_
  clear hK K'
  refine m_nil ?_
  show wpList Tryz.prog _ _ (List.cons _ _) _ _
  go_wp2
  go_ret
  exact ⟨rfl, bal HB1.out _⟩
end Go.Proofs.YtocncjimepnlcaaGreatDoor
