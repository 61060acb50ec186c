/- Package datetime and its reference: valid. The reference of package datetime: Valid. Package datetime: quarter, Join, read, ReadRecord. Package datetime: ReadRecord. The reference of package datetime: zone, finish, ReadRecord. -/
import Derived.Test.YtnmlephjhcmbhaaGreatMd
import Derived.Test.YtnmlephjhcmbhaaGreatMa
import Derived.Test.YtnmlephjhcmbhaaGreatMb
namespace Go.Proofs.YtnmlephjhcmbhaaGreat
set_option linter.unusedSimpArgs false
set_option linter.unusedVariables false
open Go Go.RowKit
theorem BW.drew {w wr : World} {Y M D h m s : Nat} (H : BW w Y M D h m s wr) : BW w Y M D h m s wr.drew := ⟨H.1, H.2.drew⟩
set_option maxRecDepth 100000 in
set_option maxHeartbeats 400000 in
theorem in_ok (n k : Nat) (w : World) : Calls Tryz.prog 137 #[cI n, cI k] w fun e w' => e = .returned (.bool (decide (n ≤ k))) ∧ w = w' := by
  by_cases h : n ≤ k
  · rw [decide_eq_true h]
    go_enter Tryz.func137, Tryz.ntmps137
    go_wp2
    go_ret
    exact ⟨rfl, rfl⟩
  · rw [decide_eq_false h]
    go_enter Tryz.func137, Tryz.ntmps137
    go_wp2
    go_ret
    exact ⟨rfl, rfl⟩
set_option maxRecDepth 100000 in
set_option maxHeartbeats 400000 in
theorem valid_e (Y M D h m s : Nat) (w : World) (g1 : (1900 : Int) ≤ Y) (g2 : (Y : Int) ≤ 2155) (g3 : (M : Int) < 1 ∨ (12 : Int) < M) :
    Calls Tryz.prog 126 #[clkV Y M D h m s] w fun e w' => e = .returned (.bool false) ∧ Below w.heap.size w w' := by
  rcases g3 with g3 | g3
  all_goals
    go_enter Tryz.func126, Tryz.ntmps126
    go_wp2
    go_ret
    exact ⟨rfl, (Below.refl _ w).alloc (Nat.le_refl _) _⟩
set_option maxRecDepth 100000 in
set_option maxHeartbeats 2000000 in
theorem valid_d (Y M D h m s : Nat) (w : World) (g1 : (1900 : Int) ≤ Y) (g2 : (Y : Int) ≤ 2155) (g3 : (1 : Int) ≤ M) (g4 : (M : Int) ≤ 12) (g5 : decide ((1 : Int) ≤ (D : Int)) = false) :
    Calls Tryz.prog 126 #[clkV Y M D h m s] w fun e w' => e = .returned (.bool false) ∧ Below w.heap.size w w' := by
  go_enter Tryz.func126, Tryz.ntmps126
  go_wp2
  have H0 : BW w Y M D h m s (World.drew (w.alloc (.cells #[cI Y, cI M, cI D, cI h, cI m, cI s] 119))) := (BW.start w Y M D h m s).drew
  have hB0 := H0.2
  refine region_sch (fun W' => BW w Y M D h m s W') [(true, 0), (true, 1), (true, 2), (true, 3), (true, 4), (true, 5), (true, 6), (true, 7), (true, 8), (true, 9), (false, 10), (true, 11), (true, 12), (true, 13), (true, 14), (true, 15), (true, 16), (false, 17), (true, 18), (true, 19), (true, 20), (true, 21), (true, 22), (false, 23), (true, 24), (true, 25), (true, 26), (true, 27), (true, 28)] [29, 30, 31] (by kernel_rfl) (by kernel_rfl) (by rintro ⟨_, _, h, _⟩; cases h) (fun _ _ d _ _ h => by cases d <;> exact h) H0 ?_
  simp only [pickM, pickT, List.filterMap_cons, List.filterMap_nil, List.getElem?_cons_zero, List.getElem?_cons_succ, Option.map_some]
  repeat (first | (refine m_float ⟨?_, .inl ⟨?_, .inl ?_⟩, fun K' hK => ?_⟩; rotate_left; (first | rfl | (go_simp; done)); (intro w' hS; obtain ⟨q0, q1, q2, q3, q4, q5⟩ := hS.c; go_simp; try rfl); (simp only [Act.put, List.setIfInBounds_toArray, List.set_cons_succ, List.set_cons_zero]; refine hK _ ?_; clear hK K')) | (refine m_float ⟨undef, .inr ⟨?_, rfl⟩, fun K' hK => ?_⟩; (first | rfl | (go_simp; done)); (simp only [Act.put, List.setIfInBounds_toArray, List.set_cons_succ, List.set_cons_zero]; refine hK _ ?_; clear hK K')))
  refine m_nil ?_
  show wpList Tryz.prog _ _ (List.cons _ _) _ _
  go_wp2
  go_ret
  exact ⟨rfl, hB0⟩
set_option maxRecDepth 100000 in
set_option maxHeartbeats 2000000 in
theorem valid_n (Y M D h m s md : Nat) (w : World) (g1 : (1900 : Int) ≤ Y) (g2 : (Y : Int) ≤ 2155) (g3 : (1 : Int) ≤ M) (g4 : (M : Int) ≤ 12) (g5 : decide ((1 : Int) ≤ (D : Int)) = true) (g6 : decide (D ≤ md) = false)
    (d1 : ∀ W : World, Calls Tryz.prog 119 #[cI Y, cI M] W fun e w' => e = .returned (cI md) ∧ Below W.heap.size W w') :
    Calls Tryz.prog 126 #[clkV Y M D h m s] w fun e w' => e = .returned (.bool false) ∧ Below w.heap.size w w' := by
  go_enter Tryz.func126, Tryz.ntmps126
  go_wp2
  have H0 : BW w Y M D h m s (World.drew (w.alloc (.cells #[cI Y, cI M, cI D, cI h, cI m, cI s] 119))) := (BW.start w Y M D h m s).drew
  have hB0 := H0.2
  refine region_sch (fun W' => BW w Y M D h m s W') [(true, 0), (true, 1), (true, 2), (true, 3), (true, 4), (true, 5), (true, 6), (true, 7), (true, 8), (true, 9), (false, 10), (true, 11), (true, 12), (true, 13), (true, 14), (true, 15), (true, 16), (false, 17), (true, 18), (true, 19), (true, 20), (true, 21), (true, 22), (false, 23), (true, 24), (true, 25), (true, 26), (true, 27), (true, 28)] [29, 30, 31] (by kernel_rfl) (by kernel_rfl) (by rintro ⟨_, _, h, _⟩; cases h) (fun _ _ d _ _ h => by cases d <;> exact h) H0 ?_
  simp only [pickM, pickT, List.filterMap_cons, List.filterMap_nil, List.getElem?_cons_zero, List.getElem?_cons_succ, Option.map_some]
  repeat (first | (refine m_float ⟨?_, .inl ⟨?_, .inl ?_⟩, fun K' hK => ?_⟩; rotate_left; (first | rfl | (go_simp; done)); (intro w' hS; obtain ⟨q0, q1, q2, q3, q4, q5⟩ := hS.c; go_simp; try rfl); (simp only [Act.put, List.setIfInBounds_toArray, List.set_cons_succ, List.set_cons_zero]; refine hK _ ?_; clear hK K')) | (refine m_float ⟨undef, .inr ⟨?_, rfl⟩, fun K' hK => ?_⟩; (first | rfl | (go_simp; done)); (simp only [Act.put, List.setIfInBounds_toArray, List.set_cons_succ, List.set_cons_zero]; refine hK _ ?_; clear hK K')))
  refine m_loud ?_ (fun K' hK => ?_)
  · rintro ⟨_, _, h, _⟩; cases h
  go_wp2_with (go_at_call 119; (with_reducible refine (d1 _).mono ?_); rintro e w1 ⟨rfl, hBm⟩)
  have H1 := H0.below hBm
  have hB1 := H1.2
  refine hK _ _ H1 ?_
  clear hK K'
  repeat (first | (refine m_float ⟨?_, .inl ⟨?_, .inl ?_⟩, fun K' hK => ?_⟩; rotate_left; (first | rfl | (go_simp; done)); (intro w' hS; obtain ⟨q0, q1, q2, q3, q4, q5⟩ := hS.c; go_simp; try rfl); (simp only [Act.put, List.setIfInBounds_toArray, List.set_cons_succ, List.set_cons_zero]; refine hK _ ?_; clear hK K')) | (refine m_float ⟨undef, .inr ⟨?_, rfl⟩, fun K' hK => ?_⟩; (first | rfl | (go_simp; done)); (simp only [Act.put, List.setIfInBounds_toArray, List.set_cons_succ, List.set_cons_zero]; refine hK _ ?_; clear hK K')))
  refine m_nil ?_
  show wpList Tryz.prog _ _ (List.cons _ _) _ _
  go_wp2
  go_ret
  exact ⟨rfl, hB1⟩
set_option maxRecDepth 100000 in
set_option maxHeartbeats 2000000 in
theorem valid_h (Y M D h m s md : Nat) (w : World) (g1 : (1900 : Int) ≤ Y) (g2 : (Y : Int) ≤ 2155) (g3 : (1 : Int) ≤ M) (g4 : (M : Int) ≤ 12) (g5 : decide ((1 : Int) ≤ (D : Int)) = true) (g6 : decide (D ≤ md) = true)
    (d1 : ∀ W : World, Calls Tryz.prog 119 #[cI Y, cI M] W fun e w' => e = .returned (cI md) ∧ Below W.heap.size W w')
    (d2 : ∀ W : World, Calls Tryz.prog 137 #[cI h, cI 23] W fun e w' => e = .returned (.bool false) ∧ W = w') :
    Calls Tryz.prog 126 #[clkV Y M D h m s] w fun e w' => e = .returned (.bool false) ∧ Below w.heap.size w w' := by
  go_enter Tryz.func126, Tryz.ntmps126
  go_wp2
  have H0 : BW w Y M D h m s (World.drew (w.alloc (.cells #[cI Y, cI M, cI D, cI h, cI m, cI s] 119))) := (BW.start w Y M D h m s).drew
  have hB0 := H0.2
  refine region_sch (fun W' => BW w Y M D h m s W') [(true, 0), (true, 1), (true, 2), (true, 3), (true, 4), (true, 5), (true, 6), (true, 7), (true, 8), (true, 9), (false, 10), (true, 11), (true, 12), (true, 13), (true, 14), (true, 15), (true, 16), (false, 17), (true, 18), (true, 19), (true, 20), (true, 21), (true, 22), (false, 23), (true, 24), (true, 25), (true, 26), (true, 27), (true, 28)] [29, 30, 31] (by kernel_rfl) (by kernel_rfl) (by rintro ⟨_, _, h, _⟩; cases h) (fun _ _ d _ _ h => by cases d <;> exact h) H0 ?_
  simp only [pickM, pickT, List.filterMap_cons, List.filterMap_nil, List.getElem?_cons_zero, List.getElem?_cons_succ, Option.map_some]
  repeat (first | (refine m_float ⟨?_, .inl ⟨?_, .inl ?_⟩, fun K' hK => ?_⟩; rotate_left; (first | rfl | (go_simp; done)); (intro w' hS; obtain ⟨q0, q1, q2, q3, q4, q5⟩ := hS.c; go_simp; try rfl); (simp only [Act.put, List.setIfInBounds_toArray, List.set_cons_succ, List.set_cons_zero]; refine hK _ ?_; clear hK K')) | (refine m_float ⟨undef, .inr ⟨?_, rfl⟩, fun K' hK => ?_⟩; (first | rfl | (go_simp; done)); (simp only [Act.put, List.setIfInBounds_toArray, List.set_cons_succ, List.set_cons_zero]; refine hK _ ?_; clear hK K')))
  refine m_loud ?_ (fun K' hK => ?_)
  · rintro ⟨_, _, h, _⟩; cases h
  go_wp2_with (go_at_call 119; (with_reducible refine (d1 _).mono ?_); rintro e w1 ⟨rfl, hBm⟩)
  have H1 := H0.below hBm
  have hB1 := H1.2
  refine hK _ _ H1 ?_
  clear hK K'
  repeat (first | (refine m_float ⟨?_, .inl ⟨?_, .inl ?_⟩, fun K' hK => ?_⟩; rotate_left; (first | rfl | (go_simp; done)); (intro w' hS; obtain ⟨q0, q1, q2, q3, q4, q5⟩ := hS.c; go_simp; try rfl); (simp only [Act.put, List.setIfInBounds_toArray, List.set_cons_succ, List.set_cons_zero]; refine hK _ ?_; clear hK K')) | (refine m_float ⟨undef, .inr ⟨?_, rfl⟩, fun K' hK => ?_⟩; (first | rfl | (go_simp; done)); (simp only [Act.put, List.setIfInBounds_toArray, List.set_cons_succ, List.set_cons_zero]; refine hK _ ?_; clear hK K')))
  refine m_loud ?_ (fun K' hK => ?_)
  · rintro ⟨_, _, h, _⟩; cases h
  go_wp2_with (go_at_call 137; (with_reducible refine (d2 _).mono ?_); rintro e w5 ⟨rfl, rfl⟩)
  refine hK _ _ H1 ?_
  clear hK K'
  repeat (first | (refine m_float ⟨?_, .inl ⟨?_, .inl ?_⟩, fun K' hK => ?_⟩; rotate_left; (first | rfl | (go_simp; done)); (intro w' hS; obtain ⟨q0, q1, q2, q3, q4, q5⟩ := hS.c; go_simp; try rfl); (simp only [Act.put, List.setIfInBounds_toArray, List.set_cons_succ, List.set_cons_zero]; refine hK _ ?_; clear hK K')) | (refine m_float ⟨undef, .inr ⟨?_, rfl⟩, fun K' hK => ?_⟩; (first | rfl | (go_simp; done)); (simp only [Act.put, List.setIfInBounds_toArray, List.set_cons_succ, List.set_cons_zero]; refine hK _ ?_; clear hK K')))
  refine m_nil ?_
  show wpList Tryz.prog _ _ (List.cons _ _) _ _
  go_wp2
  go_ret
  exact ⟨rfl, hB1⟩
set_option maxRecDepth 100000 in
set_option maxHeartbeats 2000000 in
theorem valid_m (Y M D h m s md : Nat) (w : World) (g1 : (1900 : Int) ≤ Y) (g2 : (Y : Int) ≤ 2155) (g3 : (1 : Int) ≤ M) (g4 : (M : Int) ≤ 12) (g5 : decide ((1 : Int) ≤ (D : Int)) = true) (g6 : decide (D ≤ md) = true)
    (d1 : ∀ W : World, Calls Tryz.prog 119 #[cI Y, cI M] W fun e w' => e = .returned (cI md) ∧ Below W.heap.size W w')
    (d2 : ∀ W : World, Calls Tryz.prog 137 #[cI h, cI 23] W fun e w' => e = .returned (.bool true) ∧ W = w')
    (d3 : ∀ W : World, Calls Tryz.prog 137 #[cI m, cI 59] W fun e w' => e = .returned (.bool false) ∧ W = w') :
    Calls Tryz.prog 126 #[clkV Y M D h m s] w fun e w' => e = .returned (.bool false) ∧ Below w.heap.size w w' := by
  go_enter Tryz.func126, Tryz.ntmps126
  go_wp2
  have H0 : BW w Y M D h m s (World.drew (w.alloc (.cells #[cI Y, cI M, cI D, cI h, cI m, cI s] 119))) := (BW.start w Y M D h m s).drew
  have hB0 := H0.2
  refine region_sch (fun W' => BW w Y M D h m s W') [(true, 0), (true, 1), (true, 2), (true, 3), (true, 4), (true, 5), (true, 6), (true, 7), (true, 8), (true, 9), (false, 10), (true, 11), (true, 12), (true, 13), (true, 14), (true, 15), (true, 16), (false, 17), (true, 18), (true, 19), (true, 20), (true, 21), (true, 22), (false, 23), (true, 24), (true, 25), (true, 26), (true, 27), (true, 28)] [29, 30, 31] (by kernel_rfl) (by kernel_rfl) (by rintro ⟨_, _, h, _⟩; cases h) (fun _ _ d _ _ h => by cases d <;> exact h) H0 ?_
  simp only [pickM, pickT, List.filterMap_cons, List.filterMap_nil, List.getElem?_cons_zero, List.getElem?_cons_succ, Option.map_some]
  repeat (first | (refine m_float ⟨?_, .inl ⟨?_, .inl ?_⟩, fun K' hK => ?_⟩; rotate_left; (first | rfl | (go_simp; done)); (intro w' hS; obtain ⟨q0, q1, q2, q3, q4, q5⟩ := hS.c; go_simp; try rfl); (simp only [Act.put, List.setIfInBounds_toArray, List.set_cons_succ, List.set_cons_zero]; refine hK _ ?_; clear hK K')) | (refine m_float ⟨undef, .inr ⟨?_, rfl⟩, fun K' hK => ?_⟩; (first | rfl | (go_simp; done)); (simp only [Act.put, List.setIfInBounds_toArray, List.set_cons_succ, List.set_cons_zero]; refine hK _ ?_; clear hK K')))
  refine m_loud ?_ (fun K' hK => ?_)
  · rintro ⟨_, _, h, _⟩; cases h
  go_wp2_with (go_at_call 119; (with_reducible refine (d1 _).mono ?_); rintro e w1 ⟨rfl, hBm⟩)
  have H1 := H0.below hBm
  have hB1 := H1.2
  refine hK _ _ H1 ?_
  clear hK K'
  repeat (first | (refine m_float ⟨?_, .inl ⟨?_, .inl ?_⟩, fun K' hK => ?_⟩; rotate_left; (first | rfl | (go_simp; done)); (intro w' hS; obtain ⟨q0, q1, q2, q3, q4, q5⟩ := hS.c; go_simp; try rfl); (simp only [Act.put, List.setIfInBounds_toArray, List.set_cons_succ, List.set_cons_zero]; refine hK _ ?_; clear hK K')) | (refine m_float ⟨undef, .inr ⟨?_, rfl⟩, fun K' hK => ?_⟩; (first | rfl | (go_simp; done)); (simp only [Act.put, List.setIfInBounds_toArray, List.set_cons_succ, List.set_cons_zero]; refine hK _ ?_; clear hK K')))
  refine m_loud ?_ (fun K' hK => ?_)
  · rintro ⟨_, _, h, _⟩; cases h
  go_wp2_with (go_at_call 137; (with_reducible refine (d2 _).mono ?_); rintro e w5 ⟨rfl, rfl⟩)
  refine hK _ _ H1 ?_
  clear hK K'
  repeat (first | (refine m_float ⟨?_, .inl ⟨?_, .inl ?_⟩, fun K' hK => ?_⟩; rotate_left; (first | rfl | (go_simp; done)); (intro w' hS; obtain ⟨q0, q1, q2, q3, q4, q5⟩ := hS.c; go_simp; try rfl); (simp only [Act.put, List.setIfInBounds_toArray, List.set_cons_succ, List.set_cons_zero]; refine hK _ ?_; clear hK K')) | (refine m_float ⟨undef, .inr ⟨?_, rfl⟩, fun K' hK => ?_⟩; (first | rfl | (go_simp; done)); (simp only [Act.put, List.setIfInBounds_toArray, List.set_cons_succ, List.set_cons_zero]; refine hK _ ?_; clear hK K')))
  refine m_loud ?_ (fun K' hK => ?_)
  · rintro ⟨_, _, h, _⟩; cases h
  go_wp2_with (go_at_call 137; (with_reducible refine (d3 _).mono ?_); rintro e w5 ⟨rfl, rfl⟩)
  refine hK _ _ H1 ?_
  clear hK K'
  repeat (first | (refine m_float ⟨?_, .inl ⟨?_, .inl ?_⟩, fun K' hK => ?_⟩; rotate_left; (first | rfl | (go_simp; done)); (intro w' hS; obtain ⟨q0, q1, q2, q3, q4, q5⟩ := hS.c; go_simp; try rfl); (simp only [Act.put, List.setIfInBounds_toArray, List.set_cons_succ, List.set_cons_zero]; refine hK _ ?_; clear hK K')) | (refine m_float ⟨undef, .inr ⟨?_, rfl⟩, fun K' hK => ?_⟩; (first | rfl | (go_simp; done)); (simp only [Act.put, List.setIfInBounds_toArray, List.set_cons_succ, List.set_cons_zero]; refine hK _ ?_; clear hK K')))
  refine m_nil ?_
  show wpList Tryz.prog _ _ (List.cons _ _) _ _
  go_wp2
  go_ret
  exact ⟨rfl, hB1⟩
set_option maxRecDepth 100000 in
set_option maxHeartbeats 2000000 in
theorem valid_s (Y M D h m s md : Nat) (b : Bool) (w : World) (g1 : (1900 : Int) ≤ Y) (g2 : (Y : Int) ≤ 2155) (g3 : (1 : Int) ≤ M) (g4 : (M : Int) ≤ 12) (g5 : decide ((1 : Int) ≤ (D : Int)) = true) (g6 : decide (D ≤ md) = true)
    (d1 : ∀ W : World, Calls Tryz.prog 119 #[cI Y, cI M] W fun e w' => e = .returned (cI md) ∧ Below W.heap.size W w')
    (d2 : ∀ W : World, Calls Tryz.prog 137 #[cI h, cI 23] W fun e w' => e = .returned (.bool true) ∧ W = w')
    (d3 : ∀ W : World, Calls Tryz.prog 137 #[cI m, cI 59] W fun e w' => e = .returned (.bool true) ∧ W = w')
    (d4 : ∀ W : World, Calls Tryz.prog 137 #[cI s, cI 59] W fun e w' => e = .returned (.bool b) ∧ W = w') :
    Calls Tryz.prog 126 #[clkV Y M D h m s] w fun e w' => e = .returned (.bool b) ∧ Below w.heap.size w w' := by
  go_enter Tryz.func126, Tryz.ntmps126
  go_wp2
  have H0 : BW w Y M D h m s (World.drew (w.alloc (.cells #[cI Y, cI M, cI D, cI h, cI m, cI s] 119))) := (BW.start w Y M D h m s).drew
  have hB0 := H0.2
  refine region_sch (fun W' => BW w Y M D h m s W') [(true, 0), (true, 1), (true, 2), (true, 3), (true, 4), (true, 5), (true, 6), (true, 7), (true, 8), (true, 9), (false, 10), (true, 11), (true, 12), (true, 13), (true, 14), (true, 15), (true, 16), (false, 17), (true, 18), (true, 19), (true, 20), (true, 21), (true, 22), (false, 23), (true, 24), (true, 25), (true, 26), (true, 27), (true, 28)] [29, 30, 31] (by kernel_rfl) (by kernel_rfl) (by rintro ⟨_, _, h, _⟩; cases h) (fun _ _ d _ _ h => by cases d <;> exact h) H0 ?_
  simp only [pickM, pickT, List.filterMap_cons, List.filterMap_nil, List.getElem?_cons_zero, List.getElem?_cons_succ, Option.map_some]
  repeat (first | (refine m_float ⟨?_, .inl ⟨?_, .inl ?_⟩, fun K' hK => ?_⟩; rotate_left; (first | rfl | (go_simp; done)); (intro w' hS; obtain ⟨q0, q1, q2, q3, q4, q5⟩ := hS.c; go_simp; try rfl); (simp only [Act.put, List.setIfInBounds_toArray, List.set_cons_succ, List.set_cons_zero]; refine hK _ ?_; clear hK K')) | (refine m_float ⟨undef, .inr ⟨?_, rfl⟩, fun K' hK => ?_⟩; (first | rfl | (go_simp; done)); (simp only [Act.put, List.setIfInBounds_toArray, List.set_cons_succ, List.set_cons_zero]; refine hK _ ?_; clear hK K')))
  refine m_loud ?_ (fun K' hK => ?_)
  · rintro ⟨_, _, h, _⟩; cases h
  go_wp2_with (go_at_call 119; (with_reducible refine (d1 _).mono ?_); rintro e w1 ⟨rfl, hBm⟩)
  have H1 := H0.below hBm
  have hB1 := H1.2
  refine hK _ _ H1 ?_
  clear hK K'
  repeat (first | (refine m_float ⟨?_, .inl ⟨?_, .inl ?_⟩, fun K' hK => ?_⟩; rotate_left; (first | rfl | (go_simp; done)); (intro w' hS; obtain ⟨q0, q1, q2, q3, q4, q5⟩ := hS.c; go_simp; try rfl); (simp only [Act.put, List.setIfInBounds_toArray, List.set_cons_succ, List.set_cons_zero]; refine hK _ ?_; clear hK K')) | (refine m_float ⟨undef, .inr ⟨?_, rfl⟩, fun K' hK => ?_⟩; (first | rfl | (go_simp; done)); (simp only [Act.put, List.setIfInBounds_toArray, List.set_cons_succ, List.set_cons_zero]; refine hK _ ?_; clear hK K')))
  refine m_loud ?_ (fun K' hK => ?_)
  · rintro ⟨_, _, h, _⟩; cases h
  go_wp2_with (go_at_call 137; (with_reducible refine (d2 _).mono ?_); rintro e w5 ⟨rfl, rfl⟩)
  refine hK _ _ H1 ?_
  clear hK K'
  repeat (first | (refine m_float ⟨?_, .inl ⟨?_, .inl ?_⟩, fun K' hK => ?_⟩; rotate_left; (first | rfl | (go_simp; done)); (intro w' hS; obtain ⟨q0, q1, q2, q3, q4, q5⟩ := hS.c; go_simp; try rfl); (simp only [Act.put, List.setIfInBounds_toArray, List.set_cons_succ, List.set_cons_zero]; refine hK _ ?_; clear hK K')) | (refine m_float ⟨undef, .inr ⟨?_, rfl⟩, fun K' hK => ?_⟩; (first | rfl | (go_simp; done)); (simp only [Act.put, List.setIfInBounds_toArray, List.set_cons_succ, List.set_cons_zero]; refine hK _ ?_; clear hK K')))
  refine m_loud ?_ (fun K' hK => ?_)
  · rintro ⟨_, _, h, _⟩; cases h
  go_wp2_with (go_at_call 137; (with_reducible refine (d3 _).mono ?_); rintro e w5 ⟨rfl, rfl⟩)
  refine hK _ _ H1 ?_
  clear hK K'
  repeat (first | (refine m_float ⟨?_, .inl ⟨?_, .inl ?_⟩, fun K' hK => ?_⟩; rotate_left; (first | rfl | (go_simp; done)); (intro w' hS; obtain ⟨q0, q1, q2, q3, q4, q5⟩ := hS.c; go_simp; try rfl); (simp only [Act.put, List.setIfInBounds_toArray, List.set_cons_succ, List.set_cons_zero]; refine hK _ ?_; clear hK K')) | (refine m_float ⟨undef, .inr ⟨?_, rfl⟩, fun K' hK => ?_⟩; (first | rfl | (go_simp; done)); (simp only [Act.put, List.setIfInBounds_toArray, List.set_cons_succ, List.set_cons_zero]; refine hK _ ?_; clear hK K')))
  refine m_nil ?_
  show wpList Tryz.prog _ _ (List.cons _ _) _ _
  go_wp2_with (go_at_call 137; (with_reducible refine (d4 _).mono ?_); rintro e w5 ⟨rfl, rfl⟩)
  go_ret
  exact ⟨rfl, hB1⟩
theorem valid_ok (Y M D h m s : Nat) (w : World) (g1 : 1900 ≤ Y) (g2 : Y ≤ 2155) : Calls Tryz.prog 126 #[clkV Y M D h m s] w fun e w' => e = .returned (.bool (validB Y M D h m s)) ∧ Below w.heap.size w w' := by
  by_cases g3 : 1 ≤ M
  · by_cases g4 : M ≤ 12
    · have d1 := fun W => monthDays_ok Y M W g3 g4
      have a1 : (1900 : Int) ≤ Y := by omega
      have a2 : (Y : Int) ≤ 2155 := by omega
      have a3 : (1 : Int) ≤ M := by omega
      have a4 : (M : Int) ≤ 12 := by omega
      by_cases g5 : 1 ≤ D
      · have a5 : decide ((1 : Int) ≤ (D : Int)) = true := decide_eq_true (by omega)
        by_cases g6 : D ≤ mD Y M
        · by_cases g7 : h ≤ 23
          · have d2 := fun W => in_ok h 23 W
            rw [decide_eq_true g7] at d2
            by_cases g8 : m ≤ 59
            · have d3 := fun W => in_ok m 59 W
              rw [decide_eq_true g8] at d3
              have d4 := fun W => in_ok s 59 W
              rw [show validB Y M D h m s = decide (s ≤ 59) by simp [validB, g1, g2, g3, g4, g5, g6, g7, g8]]
              exact valid_s Y M D h m s _ _ w a1 a2 a3 a4 a5 (decide_eq_true g6) d1 d2 d3 d4
            · have d3 := fun W => in_ok m 59 W
              rw [decide_eq_false g8] at d3
              rw [show validB Y M D h m s = false by simp [validB, g8]]
              exact valid_m Y M D h m s _ w a1 a2 a3 a4 a5 (decide_eq_true g6) d1 d2 d3
          · have d2 := fun W => in_ok h 23 W
            rw [decide_eq_false g7] at d2
            rw [show validB Y M D h m s = false by simp [validB, g7]]
            exact valid_h Y M D h m s _ w a1 a2 a3 a4 a5 (decide_eq_true g6) d1 d2
        · rw [show validB Y M D h m s = false by simp [validB, g6]]
          exact valid_n Y M D h m s _ w a1 a2 a3 a4 a5 (decide_eq_false g6) d1
      · rw [show validB Y M D h m s = false by simp [validB, g5]]
        exact valid_d Y M D h m s w a1 a2 a3 a4 (decide_eq_false (by omega))
    · rw [show validB Y M D h m s = false by simp [validB, g4]]
      exact valid_e Y M D h m s w (by omega) (by omega) (by omega)
  · rw [show validB Y M D h m s = false by simp [validB, g3]]
    exact valid_e Y M D h m s w (by omega) (by omega) (by omega)
end Go.Proofs.YtnmlephjhcmbhaaGreat
namespace Go.Proofs.YtnmlephjhcmbhaaGreat
set_option linter.unusedSimpArgs false
set_option linter.unusedVariables false
open Go Go.RowKit
end Go.Proofs.YtnmlephjhcmbhaaGreat
namespace Go.Proofs.YtnmlephjhcmbhaaGreat
set_option linter.unusedSimpArgs false
set_option linter.unusedVariables false
open Go Go.RowKit
def isT (t : Int) : Bool := decide (315532800 ≤ t ∧ t ≤ 4102444799)
/-- What Join gives; what read gives. -/
def jnT (t : Int) : Int := if isT t then t else 0
def jnE (t : Int) : Int := if isT t then 0 else 2
def fT (v r : Bool) (t : Int) : Int := if v && r && isT t then t else 0
def fE (v r : Bool) (t : Int) : Int := if v && r then (if isT t then 0 else 2) else 10
/-- The number of a signed byte. -/
def zN (b : Nat) : Int := if b < 128 then b else (b : Int) - 256
def zR (b : Nat) : Bool := decide (-48 ≤ zN b ∧ zN b ≤ 52)
set_option maxRecDepth 100000 in
set_option maxHeartbeats 400000 in
theorem quarter_ok (b : UInt8) (w : World) : Calls Tryz.prog 105 #[.int .u8 b.toNat] w fun e w' => e = .returned (.tuple #[cI (15 * zN b.toNat), .bool (zR b.toNat)]) ∧ w = w' := by
  have hb := UInt8.toNat_lt b
  obtain ⟨n, hn⟩ : ∃ n, b.toNat = n := ⟨_, rfl⟩
  rw [hn] at hb ⊢
  obtain ⟨z, hz⟩ : ∃ z, zN n = z := ⟨_, rfl⟩
  have h8 : IntKind.i8.wrap (n : Int) = z := by
    rw [← hz, zN]
    simp [IntKind.wrap, IntKind.bits, IntKind.signed]
    split <;> omega
  have hz1 : -128 ≤ z := by rw [← hz, zN]; split <;> omega
  have hz2 : z ≤ 127 := by rw [← hz, zN]; split <;> omega
  have h64 : wrap64 z = z := by unfold wrap64; omega
  rw [zR, hz]
  clear hz hn hb
  by_cases h1 : -48 ≤ z
  · by_cases h2 : z ≤ 52
    · rw [decide_eq_true ⟨h1, h2⟩]
      go_enter Tryz.func105, Tryz.ntmps105
      go_wp2
      go_ret2
      exact ⟨rfl, rfl⟩
    · rw [decide_eq_false fun h => h2 h.2]
      go_enter Tryz.func105, Tryz.ntmps105
      go_wp2
      go_ret2
      exact ⟨rfl, rfl⟩
  · rw [decide_eq_false fun h => h1 h.1]
    go_enter Tryz.func105, Tryz.ntmps105
    go_wp2
    go_ret2
    exact ⟨rfl, rfl⟩
set_option maxRecDepth 100000 in
set_option maxHeartbeats 1000000 in
theorem join_ok (Y M D h m s : Nat) (z : Int) (w : World) (g1 : 1900 ≤ Y) (g2 : Y ≤ 2155) (hv : validB Y M D h m s = true) (hz : -1440 ≤ z ∧ z ≤ 1440) :
    Calls Tryz.prog 127 #[clkV Y M D h m s, cI z] w fun e w' => e = .returned (.tuple #[cI (jnT (secI Y M D h m s - 60 * z)), cI (jnE (secI Y M D h m s - 60 * z))]) ∧ Below w.heap.size w w' := by
  have c1 := fun W => valid_ok Y M D h m s W g1 g2
  rw [hv] at c1
  have c2 := fun W => isZone_ok z W
  rw [decide_eq_true hz] at c2
  have c3 := fun W => seconds_ok Y M D h m s W hv
  have hb := secI_bd Y M D h m s hv
  obtain ⟨S, hS⟩ : ∃ S, secI Y M D h m s = S := ⟨_, rfl⟩
  rw [hS] at c3 hb ⊢
  have b1 := hb.1
  have b2 := hb.2
  have b3 := hz.1
  have b4 := hz.2
  have c4 := fun W => isTime_ok (S - 60 * z) W
  clear hS hb hz hv
  rw [jnT, jnE, isT]
  cases ht : decide (315532800 ≤ S - 60 * z ∧ S - 60 * z ≤ 4102444799)
  all_goals
    rw [ht] at c4
    clear ht
    go_enter Tryz.func127, Tryz.ntmps127
    go_wp2_with (first | (go_at_call 126; (with_reducible refine (c1 _).mono ?_); rintro e w1 ⟨rfl, hB1⟩; have H1 := (BW.start w Y M D h m s).below hB1; obtain ⟨q0, q1, q2, q3, q4, q5⟩ := H1.c; clear hB1) | (go_at_call 117; (with_reducible refine (c2 _).mono ?_); rintro e w1 ⟨rfl, rfl⟩) | (go_at_call 138; (with_reducible refine (c3 _).mono ?_); rintro e w2 ⟨rfl, hB2⟩; have H2 := H1.below hB2; clear hB2) | (go_at_call 116; (with_reducible refine (c4 _).mono ?_); rintro e w1 ⟨rfl, rfl⟩))
    go_ret2
    exact ⟨rfl, H2.2⟩
set_option maxRecDepth 100000 in
set_option maxHeartbeats 1000000 in
theorem read_ok (Y M D h m s : Nat) (z : Int) (r : Bool) (w : World) (g1 : 1900 ≤ Y) (g2 : Y ≤ 2155) (hz : r = true → -1440 ≤ z ∧ z ≤ 1440) :
    Calls Tryz.prog 106 #[clkV Y M D h m s, cI z, .bool r] w fun e w' => e = .returned (.tuple #[cI (fT (validB Y M D h m s) r (secI Y M D h m s - 60 * z)), cI (if fE (validB Y M D h m s) r (secI Y M D h m s - 60 * z) = 0 then z else 0), cI (fE (validB Y M D h m s) r (secI Y M D h m s - 60 * z))]) ∧ Below w.heap.size w w' := by
  have c1 := fun W => valid_ok Y M D h m s W g1 g2
  cases r
  · have e1 : ∀ v t, fT v false t = 0 := fun v t => by simp [fT]
    have e2 : ∀ v t, fE v false t = 10 := fun v t => by simp [fE]
    rw [e1, e2, if_neg (by decide)]
    clear e1 e2 hz
    go_enter Tryz.func106, Tryz.ntmps106
    go_wp2
    go_ret3
    exact ⟨rfl, (BW.start w Y M D h m s).2⟩
  · have hz := hz rfl
    cases hv : validB Y M D h m s
    · rw [hv] at c1
      have e1 : ∀ v t, fT false v t = 0 := fun v t => by simp [fT]
      have e2 : ∀ v t, fE false v t = 10 := fun v t => by simp [fE]
      rw [e1, e2, if_neg (by decide)]
      clear e1 e2 hz hv
      go_enter Tryz.func106, Tryz.ntmps106
      go_wp2_with (first | (go_at_call 126; (with_reducible refine (c1 _).mono ?_); rintro e w1 ⟨rfl, hB1⟩; have H1 := (BW.start w Y M D h m s).below hB1; obtain ⟨q0, q1, q2, q3, q4, q5⟩ := H1.c; clear hB1))
      go_ret3
      exact ⟨rfl, H1.2⟩
    · have c2 := fun W => join_ok Y M D h m s z W g1 g2 hv hz
      rw [hv] at c1
      clear hv hz
      generalize secI Y M D h m s - 60 * z = t at c2 ⊢
      have e1 : fT true true t = jnT t := by simp [fT, jnT]
      have e2 : fE true true t = jnE t := by simp [fE, jnE]
      rw [e1, e2]
      clear e1 e2
      unfold jnT jnE at *
      cases ht : isT t
      all_goals
        rw [ht] at c2
        clear ht
        try rw [if_neg (by decide : ¬ (if false = true then (0 : Int) else 2) = 0)]
        simp only [Bool.false_eq_true, if_false, if_true] at c2 ⊢
        go_enter Tryz.func106, Tryz.ntmps106
        go_wp2_with (first | (go_at_call 126; (with_reducible refine (c1 _).mono ?_); rintro e w1 ⟨rfl, hB1⟩; have H1 := (BW.start w Y M D h m s).below hB1; obtain ⟨q0, q1, q2, q3, q4, q5⟩ := H1.c; clear hB1) | (go_at_call 127; (with_reducible refine (c2 _).mono ?_); rintro e w2 ⟨rfl, hB2⟩; have H2 := H1.below hB2; clear hB2))
        go_ret3
        exact ⟨rfl, H2.2⟩
end Go.Proofs.YtnmlephjhcmbhaaGreat
namespace Go.Proofs.YtnmlephjhcmbhaaGreat
set_option linter.unusedSimpArgs false
set_option linter.unusedVariables false
open Go Go.RowKit
/-- The date of the seven bytes of a string from a place on: its clock is valid, its zone is one; its zone; its time; what ReadRecord gives. -/
def rrV (f : Nat → Nat) : Bool := validB (1900 + f 0) (f 1) (f 2) (f 3) (f 4) (f 5)
def rrZ (f : Nat → Nat) : Int := 15 * zN (f 6)
def rrT (f : Nat → Nat) : Int := secI (1900 + f 0) (f 1) (f 2) (f 3) (f 4) (f 5) - 60 * rrZ f
def rrE (f : Nat → Nat) : Int := fE (rrV f) (zR (f 6)) (rrT f)
def rrA (f : Nat → Nat) : Int := fT (rrV f) (zR (f 6)) (rrT f)
def rrB (f : Nat → Nat) : Int := if rrE f = 0 then rrZ f else 0
theorem zN_bd {b : Nat} (h : zR b = true) : -1440 ≤ 15 * zN b ∧ 15 * zN b ≤ 1440 := by
  rw [zR, decide_eq_true_iff] at h
  omega
set_option maxRecDepth 100000 in
set_option maxHeartbeats 1000000 in
theorem readRecord_ok (s : ByteArray) (w : World) (hs : 7 ≤ s.size) (hs2 : s.size ≤ 7) :
    Calls Tryz.prog 76 #[.string s] w fun e w' => e = .returned (.tuple #[cI (rrA (sB s)), cI (rrB (sB s)), cI (rrE (sB s))]) ∧ Below w.heap.size w w' := by
  have l0 := sB_lt s 0
  have l1 := sB_lt s 1
  have l2 := sB_lt s 2
  have l3 := sB_lt s 3
  have l4 := sB_lt s 4
  have l5 := sB_lt s 5
  have c1 := fun W => quarter_ok (s[6]'(by omega)) W
  rw [sB_get s 6 (by omega)] at c1
  have e0 := sB_get s 0 (by omega)
  have e1 := sB_get s 1 (by omega)
  have e2 := sB_get s 2 (by omega)
  have e3 := sB_get s 3 (by omega)
  have e4 := sB_get s 4 (by omega)
  have e5 := sB_get s 5 (by omega)
  have e6 := sB_get s 6 (by omega)
  have c2 := fun W => read_ok (1900 + sB s 0) (sB s 1) (sB s 2) (sB s 3) (sB s 4) (sB s 5) (15 * zN (sB s 6)) (zR (sB s 6)) W (by omega) (by omega) zN_bd
  rw [rrB, rrE, rrA, rrT, rrV, rrZ]
  generalize zN (sB s 6) = z at *
  generalize zR (sB s 6) = zr at *
  delta clkV at c2
  rw [show ((1900 + sB s 0 : Nat) : Int) = 1900 + (sB s 0 : Int) by omega] at c2
  generalize fT (validB (1900 + sB s 0) (sB s 1) (sB s 2) (sB s 3) (sB s 4) (sB s 5)) zr (secI (1900 + sB s 0) (sB s 1) (sB s 2) (sB s 3) (sB s 4) (sB s 5) - 60 * (15 * z)) = x at *
  generalize fE (validB (1900 + sB s 0) (sB s 1) (sB s 2) (sB s 3) (sB s 4) (sB s 5)) zr (secI (1900 + sB s 0) (sB s 1) (sB s 2) (sB s 3) (sB s 4) (sB s 5) - 60 * (15 * z)) = y at *
  generalize (if y = 0 then 15 * z else 0) = u at *
  generalize sB s 0 = n0 at *
  generalize sB s 1 = n1 at *
  generalize sB s 2 = n2 at *
  generalize sB s 3 = n3 at *
  generalize sB s 4 = n4 at *
  generalize sB s 5 = n5 at *
  generalize sB s 6 = n6 at *
  have hs7 : (7 : Int) ≤ s.size := by omega
  have t7 : ((s.size : Int) != 7) = false := by simp; omega
  have b0 : 0 < s.size := by omega
  have b1 : (1 : Int) < (s.size : Int) := by omega
  have b2 : (2 : Int) < (s.size : Int) := by omega
  have b3 : (3 : Int) < (s.size : Int) := by omega
  have b4 : (4 : Int) < (s.size : Int) := by omega
  have b5 : (5 : Int) < (s.size : Int) := by omega
  have b6 : (6 : Int) < (s.size : Int) := by omega
  go_enter Tryz.func76, Tryz.ntmps76
  go_wp2_with (first | (go_at_call 105; (with_reducible refine (c1 _).mono ?_); rintro e w1 ⟨rfl, rfl⟩))
  refine region_sch (fun _ => True) [(true, 0), (true, 1), (true, 2), (true, 3), (true, 4), (true, 5), (true, 6), (true, 7), (true, 8), (true, 9), (true, 10), (true, 11), (true, 12), (true, 13), (true, 14), (true, 15), (true, 16), (true, 17), (true, 18), (true, 19), (true, 20), (true, 21), (false, 22), (true, 23), (true, 24), (true, 25)] [26, 27, 28] (by kernel_rfl) (by kernel_rfl) (by rintro ⟨_, _, h, _⟩; cases h) (fun _ _ d _ _ h => by cases d <;> exact h) trivial ?_
  simp only [pickM, pickT, List.filterMap_cons, List.filterMap_nil, List.getElem?_cons_zero, List.getElem?_cons_succ, Option.map_some]
  repeat (refine m_float ⟨?_, .inl ⟨?_, .inl ?_⟩, fun K' hK => ?_⟩; rotate_left; (first | rfl | (go_simp; done)); (intro w' hS; go_simp; try rfl); (simp only [Act.put, List.setIfInBounds_toArray, List.set_cons_succ, List.set_cons_zero]; refine hK _ ?_; clear hK K'))
  refine m_loud ?_ (fun K' hK => ?_)
  · rintro ⟨_, _, h, _⟩; cases h
  go_wp2_with (first | (go_at_call 106; (with_reducible refine (c2 _).mono ?_); rintro e w1 ⟨rfl, hB⟩))
  refine hK _ _ trivial ?_
  clear hK K'
  repeat (refine m_float ⟨?_, .inl ⟨?_, .inl ?_⟩, fun K' hK => ?_⟩; rotate_left; (first | rfl | (go_simp; done)); (intro w' hS; go_simp; try rfl); (simp only [Act.put, List.setIfInBounds_toArray, List.set_cons_succ, List.set_cons_zero]; refine hK _ ?_; clear hK K'))
  refine m_nil ?_
  show wpList Tryz.prog _ _ (List.cons _ _) _ _
  go_wp2
  go_ret3
  exact ⟨rfl, drew_left hB⟩
end Go.Proofs.YtnmlephjhcmbhaaGreat
namespace Go.Proofs.YtnmlephjhcmbhaaGreat
set_option linter.unusedSimpArgs false
set_option linter.unusedVariables false
open Go Go.RowKit
end Go.Proofs.YtnmlephjhcmbhaaGreat
