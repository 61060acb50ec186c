/- Package datetime and its reference: valid. -/
import Derived.Test.YtnmlephjhcmbhaaDti
import Derived.Test.YtnmlephjhcmbhaaRgn
namespace Go.Proofs.Ytnmlephjhcmbhaa
set_option linter.unusedSimpArgs false
set_option linter.unusedVariables false
open Go Go.RowKit
theorem BW.drew {w wr : World} {Y M D h m s : Nat} (H : BW w Y M D h m s wr) : BW w Y M D h m s wr.drew := ⟨H.1, H.2.drew⟩
set_option maxRecDepth 100000 in
set_option maxHeartbeats 400000 in
theorem in_ok (n k : Nat) (w : World) : Calls Try.prog 183 #[cI n, cI k] w fun e w' => e = .returned (.bool (decide (n ≤ k))) ∧ w = w' := by
  by_cases h : n ≤ k
  · rw [decide_eq_true h]
    go_enter Try.func183, Try.ntmps183
    go_wp2
    go_ret
    exact ⟨rfl, rfl⟩
  · rw [decide_eq_false h]
    go_enter Try.func183, Try.ntmps183
    go_wp2
    go_ret
    exact ⟨rfl, rfl⟩
set_option maxRecDepth 100000 in
set_option maxHeartbeats 400000 in
theorem valid_e (Y M D h m s : Nat) (w : World) (g1 : (1900 : Int) ≤ Y) (g2 : (Y : Int) ≤ 2155) (g3 : (M : Int) < 1 ∨ (12 : Int) < M) :
    Calls Try.prog 160 #[clkV Y M D h m s] w fun e w' => e = .returned (.bool false) ∧ Below w.heap.size w w' := by
  rcases g3 with g3 | g3
  all_goals
    go_enter Try.func160, Try.ntmps160
    go_wp2
    go_ret
    exact ⟨rfl, (Below.refl _ w).alloc (Nat.le_refl _) _⟩
set_option maxRecDepth 100000 in
set_option maxHeartbeats 2000000 in
theorem valid_d (Y M D h m s : Nat) (w : World) (g1 : (1900 : Int) ≤ Y) (g2 : (Y : Int) ≤ 2155) (g3 : (1 : Int) ≤ M) (g4 : (M : Int) ≤ 12) (g5 : decide ((1 : Int) ≤ (D : Int)) = false) :
    Calls Try.prog 160 #[clkV Y M D h m s] w fun e w' => e = .returned (.bool false) ∧ Below w.heap.size w w' := by
  go_enter Try.func160, Try.ntmps160
  go_wp2
  have H0 : BW w Y M D h m s (World.drew (w.alloc (.cells #[cI Y, cI M, cI D, cI h, cI m, cI s] 117))) := (BW.start w Y M D h m s).drew
  have hB0 := H0.2
  refine region_sch (fun W' => BW w Y M D h m s W') [(true, 0), (true, 1), (true, 2), (true, 3), (true, 4), (true, 5), (true, 6), (true, 7), (true, 8), (true, 9), (false, 10), (true, 11), (true, 12), (true, 13), (true, 14), (true, 15), (true, 16), (false, 17), (true, 18), (true, 19), (true, 20), (true, 21), (true, 22), (false, 23), (true, 24), (true, 25), (true, 26), (true, 27), (true, 28)] [29, 30, 31] (by kernel_rfl) (by kernel_rfl) (by rintro ⟨_, _, h, _⟩; cases h) (fun _ _ d _ _ h => by cases d <;> exact h) H0 ?_
  simp only [pickM, pickT, List.filterMap_cons, List.filterMap_nil, List.getElem?_cons_zero, List.getElem?_cons_succ, Option.map_some]
  repeat (first | (refine m_float ⟨?_, .inl ⟨?_, .inl ?_⟩, fun K' hK => ?_⟩; rotate_left; (first | rfl | (go_simp; done)); (intro w' hS; obtain ⟨q0, q1, q2, q3, q4, q5⟩ := hS.c; go_simp; try rfl); (simp only [Act.put, List.setIfInBounds_toArray, List.set_cons_succ, List.set_cons_zero]; refine hK _ ?_; clear hK K')) | (refine m_float ⟨undef, .inr ⟨?_, rfl⟩, fun K' hK => ?_⟩; (first | rfl | (go_simp; done)); (simp only [Act.put, List.setIfInBounds_toArray, List.set_cons_succ, List.set_cons_zero]; refine hK _ ?_; clear hK K')))
  refine m_nil ?_
  show wpList Try.prog _ _ (List.cons _ _) _ _
  go_wp2
  go_ret
  exact ⟨rfl, hB0⟩
set_option maxRecDepth 100000 in
set_option maxHeartbeats 2000000 in
theorem valid_n (Y M D h m s md : Nat) (w : World) (g1 : (1900 : Int) ≤ Y) (g2 : (Y : Int) ≤ 2155) (g3 : (1 : Int) ≤ M) (g4 : (M : Int) ≤ 12) (g5 : decide ((1 : Int) ≤ (D : Int)) = true) (g6 : decide (D ≤ md) = false)
    (d1 : ∀ W : World, Calls Try.prog 153 #[cI Y, cI M] W fun e w' => e = .returned (cI md) ∧ Below W.heap.size W w') :
    Calls Try.prog 160 #[clkV Y M D h m s] w fun e w' => e = .returned (.bool false) ∧ Below w.heap.size w w' := by
  go_enter Try.func160, Try.ntmps160
  go_wp2
  have H0 : BW w Y M D h m s (World.drew (w.alloc (.cells #[cI Y, cI M, cI D, cI h, cI m, cI s] 117))) := (BW.start w Y M D h m s).drew
  have hB0 := H0.2
  refine region_sch (fun W' => BW w Y M D h m s W') [(true, 0), (true, 1), (true, 2), (true, 3), (true, 4), (true, 5), (true, 6), (true, 7), (true, 8), (true, 9), (false, 10), (true, 11), (true, 12), (true, 13), (true, 14), (true, 15), (true, 16), (false, 17), (true, 18), (true, 19), (true, 20), (true, 21), (true, 22), (false, 23), (true, 24), (true, 25), (true, 26), (true, 27), (true, 28)] [29, 30, 31] (by kernel_rfl) (by kernel_rfl) (by rintro ⟨_, _, h, _⟩; cases h) (fun _ _ d _ _ h => by cases d <;> exact h) H0 ?_
  simp only [pickM, pickT, List.filterMap_cons, List.filterMap_nil, List.getElem?_cons_zero, List.getElem?_cons_succ, Option.map_some]
  repeat (first | (refine m_float ⟨?_, .inl ⟨?_, .inl ?_⟩, fun K' hK => ?_⟩; rotate_left; (first | rfl | (go_simp; done)); (intro w' hS; obtain ⟨q0, q1, q2, q3, q4, q5⟩ := hS.c; go_simp; try rfl); (simp only [Act.put, List.setIfInBounds_toArray, List.set_cons_succ, List.set_cons_zero]; refine hK _ ?_; clear hK K')) | (refine m_float ⟨undef, .inr ⟨?_, rfl⟩, fun K' hK => ?_⟩; (first | rfl | (go_simp; done)); (simp only [Act.put, List.setIfInBounds_toArray, List.set_cons_succ, List.set_cons_zero]; refine hK _ ?_; clear hK K')))
  refine m_loud ?_ (fun K' hK => ?_)
  · rintro ⟨_, _, h, _⟩; cases h
  go_wp2_with (go_at_call 153; (with_reducible refine (d1 _).mono ?_); rintro e w1 ⟨rfl, hBm⟩)
  have H1 := H0.below hBm
  have hB1 := H1.2
  refine hK _ _ H1 ?_
  clear hK K'
  repeat (first | (refine m_float ⟨?_, .inl ⟨?_, .inl ?_⟩, fun K' hK => ?_⟩; rotate_left; (first | rfl | (go_simp; done)); (intro w' hS; obtain ⟨q0, q1, q2, q3, q4, q5⟩ := hS.c; go_simp; try rfl); (simp only [Act.put, List.setIfInBounds_toArray, List.set_cons_succ, List.set_cons_zero]; refine hK _ ?_; clear hK K')) | (refine m_float ⟨undef, .inr ⟨?_, rfl⟩, fun K' hK => ?_⟩; (first | rfl | (go_simp; done)); (simp only [Act.put, List.setIfInBounds_toArray, List.set_cons_succ, List.set_cons_zero]; refine hK _ ?_; clear hK K')))
  refine m_nil ?_
  show wpList Try.prog _ _ (List.cons _ _) _ _
  go_wp2
  go_ret
  exact ⟨rfl, hB1⟩
set_option maxRecDepth 100000 in
set_option maxHeartbeats 2000000 in
theorem valid_h (Y M D h m s md : Nat) (w : World) (g1 : (1900 : Int) ≤ Y) (g2 : (Y : Int) ≤ 2155) (g3 : (1 : Int) ≤ M) (g4 : (M : Int) ≤ 12) (g5 : decide ((1 : Int) ≤ (D : Int)) = true) (g6 : decide (D ≤ md) = true)
    (d1 : ∀ W : World, Calls Try.prog 153 #[cI Y, cI M] W fun e w' => e = .returned (cI md) ∧ Below W.heap.size W w')
    (d2 : ∀ W : World, Calls Try.prog 183 #[cI h, cI 23] W fun e w' => e = .returned (.bool false) ∧ W = w') :
    Calls Try.prog 160 #[clkV Y M D h m s] w fun e w' => e = .returned (.bool false) ∧ Below w.heap.size w w' := by
  go_enter Try.func160, Try.ntmps160
  go_wp2
  have H0 : BW w Y M D h m s (World.drew (w.alloc (.cells #[cI Y, cI M, cI D, cI h, cI m, cI s] 117))) := (BW.start w Y M D h m s).drew
  have hB0 := H0.2
  refine region_sch (fun W' => BW w Y M D h m s W') [(true, 0), (true, 1), (true, 2), (true, 3), (true, 4), (true, 5), (true, 6), (true, 7), (true, 8), (true, 9), (false, 10), (true, 11), (true, 12), (true, 13), (true, 14), (true, 15), (true, 16), (false, 17), (true, 18), (true, 19), (true, 20), (true, 21), (true, 22), (false, 23), (true, 24), (true, 25), (true, 26), (true, 27), (true, 28)] [29, 30, 31] (by kernel_rfl) (by kernel_rfl) (by rintro ⟨_, _, h, _⟩; cases h) (fun _ _ d _ _ h => by cases d <;> exact h) H0 ?_
  simp only [pickM, pickT, List.filterMap_cons, List.filterMap_nil, List.getElem?_cons_zero, List.getElem?_cons_succ, Option.map_some]
  repeat (first | (refine m_float ⟨?_, .inl ⟨?_, .inl ?_⟩, fun K' hK => ?_⟩; rotate_left; (first | rfl | (go_simp; done)); (intro w' hS; obtain ⟨q0, q1, q2, q3, q4, q5⟩ := hS.c; go_simp; try rfl); (simp only [Act.put, List.setIfInBounds_toArray, List.set_cons_succ, List.set_cons_zero]; refine hK _ ?_; clear hK K')) | (refine m_float ⟨undef, .inr ⟨?_, rfl⟩, fun K' hK => ?_⟩; (first | rfl | (go_simp; done)); (simp only [Act.put, List.setIfInBounds_toArray, List.set_cons_succ, List.set_cons_zero]; refine hK _ ?_; clear hK K')))
  refine m_loud ?_ (fun K' hK => ?_)
  · rintro ⟨_, _, h, _⟩; cases h
  go_wp2_with (go_at_call 153; (with_reducible refine (d1 _).mono ?_); rintro e w1 ⟨rfl, hBm⟩)
  have H1 := H0.below hBm
  have hB1 := H1.2
  refine hK _ _ H1 ?_
  clear hK K'
  repeat (first | (refine m_float ⟨?_, .inl ⟨?_, .inl ?_⟩, fun K' hK => ?_⟩; rotate_left; (first | rfl | (go_simp; done)); (intro w' hS; obtain ⟨q0, q1, q2, q3, q4, q5⟩ := hS.c; go_simp; try rfl); (simp only [Act.put, List.setIfInBounds_toArray, List.set_cons_succ, List.set_cons_zero]; refine hK _ ?_; clear hK K')) | (refine m_float ⟨undef, .inr ⟨?_, rfl⟩, fun K' hK => ?_⟩; (first | rfl | (go_simp; done)); (simp only [Act.put, List.setIfInBounds_toArray, List.set_cons_succ, List.set_cons_zero]; refine hK _ ?_; clear hK K')))
  refine m_loud ?_ (fun K' hK => ?_)
  · rintro ⟨_, _, h, _⟩; cases h
  go_wp2_with (go_at_call 183; (with_reducible refine (d2 _).mono ?_); rintro e w5 ⟨rfl, rfl⟩)
  refine hK _ _ H1 ?_
  clear hK K'
  repeat (first | (refine m_float ⟨?_, .inl ⟨?_, .inl ?_⟩, fun K' hK => ?_⟩; rotate_left; (first | rfl | (go_simp; done)); (intro w' hS; obtain ⟨q0, q1, q2, q3, q4, q5⟩ := hS.c; go_simp; try rfl); (simp only [Act.put, List.setIfInBounds_toArray, List.set_cons_succ, List.set_cons_zero]; refine hK _ ?_; clear hK K')) | (refine m_float ⟨undef, .inr ⟨?_, rfl⟩, fun K' hK => ?_⟩; (first | rfl | (go_simp; done)); (simp only [Act.put, List.setIfInBounds_toArray, List.set_cons_succ, List.set_cons_zero]; refine hK _ ?_; clear hK K')))
  refine m_nil ?_
  show wpList Try.prog _ _ (List.cons _ _) _ _
  go_wp2
  go_ret
  exact ⟨rfl, hB1⟩
set_option maxRecDepth 100000 in
set_option maxHeartbeats 2000000 in
theorem valid_m (Y M D h m s md : Nat) (w : World) (g1 : (1900 : Int) ≤ Y) (g2 : (Y : Int) ≤ 2155) (g3 : (1 : Int) ≤ M) (g4 : (M : Int) ≤ 12) (g5 : decide ((1 : Int) ≤ (D : Int)) = true) (g6 : decide (D ≤ md) = true)
    (d1 : ∀ W : World, Calls Try.prog 153 #[cI Y, cI M] W fun e w' => e = .returned (cI md) ∧ Below W.heap.size W w')
    (d2 : ∀ W : World, Calls Try.prog 183 #[cI h, cI 23] W fun e w' => e = .returned (.bool true) ∧ W = w')
    (d3 : ∀ W : World, Calls Try.prog 183 #[cI m, cI 59] W fun e w' => e = .returned (.bool false) ∧ W = w') :
    Calls Try.prog 160 #[clkV Y M D h m s] w fun e w' => e = .returned (.bool false) ∧ Below w.heap.size w w' := by
  go_enter Try.func160, Try.ntmps160
  go_wp2
  have H0 : BW w Y M D h m s (World.drew (w.alloc (.cells #[cI Y, cI M, cI D, cI h, cI m, cI s] 117))) := (BW.start w Y M D h m s).drew
  have hB0 := H0.2
  refine region_sch (fun W' => BW w Y M D h m s W') [(true, 0), (true, 1), (true, 2), (true, 3), (true, 4), (true, 5), (true, 6), (true, 7), (true, 8), (true, 9), (false, 10), (true, 11), (true, 12), (true, 13), (true, 14), (true, 15), (true, 16), (false, 17), (true, 18), (true, 19), (true, 20), (true, 21), (true, 22), (false, 23), (true, 24), (true, 25), (true, 26), (true, 27), (true, 28)] [29, 30, 31] (by kernel_rfl) (by kernel_rfl) (by rintro ⟨_, _, h, _⟩; cases h) (fun _ _ d _ _ h => by cases d <;> exact h) H0 ?_
  simp only [pickM, pickT, List.filterMap_cons, List.filterMap_nil, List.getElem?_cons_zero, List.getElem?_cons_succ, Option.map_some]
  repeat (first | (refine m_float ⟨?_, .inl ⟨?_, .inl ?_⟩, fun K' hK => ?_⟩; rotate_left; (first | rfl | (go_simp; done)); (intro w' hS; obtain ⟨q0, q1, q2, q3, q4, q5⟩ := hS.c; go_simp; try rfl); (simp only [Act.put, List.setIfInBounds_toArray, List.set_cons_succ, List.set_cons_zero]; refine hK _ ?_; clear hK K')) | (refine m_float ⟨undef, .inr ⟨?_, rfl⟩, fun K' hK => ?_⟩; (first | rfl | (go_simp; done)); (simp only [Act.put, List.setIfInBounds_toArray, List.set_cons_succ, List.set_cons_zero]; refine hK _ ?_; clear hK K')))
  refine m_loud ?_ (fun K' hK => ?_)
  · rintro ⟨_, _, h, _⟩; cases h
  go_wp2_with (go_at_call 153; (with_reducible refine (d1 _).mono ?_); rintro e w1 ⟨rfl, hBm⟩)
  have H1 := H0.below hBm
  have hB1 := H1.2
  refine hK _ _ H1 ?_
  clear hK K'
  repeat (first | (refine m_float ⟨?_, .inl ⟨?_, .inl ?_⟩, fun K' hK => ?_⟩; rotate_left; (first | rfl | (go_simp; done)); (intro w' hS; obtain ⟨q0, q1, q2, q3, q4, q5⟩ := hS.c; go_simp; try rfl); (simp only [Act.put, List.setIfInBounds_toArray, List.set_cons_succ, List.set_cons_zero]; refine hK _ ?_; clear hK K')) | (refine m_float ⟨undef, .inr ⟨?_, rfl⟩, fun K' hK => ?_⟩; (first | rfl | (go_simp; done)); (simp only [Act.put, List.setIfInBounds_toArray, List.set_cons_succ, List.set_cons_zero]; refine hK _ ?_; clear hK K')))
  refine m_loud ?_ (fun K' hK => ?_)
  · rintro ⟨_, _, h, _⟩; cases h
  go_wp2_with (go_at_call 183; (with_reducible refine (d2 _).mono ?_); rintro e w5 ⟨rfl, rfl⟩)
  refine hK _ _ H1 ?_
  clear hK K'
  repeat (first | (refine m_float ⟨?_, .inl ⟨?_, .inl ?_⟩, fun K' hK => ?_⟩; rotate_left; (first | rfl | (go_simp; done)); (intro w' hS; obtain ⟨q0, q1, q2, q3, q4, q5⟩ := hS.c; go_simp; try rfl); (simp only [Act.put, List.setIfInBounds_toArray, List.set_cons_succ, List.set_cons_zero]; refine hK _ ?_; clear hK K')) | (refine m_float ⟨undef, .inr ⟨?_, rfl⟩, fun K' hK => ?_⟩; (first | rfl | (go_simp; done)); (simp only [Act.put, List.setIfInBounds_toArray, List.set_cons_succ, List.set_cons_zero]; refine hK _ ?_; clear hK K')))
  refine m_loud ?_ (fun K' hK => ?_)
  · rintro ⟨_, _, h, _⟩; cases h
  go_wp2_with (go_at_call 183; (with_reducible refine (d3 _).mono ?_); rintro e w5 ⟨rfl, rfl⟩)
  refine hK _ _ H1 ?_
  clear hK K'
  repeat (first | (refine m_float ⟨?_, .inl ⟨?_, .inl ?_⟩, fun K' hK => ?_⟩; rotate_left; (first | rfl | (go_simp; done)); (intro w' hS; obtain ⟨q0, q1, q2, q3, q4, q5⟩ := hS.c; go_simp; try rfl); (simp only [Act.put, List.setIfInBounds_toArray, List.set_cons_succ, List.set_cons_zero]; refine hK _ ?_; clear hK K')) | (refine m_float ⟨undef, .inr ⟨?_, rfl⟩, fun K' hK => ?_⟩; (first | rfl | (go_simp; done)); (simp only [Act.put, List.setIfInBounds_toArray, List.set_cons_succ, List.set_cons_zero]; refine hK _ ?_; clear hK K')))
  refine m_nil ?_
  show wpList Try.prog _ _ (List.cons _ _) _ _
  go_wp2
  go_ret
  exact ⟨rfl, hB1⟩
set_option maxRecDepth 100000 in
set_option maxHeartbeats 2000000 in
theorem valid_s (Y M D h m s md : Nat) (b : Bool) (w : World) (g1 : (1900 : Int) ≤ Y) (g2 : (Y : Int) ≤ 2155) (g3 : (1 : Int) ≤ M) (g4 : (M : Int) ≤ 12) (g5 : decide ((1 : Int) ≤ (D : Int)) = true) (g6 : decide (D ≤ md) = true)
    (d1 : ∀ W : World, Calls Try.prog 153 #[cI Y, cI M] W fun e w' => e = .returned (cI md) ∧ Below W.heap.size W w')
    (d2 : ∀ W : World, Calls Try.prog 183 #[cI h, cI 23] W fun e w' => e = .returned (.bool true) ∧ W = w')
    (d3 : ∀ W : World, Calls Try.prog 183 #[cI m, cI 59] W fun e w' => e = .returned (.bool true) ∧ W = w')
    (d4 : ∀ W : World, Calls Try.prog 183 #[cI s, cI 59] W fun e w' => e = .returned (.bool b) ∧ W = w') :
    Calls Try.prog 160 #[clkV Y M D h m s] w fun e w' => e = .returned (.bool b) ∧ Below w.heap.size w w' := by
  go_enter Try.func160, Try.ntmps160
  go_wp2
  have H0 : BW w Y M D h m s (World.drew (w.alloc (.cells #[cI Y, cI M, cI D, cI h, cI m, cI s] 117))) := (BW.start w Y M D h m s).drew
  have hB0 := H0.2
  refine region_sch (fun W' => BW w Y M D h m s W') [(true, 0), (true, 1), (true, 2), (true, 3), (true, 4), (true, 5), (true, 6), (true, 7), (true, 8), (true, 9), (false, 10), (true, 11), (true, 12), (true, 13), (true, 14), (true, 15), (true, 16), (false, 17), (true, 18), (true, 19), (true, 20), (true, 21), (true, 22), (false, 23), (true, 24), (true, 25), (true, 26), (true, 27), (true, 28)] [29, 30, 31] (by kernel_rfl) (by kernel_rfl) (by rintro ⟨_, _, h, _⟩; cases h) (fun _ _ d _ _ h => by cases d <;> exact h) H0 ?_
  simp only [pickM, pickT, List.filterMap_cons, List.filterMap_nil, List.getElem?_cons_zero, List.getElem?_cons_succ, Option.map_some]
  repeat (first | (refine m_float ⟨?_, .inl ⟨?_, .inl ?_⟩, fun K' hK => ?_⟩; rotate_left; (first | rfl | (go_simp; done)); (intro w' hS; obtain ⟨q0, q1, q2, q3, q4, q5⟩ := hS.c; go_simp; try rfl); (simp only [Act.put, List.setIfInBounds_toArray, List.set_cons_succ, List.set_cons_zero]; refine hK _ ?_; clear hK K')) | (refine m_float ⟨undef, .inr ⟨?_, rfl⟩, fun K' hK => ?_⟩; (first | rfl | (go_simp; done)); (simp only [Act.put, List.setIfInBounds_toArray, List.set_cons_succ, List.set_cons_zero]; refine hK _ ?_; clear hK K')))
  refine m_loud ?_ (fun K' hK => ?_)
  · rintro ⟨_, _, h, _⟩; cases h
  go_wp2_with (go_at_call 153; (with_reducible refine (d1 _).mono ?_); rintro e w1 ⟨rfl, hBm⟩)
  have H1 := H0.below hBm
  have hB1 := H1.2
  refine hK _ _ H1 ?_
  clear hK K'
  repeat (first | (refine m_float ⟨?_, .inl ⟨?_, .inl ?_⟩, fun K' hK => ?_⟩; rotate_left; (first | rfl | (go_simp; done)); (intro w' hS; obtain ⟨q0, q1, q2, q3, q4, q5⟩ := hS.c; go_simp; try rfl); (simp only [Act.put, List.setIfInBounds_toArray, List.set_cons_succ, List.set_cons_zero]; refine hK _ ?_; clear hK K')) | (refine m_float ⟨undef, .inr ⟨?_, rfl⟩, fun K' hK => ?_⟩; (first | rfl | (go_simp; done)); (simp only [Act.put, List.setIfInBounds_toArray, List.set_cons_succ, List.set_cons_zero]; refine hK _ ?_; clear hK K')))
  refine m_loud ?_ (fun K' hK => ?_)
  · rintro ⟨_, _, h, _⟩; cases h
  go_wp2_with (go_at_call 183; (with_reducible refine (d2 _).mono ?_); rintro e w5 ⟨rfl, rfl⟩)
  refine hK _ _ H1 ?_
  clear hK K'
  repeat (first | (refine m_float ⟨?_, .inl ⟨?_, .inl ?_⟩, fun K' hK => ?_⟩; rotate_left; (first | rfl | (go_simp; done)); (intro w' hS; obtain ⟨q0, q1, q2, q3, q4, q5⟩ := hS.c; go_simp; try rfl); (simp only [Act.put, List.setIfInBounds_toArray, List.set_cons_succ, List.set_cons_zero]; refine hK _ ?_; clear hK K')) | (refine m_float ⟨undef, .inr ⟨?_, rfl⟩, fun K' hK => ?_⟩; (first | rfl | (go_simp; done)); (simp only [Act.put, List.setIfInBounds_toArray, List.set_cons_succ, List.set_cons_zero]; refine hK _ ?_; clear hK K')))
  refine m_loud ?_ (fun K' hK => ?_)
  · rintro ⟨_, _, h, _⟩; cases h
  go_wp2_with (go_at_call 183; (with_reducible refine (d3 _).mono ?_); rintro e w5 ⟨rfl, rfl⟩)
  refine hK _ _ H1 ?_
  clear hK K'
  repeat (first | (refine m_float ⟨?_, .inl ⟨?_, .inl ?_⟩, fun K' hK => ?_⟩; rotate_left; (first | rfl | (go_simp; done)); (intro w' hS; obtain ⟨q0, q1, q2, q3, q4, q5⟩ := hS.c; go_simp; try rfl); (simp only [Act.put, List.setIfInBounds_toArray, List.set_cons_succ, List.set_cons_zero]; refine hK _ ?_; clear hK K')) | (refine m_float ⟨undef, .inr ⟨?_, rfl⟩, fun K' hK => ?_⟩; (first | rfl | (go_simp; done)); (simp only [Act.put, List.setIfInBounds_toArray, List.set_cons_succ, List.set_cons_zero]; refine hK _ ?_; clear hK K')))
  refine m_nil ?_
  show wpList Try.prog _ _ (List.cons _ _) _ _
  go_wp2_with (go_at_call 183; (with_reducible refine (d4 _).mono ?_); rintro e w5 ⟨rfl, rfl⟩)
  go_ret
  exact ⟨rfl, hB1⟩
theorem valid_ok (Y M D h m s : Nat) (w : World) (g1 : 1900 ≤ Y) (g2 : Y ≤ 2155) : Calls Try.prog 160 #[clkV Y M D h m s] w fun e w' => e = .returned (.bool (validB Y M D h m s)) ∧ Below w.heap.size w w' := by
  by_cases g3 : 1 ≤ M
  · by_cases g4 : M ≤ 12
    · have d1 := fun W => monthDays_ok Y M W g3 g4
      have a1 : (1900 : Int) ≤ Y := by omega
      have a2 : (Y : Int) ≤ 2155 := by omega
      have a3 : (1 : Int) ≤ M := by omega
      have a4 : (M : Int) ≤ 12 := by omega
      by_cases g5 : 1 ≤ D
      · have a5 : decide ((1 : Int) ≤ (D : Int)) = true := decide_eq_true (by omega)
        by_cases g6 : D ≤ mD Y M
        · by_cases g7 : h ≤ 23
          · have d2 := fun W => in_ok h 23 W
            rw [decide_eq_true g7] at d2
            by_cases g8 : m ≤ 59
            · have d3 := fun W => in_ok m 59 W
              rw [decide_eq_true g8] at d3
              have d4 := fun W => in_ok s 59 W
              rw [show validB Y M D h m s = decide (s ≤ 59) by simp [validB, g1, g2, g3, g4, g5, g6, g7, g8]]
              exact valid_s Y M D h m s _ _ w a1 a2 a3 a4 a5 (decide_eq_true g6) d1 d2 d3 d4
            · have d3 := fun W => in_ok m 59 W
              rw [decide_eq_false g8] at d3
              rw [show validB Y M D h m s = false by simp [validB, g8]]
              exact valid_m Y M D h m s _ w a1 a2 a3 a4 a5 (decide_eq_true g6) d1 d2 d3
          · have d2 := fun W => in_ok h 23 W
            rw [decide_eq_false g7] at d2
            rw [show validB Y M D h m s = false by simp [validB, g7]]
            exact valid_h Y M D h m s _ w a1 a2 a3 a4 a5 (decide_eq_true g6) d1 d2
        · rw [show validB Y M D h m s = false by simp [validB, g6]]
          exact valid_n Y M D h m s _ w a1 a2 a3 a4 a5 (decide_eq_false g6) d1
      · rw [show validB Y M D h m s = false by simp [validB, g5]]
        exact valid_d Y M D h m s w a1 a2 a3 a4 (decide_eq_false (by omega))
    · rw [show validB Y M D h m s = false by simp [validB, g4]]
      exact valid_e Y M D h m s w (by omega) (by omega) (by omega)
  · rw [show validB Y M D h m s = false by simp [validB, g3]]
    exact valid_e Y M D h m s w (by omega) (by omega) (by omega)
end Go.Proofs.Ytnmlephjhcmbhaa
