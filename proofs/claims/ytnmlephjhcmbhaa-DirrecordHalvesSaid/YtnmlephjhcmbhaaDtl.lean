/- The reference of package datetime: Valid. -/
import Derived.Test.YtnmlephjhcmbhaaDtk
import Derived.Test.YtnmlephjhcmbhaaRgm
namespace Go.Proofs.Ytnmlephjhcmbhaa
set_option linter.unusedSimpArgs false
set_option linter.unusedVariables false
open Go Go.RowKit
set_option maxRecDepth 100000 in
set_option maxHeartbeats 2000000 in
theorem rvalid_1 (Y M D h m s : Nat) (w : World) (g1 : decide ((1900 : Int) ≤ Y) = true) (g2 : decide ((Y : Int) ≤ 2155) = true) (g3 : decide ((1 : Int) ≤ M) = false) :
    Calls Try.prog 121 #[clkV Y M D h m s] w fun e w' => e = .returned (.bool false) ∧ Below w.heap.size w w' := by
  go_enter Try.func121, Try.ntmps121
  go_wp2
  have H0 : BW w Y M D h m s (World.drew (w.alloc (.cells #[cI Y, cI M, cI D, cI h, cI m, cI s] 117))) := (BW.start w Y M D h m s).drew
  have hB0 := H0.2
  obtain ⟨r0, r1, r2, r3, r4, r5⟩ := H0.c
  refine region_sch (fun W' => BW w Y M D h m s W') [(true, 0), (true, 1), (true, 2), (true, 3), (true, 4), (true, 5), (true, 6), (true, 7), (true, 8), (true, 9), (true, 10), (true, 11), (true, 12), (true, 13), (true, 14), (true, 15), (true, 16), (true, 17), (true, 18), (true, 19), (true, 20), (true, 21), (true, 22), (true, 23), (true, 24), (true, 25), (true, 26), (true, 27), (true, 28), (true, 29), (false, 30)] [31, 32, 33, 34, 35, 36, 37, 38, 39, 40, 41, 42, 43, 44, 45, 46, 47, 48, 49, 50, 51, 52, 53, 54, 55, 56, 57, 58, 59, 60, 61, 62, 63] (by kernel_rfl) (by kernel_rfl) (by rintro ⟨_, _, h, _⟩; cases h) (fun _ _ d _ _ h => by cases d <;> exact h) H0 ?_
  simp only [pickM, pickT, List.filterMap_cons, List.filterMap_nil, List.getElem?_cons_zero, List.getElem?_cons_succ, Option.map_some]
  repeat (first | (refine m_float ⟨?_, .inl ⟨?_, .inl ?_⟩, fun K' hK => ?_⟩; rotate_left; (first | rfl | (go_simp; done)); (intro w' hS; obtain ⟨q0, q1, q2, q3, q4, q5⟩ := hS.c; go_simp; try rfl); (simp only [Act.put, List.setIfInBounds_toArray, List.set_cons_succ, List.set_cons_zero]; refine hK _ ?_; clear hK K')) | (refine m_float ⟨undef, .inr ⟨?_, rfl⟩, fun K' hK => ?_⟩; (first | rfl | (go_simp; done)); (simp only [Act.put, List.setIfInBounds_toArray, List.set_cons_succ, List.set_cons_zero]; refine hK _ ?_; clear hK K')))
  refine m_skip (by first | rfl | (go_simp; done)) ?_
  simp only [Act.put, List.setIfInBounds_toArray, List.set_cons_succ, List.set_cons_zero]
  refine m_nil ?_
  show wpList Try.prog _ _ (List.cons _ _) _ _
  go_wp2
  go_ret
  exact ⟨rfl, hB0⟩
set_option maxRecDepth 100000 in
set_option maxHeartbeats 2000000 in
theorem rvalid_2 (Y M D h m s : Nat) (w : World) (g1 : decide ((1900 : Int) ≤ Y) = true) (g2 : decide ((Y : Int) ≤ 2155) = true) (g3 : decide ((1 : Int) ≤ M) = true) (g4 : decide ((M : Int) ≤ 12) = false) :
    Calls Try.prog 121 #[clkV Y M D h m s] w fun e w' => e = .returned (.bool false) ∧ Below w.heap.size w w' := by
  go_enter Try.func121, Try.ntmps121
  go_wp2
  have H0 : BW w Y M D h m s (World.drew (w.alloc (.cells #[cI Y, cI M, cI D, cI h, cI m, cI s] 117))) := (BW.start w Y M D h m s).drew
  have hB0 := H0.2
  obtain ⟨r0, r1, r2, r3, r4, r5⟩ := H0.c
  refine region_sch (fun W' => BW w Y M D h m s W') [(true, 0), (true, 1), (true, 2), (true, 3), (true, 4), (true, 5), (true, 6), (true, 7), (true, 8), (true, 9), (true, 10), (true, 11), (true, 12), (true, 13), (true, 14), (true, 15), (true, 16), (true, 17), (true, 18), (true, 19), (true, 20), (true, 21), (true, 22), (true, 23), (true, 24), (true, 25), (true, 26), (true, 27), (true, 28), (true, 29), (false, 30)] [31, 32, 33, 34, 35, 36, 37, 38, 39, 40, 41, 42, 43, 44, 45, 46, 47, 48, 49, 50, 51, 52, 53, 54, 55, 56, 57, 58, 59, 60, 61, 62, 63] (by kernel_rfl) (by kernel_rfl) (by rintro ⟨_, _, h, _⟩; cases h) (fun _ _ d _ _ h => by cases d <;> exact h) H0 ?_
  simp only [pickM, pickT, List.filterMap_cons, List.filterMap_nil, List.getElem?_cons_zero, List.getElem?_cons_succ, Option.map_some]
  repeat (first | (refine m_float ⟨?_, .inl ⟨?_, .inl ?_⟩, fun K' hK => ?_⟩; rotate_left; (first | rfl | (go_simp; done)); (intro w' hS; obtain ⟨q0, q1, q2, q3, q4, q5⟩ := hS.c; go_simp; try rfl); (simp only [Act.put, List.setIfInBounds_toArray, List.set_cons_succ, List.set_cons_zero]; refine hK _ ?_; clear hK K')) | (refine m_float ⟨undef, .inr ⟨?_, rfl⟩, fun K' hK => ?_⟩; (first | rfl | (go_simp; done)); (simp only [Act.put, List.setIfInBounds_toArray, List.set_cons_succ, List.set_cons_zero]; refine hK _ ?_; clear hK K')))
  refine m_skip (by first | rfl | (go_simp; done)) ?_
  simp only [Act.put, List.setIfInBounds_toArray, List.set_cons_succ, List.set_cons_zero]
  refine m_nil ?_
  show wpList Try.prog _ _ (List.cons _ _) _ _
  go_wp2
  go_ret
  exact ⟨rfl, hB0⟩
set_option maxRecDepth 100000 in
set_option maxHeartbeats 2000000 in
theorem rvalid_3 (Y M D h m s : Nat) (w : World) (g1 : decide ((1900 : Int) ≤ Y) = true) (g2 : decide ((Y : Int) ≤ 2155) = true) (g3 : decide ((1 : Int) ≤ M) = true) (g4 : decide ((M : Int) ≤ 12) = true) (g5 : decide ((1 : Int) ≤ D) = false) :
    Calls Try.prog 121 #[clkV Y M D h m s] w fun e w' => e = .returned (.bool false) ∧ Below w.heap.size w w' := by
  go_enter Try.func121, Try.ntmps121
  go_wp2
  have H0 : BW w Y M D h m s (World.drew (w.alloc (.cells #[cI Y, cI M, cI D, cI h, cI m, cI s] 117))) := (BW.start w Y M D h m s).drew
  have hB0 := H0.2
  obtain ⟨r0, r1, r2, r3, r4, r5⟩ := H0.c
  refine region_sch (fun W' => BW w Y M D h m s W') [(true, 0), (true, 1), (true, 2), (true, 3), (true, 4), (true, 5), (true, 6), (true, 7), (true, 8), (true, 9), (true, 10), (true, 11), (true, 12), (true, 13), (true, 14), (true, 15), (true, 16), (true, 17), (true, 18), (true, 19), (true, 20), (true, 21), (true, 22), (true, 23), (true, 24), (true, 25), (true, 26), (true, 27), (true, 28), (true, 29), (false, 30)] [31, 32, 33, 34, 35, 36, 37, 38, 39, 40, 41, 42, 43, 44, 45, 46, 47, 48, 49, 50, 51, 52, 53, 54, 55, 56, 57, 58, 59, 60, 61, 62, 63] (by kernel_rfl) (by kernel_rfl) (by rintro ⟨_, _, h, _⟩; cases h) (fun _ _ d _ _ h => by cases d <;> exact h) H0 ?_
  simp only [pickM, pickT, List.filterMap_cons, List.filterMap_nil, List.getElem?_cons_zero, List.getElem?_cons_succ, Option.map_some]
  repeat (first | (refine m_float ⟨?_, .inl ⟨?_, .inl ?_⟩, fun K' hK => ?_⟩; rotate_left; (first | rfl | (go_simp; done)); (intro w' hS; obtain ⟨q0, q1, q2, q3, q4, q5⟩ := hS.c; go_simp; try rfl); (simp only [Act.put, List.setIfInBounds_toArray, List.set_cons_succ, List.set_cons_zero]; refine hK _ ?_; clear hK K')) | (refine m_float ⟨undef, .inr ⟨?_, rfl⟩, fun K' hK => ?_⟩; (first | rfl | (go_simp; done)); (simp only [Act.put, List.setIfInBounds_toArray, List.set_cons_succ, List.set_cons_zero]; refine hK _ ?_; clear hK K')))
  refine m_skip (by first | rfl | (go_simp; done)) ?_
  simp only [Act.put, List.setIfInBounds_toArray, List.set_cons_succ, List.set_cons_zero]
  refine m_nil ?_
  show wpList Try.prog _ _ (List.cons _ _) _ _
  go_wp2
  go_ret
  exact ⟨rfl, hB0⟩
set_option maxRecDepth 100000 in
set_option maxHeartbeats 2000000 in
theorem rvalid_4 (Y M D h m s md : Nat) (w : World) (g1 : decide ((1900 : Int) ≤ Y) = true) (g2 : decide ((Y : Int) ≤ 2155) = true) (g3 : decide ((1 : Int) ≤ M) = true) (g4 : decide ((M : Int) ≤ 12) = true) (g5 : decide ((1 : Int) ≤ D) = true) (g6 : decide (D ≤ md) = false)
    (d1 : ∀ W : World, Calls Try.prog 162 #[cI Y, cI M] W fun e w' => e = .returned (cI md) ∧ W = w') :
    Calls Try.prog 121 #[clkV Y M D h m s] w fun e w' => e = .returned (.bool false) ∧ Below w.heap.size w w' := by
  go_enter Try.func121, Try.ntmps121
  go_wp2
  have H0 : BW w Y M D h m s (World.drew (w.alloc (.cells #[cI Y, cI M, cI D, cI h, cI m, cI s] 117))) := (BW.start w Y M D h m s).drew
  have hB0 := H0.2
  obtain ⟨r0, r1, r2, r3, r4, r5⟩ := H0.c
  refine region_sch (fun W' => BW w Y M D h m s W') [(true, 0), (true, 1), (true, 2), (true, 3), (true, 4), (true, 5), (true, 6), (true, 7), (true, 8), (true, 9), (true, 10), (true, 11), (true, 12), (true, 13), (true, 14), (true, 15), (true, 16), (true, 17), (true, 18), (true, 19), (true, 20), (true, 21), (true, 22), (true, 23), (true, 24), (true, 25), (true, 26), (true, 27), (true, 28), (true, 29), (false, 30)] [31, 32, 33, 34, 35, 36, 37, 38, 39, 40, 41, 42, 43, 44, 45, 46, 47, 48, 49, 50, 51, 52, 53, 54, 55, 56, 57, 58, 59, 60, 61, 62, 63] (by kernel_rfl) (by kernel_rfl) (by rintro ⟨_, _, h, _⟩; cases h) (fun _ _ d _ _ h => by cases d <;> exact h) H0 ?_
  simp only [pickM, pickT, List.filterMap_cons, List.filterMap_nil, List.getElem?_cons_zero, List.getElem?_cons_succ, Option.map_some]
  repeat (first | (refine m_float ⟨?_, .inl ⟨?_, .inl ?_⟩, fun K' hK => ?_⟩; rotate_left; (first | rfl | (go_simp; done)); (intro w' hS; obtain ⟨q0, q1, q2, q3, q4, q5⟩ := hS.c; go_simp; try rfl); (simp only [Act.put, List.setIfInBounds_toArray, List.set_cons_succ, List.set_cons_zero]; refine hK _ ?_; clear hK K')) | (refine m_float ⟨undef, .inr ⟨?_, rfl⟩, fun K' hK => ?_⟩; (first | rfl | (go_simp; done)); (simp only [Act.put, List.setIfInBounds_toArray, List.set_cons_succ, List.set_cons_zero]; refine hK _ ?_; clear hK K')))
  refine m_loud ?_ (fun K' hK => ?_)
  · rintro ⟨_, _, h, _⟩; cases h
  go_wp2_with (go_at_call 162; (with_reducible refine (d1 _).mono ?_); rintro e w1 ⟨rfl, rfl⟩)
  refine hK _ _ H0 ?_
  clear hK K'
  refine m_nil ?_
  show wpList Try.prog _ _ (List.cons _ _) _ _
  go_wp2
  go_ret
  exact ⟨rfl, hB0⟩
set_option maxRecDepth 100000 in
set_option maxHeartbeats 2000000 in
theorem rvalid_5 (Y M D h m s md : Nat) (w : World) (g1 : decide ((1900 : Int) ≤ Y) = true) (g2 : decide ((Y : Int) ≤ 2155) = true) (g3 : decide ((1 : Int) ≤ M) = true) (g4 : decide ((M : Int) ≤ 12) = true) (g5 : decide ((1 : Int) ≤ D) = true) (g6 : decide (D ≤ md) = true) (g7 : decide ((h : Int) ≤ 23) = false)
    (d1 : ∀ W : World, Calls Try.prog 162 #[cI Y, cI M] W fun e w' => e = .returned (cI md) ∧ W = w') :
    Calls Try.prog 121 #[clkV Y M D h m s] w fun e w' => e = .returned (.bool false) ∧ Below w.heap.size w w' := by
  go_enter Try.func121, Try.ntmps121
  go_wp2
  have H0 : BW w Y M D h m s (World.drew (w.alloc (.cells #[cI Y, cI M, cI D, cI h, cI m, cI s] 117))) := (BW.start w Y M D h m s).drew
  have hB0 := H0.2
  obtain ⟨r0, r1, r2, r3, r4, r5⟩ := H0.c
  refine region_sch (fun W' => BW w Y M D h m s W') [(true, 0), (true, 1), (true, 2), (true, 3), (true, 4), (true, 5), (true, 6), (true, 7), (true, 8), (true, 9), (true, 10), (true, 11), (true, 12), (true, 13), (true, 14), (true, 15), (true, 16), (true, 17), (true, 18), (true, 19), (true, 20), (true, 21), (true, 22), (true, 23), (true, 24), (true, 25), (true, 26), (true, 27), (true, 28), (true, 29), (false, 30)] [31, 32, 33, 34, 35, 36, 37, 38, 39, 40, 41, 42, 43, 44, 45, 46, 47, 48, 49, 50, 51, 52, 53, 54, 55, 56, 57, 58, 59, 60, 61, 62, 63] (by kernel_rfl) (by kernel_rfl) (by rintro ⟨_, _, h, _⟩; cases h) (fun _ _ d _ _ h => by cases d <;> exact h) H0 ?_
  simp only [pickM, pickT, List.filterMap_cons, List.filterMap_nil, List.getElem?_cons_zero, List.getElem?_cons_succ, Option.map_some]
  repeat (first | (refine m_float ⟨?_, .inl ⟨?_, .inl ?_⟩, fun K' hK => ?_⟩; rotate_left; (first | rfl | (go_simp; done)); (intro w' hS; obtain ⟨q0, q1, q2, q3, q4, q5⟩ := hS.c; go_simp; try rfl); (simp only [Act.put, List.setIfInBounds_toArray, List.set_cons_succ, List.set_cons_zero]; refine hK _ ?_; clear hK K')) | (refine m_float ⟨undef, .inr ⟨?_, rfl⟩, fun K' hK => ?_⟩; (first | rfl | (go_simp; done)); (simp only [Act.put, List.setIfInBounds_toArray, List.set_cons_succ, List.set_cons_zero]; refine hK _ ?_; clear hK K')))
  refine m_loud ?_ (fun K' hK => ?_)
  · rintro ⟨_, _, h, _⟩; cases h
  go_wp2_with (go_at_call 162; (with_reducible refine (d1 _).mono ?_); rintro e w1 ⟨rfl, rfl⟩)
  refine hK _ _ H0 ?_
  clear hK K'
  refine m_nil ?_
  show wpList Try.prog _ _ (List.cons _ _) _ _
  go_wp2
  go_ret
  exact ⟨rfl, hB0⟩
set_option maxRecDepth 100000 in
set_option maxHeartbeats 2000000 in
theorem rvalid_6 (Y M D h m s md : Nat) (w : World) (g1 : decide ((1900 : Int) ≤ Y) = true) (g2 : decide ((Y : Int) ≤ 2155) = true) (g3 : decide ((1 : Int) ≤ M) = true) (g4 : decide ((M : Int) ≤ 12) = true) (g5 : decide ((1 : Int) ≤ D) = true) (g6 : decide (D ≤ md) = true) (g7 : decide ((h : Int) ≤ 23) = true) (g8 : decide ((m : Int) ≤ 59) = false)
    (d1 : ∀ W : World, Calls Try.prog 162 #[cI Y, cI M] W fun e w' => e = .returned (cI md) ∧ W = w') :
    Calls Try.prog 121 #[clkV Y M D h m s] w fun e w' => e = .returned (.bool false) ∧ Below w.heap.size w w' := by
  go_enter Try.func121, Try.ntmps121
  go_wp2
  have H0 : BW w Y M D h m s (World.drew (w.alloc (.cells #[cI Y, cI M, cI D, cI h, cI m, cI s] 117))) := (BW.start w Y M D h m s).drew
  have hB0 := H0.2
  obtain ⟨r0, r1, r2, r3, r4, r5⟩ := H0.c
  refine region_sch (fun W' => BW w Y M D h m s W') [(true, 0), (true, 1), (true, 2), (true, 3), (true, 4), (true, 5), (true, 6), (true, 7), (true, 8), (true, 9), (true, 10), (true, 11), (true, 12), (true, 13), (true, 14), (true, 15), (true, 16), (true, 17), (true, 18), (true, 19), (true, 20), (true, 21), (true, 22), (true, 23), (true, 24), (true, 25), (true, 26), (true, 27), (true, 28), (true, 29), (false, 30)] [31, 32, 33, 34, 35, 36, 37, 38, 39, 40, 41, 42, 43, 44, 45, 46, 47, 48, 49, 50, 51, 52, 53, 54, 55, 56, 57, 58, 59, 60, 61, 62, 63] (by kernel_rfl) (by kernel_rfl) (by rintro ⟨_, _, h, _⟩; cases h) (fun _ _ d _ _ h => by cases d <;> exact h) H0 ?_
  simp only [pickM, pickT, List.filterMap_cons, List.filterMap_nil, List.getElem?_cons_zero, List.getElem?_cons_succ, Option.map_some]
  repeat (first | (refine m_float ⟨?_, .inl ⟨?_, .inl ?_⟩, fun K' hK => ?_⟩; rotate_left; (first | rfl | (go_simp; done)); (intro w' hS; obtain ⟨q0, q1, q2, q3, q4, q5⟩ := hS.c; go_simp; try rfl); (simp only [Act.put, List.setIfInBounds_toArray, List.set_cons_succ, List.set_cons_zero]; refine hK _ ?_; clear hK K')) | (refine m_float ⟨undef, .inr ⟨?_, rfl⟩, fun K' hK => ?_⟩; (first | rfl | (go_simp; done)); (simp only [Act.put, List.setIfInBounds_toArray, List.set_cons_succ, List.set_cons_zero]; refine hK _ ?_; clear hK K')))
  refine m_loud ?_ (fun K' hK => ?_)
  · rintro ⟨_, _, h, _⟩; cases h
  go_wp2_with (go_at_call 162; (with_reducible refine (d1 _).mono ?_); rintro e w1 ⟨rfl, rfl⟩)
  refine hK _ _ H0 ?_
  clear hK K'
  refine m_nil ?_
  show wpList Try.prog _ _ (List.cons _ _) _ _
  go_wp2
  go_ret
  exact ⟨rfl, hB0⟩
set_option maxRecDepth 100000 in
set_option maxHeartbeats 2000000 in
theorem rvalid_7 (Y M D h m s md : Nat) (b : Bool) (w : World) (g1 : decide ((1900 : Int) ≤ Y) = true) (g2 : decide ((Y : Int) ≤ 2155) = true) (g3 : decide ((1 : Int) ≤ M) = true) (g4 : decide ((M : Int) ≤ 12) = true) (g5 : decide ((1 : Int) ≤ D) = true) (g6 : decide (D ≤ md) = true) (g7 : decide ((h : Int) ≤ 23) = true) (g8 : decide ((m : Int) ≤ 59) = true) (g9 : decide ((s : Int) ≤ 59) = b)
    (d1 : ∀ W : World, Calls Try.prog 162 #[cI Y, cI M] W fun e w' => e = .returned (cI md) ∧ W = w') :
    Calls Try.prog 121 #[clkV Y M D h m s] w fun e w' => e = .returned (.bool b) ∧ Below w.heap.size w w' := by
  go_enter Try.func121, Try.ntmps121
  go_wp2
  have H0 : BW w Y M D h m s (World.drew (w.alloc (.cells #[cI Y, cI M, cI D, cI h, cI m, cI s] 117))) := (BW.start w Y M D h m s).drew
  have hB0 := H0.2
  obtain ⟨r0, r1, r2, r3, r4, r5⟩ := H0.c
  refine region_sch (fun W' => BW w Y M D h m s W') [(true, 0), (true, 1), (true, 2), (true, 3), (true, 4), (true, 5), (true, 6), (true, 7), (true, 8), (true, 9), (true, 10), (true, 11), (true, 12), (true, 13), (true, 14), (true, 15), (true, 16), (true, 17), (true, 18), (true, 19), (true, 20), (true, 21), (true, 22), (true, 23), (true, 24), (true, 25), (true, 26), (true, 27), (true, 28), (true, 29), (false, 30)] [31, 32, 33, 34, 35, 36, 37, 38, 39, 40, 41, 42, 43, 44, 45, 46, 47, 48, 49, 50, 51, 52, 53, 54, 55, 56, 57, 58, 59, 60, 61, 62, 63] (by kernel_rfl) (by kernel_rfl) (by rintro ⟨_, _, h, _⟩; cases h) (fun _ _ d _ _ h => by cases d <;> exact h) H0 ?_
  simp only [pickM, pickT, List.filterMap_cons, List.filterMap_nil, List.getElem?_cons_zero, List.getElem?_cons_succ, Option.map_some]
  repeat (first | (refine m_float ⟨?_, .inl ⟨?_, .inl ?_⟩, fun K' hK => ?_⟩; rotate_left; (first | rfl | (go_simp; done)); (intro w' hS; obtain ⟨q0, q1, q2, q3, q4, q5⟩ := hS.c; go_simp; try rfl); (simp only [Act.put, List.setIfInBounds_toArray, List.set_cons_succ, List.set_cons_zero]; refine hK _ ?_; clear hK K')) | (refine m_float ⟨undef, .inr ⟨?_, rfl⟩, fun K' hK => ?_⟩; (first | rfl | (go_simp; done)); (simp only [Act.put, List.setIfInBounds_toArray, List.set_cons_succ, List.set_cons_zero]; refine hK _ ?_; clear hK K')))
  refine m_loud ?_ (fun K' hK => ?_)
  · rintro ⟨_, _, h, _⟩; cases h
  go_wp2_with (go_at_call 162; (with_reducible refine (d1 _).mono ?_); rintro e w1 ⟨rfl, rfl⟩)
  refine hK _ _ H0 ?_
  clear hK K'
  refine m_nil ?_
  show wpList Try.prog _ _ (List.cons _ _) _ _
  go_wp2
  go_ret
  exact ⟨rfl, hB0⟩
theorem rvalid_ok (Y M D h m s : Nat) (w : World) (g1 : 1900 ≤ Y) (g2 : Y ≤ 2155) : Calls Try.prog 121 #[clkV Y M D h m s] w fun e w' => e = .returned (.bool (validB Y M D h m s)) ∧ Below w.heap.size w w' := by
  have a1 : decide ((1900 : Int) ≤ Y) = true := decide_eq_true (by omega)
  have a2 : decide ((Y : Int) ≤ 2155) = true := decide_eq_true (by omega)
  by_cases g3 : 1 ≤ M
  · have a3 : decide ((1 : Int) ≤ M) = true := decide_eq_true (by omega)
    by_cases g4 : M ≤ 12
    · have d1 := fun W => rdays_ok Y M W g3 g4
      have a4 : decide ((M : Int) ≤ 12) = true := decide_eq_true (by omega)
      by_cases g5 : 1 ≤ D
      · have a5 : decide ((1 : Int) ≤ (D : Int)) = true := decide_eq_true (by omega)
        by_cases g6 : D ≤ mD Y M
        · by_cases g7 : h ≤ 23
          · have a7 : decide ((h : Int) ≤ 23) = true := decide_eq_true (by omega)
            by_cases g8 : m ≤ 59
            · have a8 : decide ((m : Int) ≤ 59) = true := decide_eq_true (by omega)
              have a9 : decide ((s : Int) ≤ 59) = decide (s ≤ 59) := by simp only [decide_eq_decide]; omega
              rw [show validB Y M D h m s = decide (s ≤ 59) by simp [validB, g1, g2, g3, g4, g5, g6, g7, g8]]
              exact rvalid_7 Y M D h m s _ _ w a1 a2 a3 a4 a5 (decide_eq_true g6) a7 a8 a9 d1
            · rw [show validB Y M D h m s = false by simp [validB, g8]]
              exact rvalid_6 Y M D h m s _ w a1 a2 a3 a4 a5 (decide_eq_true g6) a7 (decide_eq_false (by omega)) d1
          · rw [show validB Y M D h m s = false by simp [validB, g7]]
            exact rvalid_5 Y M D h m s _ w a1 a2 a3 a4 a5 (decide_eq_true g6) (decide_eq_false (by omega)) d1
        · rw [show validB Y M D h m s = false by simp [validB, g6]]
          exact rvalid_4 Y M D h m s _ w a1 a2 a3 a4 a5 (decide_eq_false g6) d1
      · rw [show validB Y M D h m s = false by simp [validB, g5]]
        exact rvalid_3 Y M D h m s w a1 a2 a3 a4 (decide_eq_false (by omega))
    · rw [show validB Y M D h m s = false by simp [validB, g4]]
      exact rvalid_2 Y M D h m s w a1 a2 a3 (decide_eq_false (by omega))
  · rw [show validB Y M D h m s = false by simp [validB, g3]]
    exact rvalid_1 Y M D h m s w a1 a2 (decide_eq_false (by omega))
end Go.Proofs.Ytnmlephjhcmbhaa
