/- The reference of package dirrecord: Decode, behind the sizes. -/
import Derived.Test.YtnmlephjhcmbhaaDrl
import Derived.Test.YtnmlephjhcmbhaaDtn
namespace Go.Proofs.Ytnmlephjhcmbhaa
set_option linter.unusedSimpArgs false
set_option linter.unusedVariables false
open Go Go.RowKit
set_option maxRecDepth 100000 in
set_option maxHeartbeats 3000000 in
theorem rdec_unsup (s : ByteArray) (n0 n1 n26 n27 n32 : Nat) (w : World) (hs : 34 ≤ s.size) (h0 : (s[0]'(by omega)).toNat = n0) (h1 : (s[1]'(by omega)).toNat = n1) (h26 : (s[26]'(by omega)).toNat = n26) (h27 : (s[27]'(by omega)).toNat = n27) (h32 : (s[32]'(by omega)).toNat = n32) (l0 : n0 < 256) (l32 : n32 < 256) (p : Int)
    (hpar : (((n32 : Int) % 2 == 0) = false ∧ 33 + (n32 : Int) = p) ∨ (((n32 : Int) % 2 == 0) = true ∧ 33 + (n32 : Int) + 1 = p))
    (k1 : ((n0 : Int) % 2 == 1) = false) (k2 : (34 : Int) ≤ n0) (k3 : (n0 : Int) ≤ s.size) (k4 : ((n32 : Int) == 0) = false) (k5 : p ≤ (n0 : Int))
    (h : ((n1 : Int) != 0) = true ∨ (((n1 : Int) != 0) = false ∧ ((n26 : Int) != 0) = true) ∨ (((n1 : Int) != 0) = false ∧ ((n26 : Int) != 0) = false ∧ ((n27 : Int) != 0) = true)) : Calls Try.prog 24 #[.string s] w fun e w' => e = .returned (.tuple #[.agg recZ, cN 0, cN 14]) ∧ Below w.heap.size w w' := by
  have b34 : (34 : Int) ≤ (s.size : Int) := by omega
  have b0 : 0 < s.size := by omega
  have b1 : (1 : Int) < (s.size : Int) := by omega
  have b26 : (26 : Int) < (s.size : Int) := by omega
  have b27 : (27 : Int) < (s.size : Int) := by omega
  have b32 : (32 : Int) < (s.size : Int) := by omega
  have w0 : IntKind.i64.wrap (n0 : Int) = n0 := by rw [IntKind.wrap_i64]; omega
  have w32 : IntKind.i64.wrap (n32 : Int) = n32 := by rw [IntKind.wrap_i64]; omega
  rcases hpar with ⟨hp1, hp2⟩ | ⟨hp1, hp2⟩
  all_goals
    subst hp2
    rcases h with h | ⟨h, h'⟩ | ⟨h, h', h''⟩
    all_goals
      go_enter Try.func24, Try.ntmps24
      go_wp2
      refine region_sch (fun _ => True) [(true, 0), (true, 1), (true, 2), (true, 3), (true, 4), (true, 5), (true, 6)] [7] (by kernel_rfl) (by kernel_rfl) (by rintro ⟨_, _, h, _⟩; cases h) (fun _ _ d _ _ h => by cases d <;> exact h) trivial ?_
      simp only [pickM, pickT, List.filterMap_cons, List.filterMap_nil, List.getElem?_cons_zero, List.getElem?_cons_succ, Option.map_some]
      repeat (first | (refine m_float ⟨?_, .inl ⟨?_, .inl ?_⟩, fun K' hK => ?_⟩; rotate_left; (first | rfl | (go_simp; done)); (intro w' hS; go_simp; try rfl); (simp only [Act.put, List.setIfInBounds_toArray, List.set_cons_succ, List.set_cons_zero]; refine hK _ ?_; clear hK K')) | (refine m_float ⟨undef, .inr ⟨?_, rfl⟩, fun K' hK => ?_⟩; (first | rfl | (go_simp; done)); (simp only [Act.put, List.setIfInBounds_toArray, List.set_cons_succ, List.set_cons_zero]; refine hK _ ?_; clear hK K')))
      refine m_nil ?_
      show wpList Try.prog _ _ (List.cons _ _) _ _
      go_wp2
      obtain ⟨q0, q1, q2, q3, q4, q5, q6, q7⟩ := cells8 (DR.start w).1
      refine bodyPost_ret (v := .tuple #[.agg recZ, cN 0, cN 14]) ?_ rfl ⟨rfl, (DR.start w).drew.2.2⟩
      simp [results, Try.results24, go_sem, q0, q1, q2, q3, q4, q5, q6, q7]
set_option maxRecDepth 100000 in
set_option maxHeartbeats 3000000 in
theorem rdec_date (s x : ByteArray) (n0 n1 n26 n27 n32 : Nat) (ta za ea : Int) (w : World) (hs : 34 ≤ s.size) (h0 : (s[0]'(by omega)).toNat = n0) (h1 : (s[1]'(by omega)).toNat = n1) (h26 : (s[26]'(by omega)).toNat = n26) (h27 : (s[27]'(by omega)).toNat = n27) (h32 : (s[32]'(by omega)).toNat = n32) (l0 : n0 < 256) (l32 : n32 < 256) (p : Int)
    (hpar : (((n32 : Int) % 2 == 0) = false ∧ 33 + (n32 : Int) = p) ∨ (((n32 : Int) % 2 == 0) = true ∧ 33 + (n32 : Int) + 1 = p))
    (k1 : ((n0 : Int) % 2 == 1) = false) (k2 : (34 : Int) ≤ n0) (k3 : (n0 : Int) ≤ s.size) (k4 : ((n32 : Int) == 0) = false) (k5 : p ≤ (n0 : Int))
    (k6 : ((n1 : Int) != 0) = false) (k7 : ((n26 : Int) != 0) = false) (k8 : ((n27 : Int) != 0) = false)
    (hx : s.extract 18 25 = x) (c2 : ∀ W : World, Calls Try.prog 63 #[.string x] W fun e w' => e = .returned (.tuple #[cN ta, cN za, cN ea]) ∧ Below W.heap.size W w') (hea : (ea != 0) = true) :
    Calls Try.prog 24 #[.string s] w fun e w' => e = .returned (.tuple #[.agg recZ, cN 0, cN ea]) ∧ Below w.heap.size w w' := by
  have b34 : (34 : Int) ≤ (s.size : Int) := by omega
  have b0 : 0 < s.size := by omega
  have b1 : (1 : Int) < (s.size : Int) := by omega
  have b26 : (26 : Int) < (s.size : Int) := by omega
  have b27 : (27 : Int) < (s.size : Int) := by omega
  have b32 : (32 : Int) < (s.size : Int) := by omega
  have w0 : IntKind.i64.wrap (n0 : Int) = n0 := by rw [IntKind.wrap_i64]; omega
  have w32 : IntKind.i64.wrap (n32 : Int) = n32 := by rw [IntKind.wrap_i64]; omega
  rcases hpar with ⟨hp1, hp2⟩ | ⟨hp1, hp2⟩
  all_goals
    subst hp2
    go_enter Try.func24, Try.ntmps24
    go_wp2
    refine region_sch (fun _ => True) [(true, 0), (true, 1), (true, 2), (true, 3), (true, 4), (true, 5), (true, 6)] [7] (by kernel_rfl) (by kernel_rfl) (by rintro ⟨_, _, h, _⟩; cases h) (fun _ _ d _ _ h => by cases d <;> exact h) trivial ?_
    simp only [pickM, pickT, List.filterMap_cons, List.filterMap_nil, List.getElem?_cons_zero, List.getElem?_cons_succ, Option.map_some]
    repeat (first | (refine m_float ⟨?_, .inl ⟨?_, .inl ?_⟩, fun K' hK => ?_⟩; rotate_left; (first | rfl | (go_simp; done)); (intro w' hS; go_simp; try rfl); (simp only [Act.put, List.setIfInBounds_toArray, List.set_cons_succ, List.set_cons_zero]; refine hK _ ?_; clear hK K')) | (refine m_float ⟨undef, .inr ⟨?_, rfl⟩, fun K' hK => ?_⟩; (first | rfl | (go_simp; done)); (simp only [Act.put, List.setIfInBounds_toArray, List.set_cons_succ, List.set_cons_zero]; refine hK _ ?_; clear hK K')))
    refine m_nil ?_
    show wpList Try.prog _ _ (List.cons _ _) _ _
    go_wp2_with (first | (go_at_call 63; (with_reducible refine (c2 _).mono ?_); rintro e w1 ⟨rfl, hB⟩; have H1 := (DR.start w).drew.below hB; obtain ⟨q0, q1, q2, q3, q4, q5, q6, q7⟩ := cells8 H1.1; obtain ⟨z0, z1, z2, z3, z4, z5, z6, z7⟩ := cells8 H1.2.1; have fz := fun j => Lib.frozen_of_heap H1.1 j; clear hB))
    have H8 := set8 H1.1 (.string ⟨#[]⟩) (cN 0) (cN 0) (cN 0) (cN 0) (cN 0) (cN 0) (.string ⟨#[]⟩)
    clear q0 q1 q2 q3 q4 q5 q6 q7
    obtain ⟨q0, q1, q2, q3, q4, q5, q6, q7⟩ := cells8 H8
    refine bodyPost_ret (v := .tuple #[.agg recZ, cN 0, cN ea]) ?_ rfl ⟨rfl, below8 H1.2.2 (Nat.le_refl _) _ _ _ _ _ _ _ _⟩
    simp [results, Try.results24, go_sem, q0, q1, q2, q3, q4, q5, q6, q7]
end Go.Proofs.Ytnmlephjhcmbhaa
