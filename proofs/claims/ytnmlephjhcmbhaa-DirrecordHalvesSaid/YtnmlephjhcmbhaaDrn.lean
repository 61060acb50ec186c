/- The reference of package dirrecord: Decode, of a good record. -/
import Derived.Test.YtnmlephjhcmbhaaDrm
namespace Go.Proofs.Ytnmlephjhcmbhaa
set_option linter.unusedSimpArgs false
set_option linter.unusedVariables false
open Go Go.RowKit
set_option maxRecDepth 100000 in
set_option maxHeartbeats 4000000 in
theorem rdec_good (s x : ByteArray) (n0 n1 n25 n26 n27 n32 pn : Nat) (v1 v2 v3 : Nat) (ta za : Int) (w : World) (hs : 34 ≤ s.size) (h0 : (s[0]'(by omega)).toNat = n0) (h1 : (s[1]'(by omega)).toNat = n1) (h26 : (s[26]'(by omega)).toNat = n26) (h27 : (s[27]'(by omega)).toNat = n27) (h32 : (s[32]'(by omega)).toNat = n32) (l0 : n0 < 256) (l32 : n32 < 256) (p : Int)
    (hpar : (((n32 : Int) % 2 == 0) = false ∧ 33 + (n32 : Int) = p) ∨ (((n32 : Int) % 2 == 0) = true ∧ 33 + (n32 : Int) + 1 = p))
    (k1 : ((n0 : Int) % 2 == 1) = false) (k2 : (34 : Int) ≤ n0) (k3 : (n0 : Int) ≤ s.size) (k4 : ((n32 : Int) == 0) = false) (k5 : p ≤ (n0 : Int))
    (h25 : (s[25]'(by omega)).toNat = n25) (l25 : n25 < 256) (k6 : ((n1 : Int) != 0) = false) (k7 : ((n26 : Int) != 0) = false) (k8 : ((n27 : Int) != 0) = false)
    (hx : s.extract 18 25 = x) (c2 : ∀ W : World, Calls Try.prog 63 #[.string x] W fun e w' => e = .returned (.tuple #[cN ta, cN za, cN 0]) ∧ Below W.heap.size W w')
    (m1 : ∀ W : World, Calls Try.prog 64 #[.string s, cN 2, cN 4] W fun e w' => e = .returned (cN v1) ∧ W = w')
    (m2 : ∀ W : World, Calls Try.prog 64 #[.string s, cN 10, cN 4] W fun e w' => e = .returned (cN v2) ∧ W = w')
    (m3 : ∀ W : World, Calls Try.prog 64 #[.string s, cN 28, cN 2] W fun e w' => e = .returned (cN v3) ∧ W = w')
    (p0 : (0 : Int) ≤ p) (pt : p.toNat = pn) :
    Calls Try.prog 24 #[.string s] w fun e w' => e = .returned (.tuple #[.agg (recA ⟨s.extract 33 (33 + n32), v1, v2, ta, za, n25, v3, s.extract pn n0⟩), cN n0, cN 0]) ∧ Below w.heap.size w w' := by
  have b34 : (34 : Int) ≤ (s.size : Int) := by omega
  have b0 : 0 < s.size := by omega
  have b1 : (1 : Int) < (s.size : Int) := by omega
  have b26 : (26 : Int) < (s.size : Int) := by omega
  have b27 : (27 : Int) < (s.size : Int) := by omega
  have b32 : (32 : Int) < (s.size : Int) := by omega
  have w0 : IntKind.i64.wrap (n0 : Int) = n0 := by rw [IntKind.wrap_i64]; omega
  have w32 : IntKind.i64.wrap (n32 : Int) = n32 := by rw [IntKind.wrap_i64]; omega
  have b25 : (25 : Int) < (s.size : Int) := by omega
  have w25 : IntKind.i64.wrap (n25 : Int) = n25 := by rw [IntKind.wrap_i64]; omega
  have w33 : IntKind.i64.wrap (33 + (n32 : Int)) = 33 + (n32 : Int) := by rw [IntKind.wrap_i64]; omega
  have u0 : (0 : Int) ≤ 33 + (n32 : Int) := by omega
  have u1 : (33 : Int) ≤ 33 + (n32 : Int) := by omega
  have u2 : 33 + (n32 : Int) ≤ (s.size : Int) := by omega
  have u3 : (33 + (n32 : Int)).toNat = 33 + n32 := by omega
  have u4 : (0 : Int) ≤ (n0 : Int) := by omega
  have u5 : (n0 : Int).toNat = n0 := Int.toNat_natCast n0
  have hpn : (((n32 : Int) % 2 == 0) = false ∧ p = 33 + (n32 : Int) ∧ pn = 33 + n32) ∨ (((n32 : Int) % 2 == 0) = true ∧ p = 33 + (n32 : Int) + 1 ∧ pn = 33 + n32 + 1) := by
    rcases hpar with ⟨q1, q2⟩ | ⟨q1, q2⟩
    · exact .inl ⟨q1, q2.symm, by omega⟩
    · exact .inr ⟨q1, q2.symm, by omega⟩
  clear hpar pt
  rcases hpn with ⟨hp1, rfl, rfl⟩ | ⟨hp1, rfl, rfl⟩
  all_goals
    go_enter Try.func24, Try.ntmps24
    go_wp2
    refine region_sch (fun _ => True) [(true, 0), (true, 1), (true, 2), (true, 3), (true, 4), (true, 5), (true, 6)] [7] (by kernel_rfl) (by kernel_rfl) (by rintro ⟨_, _, h, _⟩; cases h) (fun _ _ d _ _ h => by cases d <;> exact h) trivial ?_
    simp only [pickM, pickT, List.filterMap_cons, List.filterMap_nil, List.getElem?_cons_zero, List.getElem?_cons_succ, Option.map_some]
    repeat (first | (refine m_float ⟨?_, .inl ⟨?_, .inl ?_⟩, fun K' hK => ?_⟩; rotate_left; (first | rfl | (go_simp; done)); (intro w' hS; go_simp; try rfl); (simp only [Act.put, List.setIfInBounds_toArray, List.set_cons_succ, List.set_cons_zero]; refine hK _ ?_; clear hK K')) | (refine m_float ⟨undef, .inr ⟨?_, rfl⟩, fun K' hK => ?_⟩; (first | rfl | (go_simp; done)); (simp only [Act.put, List.setIfInBounds_toArray, List.set_cons_succ, List.set_cons_zero]; refine hK _ ?_; clear hK K')))
    refine m_nil ?_
    show wpList Try.prog _ _ (List.cons _ _) _ _
    go_wp2_with (first | (go_at_call 63; (with_reducible refine (c2 _).mono ?_); rintro e w1 ⟨rfl, hB⟩; have H1 := (DR.start w).drew.below hB; clear hB))
    have H2 := H1
    clear H1
    refine region_sch (fun _ => True) [(true, 0), (true, 1), (true, 2), (true, 3), (true, 4), (true, 6), (true, 8), (true, 9), (true, 10), (true, 11), (true, 12), (true, 13), (true, 15), (true, 16), (true, 17), (true, 18), (true, 20), (false, 5), (false, 7), (false, 14), (true, 19), (false, 21)] [22, 23] (by kernel_rfl) (by kernel_rfl) (by rintro ⟨_, _, h, _⟩; cases h) (fun _ _ d _ _ h => by cases d <;> exact h) trivial ?_
    simp only [pickM, pickT, List.filterMap_cons, List.filterMap_nil, List.getElem?_cons_zero, List.getElem?_cons_succ, Option.map_some]
    repeat (first | (refine m_float ⟨?_, .inl ⟨?_, .inl ?_⟩, fun K' hK => ?_⟩; rotate_left; (first | rfl | (go_simp; done)); (intro w' hS; go_simp; try rfl); (simp only [Act.put, List.setIfInBounds_toArray, List.set_cons_succ, List.set_cons_zero]; refine hK _ ?_; clear hK K')) | (refine m_float ⟨undef, .inr ⟨?_, rfl⟩, fun K' hK => ?_⟩; (first | rfl | (go_simp; done)); (simp only [Act.put, List.setIfInBounds_toArray, List.set_cons_succ, List.set_cons_zero]; refine hK _ ?_; clear hK K')))
    refine m_loud ?_ (fun K' hK => ?_)
    · rintro ⟨_, _, h, _⟩; cases h
    go_wp2_with fail
    with_reducible refine (m1 _).mono ?_
    rintro e w5 ⟨rfl, rfl⟩
    go_wp2
    refine hK _ _ trivial ?_
    clear hK K'
    repeat (first | (refine m_float ⟨?_, .inl ⟨?_, .inl ?_⟩, fun K' hK => ?_⟩; rotate_left; (first | rfl | (go_simp; done)); (intro w' hS; go_simp; try rfl); (simp only [Act.put, List.setIfInBounds_toArray, List.set_cons_succ, List.set_cons_zero]; refine hK _ ?_; clear hK K')) | (refine m_float ⟨undef, .inr ⟨?_, rfl⟩, fun K' hK => ?_⟩; (first | rfl | (go_simp; done)); (simp only [Act.put, List.setIfInBounds_toArray, List.set_cons_succ, List.set_cons_zero]; refine hK _ ?_; clear hK K')))
    refine m_loud ?_ (fun K' hK => ?_)
    · rintro ⟨_, _, h, _⟩; cases h
    go_wp2_with fail
    with_reducible refine (m2 _).mono ?_
    rintro e w5 ⟨rfl, rfl⟩
    go_wp2
    refine hK _ _ trivial ?_
    clear hK K'
    repeat (first | (refine m_float ⟨?_, .inl ⟨?_, .inl ?_⟩, fun K' hK => ?_⟩; rotate_left; (first | rfl | (go_simp; done)); (intro w' hS; go_simp; try rfl); (simp only [Act.put, List.setIfInBounds_toArray, List.set_cons_succ, List.set_cons_zero]; refine hK _ ?_; clear hK K')) | (refine m_float ⟨undef, .inr ⟨?_, rfl⟩, fun K' hK => ?_⟩; (first | rfl | (go_simp; done)); (simp only [Act.put, List.setIfInBounds_toArray, List.set_cons_succ, List.set_cons_zero]; refine hK _ ?_; clear hK K')))
    refine m_loud ?_ (fun K' hK => ?_)
    · rintro ⟨_, _, h, _⟩; cases h
    go_wp2_with fail
    with_reducible refine (m3 _).mono ?_
    rintro e w5 ⟨rfl, rfl⟩
    go_wp2
    refine hK _ _ trivial ?_
    clear hK K'
    repeat (first | (refine m_float ⟨?_, .inl ⟨?_, .inl ?_⟩, fun K' hK => ?_⟩; rotate_left; (first | rfl | (go_simp; done)); (intro w' hS; go_simp; try rfl); (simp only [Act.put, List.setIfInBounds_toArray, List.set_cons_succ, List.set_cons_zero]; refine hK _ ?_; clear hK K')) | (refine m_float ⟨undef, .inr ⟨?_, rfl⟩, fun K' hK => ?_⟩; (first | rfl | (go_simp; done)); (simp only [Act.put, List.setIfInBounds_toArray, List.set_cons_succ, List.set_cons_zero]; refine hK _ ?_; clear hK K')))
    refine m_loud ?_ (fun K' hK => ?_)
    · rintro ⟨_, _, h, _⟩; cases h
    obtain ⟨q0, q1, q2, q3, q4, q5, q6, q7⟩ := cells8 H2.1
    have fz := fun j => Lib.frozen_of_heap H2.1 j
    go_wp2
    clear q0 q1 q2 q3 q4 q5 q6 q7 fz
    refine hK _ _ trivial ?_
    clear hK K'
    refine m_nil ?_
    show wpList Try.prog _ _ (List.cons _ _) _ _
    go_wp2
  · have H8 := set8 H2.1 (.string (s.extract 33 (33 + n32))) (cN v1) (cN v2) (cN ta) (cN za) (cN n25) (cN v3) (.string (s.extract (33 + n32) n0))
    have HB := (below8 H2.2.2 (Nat.le_refl _) (.string (s.extract 33 (33 + n32))) (cN v1) (cN v2) (cN ta) (cN za) (cN n25) (cN v3) (.string (s.extract (33 + n32) n0))).drew
    obtain ⟨q0, q1, q2, q3, q4, q5, q6, q7⟩ := cells8 H8
    refine bodyPost_ret (v := .tuple #[.agg (recA ⟨s.extract 33 (33 + n32), v1, v2, ta, za, n25, v3, s.extract (33 + n32) n0⟩), cN n0, cN 0]) ?_ rfl ⟨rfl, HB⟩
    simp [results, Try.results24, go_sem, q0, q1, q2, q3, q4, q5, q6, q7]
  · have H8 := set8 H2.1 (.string (s.extract 33 (33 + n32))) (cN v1) (cN v2) (cN ta) (cN za) (cN n25) (cN v3) (.string (s.extract (33 + n32 + 1) n0))
    have HB := (below8 H2.2.2 (Nat.le_refl _) (.string (s.extract 33 (33 + n32))) (cN v1) (cN v2) (cN ta) (cN za) (cN n25) (cN v3) (.string (s.extract (33 + n32 + 1) n0))).drew
    obtain ⟨q0, q1, q2, q3, q4, q5, q6, q7⟩ := cells8 H8
    refine bodyPost_ret (v := .tuple #[.agg (recA ⟨s.extract 33 (33 + n32), v1, v2, ta, za, n25, v3, s.extract (33 + n32 + 1) n0⟩), cN n0, cN 0]) ?_ rfl ⟨rfl, HB⟩
    simp [results, Try.results24, go_sem, q0, q1, q2, q3, q4, q5, q6, q7]
end Go.Proofs.Ytnmlephjhcmbhaa
