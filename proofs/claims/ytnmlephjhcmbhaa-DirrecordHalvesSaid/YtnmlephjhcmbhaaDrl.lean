/- The reference of package dirrecord: Decode. -/
import Derived.Test.YtnmlephjhcmbhaaDrj
import Derived.Test.YtnmlephjhcmbhaaRfc
namespace Go.Proofs.Ytnmlephjhcmbhaa
set_option linter.unusedSimpArgs false
set_option linter.unusedVariables false
open Go Go.RowKit
/-- The state of the reference's Decode: the result, and the record that is none. -/
def DR (w : World) (W : World) : Prop := W.heap[w.heap.size]? = some (.cells recZ 23 (0, 0)) ∧ W.heap[w.heap.size + 1]? = some (.cells recZ 23 (0, 0)) ∧ Below w.heap.size w W
theorem DR.below {w : World} {W W' : World} (h : DR w W) (k : Below W.heap.size W W') : DR w W' :=
  ⟨(k.block _ (lt_of_block h.1)).trans h.1, (k.block _ (lt_of_block h.2.1)).trans h.2.1, h.2.2.trans (k.mono h.2.2.size)⟩
theorem DR.drew {w : World} {W : World} (h : DR w W) : DR w W.drew := h.below (Below.refl _ W).drew
theorem DR.start (w : World) : DR w ((w.alloc (.cells recZ 23)).alloc (.cells recZ 23)) := by
  refine ⟨?_, ?_, ((Below.refl _ w).alloc (Nat.le_refl _) _).alloc (by simp) _⟩
  · rw [Lib.alloc_old _ _ _ (by simp)]
    exact World.alloc_heap_new _ _
  · have := World.alloc_heap_new (w.alloc (.cells recZ 23)) (.cells recZ 23)
    rw [World.size_alloc] at this
    exact this
set_option maxRecDepth 100000 in
set_option maxHeartbeats 1000000 in
theorem rdec_short (s : ByteArray) (w : World) (hs : s.size < 34) : Calls Try.prog 24 #[.string s] w fun e w' => e = .returned (.tuple #[.agg recZ, cN 0, cN 10]) ∧ Below w.heap.size w w' := by
  have hs' : (s.size : Int) < 34 := by omega
  go_enter Try.func24, Try.ntmps24
  go_wp2
  obtain ⟨q0, q1, q2, q3, q4, q5, q6, q7⟩ := cells8 (DR.start w).1
  refine bodyPost_ret (v := .tuple #[.agg recZ, cN 0, cN 10]) ?_ rfl ⟨rfl, (DR.start w).2.2⟩
  simp [results, Try.results24, go_sem, q0, q1, q2, q3, q4, q5, q6, q7]
set_option maxRecDepth 100000 in
set_option maxHeartbeats 3000000 in
theorem rdec_bad (s : ByteArray) (n0 n32 : Nat) (w : World) (hs : 34 ≤ s.size) (h0 : (s[0]'(by omega)).toNat = n0) (h32 : (s[32]'(by omega)).toNat = n32) (l0 : n0 < 256) (l32 : n32 < 256) (p : Int)
    (hpar : (((n32 : Int) % 2 == 0) = false ∧ 33 + (n32 : Int) = p) ∨ (((n32 : Int) % 2 == 0) = true ∧ 33 + (n32 : Int) + 1 = p))
    (h : (n0 : Int) < 34 ∨ ((34 : Int) ≤ n0 ∧ (s.size : Int) < n0) ∨ ((34 : Int) ≤ n0 ∧ (n0 : Int) ≤ s.size ∧ ((n0 : Int) % 2 == 1) = true) ∨ ((34 : Int) ≤ n0 ∧ (n0 : Int) ≤ s.size ∧ ((n0 : Int) % 2 == 1) = false ∧ ((n32 : Int) == 0) = true)
      ∨ ((34 : Int) ≤ n0 ∧ (n0 : Int) ≤ s.size ∧ ((n0 : Int) % 2 == 1) = false ∧ ((n32 : Int) == 0) = false ∧ (n0 : Int) < p)) : Calls Try.prog 24 #[.string s] w fun e w' => e = .returned (.tuple #[.agg recZ, cN 0, cN 10]) ∧ Below w.heap.size w w' := by
  have b34 : (34 : Int) ≤ (s.size : Int) := by omega
  have b0 : 0 < s.size := by omega
  have b1 : (1 : Int) < (s.size : Int) := by omega
  have b26 : (26 : Int) < (s.size : Int) := by omega
  have b27 : (27 : Int) < (s.size : Int) := by omega
  have b32 : (32 : Int) < (s.size : Int) := by omega
  have w0 : IntKind.i64.wrap (n0 : Int) = n0 := by rw [IntKind.wrap_i64]; omega
  have w32 : IntKind.i64.wrap (n32 : Int) = n32 := by rw [IntKind.wrap_i64]; omega
  rcases hpar with ⟨hp1, hp2⟩ | ⟨hp1, hp2⟩
  all_goals
    subst hp2
    rcases h with h | ⟨h1, h2⟩ | ⟨h1, h2, h3⟩ | ⟨h1, h2, h3, h4⟩ | ⟨h1, h2, h3, h4, h5⟩
    all_goals
      go_enter Try.func24, Try.ntmps24
      go_wp2
      refine region_sch (fun _ => True) [(true, 0), (true, 1), (true, 2), (true, 3), (true, 4), (true, 5), (true, 6)] [7] (by kernel_rfl) (by kernel_rfl) (by rintro ⟨_, _, h, _⟩; cases h) (fun _ _ d _ _ h => by cases d <;> exact h) trivial ?_
      simp only [pickM, pickT, List.filterMap_cons, List.filterMap_nil, List.getElem?_cons_zero, List.getElem?_cons_succ, Option.map_some]
      repeat (first | (refine m_float ⟨?_, .inl ⟨?_, .inl ?_⟩, fun K' hK => ?_⟩; rotate_left; (first | rfl | (go_simp; done)); (intro w' hS; go_simp; try rfl); (simp only [Act.put, List.setIfInBounds_toArray, List.set_cons_succ, List.set_cons_zero]; refine hK _ ?_; clear hK K')) | (refine m_float ⟨undef, .inr ⟨?_, rfl⟩, fun K' hK => ?_⟩; (first | rfl | (go_simp; done)); (simp only [Act.put, List.setIfInBounds_toArray, List.set_cons_succ, List.set_cons_zero]; refine hK _ ?_; clear hK K')))
      refine m_nil ?_
      show wpList Try.prog _ _ (List.cons _ _) _ _
      go_wp2
      obtain ⟨q0, q1, q2, q3, q4, q5, q6, q7⟩ := cells8 (DR.start w).1
      refine bodyPost_ret (v := .tuple #[.agg recZ, cN 0, cN 10]) ?_ rfl ⟨rfl, (DR.start w).drew.2.2⟩
      simp [results, Try.results24, go_sem, q0, q1, q2, q3, q4, q5, q6, q7]
end Go.Proofs.Ytnmlephjhcmbhaa
