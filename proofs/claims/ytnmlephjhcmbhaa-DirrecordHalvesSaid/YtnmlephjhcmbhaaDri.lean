/- Package dirrecord: Decode, its errors. -/
import Derived.Test.YtnmlephjhcmbhaaDrh
import Derived.Test.YtnmlephjhcmbhaaDtn
import Derived.Test.YtnmlephjhcmbhaaEnq
namespace Go.Proofs.Ytnmlephjhcmbhaa
set_option linter.unusedSimpArgs false
set_option linter.unusedVariables false
open Go Go.RowKit
def noRec : Rec := ⟨ByteArray.empty, 0, 0, 0, 0, 0, 0, ByteArray.empty⟩
abbrev str0 : Value := .string ByteArray.empty
abbrev recZ : Array Value := #[.string ⟨#[]⟩, cN 0, cN 0, cN 0, cN 0, cN 0, cN 0, .string ⟨#[]⟩]
/-- The state of Decode: the string, and the record of the result. -/
def DS (w : World) (s : ByteArray) (W : World) : Prop := W.heap[w.heap.size]? = some (.cells #[.string s] 9 (0, 0)) ∧ W.heap[w.heap.size + 1]? = some (.cells recZ 23 (0, 0)) ∧ Below w.heap.size w W
theorem DS.lt {w : World} {s : ByteArray} {W : World} (h : DS w s W) : w.heap.size + 1 < W.heap.size := lt_of_block h.2.1
theorem DS.below {w : World} {s : ByteArray} {W W' : World} (h : DS w s W) (k : Below W.heap.size W W') : DS w s W' :=
  ⟨(k.block _ (lt_of_block h.1)).trans h.1, (k.block _ (lt_of_block h.2.1)).trans h.2.1, h.2.2.trans (k.mono h.2.2.size)⟩
theorem DS.drew {w : World} {s : ByteArray} {W : World} (h : DS w s W) : DS w s W.drew := h.below (Below.refl _ W).drew
theorem DS.start (w : World) (s : ByteArray) : DS w s ((w.alloc (.cells #[.string s] 9)).alloc (.cells recZ 23)) := by
  refine ⟨?_, ?_, ((Below.refl _ w).alloc (Nat.le_refl _) _).alloc (by simp) _⟩
  · rw [Lib.alloc_old _ _ _ (by simp)]
    exact World.alloc_heap_new _ _
  · have := World.alloc_heap_new (w.alloc (.cells #[.string s] 9)) (.cells recZ 23)
    rw [World.size_alloc] at this
    exact this
theorem DS.c {w : World} {s : ByteArray} {W : World} (h : DS w s W) : W.cell? ⟨w.heap.size, 0, none⟩ = some (.string s) := by rw [Lib.cell_of_heap h.1]; rfl
theorem cells8 {W : World} {b : Nat} {u0 u1 u2 u3 u4 u5 u6 u7 : Value} {t : TypeId} (h : W.heap[b]? = some (.cells #[u0, u1, u2, u3, u4, u5, u6, u7] t (0, 0))) :
    W.cell? ⟨b, 0, none⟩ = some u0 ∧ W.cell? ⟨b, 1, none⟩ = some u1 ∧ W.cell? ⟨b, 2, none⟩ = some u2 ∧ W.cell? ⟨b, 3, none⟩ = some u3 ∧ W.cell? ⟨b, 4, none⟩ = some u4 ∧ W.cell? ⟨b, 5, none⟩ = some u5 ∧ W.cell? ⟨b, 6, none⟩ = some u6 ∧ W.cell? ⟨b, 7, none⟩ = some u7 := by
  simp only [Lib.cell_of_heap h]
  exact ⟨rfl, rfl, rfl, rfl, rfl, rfl, rfl, rfl⟩
set_option maxRecDepth 100000 in
set_option maxHeartbeats 1000000 in
theorem dec_short (s : ByteArray) (w : World) (hs : s.size < 34) : Calls Try.prog 23 #[.string s] w fun e w' => e = .returned (.tuple #[.agg recZ, cN 0, cN 10]) ∧ Below w.heap.size w w' := by
  have hs' : (s.size : Int) < 34 := by omega
  go_enter Try.func23, Try.ntmps23
  go_wp2
  obtain ⟨q0, q1, q2, q3, q4, q5, q6, q7⟩ := cells8 (DS.start w s).2.1
  refine bodyPost_ret (v := .tuple #[.agg recZ, cN 0, cN 10]) ?_ rfl ⟨rfl, (DS.start w s).2.2⟩
  simp [results, Try.results23, go_sem, q0, q1, q2, q3, q4, q5, q6, q7]
set_option maxRecDepth 100000 in
set_option maxHeartbeats 2000000 in
theorem dec_bad (s : ByteArray) (n0 n32 : Nat) (w : World) (hs : 34 ≤ s.size) (h0 : (s[0]'(by omega)).toNat = n0) (h32 : (s[32]'(by omega)).toNat = n32) (l0 : n0 < 256) (l32 : n32 < 256) (p : Int) (hp : (33 + (n32 : Int) + 1) / 2 * 2 = p)
    (h : ((n0 : Int) % 2 != 0) = true ∨ (((n0 : Int) % 2 != 0) = false ∧ (n0 : Int) < 34) ∨ (((n0 : Int) % 2 != 0) = false ∧ (34 : Int) ≤ n0 ∧ (s.size : Int) < n0) ∨ (((n0 : Int) % 2 != 0) = false ∧ (34 : Int) ≤ n0 ∧ (n0 : Int) ≤ s.size ∧ ((n32 : Int) == 0) = true)
      ∨ (((n0 : Int) % 2 != 0) = false ∧ (34 : Int) ≤ n0 ∧ (n0 : Int) ≤ s.size ∧ ((n32 : Int) == 0) = false ∧ (n0 : Int) < p)) : Calls Try.prog 23 #[.string s] w fun e w' => e = .returned (.tuple #[.agg recZ, cN 0, cN 10]) ∧ Below w.heap.size w w' := by
  have c1 := fun W => padded_ok n32 W (by omega) (by omega)
  rw [hp] at c1
  clear hp
  have b34 : (34 : Int) ≤ (s.size : Int) := by omega
  have b0 : 0 < s.size := by omega
  have b32 : (32 : Int) < (s.size : Int) := by omega
  have w0 : IntKind.i64.wrap (n0 : Int) = n0 := by rw [IntKind.wrap_i64]; omega
  have w32 : IntKind.i64.wrap (n32 : Int) = n32 := by rw [IntKind.wrap_i64]; omega
  rcases h with h | ⟨h1, h2⟩ | ⟨h1, h2, h3⟩ | ⟨h1, h2, h3, h4⟩ | ⟨h1, h2, h3, h4, h5⟩
  all_goals
    go_enter Try.func23, Try.ntmps23
    go_wp2
    have H0 := (DS.start w s).drew
    refine region_sch (fun W' => DS w s W') [(true, 0), (true, 1), (true, 2), (true, 3), (true, 4), (true, 5), (true, 6)] [7] (by kernel_rfl) (by kernel_rfl) (by rintro ⟨_, _, h, _⟩; cases h) (fun _ _ d _ _ h => by cases d <;> exact h) H0 ?_
    simp only [pickM, pickT, List.filterMap_cons, List.filterMap_nil, List.getElem?_cons_zero, List.getElem?_cons_succ, Option.map_some]
    repeat (first | (refine m_float ⟨?_, .inl ⟨?_, .inl ?_⟩, fun K' hK => ?_⟩; rotate_left; (first | rfl | (go_simp; done)); (intro w' hS; have q0 := hS.c; go_simp; try rfl); (simp only [Act.put, List.setIfInBounds_toArray, List.set_cons_succ, List.set_cons_zero]; refine hK _ ?_; clear hK K')) | (refine m_float ⟨undef, .inr ⟨?_, rfl⟩, fun K' hK => ?_⟩; (first | rfl | (go_simp; done)); (simp only [Act.put, List.setIfInBounds_toArray, List.set_cons_succ, List.set_cons_zero]; refine hK _ ?_; clear hK K')))
    refine m_nil ?_
    show wpList Try.prog _ _ (List.cons _ _) _ _
    clear H0
    go_wp2_with (go_at_call 59; (with_reducible refine (c1 _).mono ?_); rintro e w1 ⟨rfl, rfl⟩)
    obtain ⟨q0, q1, q2, q3, q4, q5, q6, q7⟩ := cells8 (DS.start w s).2.1
    refine bodyPost_ret (v := .tuple #[.agg recZ, cN 0, cN 10]) ?_ rfl ⟨rfl, (DS.start w s).drew.2.2⟩
    simp [results, Try.results23, go_sem, q0, q1, q2, q3, q4, q5, q6, q7]
end Go.Proofs.Ytnmlephjhcmbhaa
