/- Package dirrecord: Decode, of a good record. -/
import Derived.Test.YtnmlephjhcmbhaaDrj
namespace Go.Proofs.Ytnmlephjhcmbhaa
set_option linter.unusedSimpArgs false
set_option linter.unusedVariables false
open Go Go.RowKit
set_option maxRecDepth 100000 in
set_option maxHeartbeats 4000000 in
theorem dec_good (s x : ByteArray) (n0 n1 n25 n26 n27 n32 pn : Nat) (v1 v2 v3 : Nat) (ta za : Int) (w : World) (hs : 34 ≤ s.size) (h0 : (s[0]'(by omega)).toNat = n0) (h1 : (s[1]'(by omega)).toNat = n1) (h25 : (s[25]'(by omega)).toNat = n25) (h26 : (s[26]'(by omega)).toNat = n26) (h27 : (s[27]'(by omega)).toNat = n27) (h32 : (s[32]'(by omega)).toNat = n32) (l0 : n0 < 256) (l25 : n25 < 256) (l32 : n32 < 256) (p : Int) (hp : (33 + (n32 : Int) + 1) / 2 * 2 = p)
    (k1 : ((n0 : Int) % 2 != 0) = false) (k2 : (34 : Int) ≤ n0) (k3 : (n0 : Int) ≤ s.size) (k4 : ((n32 : Int) == 0) = false) (k5 : p ≤ (n0 : Int)) (k6 : ((n1 : Int) != 0) = false) (k7 : ((n26 : Int) != 0) = false) (k8 : ((n27 : Int) != 0) = false)
    (hx : s.extract 18 25 = x) (c2 : ∀ W : World, Calls Try.prog 60 #[.string x] W fun e w' => e = .returned (.tuple #[cN ta, cN za, cN 0]) ∧ Below W.heap.size W w')
    (m1 : ∀ W : World, W.cell? ⟨w.heap.size, 0, none⟩ = some (.string s) → Calls Try.prog 61 #[cN 2, cN 4, ptr w.heap.size] W fun e w' => e = .returned (cN v1) ∧ Below W.heap.size W w')
    (m2 : ∀ W : World, W.cell? ⟨w.heap.size, 0, none⟩ = some (.string s) → Calls Try.prog 61 #[cN 10, cN 4, ptr w.heap.size] W fun e w' => e = .returned (cN v2) ∧ Below W.heap.size W w')
    (m3 : ∀ W : World, W.cell? ⟨w.heap.size, 0, none⟩ = some (.string s) → Calls Try.prog 61 #[cN 28, cN 2, ptr w.heap.size] W fun e w' => e = .returned (cN v3) ∧ Below W.heap.size W w')
    (p0 : (0 : Int) ≤ p) (p33 : 33 + (n32 : Int) ≤ p) (pt : p.toNat = pn) :
    Calls Try.prog 23 #[.string s] w fun e w' => e = .returned (.tuple #[.agg (recA ⟨s.extract 33 (33 + n32), v1, v2, ta, za, n25, v3, s.extract pn n0⟩), cN n0, cN 0]) ∧ Below w.heap.size w w' := by
  have c1 := fun W => padded_ok n32 W (by omega) (by omega)
  rw [hp] at c1
  have b34 : (34 : Int) ≤ (s.size : Int) := by omega
  have b0 : 0 < s.size := by omega
  have b1 : (1 : Int) < (s.size : Int) := by omega
  have b26 : (26 : Int) < (s.size : Int) := by omega
  have b27 : (27 : Int) < (s.size : Int) := by omega
  have b32 : (32 : Int) < (s.size : Int) := by omega
  have w0 : IntKind.i64.wrap (n0 : Int) = n0 := by rw [IntKind.wrap_i64]; omega
  have w32 : IntKind.i64.wrap (n32 : Int) = n32 := by rw [IntKind.wrap_i64]; omega
  have HP := Lib.hid hp
  clear hp
  have b25 : (25 : Int) < (s.size : Int) := by omega
  go_enter Try.func23, Try.ntmps23
  go_wp2
  have H0 := (DS.start w s).drew
  refine region_sch (fun W' => DS w s W') [(true, 0), (true, 1), (true, 2), (true, 3), (true, 4), (true, 5), (true, 6)] [7] (by kernel_rfl) (by kernel_rfl) (by rintro ⟨_, _, h, _⟩; cases h) (fun _ _ d _ _ h => by cases d <;> exact h) H0 ?_
  simp only [pickM, pickT, List.filterMap_cons, List.filterMap_nil, List.getElem?_cons_zero, List.getElem?_cons_succ, Option.map_some]
  repeat (first | (refine m_float ⟨?_, .inl ⟨?_, .inl ?_⟩, fun K' hK => ?_⟩; rotate_left; (first | rfl | (go_simp; done)); (intro w' hS; have q0 := hS.c; go_simp; try rfl); (simp only [Act.put, List.setIfInBounds_toArray, List.set_cons_succ, List.set_cons_zero]; refine hK _ ?_; clear hK K')) | (refine m_float ⟨undef, .inr ⟨?_, rfl⟩, fun K' hK => ?_⟩; (first | rfl | (go_simp; done)); (simp only [Act.put, List.setIfInBounds_toArray, List.set_cons_succ, List.set_cons_zero]; refine hK _ ?_; clear hK K')))
  refine m_nil ?_
  show wpList Try.prog _ _ (List.cons _ _) _ _
  clear H0
  go_wp2_with (first | (go_at_call 59; (with_reducible refine (c1 _).mono ?_); rintro e w1 ⟨rfl, rfl⟩) | (go_at_call 60; (with_reducible refine (c2 _).mono ?_); rintro e w1 ⟨rfl, hB⟩; have H1 := (DS.start w s).drew.below hB; clear hB))
  have w33 : IntKind.i64.wrap (33 + (n32 : Int)) = 33 + (n32 : Int) := by rw [IntKind.wrap_i64]; omega
  have u0 : (0 : Int) ≤ 33 + (n32 : Int) := by omega
  have u1 : (33 : Int) ≤ 33 + (n32 : Int) := by omega
  have u2 : 33 + (n32 : Int) ≤ (s.size : Int) := by omega
  have u3 : (33 + (n32 : Int)).toNat = 33 + n32 := by omega
  have u4 : (0 : Int) ≤ (n0 : Int) := by omega
  have u5 : (n0 : Int).toNat = n0 := Int.toNat_natCast n0
  have w25 : IntKind.i64.wrap (n25 : Int) = n25 := by rw [IntKind.wrap_i64]; omega
  have H2 := H1.drew
  clear H1
  refine region_sch (fun W' => W'.heap[w.heap.size]? = some (.cells #[.string s] 9 (0, 0))) [(true, 0), (true, 1), (true, 2), (true, 3), (true, 4), (true, 6), (true, 8), (true, 9), (true, 10), (true, 11), (true, 12), (true, 13), (true, 15), (true, 16), (true, 18), (true, 21), (false, 5), (false, 7), (false, 14), (false, 17), (true, 19), (true, 20), (false, 22)] [23, 24] (by kernel_rfl) (by kernel_rfl) (by rintro ⟨_, _, h, _⟩; cases h) (fun _ _ d _ _ h => by cases d <;> exact h) H2.1 ?_
  simp only [pickM, pickT, List.filterMap_cons, List.filterMap_nil, List.getElem?_cons_zero, List.getElem?_cons_succ, Option.map_some]
  repeat (first | (refine m_float ⟨?_, .inl ⟨?_, .inl ?_⟩, fun K' hK => ?_⟩; rotate_left; (first | rfl | (go_simp; done)); (intro w' hS; have q0 : w'.cell? ⟨w.heap.size, 0, none⟩ = some (.string s) := (Lib.cell_of_heap hS 0); go_simp; try rfl); (simp only [Act.put, List.setIfInBounds_toArray, List.set_cons_succ, List.set_cons_zero]; refine hK _ ?_; clear hK K')) | (refine m_float ⟨undef, .inr ⟨?_, rfl⟩, fun K' hK => ?_⟩; (first | rfl | (go_simp; done)); (simp only [Act.put, List.setIfInBounds_toArray, List.set_cons_succ, List.set_cons_zero]; refine hK _ ?_; clear hK K')))
  refine m_loud ?_ (fun K' hK => ?_)
  · rintro ⟨_, _, h, _⟩; cases h
  go_wp2_with fail
  with_reducible refine (m1 _ H2.c).mono ?_
  rintro e w2 ⟨rfl, hB⟩
  go_wp2
  have H2' := H2.below hB
  clear hB
  refine hK _ _ H2'.1 ?_
  clear hK K'
  repeat (first | (refine m_float ⟨?_, .inl ⟨?_, .inl ?_⟩, fun K' hK => ?_⟩; rotate_left; (first | rfl | (go_simp; done)); (intro w' hS; have q0 : w'.cell? ⟨w.heap.size, 0, none⟩ = some (.string s) := (Lib.cell_of_heap hS 0); go_simp; try rfl); (simp only [Act.put, List.setIfInBounds_toArray, List.set_cons_succ, List.set_cons_zero]; refine hK _ ?_; clear hK K')) | (refine m_float ⟨undef, .inr ⟨?_, rfl⟩, fun K' hK => ?_⟩; (first | rfl | (go_simp; done)); (simp only [Act.put, List.setIfInBounds_toArray, List.set_cons_succ, List.set_cons_zero]; refine hK _ ?_; clear hK K')))
  refine m_loud ?_ (fun K' hK => ?_)
  · rintro ⟨_, _, h, _⟩; cases h
  go_wp2_with fail
  with_reducible refine (m2 _ H2'.c).mono ?_
  rintro e w3 ⟨rfl, hB⟩
  go_wp2
  have H2'' := H2'.below hB
  clear hB
  refine hK _ _ H2''.1 ?_
  clear hK K'
  repeat (first | (refine m_float ⟨?_, .inl ⟨?_, .inl ?_⟩, fun K' hK => ?_⟩; rotate_left; (first | rfl | (go_simp; done)); (intro w' hS; have q0 : w'.cell? ⟨w.heap.size, 0, none⟩ = some (.string s) := (Lib.cell_of_heap hS 0); go_simp; try rfl); (simp only [Act.put, List.setIfInBounds_toArray, List.set_cons_succ, List.set_cons_zero]; refine hK _ ?_; clear hK K')) | (refine m_float ⟨undef, .inr ⟨?_, rfl⟩, fun K' hK => ?_⟩; (first | rfl | (go_simp; done)); (simp only [Act.put, List.setIfInBounds_toArray, List.set_cons_succ, List.set_cons_zero]; refine hK _ ?_; clear hK K')))
  refine m_loud ?_ (fun K' hK => ?_)
  · rintro ⟨_, _, h, _⟩; cases h
  go_wp2_with fail
  with_reducible refine (m3 _ H2''.c).mono ?_
  rintro e w4 ⟨rfl, hB⟩
  go_wp2
  have H2''' := H2''.below hB
  clear hB
  refine hK _ _ H2'''.1 ?_
  clear hK K'
  repeat (first | (refine m_float ⟨?_, .inl ⟨?_, .inl ?_⟩, fun K' hK => ?_⟩; rotate_left; (first | rfl | (go_simp; done)); (intro w' hS; have q0 : w'.cell? ⟨w.heap.size, 0, none⟩ = some (.string s) := (Lib.cell_of_heap hS 0); go_simp; try rfl); (simp only [Act.put, List.setIfInBounds_toArray, List.set_cons_succ, List.set_cons_zero]; refine hK _ ?_; clear hK K')) | (refine m_float ⟨undef, .inr ⟨?_, rfl⟩, fun K' hK => ?_⟩; (first | rfl | (go_simp; done)); (simp only [Act.put, List.setIfInBounds_toArray, List.set_cons_succ, List.set_cons_zero]; refine hK _ ?_; clear hK K')))
  refine m_loud ?_ (fun K' hK => ?_)
  · rintro ⟨_, _, h, _⟩; cases h
  go_wp2_with fail
  with_reducible refine (c1 _).mono ?_
  rintro e w5 ⟨rfl, rfl⟩
  go_wp2
  refine hK _ _ H2'''.1 ?_
  clear hK K'
  repeat (first | (refine m_float ⟨?_, .inl ⟨?_, .inl ?_⟩, fun K' hK => ?_⟩; rotate_left; (first | rfl | (go_simp; done)); (intro w' hS; skip; go_simp; try rfl); (simp only [Act.put, List.setIfInBounds_toArray, List.set_cons_succ, List.set_cons_zero]; refine hK _ ?_; clear hK K')) | (refine m_float ⟨undef, .inr ⟨?_, rfl⟩, fun K' hK => ?_⟩; (first | rfl | (go_simp; done)); (simp only [Act.put, List.setIfInBounds_toArray, List.set_cons_succ, List.set_cons_zero]; refine hK _ ?_; clear hK K')))
  refine m_loud ?_ (fun K' hK => ?_)
  · rintro ⟨_, _, h, _⟩; cases h
  obtain ⟨q0, q1, q2, q3, q4, q5, q6, q7⟩ := cells8 H2'''.2.1
  have fz := fun j => Lib.frozen_of_heap H2'''.2.1 j
  go_wp2
  clear q0 q1 q2 q3 q4 q5 q6 q7 fz
  have H8 := set8 H2'''.2.1 (.string (s.extract 33 (33 + n32))) (cN v1) (cN v2) (cN ta) (cN za) (cN n25) (cN v3) (.string (s.extract pn n0))
  have HB := below8 H2'''.2.2 (Nat.le_succ _) (.string (s.extract 33 (33 + n32))) (cN v1) (cN v2) (cN ta) (cN za) (cN n25) (cN v3) (.string (s.extract pn n0))
  refine hK _ _ (other8 H2'''.1 (by omega) _ _ _ _ _ _ _ _) ?_
  clear hK K'
  refine m_nil ?_
  show wpList Try.prog _ _ (List.cons _ _) _ _
  go_wp2
  obtain ⟨q0, q1, q2, q3, q4, q5, q6, q7⟩ := cells8 H8
  refine bodyPost_ret (v := .tuple #[.agg (recA ⟨s.extract 33 (33 + n32), v1, v2, ta, za, n25, v3, s.extract pn n0⟩), cN n0, cN 0]) ?_ rfl ⟨rfl, HB⟩
  simp [results, Try.results23, go_sem, q0, q1, q2, q3, q4, q5, q6, q7]
end Go.Proofs.Ytnmlephjhcmbhaa
