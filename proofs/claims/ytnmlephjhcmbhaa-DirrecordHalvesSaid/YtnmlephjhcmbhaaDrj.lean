/- Package dirrecord: Decode. -/
import Derived.Test.YtnmlephjhcmbhaaDri
namespace Go.Proofs.Ytnmlephjhcmbhaa
set_option linter.unusedSimpArgs false
set_option linter.unusedVariables false
open Go Go.RowKit
set_option maxRecDepth 100000 in
set_option maxHeartbeats 400000 in
theorem number_ok (s : ByteArray) (a k N : Nat) (w : World) (hc : w.cell? ⟨N, 0, none⟩ = some (.string s)) (hs : s.size < 2 ^ 62) (h1 : 1 ≤ k) (h7 : k ≤ 7) (hin : a + k ≤ s.size) :
    Calls Try.prog 61 #[cN a, cN k, ptr N] w fun e w' => e = .returned (cN (leR s a k)) ∧ Below w.heap.size w w' := by
  have c1 := fun W => readLittle_ok s a k W hs h1 h7 hin
  go_enter Try.func61, Try.ntmps61
  go_wp2_with (first | (go_at_call 62; (with_reducible refine (c1 _).mono ?_); rintro e w1 ⟨rfl, hB⟩))
  go_ret
  exact ⟨rfl, hB⟩
/-- A row of eight cells, written over. -/
abbrev put8 (W : World) (b : Nat) (v0 v1 v2 v3 v4 v5 v6 v7 : Value) : World :=
  (((((((W.setCell ⟨b, 0, none⟩ v0).setCell ⟨b, 1, none⟩ v1).setCell ⟨b, 2, none⟩ v2).setCell ⟨b, 3, none⟩ v3).setCell ⟨b, 4, none⟩ v4).setCell ⟨b, 5, none⟩ v5).setCell ⟨b, 6, none⟩ v6).setCell ⟨b, 7, none⟩ v7
theorem set8 {W : World} {b : Nat} {u0 u1 u2 u3 u4 u5 u6 u7 : Value} {t : TypeId} (h : W.heap[b]? = some (.cells #[u0, u1, u2, u3, u4, u5, u6, u7] t (0, 0))) (v0 v1 v2 v3 v4 v5 v6 v7 : Value) :
    (put8 W b v0 v1 v2 v3 v4 v5 v6 v7).heap[b]? = some (.cells #[v0, v1, v2, v3, v4, v5, v6, v7] t (0, 0)) := by
  have h0 : (W.setCell ⟨b, 0, none⟩ v0).heap[b]? = some (.cells #[v0, u1, u2, u3, u4, u5, u6, u7] t (0, 0)) := row_set 0 v0 h
  have h1 : ((W.setCell ⟨b, 0, none⟩ v0).setCell ⟨b, 1, none⟩ v1).heap[b]? = some (.cells #[v0, v1, u2, u3, u4, u5, u6, u7] t (0, 0)) := row_set 1 v1 h0
  have h2 : (((W.setCell ⟨b, 0, none⟩ v0).setCell ⟨b, 1, none⟩ v1).setCell ⟨b, 2, none⟩ v2).heap[b]? = some (.cells #[v0, v1, v2, u3, u4, u5, u6, u7] t (0, 0)) := row_set 2 v2 h1
  have h3 : ((((W.setCell ⟨b, 0, none⟩ v0).setCell ⟨b, 1, none⟩ v1).setCell ⟨b, 2, none⟩ v2).setCell ⟨b, 3, none⟩ v3).heap[b]? = some (.cells #[v0, v1, v2, v3, u4, u5, u6, u7] t (0, 0)) := row_set 3 v3 h2
  have h4 : (((((W.setCell ⟨b, 0, none⟩ v0).setCell ⟨b, 1, none⟩ v1).setCell ⟨b, 2, none⟩ v2).setCell ⟨b, 3, none⟩ v3).setCell ⟨b, 4, none⟩ v4).heap[b]? = some (.cells #[v0, v1, v2, v3, v4, u5, u6, u7] t (0, 0)) := row_set 4 v4 h3
  have h5 : ((((((W.setCell ⟨b, 0, none⟩ v0).setCell ⟨b, 1, none⟩ v1).setCell ⟨b, 2, none⟩ v2).setCell ⟨b, 3, none⟩ v3).setCell ⟨b, 4, none⟩ v4).setCell ⟨b, 5, none⟩ v5).heap[b]? = some (.cells #[v0, v1, v2, v3, v4, v5, u6, u7] t (0, 0)) := row_set 5 v5 h4
  have h6 : (((((((W.setCell ⟨b, 0, none⟩ v0).setCell ⟨b, 1, none⟩ v1).setCell ⟨b, 2, none⟩ v2).setCell ⟨b, 3, none⟩ v3).setCell ⟨b, 4, none⟩ v4).setCell ⟨b, 5, none⟩ v5).setCell ⟨b, 6, none⟩ v6).heap[b]? = some (.cells #[v0, v1, v2, v3, v4, v5, v6, u7] t (0, 0)) := row_set 6 v6 h5
  have h7 : ((((((((W.setCell ⟨b, 0, none⟩ v0).setCell ⟨b, 1, none⟩ v1).setCell ⟨b, 2, none⟩ v2).setCell ⟨b, 3, none⟩ v3).setCell ⟨b, 4, none⟩ v4).setCell ⟨b, 5, none⟩ v5).setCell ⟨b, 6, none⟩ v6).setCell ⟨b, 7, none⟩ v7).heap[b]? = some (.cells #[v0, v1, v2, v3, v4, v5, v6, v7] t (0, 0)) := row_set 7 v7 h6
  exact h7
theorem other8 {W : World} {b c : Nat} {o : Obj} (h : W.heap[c]? = some o) (hne : c ≠ b) (v0 v1 v2 v3 v4 v5 v6 v7 : Value) : (put8 W b v0 v1 v2 v3 v4 v5 v6 v7).heap[c]? = some o :=
  row_other 7 v7 (row_other 6 v6 (row_other 5 v5 (row_other 4 v4 (row_other 3 v3 (row_other 2 v2 (row_other 1 v1 (row_other 0 v0 h hne) hne) hne) hne) hne) hne) hne) hne
theorem below8 {w W : World} {b : Nat} (h : Below w.heap.size w W) (hb : w.heap.size ≤ b) (v0 v1 v2 v3 v4 v5 v6 v7 : Value) : Below w.heap.size w (put8 W b v0 v1 v2 v3 v4 v5 v6 v7) :=
  (((((((h.setCell (p := ⟨b, 0, none⟩) hb v0).setCell (p := ⟨b, 1, none⟩) hb v1).setCell (p := ⟨b, 2, none⟩) hb v2).setCell (p := ⟨b, 3, none⟩) hb v3).setCell (p := ⟨b, 4, none⟩) hb v4).setCell (p := ⟨b, 5, none⟩) hb v5).setCell (p := ⟨b, 6, none⟩) hb v6).setCell (p := ⟨b, 7, none⟩) hb v7
set_option maxRecDepth 100000 in
set_option maxHeartbeats 2000000 in
theorem dec_unsup (s : ByteArray) (n0 n1 n26 n27 n32 : Nat) (w : World) (hs : 34 ≤ s.size) (h0 : (s[0]'(by omega)).toNat = n0) (h1 : (s[1]'(by omega)).toNat = n1) (h26 : (s[26]'(by omega)).toNat = n26) (h27 : (s[27]'(by omega)).toNat = n27) (h32 : (s[32]'(by omega)).toNat = n32) (l0 : n0 < 256) (l32 : n32 < 256) (p : Int) (hp : (33 + (n32 : Int) + 1) / 2 * 2 = p)
    (k1 : ((n0 : Int) % 2 != 0) = false) (k2 : (34 : Int) ≤ n0) (k3 : (n0 : Int) ≤ s.size) (k4 : ((n32 : Int) == 0) = false) (k5 : p ≤ (n0 : Int))
    (h : ((n1 : Int) != 0) = true ∨ (((n1 : Int) != 0) = false ∧ ((n26 : Int) != 0) = true) ∨ (((n1 : Int) != 0) = false ∧ ((n26 : Int) != 0) = false ∧ ((n27 : Int) != 0) = true)) : Calls Try.prog 23 #[.string s] w fun e w' => e = .returned (.tuple #[.agg recZ, cN 0, cN 14]) ∧ Below w.heap.size w w' := by
  have c1 := fun W => padded_ok n32 W (by omega) (by omega)
  rw [hp] at c1
  have b34 : (34 : Int) ≤ (s.size : Int) := by omega
  have b0 : 0 < s.size := by omega
  have b1 : (1 : Int) < (s.size : Int) := by omega
  have b26 : (26 : Int) < (s.size : Int) := by omega
  have b27 : (27 : Int) < (s.size : Int) := by omega
  have b32 : (32 : Int) < (s.size : Int) := by omega
  have w0 : IntKind.i64.wrap (n0 : Int) = n0 := by rw [IntKind.wrap_i64]; omega
  have w32 : IntKind.i64.wrap (n32 : Int) = n32 := by rw [IntKind.wrap_i64]; omega
  have HP := Lib.hid hp
  clear hp
  rcases h with h | ⟨h, h'⟩ | ⟨h, h', h''⟩
  all_goals
    go_enter Try.func23, Try.ntmps23
    go_wp2
    have H0 := (DS.start w s).drew
    refine region_sch (fun W' => DS w s W') [(true, 0), (true, 1), (true, 2), (true, 3), (true, 4), (true, 5), (true, 6)] [7] (by kernel_rfl) (by kernel_rfl) (by rintro ⟨_, _, h, _⟩; cases h) (fun _ _ d _ _ h => by cases d <;> exact h) H0 ?_
    simp only [pickM, pickT, List.filterMap_cons, List.filterMap_nil, List.getElem?_cons_zero, List.getElem?_cons_succ, Option.map_some]
    repeat (first | (refine m_float ⟨?_, .inl ⟨?_, .inl ?_⟩, fun K' hK => ?_⟩; rotate_left; (first | rfl | (go_simp; done)); (intro w' hS; have q0 := hS.c; go_simp; try rfl); (simp only [Act.put, List.setIfInBounds_toArray, List.set_cons_succ, List.set_cons_zero]; refine hK _ ?_; clear hK K')) | (refine m_float ⟨undef, .inr ⟨?_, rfl⟩, fun K' hK => ?_⟩; (first | rfl | (go_simp; done)); (simp only [Act.put, List.setIfInBounds_toArray, List.set_cons_succ, List.set_cons_zero]; refine hK _ ?_; clear hK K')))
    refine m_nil ?_
    show wpList Try.prog _ _ (List.cons _ _) _ _
    clear H0
    go_wp2_with (go_at_call 59; (with_reducible refine (c1 _).mono ?_); rintro e w1 ⟨rfl, rfl⟩)
    obtain ⟨q0, q1, q2, q3, q4, q5, q6, q7⟩ := cells8 (DS.start w s).2.1
    refine bodyPost_ret (v := .tuple #[.agg recZ, cN 0, cN 14]) ?_ rfl ⟨rfl, (DS.start w s).drew.2.2⟩
    simp [results, Try.results23, go_sem, q0, q1, q2, q3, q4, q5, q6, q7]
set_option maxRecDepth 100000 in
set_option maxHeartbeats 2000000 in
theorem dec_date (s x : ByteArray) (n0 n1 n26 n27 n32 : Nat) (ta za ea : Int) (w : World) (hs : 34 ≤ s.size) (h0 : (s[0]'(by omega)).toNat = n0) (h1 : (s[1]'(by omega)).toNat = n1) (h26 : (s[26]'(by omega)).toNat = n26) (h27 : (s[27]'(by omega)).toNat = n27) (h32 : (s[32]'(by omega)).toNat = n32) (l0 : n0 < 256) (l32 : n32 < 256) (p : Int) (hp : (33 + (n32 : Int) + 1) / 2 * 2 = p)
    (k1 : ((n0 : Int) % 2 != 0) = false) (k2 : (34 : Int) ≤ n0) (k3 : (n0 : Int) ≤ s.size) (k4 : ((n32 : Int) == 0) = false) (k5 : p ≤ (n0 : Int)) (k6 : ((n1 : Int) != 0) = false) (k7 : ((n26 : Int) != 0) = false) (k8 : ((n27 : Int) != 0) = false)
    (hx : s.extract 18 25 = x) (c2 : ∀ W : World, Calls Try.prog 60 #[.string x] W fun e w' => e = .returned (.tuple #[cN ta, cN za, cN ea]) ∧ Below W.heap.size W w') (hea : (ea != 0) = true) :
    Calls Try.prog 23 #[.string s] w fun e w' => e = .returned (.tuple #[.agg recZ, cN 0, cN ea]) ∧ Below w.heap.size w w' := by
  have c1 := fun W => padded_ok n32 W (by omega) (by omega)
  rw [hp] at c1
  have b34 : (34 : Int) ≤ (s.size : Int) := by omega
  have b0 : 0 < s.size := by omega
  have b1 : (1 : Int) < (s.size : Int) := by omega
  have b26 : (26 : Int) < (s.size : Int) := by omega
  have b27 : (27 : Int) < (s.size : Int) := by omega
  have b32 : (32 : Int) < (s.size : Int) := by omega
  have w0 : IntKind.i64.wrap (n0 : Int) = n0 := by rw [IntKind.wrap_i64]; omega
  have w32 : IntKind.i64.wrap (n32 : Int) = n32 := by rw [IntKind.wrap_i64]; omega
  have HP := Lib.hid hp
  clear hp
  go_enter Try.func23, Try.ntmps23
  go_wp2
  have H0 := (DS.start w s).drew
  refine region_sch (fun W' => DS w s W') [(true, 0), (true, 1), (true, 2), (true, 3), (true, 4), (true, 5), (true, 6)] [7] (by kernel_rfl) (by kernel_rfl) (by rintro ⟨_, _, h, _⟩; cases h) (fun _ _ d _ _ h => by cases d <;> exact h) H0 ?_
  simp only [pickM, pickT, List.filterMap_cons, List.filterMap_nil, List.getElem?_cons_zero, List.getElem?_cons_succ, Option.map_some]
  repeat (first | (refine m_float ⟨?_, .inl ⟨?_, .inl ?_⟩, fun K' hK => ?_⟩; rotate_left; (first | rfl | (go_simp; done)); (intro w' hS; have q0 := hS.c; go_simp; try rfl); (simp only [Act.put, List.setIfInBounds_toArray, List.set_cons_succ, List.set_cons_zero]; refine hK _ ?_; clear hK K')) | (refine m_float ⟨undef, .inr ⟨?_, rfl⟩, fun K' hK => ?_⟩; (first | rfl | (go_simp; done)); (simp only [Act.put, List.setIfInBounds_toArray, List.set_cons_succ, List.set_cons_zero]; refine hK _ ?_; clear hK K')))
  refine m_nil ?_
  show wpList Try.prog _ _ (List.cons _ _) _ _
  clear H0
  go_wp2_with (first | (go_at_call 59; (with_reducible refine (c1 _).mono ?_); rintro e w1 ⟨rfl, rfl⟩) | (go_at_call 60; (with_reducible refine (c2 _).mono ?_); rintro e w1 ⟨rfl, hB⟩; have H1 := (DS.start w s).drew.below hB; obtain ⟨q0, q1, q2, q3, q4, q5, q6, q7⟩ := cells8 H1.2.1; have fz := fun j => Lib.frozen_of_heap H1.2.1 j; clear hB))
  have H8 := set8 H1.2.1 (.string ⟨#[]⟩) (cN 0) (cN 0) (cN 0) (cN 0) (cN 0) (cN 0) (.string ⟨#[]⟩)
  clear q0 q1 q2 q3 q4 q5 q6 q7
  obtain ⟨q0, q1, q2, q3, q4, q5, q6, q7⟩ := cells8 H8
  refine bodyPost_ret (v := .tuple #[.agg recZ, cN 0, cN ea]) ?_ rfl ⟨rfl, below8 H1.2.2 (Nat.le_succ _) _ _ _ _ _ _ _ _⟩
  simp [results, Try.results23, go_sem, q0, q1, q2, q3, q4, q5, q6, q7]
end Go.Proofs.Ytnmlephjhcmbhaa
