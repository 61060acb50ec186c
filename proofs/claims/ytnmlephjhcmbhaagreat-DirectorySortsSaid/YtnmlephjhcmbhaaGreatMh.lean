/- Package dirrecord: Decode, its errors. Package dirrecord: Decode. Package dirrecord: Decode, of a good record. The reference of package dirrecord: Decode. The reference of package dirrecord: Decode, behind the sizes. The reference of package dirrecord: Decode, of a good record. What both Decodes give, for any string. -/
import Derived.Test.YtnmlephjhcmbhaaGreatMg
import Derived.Test.YtnmlephjhcmbhaaGreatMe
import Derived.Test.YtnmlephjhcmbhaaGreatMb
import Derived.Test.YtnmlephjhcmbhaaGreatMc
namespace Go.Proofs.YtnmlephjhcmbhaaGreat
set_option linter.unusedSimpArgs false
set_option linter.unusedVariables false
open Go Go.RowKit
def noRec : Rec := ⟨ByteArray.empty, 0, 0, 0, 0, 0, 0, ByteArray.empty⟩
abbrev str0 : Value := .string ByteArray.empty
abbrev recZ : Array Value := #[.string ⟨#[]⟩, cN 0, cN 0, cN 0, cN 0, cN 0, cN 0, .string ⟨#[]⟩]
/-- The state of Decode: the string, and the record of the result. -/
def DS (w : World) (s : ByteArray) (W : World) : Prop := W.heap[w.heap.size]? = some (.cells #[.string s] 9 (0, 0)) ∧ W.heap[w.heap.size + 1]? = some (.cells recZ 45 (0, 0)) ∧ Below w.heap.size w W
theorem DS.lt {w : World} {s : ByteArray} {W : World} (h : DS w s W) : w.heap.size + 1 < W.heap.size := lt_of_block h.2.1
theorem DS.below {w : World} {s : ByteArray} {W W' : World} (h : DS w s W) (k : Below W.heap.size W W') : DS w s W' :=
  ⟨(k.block _ (lt_of_block h.1)).trans h.1, (k.block _ (lt_of_block h.2.1)).trans h.2.1, h.2.2.trans (k.mono h.2.2.size)⟩
theorem DS.drew {w : World} {s : ByteArray} {W : World} (h : DS w s W) : DS w s W.drew := h.below (Below.refl _ W).drew
theorem DS.start (w : World) (s : ByteArray) : DS w s ((w.alloc (.cells #[.string s] 9)).alloc (.cells recZ 45)) := by
  refine ⟨?_, ?_, ((Below.refl _ w).alloc (Nat.le_refl _) _).alloc (by simp) _⟩
  · rw [Lib.alloc_old _ _ _ (by simp)]
    exact World.alloc_heap_new _ _
  · have := World.alloc_heap_new (w.alloc (.cells #[.string s] 9)) (.cells recZ 45)
    rw [World.size_alloc] at this
    exact this
theorem DS.c {w : World} {s : ByteArray} {W : World} (h : DS w s W) : W.cell? ⟨w.heap.size, 0, none⟩ = some (.string s) := by rw [Lib.cell_of_heap h.1]; rfl
theorem cells8 {W : World} {b : Nat} {u0 u1 u2 u3 u4 u5 u6 u7 : Value} {t : TypeId} (h : W.heap[b]? = some (.cells #[u0, u1, u2, u3, u4, u5, u6, u7] t (0, 0))) :
    W.cell? ⟨b, 0, none⟩ = some u0 ∧ W.cell? ⟨b, 1, none⟩ = some u1 ∧ W.cell? ⟨b, 2, none⟩ = some u2 ∧ W.cell? ⟨b, 3, none⟩ = some u3 ∧ W.cell? ⟨b, 4, none⟩ = some u4 ∧ W.cell? ⟨b, 5, none⟩ = some u5 ∧ W.cell? ⟨b, 6, none⟩ = some u6 ∧ W.cell? ⟨b, 7, none⟩ = some u7 := by
  simp only [Lib.cell_of_heap h]
  exact ⟨rfl, rfl, rfl, rfl, rfl, rfl, rfl, rfl⟩
set_option maxRecDepth 100000 in
set_option maxHeartbeats 1000000 in
theorem dec_short (s : ByteArray) (w : World) (hs : s.size < 34) : Calls Tryz.prog 50 #[.string s] w fun e w' => e = .returned (.tuple #[.agg recZ, cN 0, cN 10]) ∧ Below w.heap.size w w' := by
  have hs' : (s.size : Int) < 34 := by omega
  go_enter Tryz.func50, Tryz.ntmps50
  go_wp2
  obtain ⟨q0, q1, q2, q3, q4, q5, q6, q7⟩ := cells8 (DS.start w s).2.1
  refine bodyPost_ret (v := .tuple #[.agg recZ, cN 0, cN 10]) ?_ rfl ⟨rfl, (DS.start w s).2.2⟩
  simp [results, Tryz.results50, go_sem, q0, q1, q2, q3, q4, q5, q6, q7]
set_option maxRecDepth 100000 in
set_option maxHeartbeats 2000000 in
theorem dec_bad (s : ByteArray) (n0 n32 : Nat) (w : World) (hs : 34 ≤ s.size) (h0 : (s[0]'(by omega)).toNat = n0) (h32 : (s[32]'(by omega)).toNat = n32) (l0 : n0 < 256) (l32 : n32 < 256) (p : Int) (hp : (33 + (n32 : Int) + 1) / 2 * 2 = p)
    (h : ((n0 : Int) % 2 != 0) = true ∨ (((n0 : Int) % 2 != 0) = false ∧ (n0 : Int) < 34) ∨ (((n0 : Int) % 2 != 0) = false ∧ (34 : Int) ≤ n0 ∧ (s.size : Int) < n0) ∨ (((n0 : Int) % 2 != 0) = false ∧ (34 : Int) ≤ n0 ∧ (n0 : Int) ≤ s.size ∧ ((n32 : Int) == 0) = true)
      ∨ (((n0 : Int) % 2 != 0) = false ∧ (34 : Int) ≤ n0 ∧ (n0 : Int) ≤ s.size ∧ ((n32 : Int) == 0) = false ∧ (n0 : Int) < p)) : Calls Tryz.prog 50 #[.string s] w fun e w' => e = .returned (.tuple #[.agg recZ, cN 0, cN 10]) ∧ Below w.heap.size w w' := by
  have c1 := fun W => padded_ok n32 W (by omega) (by omega)
  rw [hp] at c1
  clear hp
  have b34 : (34 : Int) ≤ (s.size : Int) := by omega
  have b0 : 0 < s.size := by omega
  have b32 : (32 : Int) < (s.size : Int) := by omega
  have w0 : IntKind.i64.wrap (n0 : Int) = n0 := by rw [IntKind.wrap_i64]; omega
  have w32 : IntKind.i64.wrap (n32 : Int) = n32 := by rw [IntKind.wrap_i64]; omega
  rcases h with h | ⟨h1, h2⟩ | ⟨h1, h2, h3⟩ | ⟨h1, h2, h3, h4⟩ | ⟨h1, h2, h3, h4, h5⟩
  all_goals
    go_enter Tryz.func50, Tryz.ntmps50
    go_wp2
    have H0 := (DS.start w s).drew
    refine region_sch (fun W' => DS w s W') [(true, 0), (true, 1), (true, 2), (true, 3), (true, 4), (true, 5), (true, 6)] [7] (by kernel_rfl) (by kernel_rfl) (by rintro ⟨_, _, h, _⟩; cases h) (fun _ _ d _ _ h => by cases d <;> exact h) H0 ?_
    simp only [pickM, pickT, List.filterMap_cons, List.filterMap_nil, List.getElem?_cons_zero, List.getElem?_cons_succ, Option.map_some]
    repeat (first | (refine m_float ⟨?_, .inl ⟨?_, .inl ?_⟩, fun K' hK => ?_⟩; rotate_left; (first | rfl | (go_simp; done)); (intro w' hS; have q0 := hS.c; go_simp; try rfl); (simp only [Act.put, List.setIfInBounds_toArray, List.set_cons_succ, List.set_cons_zero]; refine hK _ ?_; clear hK K')) | (refine m_float ⟨undef, .inr ⟨?_, rfl⟩, fun K' hK => ?_⟩; (first | rfl | (go_simp; done)); (simp only [Act.put, List.setIfInBounds_toArray, List.set_cons_succ, List.set_cons_zero]; refine hK _ ?_; clear hK K')))
    refine m_nil ?_
    show wpList Tryz.prog _ _ (List.cons _ _) _ _
    clear H0
    go_wp2_with (go_at_call 75; (with_reducible refine (c1 _).mono ?_); rintro e w1 ⟨rfl, rfl⟩)
    obtain ⟨q0, q1, q2, q3, q4, q5, q6, q7⟩ := cells8 (DS.start w s).2.1
    refine bodyPost_ret (v := .tuple #[.agg recZ, cN 0, cN 10]) ?_ rfl ⟨rfl, (DS.start w s).drew.2.2⟩
    simp [results, Tryz.results50, go_sem, q0, q1, q2, q3, q4, q5, q6, q7]
end Go.Proofs.YtnmlephjhcmbhaaGreat
namespace Go.Proofs.YtnmlephjhcmbhaaGreat
set_option linter.unusedSimpArgs false
set_option linter.unusedVariables false
open Go Go.RowKit
set_option maxRecDepth 100000 in
set_option maxHeartbeats 400000 in
theorem number_ok (s : ByteArray) (a k N : Nat) (w : World) (hc : w.cell? ⟨N, 0, none⟩ = some (.string s)) (hs : s.size < 2 ^ 62) (h1 : 1 ≤ k) (h7 : k ≤ 7) (hin : a + k ≤ s.size) :
    Calls Tryz.prog 77 #[cN a, cN k, ptr N] w fun e w' => e = .returned (cN (leR s a k)) ∧ Below w.heap.size w w' := by
  have c1 := fun W => readLittle_ok s a k W hs h1 h7 hin
  go_enter Tryz.func77, Tryz.ntmps77
  go_wp2_with (first | (go_at_call 78; (with_reducible refine (c1 _).mono ?_); rintro e w1 ⟨rfl, hB⟩))
  go_ret
  exact ⟨rfl, hB⟩
/-- A row of eight cells, written over. -/
abbrev put8 (W : World) (b : Nat) (v0 v1 v2 v3 v4 v5 v6 v7 : Value) : World :=
  (((((((W.setCell ⟨b, 0, none⟩ v0).setCell ⟨b, 1, none⟩ v1).setCell ⟨b, 2, none⟩ v2).setCell ⟨b, 3, none⟩ v3).setCell ⟨b, 4, none⟩ v4).setCell ⟨b, 5, none⟩ v5).setCell ⟨b, 6, none⟩ v6).setCell ⟨b, 7, none⟩ v7
theorem set8 {W : World} {b : Nat} {u0 u1 u2 u3 u4 u5 u6 u7 : Value} {t : TypeId} (h : W.heap[b]? = some (.cells #[u0, u1, u2, u3, u4, u5, u6, u7] t (0, 0))) (v0 v1 v2 v3 v4 v5 v6 v7 : Value) :
    (put8 W b v0 v1 v2 v3 v4 v5 v6 v7).heap[b]? = some (.cells #[v0, v1, v2, v3, v4, v5, v6, v7] t (0, 0)) := by
  have h0 : (W.setCell ⟨b, 0, none⟩ v0).heap[b]? = some (.cells #[v0, u1, u2, u3, u4, u5, u6, u7] t (0, 0)) := row_set 0 v0 h
  have h1 : ((W.setCell ⟨b, 0, none⟩ v0).setCell ⟨b, 1, none⟩ v1).heap[b]? = some (.cells #[v0, v1, u2, u3, u4, u5, u6, u7] t (0, 0)) := row_set 1 v1 h0
  have h2 : (((W.setCell ⟨b, 0, none⟩ v0).setCell ⟨b, 1, none⟩ v1).setCell ⟨b, 2, none⟩ v2).heap[b]? = some (.cells #[v0, v1, v2, u3, u4, u5, u6, u7] t (0, 0)) := row_set 2 v2 h1
  have h3 : ((((W.setCell ⟨b, 0, none⟩ v0).setCell ⟨b, 1, none⟩ v1).setCell ⟨b, 2, none⟩ v2).setCell ⟨b, 3, none⟩ v3).heap[b]? = some (.cells #[v0, v1, v2, v3, u4, u5, u6, u7] t (0, 0)) := row_set 3 v3 h2
  have h4 : (((((W.setCell ⟨b, 0, none⟩ v0).setCell ⟨b, 1, none⟩ v1).setCell ⟨b, 2, none⟩ v2).setCell ⟨b, 3, none⟩ v3).setCell ⟨b, 4, none⟩ v4).heap[b]? = some (.cells #[v0, v1, v2, v3, v4, u5, u6, u7] t (0, 0)) := row_set 4 v4 h3
  have h5 : ((((((W.setCell ⟨b, 0, none⟩ v0).setCell ⟨b, 1, none⟩ v1).setCell ⟨b, 2, none⟩ v2).setCell ⟨b, 3, none⟩ v3).setCell ⟨b, 4, none⟩ v4).setCell ⟨b, 5, none⟩ v5).heap[b]? = some (.cells #[v0, v1, v2, v3, v4, v5, u6, u7] t (0, 0)) := row_set 5 v5 h4
  have h6 : (((((((W.setCell ⟨b, 0, none⟩ v0).setCell ⟨b, 1, none⟩ v1).setCell ⟨b, 2, none⟩ v2).setCell ⟨b, 3, none⟩ v3).setCell ⟨b, 4, none⟩ v4).setCell ⟨b, 5, none⟩ v5).setCell ⟨b, 6, none⟩ v6).heap[b]? = some (.cells #[v0, v1, v2, v3, v4, v5, v6, u7] t (0, 0)) := row_set 6 v6 h5
  have h7 : ((((((((W.setCell ⟨b, 0, none⟩ v0).setCell ⟨b, 1, none⟩ v1).setCell ⟨b, 2, none⟩ v2).setCell ⟨b, 3, none⟩ v3).setCell ⟨b, 4, none⟩ v4).setCell ⟨b, 5, none⟩ v5).setCell ⟨b, 6, none⟩ v6).setCell ⟨b, 7, none⟩ v7).heap[b]? = some (.cells #[v0, v1, v2, v3, v4, v5, v6, v7] t (0, 0)) := row_set 7 v7 h6
  exact h7
theorem other8 {W : World} {b c : Nat} {o : Obj} (h : W.heap[c]? = some o) (hne : c ≠ b) (v0 v1 v2 v3 v4 v5 v6 v7 : Value) : (put8 W b v0 v1 v2 v3 v4 v5 v6 v7).heap[c]? = some o :=
  row_other 7 v7 (row_other 6 v6 (row_other 5 v5 (row_other 4 v4 (row_other 3 v3 (row_other 2 v2 (row_other 1 v1 (row_other 0 v0 h hne) hne) hne) hne) hne) hne) hne) hne
theorem below8 {w W : World} {b : Nat} (h : Below w.heap.size w W) (hb : w.heap.size ≤ b) (v0 v1 v2 v3 v4 v5 v6 v7 : Value) : Below w.heap.size w (put8 W b v0 v1 v2 v3 v4 v5 v6 v7) :=
  (((((((h.setCell (p := ⟨b, 0, none⟩) hb v0).setCell (p := ⟨b, 1, none⟩) hb v1).setCell (p := ⟨b, 2, none⟩) hb v2).setCell (p := ⟨b, 3, none⟩) hb v3).setCell (p := ⟨b, 4, none⟩) hb v4).setCell (p := ⟨b, 5, none⟩) hb v5).setCell (p := ⟨b, 6, none⟩) hb v6).setCell (p := ⟨b, 7, none⟩) hb v7
set_option maxRecDepth 100000 in
set_option maxHeartbeats 2000000 in
theorem dec_unsup (s : ByteArray) (n0 n1 n26 n27 n32 : Nat) (w : World) (hs : 34 ≤ s.size) (h0 : (s[0]'(by omega)).toNat = n0) (h1 : (s[1]'(by omega)).toNat = n1) (h26 : (s[26]'(by omega)).toNat = n26) (h27 : (s[27]'(by omega)).toNat = n27) (h32 : (s[32]'(by omega)).toNat = n32) (l0 : n0 < 256) (l32 : n32 < 256) (p : Int) (hp : (33 + (n32 : Int) + 1) / 2 * 2 = p)
    (k1 : ((n0 : Int) % 2 != 0) = false) (k2 : (34 : Int) ≤ n0) (k3 : (n0 : Int) ≤ s.size) (k4 : ((n32 : Int) == 0) = false) (k5 : p ≤ (n0 : Int))
    (h : ((n1 : Int) != 0) = true ∨ (((n1 : Int) != 0) = false ∧ ((n26 : Int) != 0) = true) ∨ (((n1 : Int) != 0) = false ∧ ((n26 : Int) != 0) = false ∧ ((n27 : Int) != 0) = true)) : Calls Tryz.prog 50 #[.string s] w fun e w' => e = .returned (.tuple #[.agg recZ, cN 0, cN 14]) ∧ Below w.heap.size w w' := by
  have c1 := fun W => padded_ok n32 W (by omega) (by omega)
  rw [hp] at c1
  have b34 : (34 : Int) ≤ (s.size : Int) := by omega
  have b0 : 0 < s.size := by omega
  have b1 : (1 : Int) < (s.size : Int) := by omega
  have b26 : (26 : Int) < (s.size : Int) := by omega
  have b27 : (27 : Int) < (s.size : Int) := by omega
  have b32 : (32 : Int) < (s.size : Int) := by omega
  have w0 : IntKind.i64.wrap (n0 : Int) = n0 := by rw [IntKind.wrap_i64]; omega
  have w32 : IntKind.i64.wrap (n32 : Int) = n32 := by rw [IntKind.wrap_i64]; omega
  have HP := Lib.hid hp
  clear hp
  rcases h with h | ⟨h, h'⟩ | ⟨h, h', h''⟩
  all_goals
    go_enter Tryz.func50, Tryz.ntmps50
    go_wp2
    have H0 := (DS.start w s).drew
    refine region_sch (fun W' => DS w s W') [(true, 0), (true, 1), (true, 2), (true, 3), (true, 4), (true, 5), (true, 6)] [7] (by kernel_rfl) (by kernel_rfl) (by rintro ⟨_, _, h, _⟩; cases h) (fun _ _ d _ _ h => by cases d <;> exact h) H0 ?_
    simp only [pickM, pickT, List.filterMap_cons, List.filterMap_nil, List.getElem?_cons_zero, List.getElem?_cons_succ, Option.map_some]
    repeat (first | (refine m_float ⟨?_, .inl ⟨?_, .inl ?_⟩, fun K' hK => ?_⟩; rotate_left; (first | rfl | (go_simp; done)); (intro w' hS; have q0 := hS.c; go_simp; try rfl); (simp only [Act.put, List.setIfInBounds_toArray, List.set_cons_succ, List.set_cons_zero]; refine hK _ ?_; clear hK K')) | (refine m_float ⟨undef, .inr ⟨?_, rfl⟩, fun K' hK => ?_⟩; (first | rfl | (go_simp; done)); (simp only [Act.put, List.setIfInBounds_toArray, List.set_cons_succ, List.set_cons_zero]; refine hK _ ?_; clear hK K')))
    refine m_nil ?_
    show wpList Tryz.prog _ _ (List.cons _ _) _ _
    clear H0
    go_wp2_with (go_at_call 75; (with_reducible refine (c1 _).mono ?_); rintro e w1 ⟨rfl, rfl⟩)
    obtain ⟨q0, q1, q2, q3, q4, q5, q6, q7⟩ := cells8 (DS.start w s).2.1
    refine bodyPost_ret (v := .tuple #[.agg recZ, cN 0, cN 14]) ?_ rfl ⟨rfl, (DS.start w s).drew.2.2⟩
    simp [results, Tryz.results50, go_sem, q0, q1, q2, q3, q4, q5, q6, q7]
set_option maxRecDepth 100000 in
set_option maxHeartbeats 2000000 in
theorem dec_date (s x : ByteArray) (n0 n1 n26 n27 n32 : Nat) (ta za ea : Int) (w : World) (hs : 34 ≤ s.size) (h0 : (s[0]'(by omega)).toNat = n0) (h1 : (s[1]'(by omega)).toNat = n1) (h26 : (s[26]'(by omega)).toNat = n26) (h27 : (s[27]'(by omega)).toNat = n27) (h32 : (s[32]'(by omega)).toNat = n32) (l0 : n0 < 256) (l32 : n32 < 256) (p : Int) (hp : (33 + (n32 : Int) + 1) / 2 * 2 = p)
    (k1 : ((n0 : Int) % 2 != 0) = false) (k2 : (34 : Int) ≤ n0) (k3 : (n0 : Int) ≤ s.size) (k4 : ((n32 : Int) == 0) = false) (k5 : p ≤ (n0 : Int)) (k6 : ((n1 : Int) != 0) = false) (k7 : ((n26 : Int) != 0) = false) (k8 : ((n27 : Int) != 0) = false)
    (hx : s.extract 18 25 = x) (c2 : ∀ W : World, Calls Tryz.prog 76 #[.string x] W fun e w' => e = .returned (.tuple #[cN ta, cN za, cN ea]) ∧ Below W.heap.size W w') (hea : (ea != 0) = true) :
    Calls Tryz.prog 50 #[.string s] w fun e w' => e = .returned (.tuple #[.agg recZ, cN 0, cN ea]) ∧ Below w.heap.size w w' := by
  have c1 := fun W => padded_ok n32 W (by omega) (by omega)
  rw [hp] at c1
  have b34 : (34 : Int) ≤ (s.size : Int) := by omega
  have b0 : 0 < s.size := by omega
  have b1 : (1 : Int) < (s.size : Int) := by omega
  have b26 : (26 : Int) < (s.size : Int) := by omega
  have b27 : (27 : Int) < (s.size : Int) := by omega
  have b32 : (32 : Int) < (s.size : Int) := by omega
  have w0 : IntKind.i64.wrap (n0 : Int) = n0 := by rw [IntKind.wrap_i64]; omega
  have w32 : IntKind.i64.wrap (n32 : Int) = n32 := by rw [IntKind.wrap_i64]; omega
  have HP := Lib.hid hp
  clear hp
  go_enter Tryz.func50, Tryz.ntmps50
  go_wp2
  have H0 := (DS.start w s).drew
  refine region_sch (fun W' => DS w s W') [(true, 0), (true, 1), (true, 2), (true, 3), (true, 4), (true, 5), (true, 6)] [7] (by kernel_rfl) (by kernel_rfl) (by rintro ⟨_, _, h, _⟩; cases h) (fun _ _ d _ _ h => by cases d <;> exact h) H0 ?_
  simp only [pickM, pickT, List.filterMap_cons, List.filterMap_nil, List.getElem?_cons_zero, List.getElem?_cons_succ, Option.map_some]
  repeat (first | (refine m_float ⟨?_, .inl ⟨?_, .inl ?_⟩, fun K' hK => ?_⟩; rotate_left; (first | rfl | (go_simp; done)); (intro w' hS; have q0 := hS.c; go_simp; try rfl); (simp only [Act.put, List.setIfInBounds_toArray, List.set_cons_succ, List.set_cons_zero]; refine hK _ ?_; clear hK K')) | (refine m_float ⟨undef, .inr ⟨?_, rfl⟩, fun K' hK => ?_⟩; (first | rfl | (go_simp; done)); (simp only [Act.put, List.setIfInBounds_toArray, List.set_cons_succ, List.set_cons_zero]; refine hK _ ?_; clear hK K')))
  refine m_nil ?_
  show wpList Tryz.prog _ _ (List.cons _ _) _ _
  clear H0
  go_wp2_with (first | (go_at_call 75; (with_reducible refine (c1 _).mono ?_); rintro e w1 ⟨rfl, rfl⟩) | (go_at_call 76; (with_reducible refine (c2 _).mono ?_); rintro e w1 ⟨rfl, hB⟩; have H1 := (DS.start w s).drew.below hB; obtain ⟨q0, q1, q2, q3, q4, q5, q6, q7⟩ := cells8 H1.2.1; have fz := fun j => Lib.frozen_of_heap H1.2.1 j; clear hB))
  have H8 := set8 H1.2.1 (.string ⟨#[]⟩) (cN 0) (cN 0) (cN 0) (cN 0) (cN 0) (cN 0) (.string ⟨#[]⟩)
  clear q0 q1 q2 q3 q4 q5 q6 q7
  obtain ⟨q0, q1, q2, q3, q4, q5, q6, q7⟩ := cells8 H8
  refine bodyPost_ret (v := .tuple #[.agg recZ, cN 0, cN ea]) ?_ rfl ⟨rfl, below8 H1.2.2 (Nat.le_succ _) _ _ _ _ _ _ _ _⟩
  simp [results, Tryz.results50, go_sem, q0, q1, q2, q3, q4, q5, q6, q7]
end Go.Proofs.YtnmlephjhcmbhaaGreat
namespace Go.Proofs.YtnmlephjhcmbhaaGreat
set_option linter.unusedSimpArgs false
set_option linter.unusedVariables false
open Go Go.RowKit
set_option maxRecDepth 100000 in
set_option maxHeartbeats 4000000 in
theorem dec_good (s x : ByteArray) (n0 n1 n25 n26 n27 n32 pn : Nat) (v1 v2 v3 : Nat) (ta za : Int) (w : World) (hs : 34 ≤ s.size) (h0 : (s[0]'(by omega)).toNat = n0) (h1 : (s[1]'(by omega)).toNat = n1) (h25 : (s[25]'(by omega)).toNat = n25) (h26 : (s[26]'(by omega)).toNat = n26) (h27 : (s[27]'(by omega)).toNat = n27) (h32 : (s[32]'(by omega)).toNat = n32) (l0 : n0 < 256) (l25 : n25 < 256) (l32 : n32 < 256) (p : Int) (hp : (33 + (n32 : Int) + 1) / 2 * 2 = p)
    (k1 : ((n0 : Int) % 2 != 0) = false) (k2 : (34 : Int) ≤ n0) (k3 : (n0 : Int) ≤ s.size) (k4 : ((n32 : Int) == 0) = false) (k5 : p ≤ (n0 : Int)) (k6 : ((n1 : Int) != 0) = false) (k7 : ((n26 : Int) != 0) = false) (k8 : ((n27 : Int) != 0) = false)
    (hx : s.extract 18 25 = x) (c2 : ∀ W : World, Calls Tryz.prog 76 #[.string x] W fun e w' => e = .returned (.tuple #[cN ta, cN za, cN 0]) ∧ Below W.heap.size W w')
    (m1 : ∀ W : World, W.cell? ⟨w.heap.size, 0, none⟩ = some (.string s) → Calls Tryz.prog 77 #[cN 2, cN 4, ptr w.heap.size] W fun e w' => e = .returned (cN v1) ∧ Below W.heap.size W w')
    (m2 : ∀ W : World, W.cell? ⟨w.heap.size, 0, none⟩ = some (.string s) → Calls Tryz.prog 77 #[cN 10, cN 4, ptr w.heap.size] W fun e w' => e = .returned (cN v2) ∧ Below W.heap.size W w')
    (m3 : ∀ W : World, W.cell? ⟨w.heap.size, 0, none⟩ = some (.string s) → Calls Tryz.prog 77 #[cN 28, cN 2, ptr w.heap.size] W fun e w' => e = .returned (cN v3) ∧ Below W.heap.size W w')
    (p0 : (0 : Int) ≤ p) (p33 : 33 + (n32 : Int) ≤ p) (pt : p.toNat = pn) :
    Calls Tryz.prog 50 #[.string s] w fun e w' => e = .returned (.tuple #[.agg (recA ⟨s.extract 33 (33 + n32), v1, v2, ta, za, n25, v3, s.extract pn n0⟩), cN n0, cN 0]) ∧ Below w.heap.size w w' := by
  have c1 := fun W => padded_ok n32 W (by omega) (by omega)
  rw [hp] at c1
  have b34 : (34 : Int) ≤ (s.size : Int) := by omega
  have b0 : 0 < s.size := by omega
  have b1 : (1 : Int) < (s.size : Int) := by omega
  have b26 : (26 : Int) < (s.size : Int) := by omega
  have b27 : (27 : Int) < (s.size : Int) := by omega
  have b32 : (32 : Int) < (s.size : Int) := by omega
  have w0 : IntKind.i64.wrap (n0 : Int) = n0 := by rw [IntKind.wrap_i64]; omega
  have w32 : IntKind.i64.wrap (n32 : Int) = n32 := by rw [IntKind.wrap_i64]; omega
  have HP := Lib.hid hp
  clear hp
  have b25 : (25 : Int) < (s.size : Int) := by omega
  go_enter Tryz.func50, Tryz.ntmps50
  go_wp2
  have H0 := (DS.start w s).drew
  refine region_sch (fun W' => DS w s W') [(true, 0), (true, 1), (true, 2), (true, 3), (true, 4), (true, 5), (true, 6)] [7] (by kernel_rfl) (by kernel_rfl) (by rintro ⟨_, _, h, _⟩; cases h) (fun _ _ d _ _ h => by cases d <;> exact h) H0 ?_
  simp only [pickM, pickT, List.filterMap_cons, List.filterMap_nil, List.getElem?_cons_zero, List.getElem?_cons_succ, Option.map_some]
  repeat (first | (refine m_float ⟨?_, .inl ⟨?_, .inl ?_⟩, fun K' hK => ?_⟩; rotate_left; (first | rfl | (go_simp; done)); (intro w' hS; have q0 := hS.c; go_simp; try rfl); (simp only [Act.put, List.setIfInBounds_toArray, List.set_cons_succ, List.set_cons_zero]; refine hK _ ?_; clear hK K')) | (refine m_float ⟨undef, .inr ⟨?_, rfl⟩, fun K' hK => ?_⟩; (first | rfl | (go_simp; done)); (simp only [Act.put, List.setIfInBounds_toArray, List.set_cons_succ, List.set_cons_zero]; refine hK _ ?_; clear hK K')))
  refine m_nil ?_
  show wpList Tryz.prog _ _ (List.cons _ _) _ _
  clear H0
  go_wp2_with (first | (go_at_call 75; (with_reducible refine (c1 _).mono ?_); rintro e w1 ⟨rfl, rfl⟩) | (go_at_call 76; (with_reducible refine (c2 _).mono ?_); rintro e w1 ⟨rfl, hB⟩; have H1 := (DS.start w s).drew.below hB; clear hB))
  have w33 : IntKind.i64.wrap (33 + (n32 : Int)) = 33 + (n32 : Int) := by rw [IntKind.wrap_i64]; omega
  have u0 : (0 : Int) ≤ 33 + (n32 : Int) := by omega
  have u1 : (33 : Int) ≤ 33 + (n32 : Int) := by omega
  have u2 : 33 + (n32 : Int) ≤ (s.size : Int) := by omega
  have u3 : (33 + (n32 : Int)).toNat = 33 + n32 := by omega
  have u4 : (0 : Int) ≤ (n0 : Int) := by omega
  have u5 : (n0 : Int).toNat = n0 := Int.toNat_natCast n0
  have w25 : IntKind.i64.wrap (n25 : Int) = n25 := by rw [IntKind.wrap_i64]; omega
  have H2 := H1.drew
  clear H1
  refine region_sch (fun W' => W'.heap[w.heap.size]? = some (.cells #[.string s] 9 (0, 0))) [(true, 0), (true, 1), (true, 2), (true, 3), (true, 4), (true, 6), (true, 8), (true, 9), (true, 10), (true, 11), (true, 12), (true, 13), (true, 15), (true, 16), (true, 18), (true, 21), (false, 5), (false, 7), (false, 14), (false, 17), (true, 19), (true, 20), (false, 22)] [23, 24] (by kernel_rfl) (by kernel_rfl) (by rintro ⟨_, _, h, _⟩; cases h) (fun _ _ d _ _ h => by cases d <;> exact h) H2.1 ?_
  simp only [pickM, pickT, List.filterMap_cons, List.filterMap_nil, List.getElem?_cons_zero, List.getElem?_cons_succ, Option.map_some]
  repeat (first | (refine m_float ⟨?_, .inl ⟨?_, .inl ?_⟩, fun K' hK => ?_⟩; rotate_left; (first | rfl | (go_simp; done)); (intro w' hS; have q0 : w'.cell? ⟨w.heap.size, 0, none⟩ = some (.string s) := (Lib.cell_of_heap hS 0); go_simp; try rfl); (simp only [Act.put, List.setIfInBounds_toArray, List.set_cons_succ, List.set_cons_zero]; refine hK _ ?_; clear hK K')) | (refine m_float ⟨undef, .inr ⟨?_, rfl⟩, fun K' hK => ?_⟩; (first | rfl | (go_simp; done)); (simp only [Act.put, List.setIfInBounds_toArray, List.set_cons_succ, List.set_cons_zero]; refine hK _ ?_; clear hK K')))
  refine m_loud ?_ (fun K' hK => ?_)
  · rintro ⟨_, _, h, _⟩; cases h
  go_wp2_with fail
  with_reducible refine (m1 _ H2.c).mono ?_
  rintro e w2 ⟨rfl, hB⟩
  go_wp2
  have H2' := H2.below hB
  clear hB
  refine hK _ _ H2'.1 ?_
  clear hK K'
  repeat (first | (refine m_float ⟨?_, .inl ⟨?_, .inl ?_⟩, fun K' hK => ?_⟩; rotate_left; (first | rfl | (go_simp; done)); (intro w' hS; have q0 : w'.cell? ⟨w.heap.size, 0, none⟩ = some (.string s) := (Lib.cell_of_heap hS 0); go_simp; try rfl); (simp only [Act.put, List.setIfInBounds_toArray, List.set_cons_succ, List.set_cons_zero]; refine hK _ ?_; clear hK K')) | (refine m_float ⟨undef, .inr ⟨?_, rfl⟩, fun K' hK => ?_⟩; (first | rfl | (go_simp; done)); (simp only [Act.put, List.setIfInBounds_toArray, List.set_cons_succ, List.set_cons_zero]; refine hK _ ?_; clear hK K')))
  refine m_loud ?_ (fun K' hK => ?_)
  · rintro ⟨_, _, h, _⟩; cases h
  go_wp2_with fail
  with_reducible refine (m2 _ H2'.c).mono ?_
  rintro e w3 ⟨rfl, hB⟩
  go_wp2
  have H2'' := H2'.below hB
  clear hB
  refine hK _ _ H2''.1 ?_
  clear hK K'
  repeat (first | (refine m_float ⟨?_, .inl ⟨?_, .inl ?_⟩, fun K' hK => ?_⟩; rotate_left; (first | rfl | (go_simp; done)); (intro w' hS; have q0 : w'.cell? ⟨w.heap.size, 0, none⟩ = some (.string s) := (Lib.cell_of_heap hS 0); go_simp; try rfl); (simp only [Act.put, List.setIfInBounds_toArray, List.set_cons_succ, List.set_cons_zero]; refine hK _ ?_; clear hK K')) | (refine m_float ⟨undef, .inr ⟨?_, rfl⟩, fun K' hK => ?_⟩; (first | rfl | (go_simp; done)); (simp only [Act.put, List.setIfInBounds_toArray, List.set_cons_succ, List.set_cons_zero]; refine hK _ ?_; clear hK K')))
  refine m_loud ?_ (fun K' hK => ?_)
  · rintro ⟨_, _, h, _⟩; cases h
  go_wp2_with fail
  with_reducible refine (m3 _ H2''.c).mono ?_
  rintro e w4 ⟨rfl, hB⟩
  go_wp2
  have H2''' := H2''.below hB
  clear hB
  refine hK _ _ H2'''.1 ?_
  clear hK K'
  repeat (first | (refine m_float ⟨?_, .inl ⟨?_, .inl ?_⟩, fun K' hK => ?_⟩; rotate_left; (first | rfl | (go_simp; done)); (intro w' hS; have q0 : w'.cell? ⟨w.heap.size, 0, none⟩ = some (.string s) := (Lib.cell_of_heap hS 0); go_simp; try rfl); (simp only [Act.put, List.setIfInBounds_toArray, List.set_cons_succ, List.set_cons_zero]; refine hK _ ?_; clear hK K')) | (refine m_float ⟨undef, .inr ⟨?_, rfl⟩, fun K' hK => ?_⟩; (first | rfl | (go_simp; done)); (simp only [Act.put, List.setIfInBounds_toArray, List.set_cons_succ, List.set_cons_zero]; refine hK _ ?_; clear hK K')))
  refine m_loud ?_ (fun K' hK => ?_)
  · rintro ⟨_, _, h, _⟩; cases h
  go_wp2_with fail
  with_reducible refine (c1 _).mono ?_
  rintro e w5 ⟨rfl, rfl⟩
  go_wp2
  refine hK _ _ H2'''.1 ?_
  clear hK K'
  repeat (first | (refine m_float ⟨?_, .inl ⟨?_, .inl ?_⟩, fun K' hK => ?_⟩; rotate_left; (first | rfl | (go_simp; done)); (intro w' hS; skip; go_simp; try rfl); (simp only [Act.put, List.setIfInBounds_toArray, List.set_cons_succ, List.set_cons_zero]; refine hK _ ?_; clear hK K')) | (refine m_float ⟨undef, .inr ⟨?_, rfl⟩, fun K' hK => ?_⟩; (first | rfl | (go_simp; done)); (simp only [Act.put, List.setIfInBounds_toArray, List.set_cons_succ, List.set_cons_zero]; refine hK _ ?_; clear hK K')))
  refine m_loud ?_ (fun K' hK => ?_)
  · rintro ⟨_, _, h, _⟩; cases h
  obtain ⟨q0, q1, q2, q3, q4, q5, q6, q7⟩ := cells8 H2'''.2.1
  have fz := fun j => Lib.frozen_of_heap H2'''.2.1 j
  go_wp2
  clear q0 q1 q2 q3 q4 q5 q6 q7 fz
  have H8 := set8 H2'''.2.1 (.string (s.extract 33 (33 + n32))) (cN v1) (cN v2) (cN ta) (cN za) (cN n25) (cN v3) (.string (s.extract pn n0))
  have HB := below8 H2'''.2.2 (Nat.le_succ _) (.string (s.extract 33 (33 + n32))) (cN v1) (cN v2) (cN ta) (cN za) (cN n25) (cN v3) (.string (s.extract pn n0))
  refine hK _ _ (other8 H2'''.1 (by omega) _ _ _ _ _ _ _ _) ?_
  clear hK K'
  refine m_nil ?_
  show wpList Tryz.prog _ _ (List.cons _ _) _ _
  go_wp2
  obtain ⟨q0, q1, q2, q3, q4, q5, q6, q7⟩ := cells8 H8
  refine bodyPost_ret (v := .tuple #[.agg (recA ⟨s.extract 33 (33 + n32), v1, v2, ta, za, n25, v3, s.extract pn n0⟩), cN n0, cN 0]) ?_ rfl ⟨rfl, HB⟩
  simp [results, Tryz.results50, go_sem, q0, q1, q2, q3, q4, q5, q6, q7]
end Go.Proofs.YtnmlephjhcmbhaaGreat
namespace Go.Proofs.YtnmlephjhcmbhaaGreat
set_option linter.unusedSimpArgs false
set_option linter.unusedVariables false
open Go Go.RowKit
/-- The state of the reference's Decode: the result, and the record that is none. -/
def DR (w : World) (W : World) : Prop := W.heap[w.heap.size]? = some (.cells recZ 45 (0, 0)) ∧ W.heap[w.heap.size + 1]? = some (.cells recZ 45 (0, 0)) ∧ Below w.heap.size w W
theorem DR.below {w : World} {W W' : World} (h : DR w W) (k : Below W.heap.size W W') : DR w W' :=
  ⟨(k.block _ (lt_of_block h.1)).trans h.1, (k.block _ (lt_of_block h.2.1)).trans h.2.1, h.2.2.trans (k.mono h.2.2.size)⟩
theorem DR.drew {w : World} {W : World} (h : DR w W) : DR w W.drew := h.below (Below.refl _ W).drew
theorem DR.start (w : World) : DR w ((w.alloc (.cells recZ 45)).alloc (.cells recZ 45)) := by
  refine ⟨?_, ?_, ((Below.refl _ w).alloc (Nat.le_refl _) _).alloc (by simp) _⟩
  · rw [Lib.alloc_old _ _ _ (by simp)]
    exact World.alloc_heap_new _ _
  · have := World.alloc_heap_new (w.alloc (.cells recZ 45)) (.cells recZ 45)
    rw [World.size_alloc] at this
    exact this
end Go.Proofs.YtnmlephjhcmbhaaGreat
namespace Go.Proofs.YtnmlephjhcmbhaaGreat
set_option linter.unusedSimpArgs false
set_option linter.unusedVariables false
open Go Go.RowKit
end Go.Proofs.YtnmlephjhcmbhaaGreat
namespace Go.Proofs.YtnmlephjhcmbhaaGreat
set_option linter.unusedSimpArgs false
set_option linter.unusedVariables false
open Go Go.RowKit
end Go.Proofs.YtnmlephjhcmbhaaGreat
namespace Go.Proofs.YtnmlephjhcmbhaaGreat
set_option linter.unusedSimpArgs false
set_option linter.unusedVariables false
open Go Go.RowKit
/-- The bytes of the date of a record. -/
def fD (s : ByteArray) : Nat → Nat := fun i => sB s (18 + i)
def padN (n : Nat) : Nat := (34 + n) / 2 * 2
def sizesBad (s : ByteArray) : Bool := decide (sB s 0 % 2 = 1 ∨ sB s 0 < 34 ∨ s.size < sB s 0 ∨ sB s 32 = 0 ∨ sB s 0 < padN (sB s 32))
def decE (s : ByteArray) : Int := if s.size < 34 then 10 else if sizesBad s then 10 else if sB s 1 ≠ 0 ∨ sB s 26 ≠ 0 ∨ sB s 27 ≠ 0 then 14 else rrE (fD s)
def recOf (s : ByteArray) : Rec := ⟨s.extract 33 (33 + sB s 32), (leR s 2 4 : Nat), (leR s 10 4 : Nat), rrA (fD s), rrB (fD s), (sB s 25 : Nat), (leR s 28 2 : Nat), s.extract (padN (sB s 32)) (sB s 0)⟩
def decR (s : ByteArray) : Rec := if decE s = 0 then recOf s else noRec
def decN (s : ByteArray) : Int := if decE s = 0 then (sB s 0 : Nat) else 0
theorem rr_congr {f g : Nat → Nat} (h : ∀ i, i < 7 → f i = g i) : rrA f = rrA g ∧ rrB f = rrB g ∧ rrE f = rrE g := by
  have h0 := h 0 (by decide)
  have h1 := h 1 (by decide)
  have h2 := h 2 (by decide)
  have h3 := h 3 (by decide)
  have h4 := h 4 (by decide)
  have h5 := h 5 (by decide)
  have h6 := h 6 (by decide)
  have hV : rrV f = rrV g := by rw [rrV, rrV, h0, h1, h2, h3, h4, h5]
  have hZ : rrZ f = rrZ g := by rw [rrZ, rrZ, h6]
  have hT : rrT f = rrT g := by rw [rrT, rrT, h0, h1, h2, h3, h4, h5, hZ]
  have hE : rrE f = rrE g := by rw [rrE, rrE, hV, hT, h6]
  exact ⟨by rw [rrA, rrA, hV, hT, h6], by rw [rrB, rrB, hE, hZ], hE⟩
theorem rr_part (s : ByteArray) (hs : 34 ≤ s.size) : rrA (sB (s.extract 18 25)) = rrA (fD s) ∧ rrB (sB (s.extract 18 25)) = rrB (fD s) ∧ rrE (sB (s.extract 18 25)) = rrE (fD s) :=
  rr_congr fun i hi => by rw [sB_extract s 18 25 i (by omega)]; rfl
theorem bneN (n : Nat) : ((n : Int) != 0) = true ↔ n ≠ 0 := by rw [bne_iff_ne]; omega
theorem bneF (n : Nat) : ((n : Int) != 0) = false ↔ n = 0 := by rw [bne_eq_false_iff_eq]; omega
theorem beqN (n : Nat) : ((n : Int) == 0) = true ↔ n = 0 := by rw [beq_iff_eq]; omega
theorem beqF (n : Nat) : ((n : Int) == 0) = false ↔ n ≠ 0 := by rw [beq_eq_false_iff_ne]; omega
theorem parN (n : Nat) : (((n : Int) % 2 != 0) = true ↔ n % 2 = 1) ∧ (((n : Int) % 2 != 0) = false ↔ n % 2 = 0) ∧ (((n : Int) % 2 == 1) = true ↔ n % 2 = 1) ∧ (((n : Int) % 2 == 1) = false ↔ n % 2 = 0) := by
  refine ⟨?_, ?_, ?_, ?_⟩
  · rw [bne_iff_ne]; omega
  · rw [bne_eq_false_iff_eq]; omega
  · rw [beq_iff_eq]; omega
  · rw [beq_eq_false_iff_ne]; omega
theorem padN_int (n : Nat) : (33 + (n : Int) + 1) / 2 * 2 = (padN n : Int) := by unfold padN; omega
theorem decR_bad {s : ByteArray} {e : Int} (h : decE s = e) (he : e ≠ 0) : decR s = noRec ∧ decN s = 0 := by
  rw [decR, decN, if_neg (by rw [h]; exact he), if_neg (by rw [h]; exact he)]
  exact ⟨rfl, rfl⟩
theorem decode_ok (s : ByteArray) (w : World) (hs61 : s.size < 2 ^ 61) : Calls Tryz.prog 50 #[.string s] w fun e w' => e = .returned (.tuple #[.agg (recA (decR s)), cN (decN s), cN (decE s)]) ∧ Below w.heap.size w w' := by
  by_cases h34 : s.size < 34
  · have hE : decE s = 10 := by rw [decE, if_pos h34]
    rw [(decR_bad hE (by decide)).1, (decR_bad hE (by decide)).2, hE]
    exact dec_short s w h34
  have hs : 34 ≤ s.size := by omega
  have l0 := sB_lt s 0
  have l32 := sB_lt s 32
  have l25 := sB_lt s 25
  have e0 := sB_get s 0 (by omega)
  have e1 := sB_get s 1 (by omega)
  have e25 := sB_get s 25 (by omega)
  have e26 := sB_get s 26 (by omega)
  have e27 := sB_get s 27 (by omega)
  have e32 := sB_get s 32 (by omega)
  obtain ⟨q1, q2, -, -⟩ := parN (sB s 0)
  have hp := padN_int (sB s 32)
  by_cases hb : sizesBad s = true
  · have hE : decE s = 10 := by rw [decE, if_neg h34, if_pos hb]
    rw [(decR_bad hE (by decide)).1, (decR_bad hE (by decide)).2, hE]
    rw [sizesBad, decide_eq_true_iff] at hb
    refine dec_bad s (sB s 0) (sB s 32) w hs e0 e32 l0 l32 _ hp ?_
    rw [q1, q2, beqN, beqF]
    omega
  have hb' := hb
  rw [sizesBad, decide_eq_true_iff] at hb
  have k1 := q2.2 (by omega)
  have k4 := (beqF (sB s 32)).2 (by omega)
  by_cases hu : sB s 1 ≠ 0 ∨ sB s 26 ≠ 0 ∨ sB s 27 ≠ 0
  · have hE : decE s = 14 := by rw [decE, if_neg h34, if_neg hb', if_pos hu]
    rw [(decR_bad hE (by decide)).1, (decR_bad hE (by decide)).2, hE]
    refine dec_unsup s (sB s 0) (sB s 1) (sB s 26) (sB s 27) (sB s 32) w hs e0 e1 e26 e27 e32 l0 l32 _ hp k1 (by omega) (by omega) k4 (by omega) ?_
    rw [bneN, bneN, bneN, bneF, bneF]
    omega
  have hE : decE s = rrE (fD s) := by rw [decE, if_neg h34, if_neg hb', if_neg hu]
  have k6 := (bneF (sB s 1)).2 (by omega)
  have k7 := (bneF (sB s 26)).2 (by omega)
  have k8 := (bneF (sB s 27)).2 (by omega)
  have hx : (s.extract 18 25).size = 7 := by rw [ByteArray.size_extract]; omega
  obtain ⟨r1, r2, r3⟩ := rr_part s hs
  have c2 := fun W => readRecord_ok (s.extract 18 25) W (by omega) (by omega)
  rw [r1, r2, r3] at c2
  by_cases hz : rrE (fD s) = 0
  · have hE0 := hE.trans hz
    rw [decR, decN, if_pos hE0, if_pos hE0, hE0]
    rw [hz] at c2
    exact dec_good s _ (sB s 0) (sB s 1) (sB s 25) (sB s 26) (sB s 27) (sB s 32) (padN (sB s 32)) _ _ _ _ _ w hs e0 e1 e25 e26 e27 e32 l0 l25 l32 _ hp k1 (by omega) (by omega) k4 (by omega) k6 k7 k8 rfl c2
      (fun W h => number_ok s 2 4 _ W h (by omega) (by decide) (by decide) (by omega)) (fun W h => number_ok s 10 4 _ W h (by omega) (by decide) (by decide) (by omega)) (fun W h => number_ok s 28 2 _ W h (by omega) (by decide) (by decide) (by omega)) (by omega) (by unfold padN; omega) (by omega)
  · have hE' := hE
    rw [(decR_bad hE hz).1, (decR_bad hE hz).2, hE']
    exact dec_date s _ (sB s 0) (sB s 1) (sB s 26) (sB s 27) (sB s 32) _ _ _ w hs e0 e1 e26 e27 e32 l0 l32 _ hp k1 (by omega) (by omega) k4 (by omega) k6 k7 k8 rfl c2 (by rw [bne_iff_ne]; exact hz)
theorem padPar (n : Nat) : (((n : Int) % 2 == 0) = false ∧ 33 + (n : Int) = (padN n : Int)) ∨ (((n : Int) % 2 == 0) = true ∧ 33 + (n : Int) + 1 = (padN n : Int)) := par_even n _ (padN_int n)
end Go.Proofs.YtnmlephjhcmbhaaGreat
