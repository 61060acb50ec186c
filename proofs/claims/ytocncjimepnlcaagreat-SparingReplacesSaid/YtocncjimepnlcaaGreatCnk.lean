/- The reference's Strings and Writes, at equal lists. -/
import Derived.Test.YtocncjimepnlcaaGreatCni
import Derived.Test.YtocncjimepnlcaaGreatRgn
namespace Go.Proofs.YtocncjimepnlcaaGreat
set_option linter.unusedSimpArgs false
set_option linter.unusedVariables false
open Go Go.RowKit
set_option maxRecDepth 100000 in
set_option maxHeartbeats 1000000 in
theorem rstrings_one (g1 g2 : Nat) (S : ByteArray) (w : World) (b1 : g1 < w.heap.size) (b2 : g2 < w.heap.size) (h1 : w.cell? ⟨g1, 0, none⟩ = some (.string S)) (h2 : w.cell? ⟨g2, 0, none⟩ = some (.string S)) :
    Calls Tryz.prog 38 #[.slice (some ⟨g1, 0, none⟩) 1 1, .slice (some ⟨g2, 0, none⟩) 1 1] w fun e w' => e = .returned (.bool true) ∧ Below w.heap.size w w' := by
  go_enter Tryz.func38, Tryz.ntmps38
  go_wp2
  go_loopw [5] (fun i wr => (i = cN 0 ∨ i = cN 1) ∧ Below w.heap.size w wr) (fun i _ => 1 - (intOf i).toNat)
  case atStart => exact ⟨.inl rfl, Below.refl _ w⟩
  case round =>
    obtain ⟨rfl | rfl, hB⟩ := hrel
    · have q1 := (hB.cell (p := ⟨g1, 0, none⟩) b1).trans h1
      have q2 := (hB.cell (p := ⟨g2, 0, none⟩) b2).trans h2
      have HB := Lib.hid hB
      clear h1 h2 hB
      go_wp2
      refine region_sch (fun w' => w' = wr.drew) [(true, 0), (true, 1), (true, 2), (true, 3), (true, 4), (true, 5), (true, 6), (true, 7)] [8] (by kernel_rfl) (by kernel_rfl) (by rintro ⟨_, _, h, _⟩; cases h) (fun _ _ d _ _ h => by cases d <;> exact h) rfl ?_
      simp only [pickM, pickT, List.filterMap_cons, List.filterMap_nil, List.getElem?_cons_zero, List.getElem?_cons_succ, Option.map_some]
      repeat (first | (refine m_float ⟨?_, .inl ⟨?_, .inl ?_⟩, fun K' hK => ?_⟩; rotate_left; (first | rfl | (go_simp; done)); (intro w' hS; subst hS; go_simp; try rfl); (simp only [Act.put, List.setIfInBounds_toArray, List.set_cons_succ, List.set_cons_zero]; refine hK _ ?_; clear hK K')) | (refine m_float ⟨undef, .inr ⟨?_, rfl⟩, fun K' hK => ?_⟩; (first | rfl | (go_simp; done)); (simp only [Act.put, List.setIfInBounds_toArray, List.set_cons_succ, List.set_cons_zero]; refine hK _ ?_; clear hK K')))
      refine m_nil ?_
      show wpList Tryz.prog _ _ (List.cons _ _) _ _
      go_wp2
      go_roundw
      case rel => exact ⟨.inr rfl, HB.out.drew⟩
      case measure => simp [intOf]
    · clear h1 h2
      go_wp2
      go_ret
      exact ⟨rfl, hB⟩
set_option maxRecDepth 100000 in
set_option maxHeartbeats 4000000 in
theorem rswrites_ok (v1 v2 : Value) (its : List (Int × ByteArray)) (w : World) (hn : its.length ≤ 1000) (h1 : WR w v1 its) (h2 : WR w v2 its) :
    Calls Tryz.prog 20 #[v1, v2] w fun e w' => e = .returned (.bool true) ∧ Below w.heap.size w w' := by
  obtain ⟨a1, c1, rfl, r1⟩ := h1
  obtain ⟨a2, c2, rfl, r2⟩ := h2
  have R1 := Lib.hid r1
  have R2 := Lib.hid r2
  clear r1 r2
  go_enter Tryz.func20, Tryz.ntmps20
  go_wp2
  go_loopw [5] (fun i wr => ∃ k : Nat, i = cN k ∧ k ≤ its.length ∧ Below w.heap.size w wr) (fun i _ => its.length - (intOf i).toNat)
  case atStart => exact ⟨0, rfl, Nat.zero_le _, Below.refl _ w⟩
  case round =>
    obtain ⟨k, rfl, hk, hB⟩ := hrel
    have HB := Lib.hid hB
    clear hB
    by_cases hlt : (k : Int) < (its.length : Int)
    · have hkl : k < its.length := by omega
      have hg : its[k]? = some its[k] := List.getElem?_eq_getElem hkl
      obtain ⟨⟨x, S⟩, hx⟩ : ∃ y, its[k] = y := ⟨_, rfl⟩
      rw [hx] at hg
      obtain ⟨e1, o1, g1, rfl, k1, m1, n1, p0, p1, p2, p3, p4⟩ := R1.out k _ hg
      obtain ⟨e2, o2, g2, rfl, k2, m2, n2, q0, q1, q2, q3, q4⟩ := R2.out k _ hg
      have CX : Hid (∀ W, Below w.heap.size w W → (W.cell? ⟨e1, o1 + k * 4, none⟩ = some (cN x) ∧ W.cell? ⟨e1, o1 + k * 4 + 1, none⟩ = some (.slice (some ⟨g1, 0, none⟩) 1 1) ∧ W.cell? ⟨e1, o1 + k * 4 + 2, none⟩ = some (.bool true) ∧ W.cell? ⟨e1, o1 + k * 4 + 3, none⟩ = some (.bool false)) ∧ (W.cell? ⟨e2, o2 + k * 4, none⟩ = some (cN x) ∧ W.cell? ⟨e2, o2 + k * 4 + 1, none⟩ = some (.slice (some ⟨g2, 0, none⟩) 1 1) ∧ W.cell? ⟨e2, o2 + k * 4 + 2, none⟩ = some (.bool true) ∧ W.cell? ⟨e2, o2 + k * 4 + 3, none⟩ = some (.bool false))) := Lib.hid fun W h =>
        ⟨⟨(h.cell (p := ⟨e1, o1 + k * 4, none⟩) m1).trans p0, (h.cell (p := ⟨e1, o1 + k * 4 + 1, none⟩) m1).trans p1, (h.cell (p := ⟨e1, o1 + k * 4 + 2, none⟩) m1).trans p2, (h.cell (p := ⟨e1, o1 + k * 4 + 3, none⟩) m1).trans p3⟩,
         ⟨(h.cell (p := ⟨e2, o2 + k * 4, none⟩) m2).trans q0, (h.cell (p := ⟨e2, o2 + k * 4 + 1, none⟩) m2).trans q1, (h.cell (p := ⟨e2, o2 + k * 4 + 2, none⟩) m2).trans q2, (h.cell (p := ⟨e2, o2 + k * 4 + 3, none⟩) m2).trans q3⟩⟩
      have HS := Lib.hid (And.intro p4 q4)
      have HG := Lib.hid (And.intro n1 n2)
      have cs := fun (W : World) (h : Below w.heap.size w W) => rstrings_one g1 g2 S W (by have := h.size; have := HG.out; omega) (by have := h.size; have := HG.out; omega) ((h.cell (p := ⟨g1, 0, none⟩) HG.out.1).trans HS.out.1) ((h.cell (p := ⟨g2, 0, none⟩) HG.out.2).trans HS.out.2)
      clear hg hx p0 p1 p2 p3 p4 q0 q1 q2 q3 q4 n1 n2
      go_wp2
      refine region_sch (fun W => Below w.heap.size w W) [(true, 0), (true, 1), (true, 2), (true, 3), (true, 4), (true, 5), (true, 6), (true, 7), (true, 8), (true, 9), (true, 10), (true, 11), (true, 12), (true, 13), (true, 14), (true, 15), (true, 16), (true, 17), (true, 18), (true, 19), (true, 20), (true, 21), (false, 22), (true, 23), (true, 24), (true, 25), (true, 26), (true, 27), (true, 28), (true, 29), (true, 30), (true, 31), (true, 32), (true, 33), (true, 34), (true, 35), (true, 36), (true, 37), (true, 38), (true, 39), (true, 40), (true, 41), (true, 42), (true, 43), (true, 44), (true, 45), (true, 46), (true, 47), (true, 48)] [49, 50] (by kernel_rfl) (by kernel_rfl) (by rintro ⟨_, _, h, _⟩; cases h) (fun _ _ d _ _ h => by cases d <;> exact h) HB.out.drew ?_
      simp only [pickM, pickT, List.filterMap_cons, List.filterMap_nil, List.getElem?_cons_zero, List.getElem?_cons_succ, Option.map_some]
      repeat (first | (refine m_float ⟨?_, .inl ⟨?_, .inl ?_⟩, fun K' hK => ?_⟩; rotate_left; (first | rfl | (go_simp; done)); (intro w' hS; (obtain ⟨⟨p0, p1, p2, p3⟩, ⟨q0, q1, q2, q3⟩⟩ := CX.out _ hS); go_simp; try rfl); (simp only [Act.put, List.setIfInBounds_toArray, List.set_cons_succ, List.set_cons_zero]; refine hK _ ?_; clear hK K')) | (refine m_float ⟨undef, .inr ⟨?_, rfl⟩, fun K' hK => ?_⟩; (first | rfl | (go_simp; done)); (simp only [Act.put, List.setIfInBounds_toArray, List.set_cons_succ, List.set_cons_zero]; refine hK _ ?_; clear hK K')))
      refine m_loud ?_ (fun K' hK => ?_)
      · rintro ⟨_, _, h, _⟩; cases h
      go_wp2_with (go_at_call 38; (with_reducible refine (cs _ HB.out.drew).mono ?_); rintro e w5 ⟨rfl, hB5⟩)
      have HB5 := Lib.hid (HB.out.drew.trans (hB5.mono (by have := HB.out.size; simp; omega)))
      refine hK _ _ HB5.out ?_
      clear hK K'
      repeat (first | (refine m_float ⟨?_, .inl ⟨?_, .inl ?_⟩, fun K' hK => ?_⟩; rotate_left; (first | rfl | (go_simp; done)); (intro w' hS; (obtain ⟨⟨p0, p1, p2, p3⟩, ⟨q0, q1, q2, q3⟩⟩ := CX.out _ hS); go_simp; try rfl); (simp only [Act.put, List.setIfInBounds_toArray, List.set_cons_succ, List.set_cons_zero]; refine hK _ ?_; clear hK K')) | (refine m_float ⟨undef, .inr ⟨?_, rfl⟩, fun K' hK => ?_⟩; (first | rfl | (go_simp; done)); (simp only [Act.put, List.setIfInBounds_toArray, List.set_cons_succ, List.set_cons_zero]; refine hK _ ?_; clear hK K')))
      refine m_nil ?_
      show wpList Tryz.prog _ _ (List.cons _ _) _ _
      go_wp2
      go_roundw
      case rel => exact ⟨k + 1, by go_num, by omega, HB5.out⟩
      case measure => simp [intOf]; omega
    · obtain rfl : k = its.length := by omega
      go_wp2
      go_ret
      exact ⟨rfl, HB.out⟩
end Go.Proofs.YtocncjimepnlcaaGreat
