/- directory.Find; Same of the reference. -/
import Derived.Test.YtnmlephjhcmbhaaGreatDki
namespace Go.Proofs.YtnmlephjhcmbhaaGreat
set_option linter.unusedSimpArgs false
set_option linter.unusedVariables false
open Go Go.RowKit
set_option maxRecDepth 100000 in
set_option maxHeartbeats 400000 in
theorem dfind_ok (a : Option Addr) (c : Nat) (l : List Rec) (id : ByteArray) (w : World) (hl : l.length ≤ 2 ^ 50) (hrow : RowR w a l) :
    Calls Tryz.prog 14 #[.slice a l.length c, .string id] w fun e w' => e = .returned (.tuple #[cN (max (idxR l id) 0), .bool (decide (0 ≤ idxR l id))]) ∧ Below w.heap.size w w' := by
  have c1 := ifrec_ok a c l id w.heap.size (w.alloc (.cells #[.string id] 9)) hl (World.alloc_heap_new _ _) (hrow.below (bald (Below.refl _ w) _))
  obtain ⟨x, hx⟩ : ∃ x, idxR l id = x := ⟨_, rfl⟩
  rw [hx] at c1 ⊢
  clear hx hrow
  go_enter Tryz.func14, Tryz.ntmps14
  go_wp2_with (go_at_call 42; (with_reducible refine c1.mono ?_); rintro e w1 ⟨rfl, hB1⟩)
  go_ret2
  exact ⟨rfl, bthen (bald (Below.refl _ w) _) hB1⟩
def recsEq : List Rec → List Rec → Bool
  | [], [] => true
  | a :: l, b :: m => recEq a b && recsEq l m
  | _, _ => false
theorem recsEq_iff : ∀ l m : List Rec, recsEq l m = true ↔ l = m
  | [], [] => by simp [recsEq]
  | [], b :: m => by simp [recsEq]
  | a :: l, [] => by simp [recsEq]
  | a :: l, b :: m => by rw [recsEq, Bool.and_eq_true, recEq_iff, recsEq_iff l m, List.cons.injEq]
theorem recsEq_len : ∀ l m : List Rec, l.length ≠ m.length → recsEq l m = false
  | [], [], h => absurd rfl h
  | [], b :: m, _ => by simp [recsEq]
  | a :: l, [], _ => by simp [recsEq]
  | a :: l, b :: m, h => by rw [recsEq, recsEq_len l m (by simpa using h), Bool.and_false]
theorem recsEq_step (l m : List Rec) (k : Nat) (h1 : k < l.length) (h2 : k < m.length) : recsEq (l.drop k) (m.drop k) = (recEq (l.getD k recD) (m.getD k recD) && recsEq (l.drop (k + 1)) (m.drop (k + 1))) := by
  rw [List.drop_eq_getElem_cons h1, List.drop_eq_getElem_cons h2, recsEq]
  simp [List.getD_eq_getElem?_getD, h1, h2]
set_option maxRecDepth 100000 in
set_option maxHeartbeats 2000000 in
theorem rsame_ok (a1 : Option Addr) (c1 : Nat) (l : List Rec) (a2 : Option Addr) (c2 : Nat) (m : List Rec) (w : World) (hl : l.length ≤ 2 ^ 50) (h1 : RowR w a1 l) (h2 : RowR w a2 m) :
    Calls Tryz.prog 17 #[.slice a1 l.length c1, .slice a2 m.length c2] w fun e w' => e = .returned (.bool (recsEq l m)) ∧ Below w.heap.size w w' := by
  by_cases hlm : l.length = m.length
  · have HR1 := Lib.hid h1
    have HR2 := Lib.hid h2
    have HL := Lib.hid hlm
    have hq : ((l.length : Int) != (m.length : Int)) = false := by rw [hlm]; simp
    clear h1 h2 hlm
    go_enter Tryz.func17, Tryz.ntmps17
    go_wp2
    go_loopw [5] (fun i wr => ∃ k : Nat, i = cN k ∧ k ≤ l.length ∧ recsEq (l.drop k) (m.drop k) = recsEq l m ∧ Below w.heap.size w wr) (fun i _ => l.length - (intOf i).toNat)
    case atStart => exact ⟨0, rfl, Nat.zero_le _, rfl, Below.refl _ w⟩
    case round =>
      obtain ⟨k, rfl, hk, hE, hB⟩ := hrel
      have HE := Lib.hid hE
      have HB := Lib.hid hB
      clear hE
      by_cases hlt : (k : Int) < (l.length : Int)
      · have hkl : k < l.length := by omega
        have hkm : k < m.length := by have := HL.out; omega
        have hltm : (k : Int) < (m.length : Int) := by omega
        obtain ⟨b1, o1, rfl, hb1, hc1⟩ := HR1.out k hkl
        obtain ⟨b2, o2, rfl, hb2, hc2⟩ := HR2.out k hkm
        have hs := recsEq_step l m k hkl hkm
        obtain ⟨x, hx⟩ : ∃ x, l.getD k recD = x := ⟨_, rfl⟩
        obtain ⟨y, hy⟩ : ∃ y, m.getD k recD = y := ⟨_, rfl⟩
        rw [hx] at hc1 hs
        rw [hy] at hc2 hs
        obtain ⟨p0, p1, p2, p3, p4, p5, p6, p7⟩ := hc1.below hb1 hB
        obtain ⟨q0, q1, q2, q3, q4, q5, q6, q7⟩ := hc2.below hb2 hB
        have HS := Lib.hid hs
        have hm := recGuard
        have he := fun W => rec_neq x y W
        have he2 := fun W => rec_equal x y W
        clear hx hy hc1 hc2 hs hB
        cases hv : recEq x y
        · rw [hv] at he he2
          have HV := Lib.hid hv
          clear hv
          go_wp2
          refine region_sch (fun w' => w' = wr.drew) [(true, 0), (true, 1), (true, 2), (true, 3), (true, 4), (true, 5), (true, 6), (true, 7)] [8] (by kernel_rfl) (by kernel_rfl) (by rintro ⟨_, _, h, _⟩; cases h) (fun _ _ d _ _ h => by cases d <;> exact h) rfl ?_
          simp only [pickM, pickT, List.filterMap_cons, List.filterMap_nil, List.getElem?_cons_zero, List.getElem?_cons_succ, Option.map_some]
          repeat (refine m_float ⟨?_, .inl ⟨?_, .inl ?_⟩, fun K' hK => ?_⟩; rotate_left; (first | rfl | (go_simp; done)); (intro w' hS; subst hS; go_simp; try rfl); (simp only [Act.put, List.setIfInBounds_toArray, List.set_cons_succ, List.set_cons_zero]; refine hK _ ?_; clear hK K'))
          refine m_nil ?_
          show wpList Tryz.prog _ _ (List.cons _ _) _ _
          go_wp2
          go_ret
          exact ⟨by rw [← HE.out, HS.out, HV.out]; rfl, HB.out.drew⟩
        · rw [hv] at he he2
          have HV := Lib.hid hv
          clear hv
          go_wp2
          refine region_sch (fun w' => w' = wr.drew) [(true, 0), (true, 1), (true, 2), (true, 3), (true, 4), (true, 5), (true, 6), (true, 7)] [8] (by kernel_rfl) (by kernel_rfl) (by rintro ⟨_, _, h, _⟩; cases h) (fun _ _ d _ _ h => by cases d <;> exact h) rfl ?_
          simp only [pickM, pickT, List.filterMap_cons, List.filterMap_nil, List.getElem?_cons_zero, List.getElem?_cons_succ, Option.map_some]
          repeat (refine m_float ⟨?_, .inl ⟨?_, .inl ?_⟩, fun K' hK => ?_⟩; rotate_left; (first | rfl | (go_simp; done)); (intro w' hS; subst hS; go_simp; try rfl); (simp only [Act.put, List.setIfInBounds_toArray, List.set_cons_succ, List.set_cons_zero]; refine hK _ ?_; clear hK K'))
          refine m_nil ?_
          show wpList Tryz.prog _ _ (List.cons _ _) _ _
          go_wp2
          go_roundw
          case rel => exact ⟨k + 1, by go_num, by omega, by rw [← HE.out, HS.out, HV.out]; rfl, HB.out.drew⟩
          case measure => simp [intOf]; omega
      · obtain rfl : k = l.length := by omega
        go_wp2
        go_ret
        exact ⟨by rw [← HE.out, List.drop_eq_nil_of_le (Nat.le_refl _), List.drop_eq_nil_of_le (by have := HL.out; omega)]; rfl, HB.out⟩
  · rw [recsEq_len l m hlm]
    have hq : ((l.length : Int) != (m.length : Int)) = true := by simp; omega
    clear h1 h2
    go_enter Tryz.func17, Tryz.ntmps17
    go_wp2
    go_ret
    exact ⟨rfl, Below.refl _ _⟩
end Go.Proofs.YtnmlephjhcmbhaaGreat
