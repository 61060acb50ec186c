/- Sparing tables: Same of the reference, at equal tables; few; Contains. -/
import Derived.Test.YtocncjimepnlcaaGreatDoorSpc
namespace Go.Proofs.YtocncjimepnlcaaGreatDoor
set_option linter.unusedSimpArgs false
set_option linter.unusedVariables false
open Go Go.RowKit
set_option maxRecDepth 100000 in
set_option maxHeartbeats 2000000 in
theorem same_row (s : Int) (b1 o1 c1 b2 o2 c2 : Nat) (l : List Sp) (w : World) (hl : l.length ≤ 1000) (hb1 : b1 < w.heap.size) (hb2 : b2 < w.heap.size) (hc1 : l.length ≤ c1) (hc2 : l.length ≤ c2) (h1 : Row w b1 o1 l) (h2 : Row w b2 o2 l) :
    Calls Tryz.prog 9 #[.agg #[cN s, .slice (some ⟨b1, o1, none⟩) l.length c1], .agg #[cN s, .slice (some ⟨b2, o2, none⟩) l.length c2]] w fun e w' => e = .returned (.bool true) ∧ Below w.heap.size w w' := by
  have hm := spGuard
  have H1 := Lib.hid h1
  have H2 := Lib.hid h2
  clear h1 h2
  go_enter Tryz.func9, Tryz.ntmps9
  go_wp2
  go_loopw [5] (fun i wr => ∃ k : Nat, i = cN k ∧ k ≤ l.length ∧ wr.heap[w.heap.size]? = some (.cells #[cN s, .slice (some ⟨b1, o1, none⟩) l.length c1] 24 (0, 0)) ∧ wr.heap[w.heap.size + 1]? = some (.cells #[cN s, .slice (some ⟨b2, o2, none⟩) l.length c2] 24 (0, 0)) ∧ Below w.heap.size w wr) (fun i _ => l.length - (intOf i).toNat)
  case atStart =>
    refine ⟨0, rfl, Nat.zero_le _, (Lib.alloc_old _ _ _ (by simp)).trans (World.alloc_heap_new w _), ?_, bal (bal (Below.refl _ w) _) _⟩
    have := World.alloc_heap_new (w.alloc (.cells #[cN s, .slice (some ⟨b1, o1, none⟩) l.length c1] 24)) (.cells #[cN s, .slice (some ⟨b2, o2, none⟩) l.length c2] 24)
    rwa [World.size_alloc] at this
  case round =>
    obtain ⟨k, rfl, hk, hx1, hx2, hB⟩ := hrel
    have p1 := Lib.cell_of_heap hx1 1
    have p2 := Lib.cell_of_heap hx2 1
    have HX := Lib.hid (And.intro hx1 hx2)
    clear hx1 hx2
    by_cases hlt : (k : Int) < (l.length : Int)
    · have hkl : k < l.length := by omega
      obtain ⟨q0, q1⟩ := (H1.out.below hb1 hB) k hkl
      obtain ⟨r0, r1⟩ := (H2.out.below hb2 hB) k hkl
      obtain ⟨xo, xm, hx⟩ : ∃ xo xm, at_ l k = (xo, xm) := ⟨_, _, rfl⟩
      rw [hx] at q0 q1 r0 r1
      clear hx
      have hne := sp_neq xo xm
      go_wp2
      refine region_sch (fun w' => w' = wr.drew) [(true, 0), (true, 1), (true, 2), (true, 3), (true, 4), (true, 5), (true, 6), (true, 7), (true, 8), (true, 9)] [10] (by kernel_rfl) (by kernel_rfl) (by rintro ⟨_, _, h, _⟩; cases h) (fun _ _ d _ _ h => by cases d <;> exact h) rfl ?_
      simp only [pickM, pickT, List.filterMap_cons, List.filterMap_nil, List.getElem?_cons_zero, List.getElem?_cons_succ, Option.map_some]
      repeat (refine m_float ⟨?_, .inl ⟨?_, .inl ?_⟩, fun K' hK => ?_⟩; rotate_left; (first | rfl | (go_simp; done)); (intro w' hS; subst hS; go_simp; try rfl); (simp only [Act.put, List.setIfInBounds_toArray, List.set_cons_succ, List.set_cons_zero]; refine hK _ ?_; clear hK K'))
      refine m_nil ?_
      show wpList Tryz.prog _ _ (List.cons _ _) _ _
      go_wp2
      go_roundw
      case rel => exact ⟨k + 1, by go_num, by omega, HX.out.1, HX.out.2, hB.drew⟩
      case measure => simp [intOf]; omega
    · go_wp2
      go_ret
      exact ⟨rfl, hB⟩
end Go.Proofs.YtocncjimepnlcaaGreatDoor
