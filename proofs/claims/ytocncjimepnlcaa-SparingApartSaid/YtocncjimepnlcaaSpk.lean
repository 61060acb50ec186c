/- Sparing tables: slices.Contains, at an entry of the row. -/
import Derived.Test.YtocncjimepnlcaaSpi
namespace Go.Proofs.Ytocncjimepnlcaa
set_option linter.unusedSimpArgs false
set_option linter.unusedVariables false
open Go Go.RowKit
set_option maxRecDepth 100000 in
set_option maxHeartbeats 2000000 in
theorem index_mem (b off c : Nat) (l : List Sp) (xo xm : Int) (w : World) (hl : l.length ≤ 1000) (hc : l.length ≤ c) (hb : b < w.heap.size) (hr : Row w b off l) (hm : (xo, xm) ∈ l) :
    Calls Try.prog 21 #[.slice (some ⟨b, off, none⟩) l.length c, .agg #[cN xo, cN xm]] w fun e w' => (∃ k : Nat, k ≤ 1000 ∧ e = .returned (cN k)) ∧ Below w.heap.size w w' := by
  have HR := Lib.hid hr
  have HM := Lib.hid hm
  clear hr hm
  go_enter Try.func21, Try.ntmps21
  go_wp2
  go_loopw [8] (fun i wr => ∃ k : Nat, i = cN k ∧ k ≤ l.length ∧ (∀ i, i < k → at_ l i ≠ (xo, xm)) ∧ wr.heap[w.heap.size]? = some (.cells #[cN xo, cN xm] 42 (0, 0)) ∧ Below w.heap.size w wr) (fun i _ => l.length - (intOf i).toNat)
  case atStart => exact ⟨0, rfl, Nat.zero_le _, fun i h => absurd h (Nat.not_lt_zero _), World.alloc_heap_new w _, bal (Below.refl _ w) _⟩
  case round =>
    obtain ⟨k, rfl, hk, hno, hbox, hB⟩ := hrel
    have HNO := Lib.hid hno
    clear hno
    by_cases hlt : (k : Int) < (l.length : Int)
    · have hkl : k < l.length := by omega
      obtain ⟨q0, q1⟩ := (HR.out.below hb hB) k hkl
      obtain ⟨yo, ym, hy⟩ : ∃ yo ym, at_ l k = (yo, ym) := ⟨_, _, rfl⟩
      rw [hy] at q0 q1
      simp only at q0 q1
      have HY := Lib.hid hy
      have p0 := Lib.cell_of_heap hbox 0
      have p1 := Lib.cell_of_heap hbox 1
      have HBX := Lib.hid hbox
      have he := fun W => sp_eql xo xm yo ym W
      clear hy hbox
      cases hq : ((xo == yo) && (xm == ym))
      · rw [hq] at he
        have HV : Hid (at_ l k ≠ (xo, xm)) := Lib.hid (by
          rw [HY.out]
          rintro e
          simp only [Prod.mk.injEq] at e
          rw [e.1, e.2] at hq
          simp at hq)
        clear hq
        go_wp2
        refine region_sch (fun w' => w' = wr.drew) [(true, 0), (true, 1), (true, 2), (true, 3), (true, 4)] [5] (by kernel_rfl) (by kernel_rfl) (by rintro ⟨_, _, ⟨_, _, h⟩, _⟩; cases h) (fun _ _ d _ _ h => by cases d <;> exact h) rfl ?_
        simp only [pickM, pickT, List.filterMap_cons, List.filterMap_nil, List.getElem?_cons_zero, List.getElem?_cons_succ, Option.map_some]
        repeat (refine m_float ⟨?_, .inl ⟨?_, .inl ?_⟩, fun K' hK => ?_⟩; rotate_left; (first | rfl | (go_simp; done)); (intro w' hS; subst hS; go_simp; try rfl); (simp only [Act.put, List.setIfInBounds_toArray, List.set_cons_succ, List.set_cons_zero]; refine hK _ ?_; clear hK K'))
        refine m_nil ?_
        show wpList Try.prog _ _ (List.cons _ _) _ _
        go_wp2
        go_roundw
        case rel => exact ⟨k + 1, by go_num, by omega, fun i hi => (by
            rcases Nat.lt_or_ge i k with h | h
            · exact HNO.out i h
            · rw [show i = k by omega]; exact HV.out), HBX.out, hB.drew⟩
        case measure => simp [intOf]; omega
      · rw [hq] at he
        clear hq
        go_wp2
        refine region_sch (fun w' => w' = wr.drew) [(true, 0), (true, 1), (true, 2), (true, 3), (true, 4)] [5] (by kernel_rfl) (by kernel_rfl) (by rintro ⟨_, _, ⟨_, _, h⟩, _⟩; cases h) (fun _ _ d _ _ h => by cases d <;> exact h) rfl ?_
        simp only [pickM, pickT, List.filterMap_cons, List.filterMap_nil, List.getElem?_cons_zero, List.getElem?_cons_succ, Option.map_some]
        repeat (refine m_float ⟨?_, .inl ⟨?_, .inl ?_⟩, fun K' hK => ?_⟩; rotate_left; (first | rfl | (go_simp; done)); (intro w' hS; subst hS; go_simp; try rfl); (simp only [Act.put, List.setIfInBounds_toArray, List.set_cons_succ, List.set_cons_zero]; refine hK _ ?_; clear hK K'))
        refine m_nil ?_
        show wpList Try.prog _ _ (List.cons _ _) _ _
        go_wp2
        go_ret
        exact ⟨⟨k, by omega, rfl⟩, hB.drew⟩
    · obtain rfl : k = l.length := by omega
      obtain ⟨i, hi, he⟩ := List.getElem_of_mem HM.out
      refine absurd ?_ (HNO.out i hi)
      rw [at_, List.getD_eq_getElem?_getD, List.getElem?_eq_getElem hi, Option.getD_some]
      exact he
set_option maxRecDepth 100000 in
set_option maxHeartbeats 400000 in
theorem contains_ok (v : Value) (l : List Sp) (xo xm : Int) (w : World) (hl : l.length ≤ 1000) (h : SL w v l) (hm : (xo, xm) ∈ l) :
    Calls Try.prog 11 #[v, .agg #[cN xo, cN xm]] w fun e w' => e = .returned (.bool true) ∧ Below w.heap.size w w' := by
  rcases h with ⟨rfl, -⟩ | ⟨b, off, c, rfl, hc, hb, hr⟩
  · cases hm
  have c1 := fun (W : World) (k : Below w.heap.size w W) => index_mem b off c l xo xm W hl hc (by have := k.size; omega) (hr.below hb k) hm
  clear hr hm
  go_enter Try.func11, Try.ntmps11
  go_wp2_with (go_at_call 21; (with_reducible refine (c1 _ (bal (Below.refl _ w) _)).mono ?_); rintro e w1 ⟨⟨k, hk, rfl⟩, hB1⟩; have hk0 : (0 : Int) ≤ (k : Int) := Int.natCast_nonneg k)
  go_ret
  exact ⟨rfl, bthen (bal (Below.refl _ w) _) hB1⟩
end Go.Proofs.Ytocncjimepnlcaa
