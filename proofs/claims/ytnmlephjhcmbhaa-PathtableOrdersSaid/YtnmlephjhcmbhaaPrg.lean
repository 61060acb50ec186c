/- Where both Orders end early; slices.IsSorted of numbers that ascend. -/
import Derived.Test.YtnmlephjhcmbhaaPpy
import Derived.Test.YtnmlephjhcmbhaaPra
namespace Go.Proofs.Ytnmlephjhcmbhaa
set_option linter.unusedSimpArgs false
set_option linter.unusedVariables false
open Go Go.RowKit
def earlyP (l : List PE) : Prop := 1024 < l.length ∨ l.length = 0 ∨ ¬ RootP (l.getD 0 peD)
def earlyC (l : List PE) : Int := if 1024 < l.length then 7 else 1
def EarlyE (w : World) (l : List PE) (e : Ending) (w' : World) : Prop := e = .returned (.tuple #[.slice none 0 0, .slice none 0 0, cN (earlyC l)]) ∧ Below w.heap.size w w'
set_option maxRecDepth 100000 in
set_option maxHeartbeats 2000000 in
theorem porder_early (a : Option Addr) (c : Nat) (l : List PE) (wide : Bool) (w : World) (hrow : RowP w a l) (h : earlyP l) :
    Calls Try.prog 33 #[.slice a l.length c, .bool wide] w (EarlyE w l) := by
  by_cases h1 : 1024 < l.length
  · have HC := Lib.hid (show earlyC l = 7 from if_pos h1)
    have g1 : (1024 : Int) < (l.length : Int) := by omega
    clear h h1 hrow
    go_enter Try.func33, Try.ntmps33
    go_wp2
    go_ret3
    exact ⟨by rw [HC.out]; rfl, bald (bald (Below.refl _ w) _) _⟩
  · have HC := Lib.hid (show earlyC l = 1 from if_neg h1)
    have g1 : ¬ (1024 : Int) < (l.length : Int) := by omega
    by_cases h0 : l.length = 0
    · have g0 : ((l.length : Int) == 0) = true := by rw [h0]; rfl
      clear h h1 hrow h0
      go_enter Try.func33, Try.ntmps33
      go_wp2
      go_ret3
      exact ⟨by rw [HC.out]; rfl, bald (bald (Below.refl _ w) _) _⟩
    · have hr : ¬ RootP (l.getD 0 peD) := by
        rcases h with h | h | h
        · omega
        · omega
        · exact h
      have hpos : 0 < l.length := by omega
      have g0 : ((l.length : Int) == 0) = false := beq_eq_false_iff_ne.2 (by omega)
      have g2 : (0 : Int) < (l.length : Int) := by omega
      have hb0 : Below w.heap.size w ((w.alloc (.cells #[.slice a l.length c] 44)).alloc (.cells #[.bool wide] 4)) := bald (bald (Below.refl _ w) _) _
      obtain ⟨b, off, rfl, hb, hc⟩ := (hrow.below hb0) 0 hpos
      obtain ⟨x0, hx0⟩ : ∃ x, l.getD 0 peD = x := ⟨_, rfl⟩
      have c0 := fun W => isroot_ok x0 W
      rw [decide_eq_false (show ¬ RootP x0 by rw [← hx0]; exact hr)] at c0
      rw [hx0, Nat.zero_mul, Nat.add_zero] at hc
      obtain ⟨q0, q1, q2⟩ := hc
      have HB0 := Lib.hid hb0
      clear h h1 hrow h0 hr hx0 hb hb0
      go_enter Try.func33, Try.ntmps33
      go_wp2_with fail
      with_reducible refine (c0 _).mono ?_
      rintro e w1 ⟨rfl, hB1⟩
      go_wp2
      go_ret3
      exact ⟨by rw [HC.out]; rfl, bthen HB0.out hB1⟩
set_option maxRecDepth 100000 in
set_option maxHeartbeats 2000000 in
theorem rporder_early (a : Option Addr) (c : Nat) (l : List PE) (wide : Bool) (w : World) (hrow : RowP w a l) (h : earlyP l) :
    Calls Try.prog 34 #[.slice a l.length c, .bool wide] w (EarlyE w l) := by
  by_cases h1 : 1024 < l.length
  · have HC := Lib.hid (show earlyC l = 7 from if_pos h1)
    have g1 : (1024 : Int) < (l.length : Int) := by omega
    clear h h1 hrow
    go_enter Try.func34, Try.ntmps34
    go_wp2
    go_ret3
    exact ⟨by rw [HC.out]; rfl, Below.refl _ w⟩
  · have HC := Lib.hid (show earlyC l = 1 from if_neg h1)
    have g1 : ¬ (1024 : Int) < (l.length : Int) := by omega
    by_cases h0 : l.length = 0
    · have g0 : ((l.length : Int) == 0) = true := by rw [h0]; rfl
      clear h h1 hrow h0
      go_enter Try.func34, Try.ntmps34
      go_wp2
      go_ret3
      exact ⟨by rw [HC.out]; rfl, Below.refl _ w⟩
    · have hr : ¬ RootP (l.getD 0 peD) := by
        rcases h with h | h | h
        · omega
        · omega
        · exact h
      have hpos : 0 < l.length := by omega
      have g0 : ((l.length : Int) == 0) = false := beq_eq_false_iff_ne.2 (by omega)
      have g2 : (0 : Int) < (l.length : Int) := by omega
      obtain ⟨b, off, rfl, hb, hc⟩ := hrow 0 hpos
      obtain ⟨x0, hx0⟩ : ∃ x, l.getD 0 peD = x := ⟨_, rfl⟩
      have c0 := fun W => rproot_ok x0 W
      rw [decide_eq_false (show ¬ RootP x0 by rw [← hx0]; exact hr)] at c0
      rw [hx0, Nat.zero_mul, Nat.add_zero] at hc
      obtain ⟨q0, q1, q2⟩ := hc
      clear h h1 hrow h0 hr hx0 hb
      go_enter Try.func34, Try.ntmps34
      go_wp2_with fail
      with_reducible refine (c0 _).mono ?_
      rintro e w1 ⟨rfl, hB1⟩
      go_wp2
      go_ret3
      exact ⟨by rw [HC.out]; rfl, hB1⟩
set_option maxRecDepth 100000 in
set_option maxHeartbeats 1000000 in
theorem issorted_ok {B : Nat} (m : List Nat) {v : Value} {w : World} (h : w.ownsRow B 3 1 v m.length (ints m)) (hl : m.length ≤ 2000) (hs : ∀ k, k + 1 < m.length → m.getD k 0 ≤ m.getD (k + 1) 0) :
    Calls Try.prog 45 #[v] w fun e w' => e = .returned (.bool true) ∧ Below w.heap.size w w' := by
  have HS := Lib.hid hs
  have HO := Lib.hid h
  obtain ⟨a, c, rfl⟩ := own_formS h
  clear hs h
  have hwl : IntKind.i64.wrap ((m.length : Int) - 1) = (m.length : Int) - 1 := by rw [IntKind.wrap_i64]; omega
  go_enter Try.func45, Try.ntmps45
  go_wp2
  go_loopw [3] (fun i wr => ∃ z : Int, i = cN z ∧ z < m.length ∧ Below w.heap.size w wr) (fun i _ => (intOf i).toNat)
  case atStart => exact ⟨(m.length : Int) - 1, rfl, by omega, Below.refl _ w⟩
  case round =>
    obtain ⟨z, rfl, hz, hB⟩ := hrel
    have HB := Lib.hid hB
    clear hB
    by_cases hz0 : (0 : Int) < z
    · obtain ⟨t, rfl⟩ : ∃ t : Nat, z = (t : Int) + 1 := ⟨(z - 1).toNat, by omega⟩
      have htl : t + 1 < m.length := by omega
      obtain ⟨gO, cO, e1, -, p1⟩ := own_ints HO.out (t + 1) htl
      obtain ⟨gO', cO', e2, -, p0⟩ := own_ints HO.out t (by omega)
      simp only [Value.slice.injEq, Option.some.injEq] at e1 e2
      obtain ⟨rfl, -, rfl⟩ := e1
      obtain ⟨e2, -, rfl⟩ := e2
      simp only [Option.some.injEq, Addr.mk.injEq, and_true] at e2
      subst e2
      have hle := HS.out t htl
      have hlt := (HO.out.lt gO rfl).2
      obtain ⟨x, hx⟩ : ∃ x, m.getD t 0 = x := ⟨_, rfl⟩
      obtain ⟨y, hy⟩ : ∃ y, m.getD (t + 1) 0 = y := ⟨_, rfl⟩
      rw [hx] at p0 hle
      rw [hy] at p1 hle
      have CP : Hid (∀ W, Below w.heap.size w W → W.cell? ⟨gO, t + 1, none⟩ = some (cN (y : Int)) ∧ W.cell? ⟨gO, t, none⟩ = some (cN (x : Int))) := Lib.hid fun W hW =>
        ⟨(hW.cell (p := ⟨gO, t + 1, none⟩) hlt).trans p1, (hW.cell (p := ⟨gO, t, none⟩) hlt).trans p0⟩
      have c1 := fun W => Try.cmp_Less_int2 (y : Int) (x : Int) W
      rw [decide_eq_false (show ¬ (y : Int) < (x : Int) by omega)] at c1
      have k1 : (t : Int) + 1 < (m.length : Int) := by omega
      have k2 : (t : Int) < (m.length : Int) := by omega
      have e3 : ((t : Int) + 1 - 1) = (t : Int) := by omega
      have hwp : IntKind.i64.wrap (t : Int) = (t : Int) := by rw [IntKind.wrap_i64]; omega
      clear hx hy hle hlt p0 p1
      go_wp2
      refine region_sch (fun W => Below w.heap.size w W) [(true, 0), (true, 1), (true, 2), (true, 3), (true, 4), (true, 5), (true, 6), (true, 7), (true, 8)] [9] (by kernel_rfl) (by kernel_rfl) (by rintro ⟨_, _, h⟩; cases h.1) (fun _ _ d _ _ h => by cases d <;> exact h) HB.out.drew ?_
      simp only [pickM, pickT, List.filterMap_cons, List.filterMap_nil, List.getElem?_cons_zero, List.getElem?_cons_succ, Option.map_some]
      repeat (first | (refine m_float ⟨?_, .inl ⟨?_, .inl ?_⟩, fun K' hK => ?_⟩; rotate_left; (first | rfl | (go_simp; done)); (intro w' hS; (obtain ⟨r1, r0⟩ := CP.out _ hS; clear hS); go_simp; try rfl); (simp only [Act.put, List.setIfInBounds_toArray, List.set_cons_succ, List.set_cons_zero]; refine hK _ ?_; clear hK K')) | (refine m_float ⟨undef, .inr ⟨?_, rfl⟩, fun K' hK => ?_⟩; (first | rfl | (go_simp; done)); (simp only [Act.put, List.setIfInBounds_toArray, List.set_cons_succ, List.set_cons_zero]; refine hK _ ?_; clear hK K')))
      refine m_nil ?_
      show wpList Try.prog _ _ (List.cons _ _) _ _
      go_wp2_with fail
      with_reducible refine (c1 _).mono ?_
      rintro e w6 ⟨rfl, rfl⟩
      go_wp2
      go_roundw
      case rel => exact ⟨(t : Int), by go_num, by omega, HB.out.drew⟩
      case measure => simp [intOf]
    · go_wp2
      go_ret
      exact ⟨rfl, HB.out⟩
end Go.Proofs.Ytnmlephjhcmbhaa
