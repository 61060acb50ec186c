/- Package datetime: ReadRecord. -/
import Derived.Test.YtnmlephjhcmbhaaDtj
namespace Go.Proofs.Ytnmlephjhcmbhaa
set_option linter.unusedSimpArgs false
set_option linter.unusedVariables false
open Go Go.RowKit
/-- The date of the seven bytes of a string from a place on: its clock is valid, its zone is one; its zone; its time; what ReadRecord gives. -/
def rrV (f : Nat → Nat) : Bool := validB (1900 + f 0) (f 1) (f 2) (f 3) (f 4) (f 5)
def rrZ (f : Nat → Nat) : Int := 15 * zN (f 6)
def rrT (f : Nat → Nat) : Int := secI (1900 + f 0) (f 1) (f 2) (f 3) (f 4) (f 5) - 60 * rrZ f
def rrE (f : Nat → Nat) : Int := fE (rrV f) (zR (f 6)) (rrT f)
def rrA (f : Nat → Nat) : Int := fT (rrV f) (zR (f 6)) (rrT f)
def rrB (f : Nat → Nat) : Int := if rrE f = 0 then rrZ f else 0
theorem zN_bd {b : Nat} (h : zR b = true) : -1440 ≤ 15 * zN b ∧ 15 * zN b ≤ 1440 := by
  rw [zR, decide_eq_true_iff] at h
  omega
set_option maxRecDepth 100000 in
set_option maxHeartbeats 1000000 in
theorem readRecord_ok (s : ByteArray) (w : World) (hs : 7 ≤ s.size) (hs2 : s.size ≤ 7) :
    Calls Try.prog 60 #[.string s] w fun e w' => e = .returned (.tuple #[cI (rrA (sB s)), cI (rrB (sB s)), cI (rrE (sB s))]) ∧ Below w.heap.size w w' := by
  have l0 := sB_lt s 0
  have l1 := sB_lt s 1
  have l2 := sB_lt s 2
  have l3 := sB_lt s 3
  have l4 := sB_lt s 4
  have l5 := sB_lt s 5
  have c1 := fun W => quarter_ok (s[6]'(by omega)) W
  rw [sB_get s 6 (by omega)] at c1
  have e0 := sB_get s 0 (by omega)
  have e1 := sB_get s 1 (by omega)
  have e2 := sB_get s 2 (by omega)
  have e3 := sB_get s 3 (by omega)
  have e4 := sB_get s 4 (by omega)
  have e5 := sB_get s 5 (by omega)
  have e6 := sB_get s 6 (by omega)
  have c2 := fun W => read_ok (1900 + sB s 0) (sB s 1) (sB s 2) (sB s 3) (sB s 4) (sB s 5) (15 * zN (sB s 6)) (zR (sB s 6)) W (by omega) (by omega) zN_bd
  rw [rrB, rrE, rrA, rrT, rrV, rrZ]
  generalize zN (sB s 6) = z at *
  generalize zR (sB s 6) = zr at *
  delta clkV at c2
  rw [show ((1900 + sB s 0 : Nat) : Int) = 1900 + (sB s 0 : Int) by omega] at c2
  generalize fT (validB (1900 + sB s 0) (sB s 1) (sB s 2) (sB s 3) (sB s 4) (sB s 5)) zr (secI (1900 + sB s 0) (sB s 1) (sB s 2) (sB s 3) (sB s 4) (sB s 5) - 60 * (15 * z)) = x at *
  generalize fE (validB (1900 + sB s 0) (sB s 1) (sB s 2) (sB s 3) (sB s 4) (sB s 5)) zr (secI (1900 + sB s 0) (sB s 1) (sB s 2) (sB s 3) (sB s 4) (sB s 5) - 60 * (15 * z)) = y at *
  generalize (if y = 0 then 15 * z else 0) = u at *
  generalize sB s 0 = n0 at *
  generalize sB s 1 = n1 at *
  generalize sB s 2 = n2 at *
  generalize sB s 3 = n3 at *
  generalize sB s 4 = n4 at *
  generalize sB s 5 = n5 at *
  generalize sB s 6 = n6 at *
  have hs7 : (7 : Int) ≤ s.size := by omega
  have t7 : ((s.size : Int) != 7) = false := by simp; omega
  have b0 : 0 < s.size := by omega
  have b1 : (1 : Int) < (s.size : Int) := by omega
  have b2 : (2 : Int) < (s.size : Int) := by omega
  have b3 : (3 : Int) < (s.size : Int) := by omega
  have b4 : (4 : Int) < (s.size : Int) := by omega
  have b5 : (5 : Int) < (s.size : Int) := by omega
  have b6 : (6 : Int) < (s.size : Int) := by omega
  go_enter Try.func60, Try.ntmps60
  go_wp2_with (first | (go_at_call 117; (with_reducible refine (c1 _).mono ?_); rintro e w1 ⟨rfl, rfl⟩))
  refine region_sch (fun _ => True) [(true, 0), (true, 1), (true, 2), (true, 3), (true, 4), (true, 5), (true, 6), (true, 7), (true, 8), (true, 9), (true, 10), (true, 11), (true, 12), (true, 13), (true, 14), (true, 15), (true, 16), (true, 17), (true, 18), (true, 19), (true, 20), (true, 21), (false, 22), (true, 23), (true, 24), (true, 25)] [26, 27, 28] (by kernel_rfl) (by kernel_rfl) (by rintro ⟨_, _, h, _⟩; cases h) (fun _ _ d _ _ h => by cases d <;> exact h) trivial ?_
  simp only [pickM, pickT, List.filterMap_cons, List.filterMap_nil, List.getElem?_cons_zero, List.getElem?_cons_succ, Option.map_some]
  repeat (refine m_float ⟨?_, .inl ⟨?_, .inl ?_⟩, fun K' hK => ?_⟩; rotate_left; (first | rfl | (go_simp; done)); (intro w' hS; go_simp; try rfl); (simp only [Act.put, List.setIfInBounds_toArray, List.set_cons_succ, List.set_cons_zero]; refine hK _ ?_; clear hK K'))
  refine m_loud ?_ (fun K' hK => ?_)
  · rintro ⟨_, _, h, _⟩; cases h
  go_wp2_with (first | (go_at_call 118; (with_reducible refine (c2 _).mono ?_); rintro e w1 ⟨rfl, hB⟩))
  refine hK _ _ trivial ?_
  clear hK K'
  repeat (refine m_float ⟨?_, .inl ⟨?_, .inl ?_⟩, fun K' hK => ?_⟩; rotate_left; (first | rfl | (go_simp; done)); (intro w' hS; go_simp; try rfl); (simp only [Act.put, List.setIfInBounds_toArray, List.set_cons_succ, List.set_cons_zero]; refine hK _ ?_; clear hK K'))
  refine m_nil ?_
  show wpList Try.prog _ _ (List.cons _ _) _ _
  go_wp2
  go_ret3
  exact ⟨rfl, drew_left hB⟩
end Go.Proofs.Ytnmlephjhcmbhaa
