/- slices.swapRangeCmpFunc and rotateCmpFunc of records. -/
import Derived.Test.YtnmlephjhcmbhaaGreatGkc
import Derived.BigRegion
namespace Go.Proofs.YtnmlephjhcmbhaaGreat
set_option linter.unusedSimpArgs false
set_option linter.unusedVariables false
open Go Go.RowKit
def SwE (w : World) (g : Nat) (tl : List Value) (D : List TR) (e : Ending) (w' : World) : Prop := e = .returned (.tuple #[]) ∧ ST w g tl D w'
theorem cons_of_lt {l : List TR} (h : 0 < l.length) : ∃ x l', l = x :: l' := by
  cases l with
  | nil => simp at h
  | cons x l => exact ⟨x, l, rfl⟩
set_option maxRecDepth 100000 in
set_option maxHeartbeats 4000000 in
theorem swpint_ok (w : World) (g : Nat) (tl : List Value) (cap : Nat) (fv : Value) (P X M Y S : List TR) (a b n N : Nat) (hX : X.length = n) (hY : Y.length = n) (ha : a = P.length) (hb : b = P.length + n + M.length) (hN : N = (P ++ X ++ M ++ Y ++ S).length) (hN2 : N ≤ 2000)
    (W0 : World) (hS : ST w g tl (P ++ X ++ M ++ Y ++ S) W0) :
    Calls Tryz.prog 131 #[.slice (some ⟨g, 0, none⟩) N cap, cN a, cN b, cN n, fv] W0 (SwE w g tl (P ++ Y ++ M ++ X ++ S)) := by
  have HS0 := Lib.hid hS
  have HX := Lib.hid hX
  have HY := Lib.hid hY
  have HA := Lib.hid ha
  have HBB := Lib.hid hb
  have HN := Lib.hid hN
  have hbn : b + n ≤ N := by rw [hN, hb]; simp; omega
  have han : a + n ≤ b := by omega
  clear hS hX hY ha hb hN
  go_enter Tryz.func131, Tryz.ntmps131
  go_wp2
  go_loopw [10] (fun i wr => ∃ k X1 X2 Y1 Y2, i = cN (k : Nat) ∧ k ≤ n ∧ X = X1 ++ X2 ∧ Y = Y1 ++ Y2 ∧ X1.length = k ∧ Y1.length = k ∧ ST w g tl (P ++ (Y1 ++ X2) ++ M ++ (X1 ++ Y2) ++ S) wr) (fun i _ => n - (intOf i).toNat)
  case atStart => exact ⟨0, [], X, [], Y, rfl, Nat.zero_le _, rfl, rfl, rfl, rfl, by simpa using HS0.out⟩
  case round =>
    obtain ⟨k, X1, X2, Y1, Y2, rfl, hk, hx, hy, hx1, hy1, hS⟩ := hrel
    have HXE := Lib.hid hx
    have HYE := Lib.hid hy
    have HX1 := Lib.hid hx1
    have HY1 := Lib.hid hy1
    have HS := Lib.hid hS
    clear hx hy hx1 hy1 hS
    by_cases hlt : (k : Int) < (n : Int)
    · have hkn : k < n := by omega
      obtain ⟨x, X2, rfl⟩ : ∃ x l, X2 = x :: l := cons_of_lt (by have := HX.out; have := HX1.out; rw [HXE.out] at *; simp at *; omega)
      obtain ⟨y, Y2, rfl⟩ : ∃ x l, Y2 = x :: l := cons_of_lt (by have := HY.out; have := HY1.out; rw [HYE.out] at *; simp at *; omega)
      have hx2 : X1.length + (X2.length + 1) = n := by have := HX.out; rw [HXE.out] at this; simpa using this
      have hlx := HX1.out
      have hly := HY1.out
      have d1 : P ++ (Y1 ++ x :: X2) ++ M ++ (X1 ++ y :: Y2) ++ S = (P ++ Y1) ++ x :: (X2 ++ M ++ (X1 ++ y :: Y2) ++ S) := by simp
      have d2 : P ++ (Y1 ++ x :: X2) ++ M ++ (X1 ++ y :: Y2) ++ S = (P ++ (Y1 ++ x :: X2) ++ M ++ X1) ++ y :: (Y2 ++ S) := by simp
      have la : a + k = (P ++ Y1).length := by rw [HA.out, List.length_append, hly]
      have lb : b + k = (P ++ (Y1 ++ x :: X2) ++ M ++ X1).length := by rw [HBB.out]; simp; omega
      have hsa := HS.out
      obtain ⟨q0, q1, q2, q3, q4, q5, q6, q7⟩ : CellsR wr g ((a + k) * 8) x.1 := hsa.cellR _ x (by rw [d1]; exact at_mid _ _ _ _ la)
      obtain ⟨r0, r1, r2, r3, r4, r5, r6, r7⟩ : CellsR wr g ((b + k) * 8) y.1 := hsa.cellR _ y (by rw [d2]; exact at_mid _ _ _ _ lb)
      have hkey : ST w g tl (P ++ (Y1 ++ [y] ++ X2) ++ M ++ (X1 ++ [x] ++ Y2) ++ S) ((wr.setCells g ((a + k) * 8) (recA y.1).toList).setCells g ((b + k) * 8) (recA x.1).toList) := by
        have k1 := hsa
        rw [d1] at k1
        have k2 := k1.put (a + k) y (by rw [la]; simp)
        rw [set_mid _ _ _ _ _ la] at k2
        rw [show (P ++ Y1) ++ y :: (X2 ++ M ++ (X1 ++ y :: Y2) ++ S) = (P ++ (Y1 ++ y :: X2) ++ M ++ X1) ++ y :: (Y2 ++ S) by simp] at k2
        have lb' : b + k = (P ++ (Y1 ++ y :: X2) ++ M ++ X1).length := by rw [lb]; simp
        have k3 := k2.put (b + k) x (by rw [lb']; simp)
        rw [set_mid _ _ _ _ _ lb'] at k3
        simpa using k3
      have fz : ∀ j, wr.frozen? ⟨g, j, none⟩ = false := fun j => hsa.fz j
      have HKEY := Lib.hid hkey
      have p0 : (a : Int) + (k : Int) < (N : Int) := by omega
      have p1 : (b : Int) + (k : Int) < (N : Int) := by omega
      have p2 : (0 : Int) ≤ (a : Int) + (k : Int) := by omega
      have p3 : (0 : Int) ≤ (b : Int) + (k : Int) := by omega
      have e0 : ((a : Int) + (k : Int)).toNat = a + k := by omega
      have e1 : ((b : Int) + (k : Int)).toNat = b + k := by omega
      have ne : a + k ≠ b + k := by omega
      clear hsa hkey d1 d2 la lb hlx hly hx2
      go_wp2
      go_big_region
      all_goals go_wp2
      all_goals go_roundw
      case rel => exact ⟨k + 1, X1 ++ [x], X2, Y1 ++ [y], Y2, by go_num, by omega, by rw [HXE.out]; simp, by rw [HYE.out]; simp, by simp [HX1.out], by simp [HY1.out], HKEY.out.drew⟩
      case measure => first | (simp [intOf]; done) | (simp [intOf]; omega)
    · obtain rfl : k = n := by omega
      have hx2 : X2 = [] := by have := HX.out; rw [HXE.out] at this; have := HX1.out; simp at *; apply List.eq_nil_of_length_eq_zero; omega
      have hy2 : Y2 = [] := by have := HY.out; rw [HYE.out] at this; have := HY1.out; simp at *; apply List.eq_nil_of_length_eq_zero; omega
      have hfin : ST w g tl (P ++ Y ++ M ++ X ++ S) wr := by
        have := HS.out
        rw [hx2, hy2] at this
        rw [HXE.out, HYE.out, hx2, hy2]
        simpa using this
      have HF := Lib.hid hfin
      clear hx2 hy2 hfin
      go_wp2
      go_end0
      exact ⟨rfl, by simpa using HF.out⟩
end Go.Proofs.YtnmlephjhcmbhaaGreat
