/- slices.rotateCmpFunc of records. -/
import Derived.Test.YtnmlephjhcmbhaaGreatGke
namespace Go.Proofs.YtnmlephjhcmbhaaGreat
set_option linter.unusedSimpArgs false
set_option linter.unusedVariables false
open Go Go.RowKit
set_option maxRecDepth 100000 in
set_option maxHeartbeats 4000000 in
theorem rotint_ok (w : World) (g : Nat) (tl : List Value) (cap : Nat) (fv : Value) (P X Y S : List TR) (a m b N : Nat) (hX : 0 < X.length) (hY : 0 < Y.length) (ha : a = P.length) (hm : m = a + X.length) (hb : b = m + Y.length) (hN : N = (P ++ X ++ Y ++ S).length) (hN2 : N ≤ 2000)
    (W0 : World) (hS : ST w g tl (P ++ X ++ Y ++ S) W0) :
    Calls Tryz.prog 115 #[.slice (some ⟨g, 0, none⟩) N cap, cN a, cN m, cN b, fv] W0 (SwE w g tl (P ++ Y ++ X ++ S)) := by
  obtain ⟨T, hT⟩ : ∃ T, T = P ++ Y ++ X ++ S := ⟨_, rfl⟩
  rw [← hT]
  have e1 : (m : Int) - (a : Int) = ((X.length : Nat) : Int) := by omega
  have e2 : (b : Int) - (m : Int) = ((Y.length : Nat) : Int) := by omega
  have hST : ∃ P1 X1 Y1 S1, X.length = X1.length ∧ Y.length = Y1.length ∧ P1.length + X.length = m ∧ ST w g tl (P1 ++ X1 ++ Y1 ++ S1) W0 ∧ T = P1 ++ Y1 ++ X1 ++ S1 ∧ N = (P1 ++ X1 ++ Y1 ++ S1).length := ⟨P, X, Y, S, rfl, rfl, by omega, hS, hT, hN⟩
  have hmN : b ≤ N := by rw [hN, hb, hm, ha]; simp; omega
  have HST := Lib.hid hST
  have hma : a ≤ m := by omega
  have hmb : m ≤ b := by omega
  have hX1 : X.length ≤ 2000 := by omega
  have hY1 : Y.length ≤ 2000 := by omega
  clear hS hT hN hST ha hm hb
  generalize X.length = i0 at *
  generalize Y.length = j0 at *
  go_enter Tryz.func115, Tryz.ntmps115
  go_wp2
  go_loopw [10, 11] (fun i j wr => ∃ (ki kj : Nat) (P1 X1 Y1 S1 : List TR), i = cN ki ∧ j = cN kj ∧ 0 < ki ∧ 0 < kj ∧ ki = X1.length ∧ kj = Y1.length ∧ P1.length + ki = m ∧ ST w g tl (P1 ++ X1 ++ Y1 ++ S1) wr ∧ T = P1 ++ Y1 ++ X1 ++ S1 ∧ N = (P1 ++ X1 ++ Y1 ++ S1).length) (fun i j _ => (intOf i).toNat + (intOf j).toNat)
  case atStart =>
    obtain ⟨P1, X1, Y1, S1, h1, h2, h3, h4, h5, h6⟩ := HST.out
    exact ⟨i0, j0, P1, X1, Y1, S1, rfl, rfl, hX, hY, h1, h2, h3, h4, h5, h6⟩
  case round =>
    obtain ⟨ki, kj, P1, X1, Y1, S1, rfl, rfl, hi, hj, hx, hy, hm, hS, hT, hN⟩ := hrel
    have HT := Lib.hid hT
    have HX := Lib.hid hx
    have HY := Lib.hid hy
    have HS := Lib.hid hS
    have HN := Lib.hid hN
    have HM := Lib.hid hm
    have hkN : m + kj ≤ N := by rw [hN, ← hm, hx, hy]; simp; omega
    have hki : ki ≤ m := by omega
    clear hT hx hy hS hN hm
    by_cases hne : ki = kj
    · subst hne
      have g1 : ((ki : Int) != (ki : Int)) = false := by simp
      have c1 := swpint_ok w g tl cap fv P1 X1 [] Y1 S1 (m - ki) m ki N HX.out.symm HY.out.symm (by have := HM.out; omega) (by have := HM.out; simp; omega) (by rw [HN.out]; simp) hN2 wr (by simpa using HS.out)
      have e3 : (m : Int) - (ki : Int) = ((m - ki : Nat) : Int) := by omega
      clear hi hj
      go_wp2_with fail
      with_reducible refine c1.mono ?_
      rintro e w1 ⟨rfl, hE⟩
      have HE := Lib.hid hE
      clear hE
      go_wp2
      go_end0
      refine ⟨rfl, ?_⟩
      rw [HT.out]
      simpa using HE.out
    · have g1 : ((ki : Int) != (kj : Int)) = true := by simp; omega
      by_cases hgt : kj < ki
      · have g2 : (kj : Int) < (ki : Int) := by omega
        obtain ⟨XA, XB, rfl, hxa⟩ : ∃ XA XB, X1 = XA ++ XB ∧ XA.length = kj := ⟨X1.take kj, X1.drop kj, (List.take_append_drop _ _).symm, by rw [List.length_take, ← HX.out]; omega⟩
        have hxb : kj + XB.length = ki := by have := HX.out; simp at this; omega
        have c1 := swpint_ok w g tl cap fv P1 XA XB Y1 S1 (m - ki) m kj N hxa HY.out.symm (by have := HM.out; omega) (by have := HM.out; omega) (by rw [HN.out]; simp) hN2 wr (by simpa using HS.out)
        have e3 : (m : Int) - (ki : Int) = ((m - ki : Nat) : Int) := by omega
        have HXA := Lib.hid hxa
        have HXB := Lib.hid hxb
        clear hne hgt hxa hxb
        go_wp2_with fail
        with_reducible refine c1.mono ?_
        rintro e w1 ⟨rfl, hE⟩
        have HE := Lib.hid hE
        clear hE
        go_wp2
        go_roundw
        case rel => exact ⟨ki - kj, kj, P1 ++ Y1, XB, XA, S1, num_eq (by omega), rfl, by omega, by omega, by have := HXB.out; omega, HXA.out.symm, by have := HY.out; have := HM.out; simp; omega, by simpa using HE.out, by rw [HT.out]; simp, by rw [HN.out]; simp; omega⟩
        case measure => simp [intOf]; omega
      · have g2 : ¬ (kj : Int) < (ki : Int) := by omega
        have hlt2 : ki < kj := by omega
        obtain ⟨YA, YB, rfl, hya⟩ : ∃ YA YB, Y1 = YA ++ YB ∧ YA.length = kj - ki := ⟨Y1.take (kj - ki), Y1.drop (kj - ki), (List.take_append_drop _ _).symm, by rw [List.length_take, ← HY.out]; omega⟩
        have hyb : YB.length = ki := by have := HY.out; simp at this; omega
        have c1 := swpint_ok w g tl cap fv P1 X1 YA YB S1 (m - ki) (m + (kj - ki)) ki N HX.out.symm hyb (by have := HM.out; omega) (by have := HM.out; omega) (by rw [HN.out]; simp) hN2 wr (by simpa using HS.out)
        have e3 : (m : Int) - (ki : Int) = ((m - ki : Nat) : Int) := by omega
        have e4 : (m : Int) + (kj : Int) - (ki : Int) = (m : Int) + ((kj - ki : Nat) : Int) := by omega
        rw [show ((m + (kj - ki) : Nat) : Int) = (m : Int) + ((kj - ki : Nat) : Int) by omega] at c1
        have HYA := Lib.hid hya
        have HYB := Lib.hid hyb
        clear hne hgt hya hyb
        go_wp2_with fail
        with_reducible refine c1.mono ?_
        rintro e w1 ⟨rfl, hE⟩
        have HE := Lib.hid hE
        clear hE
        go_wp2
        go_roundw
        case rel => exact ⟨ki, kj - ki, P1, YB, YA, X1 ++ S1, rfl, num_eq (by omega), by omega, by omega, HYB.out.symm, HYA.out.symm, HM.out, by simpa using HE.out, by rw [HT.out]; simp, by rw [HN.out]; simp; omega⟩
        case measure => simp [intOf]; omega
end Go.Proofs.YtnmlephjhcmbhaaGreat
