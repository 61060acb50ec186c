/- Package datetime and its reference: seconds. -/
import Derived.Test.YtnmlephjhcmbhaaDtd
import Derived.Test.YtnmlephjhcmbhaaDsm
namespace Go.Proofs.Ytnmlephjhcmbhaa
set_option linter.unusedSimpArgs false
set_option linter.unusedVariables false
open Go Go.RowKit
abbrev clkV (Y M D h m s : Nat) : Value := .agg #[cI Y, cI M, cI D, cI h, cI m, cI s]
/-- The clock that came in lies in the call's first block. -/
def BW (w : World) (Y M D h m s : Nat) (wr : World) : Prop := wr.heap[w.heap.size]? = some (.cells #[cI Y, cI M, cI D, cI h, cI m, cI s] 117 (0, 0)) ∧ Below w.heap.size w wr
theorem BW.c {w wr : World} {Y M D h m s : Nat} (H : BW w Y M D h m s wr) : wr.cell? ⟨w.heap.size, 0, none⟩ = some (cI Y) ∧ wr.cell? ⟨w.heap.size, 1, none⟩ = some (cI M) ∧ wr.cell? ⟨w.heap.size, 2, none⟩ = some (cI D) ∧ wr.cell? ⟨w.heap.size, 3, none⟩ = some (cI h) ∧ wr.cell? ⟨w.heap.size, 4, none⟩ = some (cI m) ∧ wr.cell? ⟨w.heap.size, 5, none⟩ = some (cI s) := cells6 H.1
theorem BW.lt {w wr : World} {Y M D h m s : Nat} (H : BW w Y M D h m s wr) : w.heap.size < wr.heap.size := by
  rcases Nat.lt_or_ge w.heap.size wr.heap.size with h' | h'
  · exact h'
  · have := H.1
    simp [Array.getElem?_eq_none h'] at this
theorem BW.below {w wr w1 : World} {Y M D h m s : Nat} (H : BW w Y M D h m s wr) (k : Below wr.heap.size wr w1) : BW w Y M D h m s w1 :=
  ⟨(k.block _ H.lt).trans H.1, H.2.trans (k.mono H.2.size)⟩
theorem BW.start (w : World) (Y M D h m s : Nat) : BW w Y M D h m s (w.alloc (.cells #[cI Y, cI M, cI D, cI h, cI m, cI s] 117)) :=
  ⟨World.alloc_heap_new _ _, (Below.refl _ w).alloc (Nat.le_refl _) _⟩
theorem up_step {j k A X z : Nat} (hk : 1970 + j = k) (hX : X = A + sumY 1970 j) (hz : yD k = z) : X + z = A + sumY 1970 (j + 1) := by
  rw [sumY, hk, hz, hX, Nat.add_assoc]
theorem dn_step {Y j k A z : Nat} {X : Int} (hk : Y + j = k) (hX : X = (A : Int) - (sumY Y j : Nat)) (hz : yD k = z) : X - (z : Nat) = (A : Int) - (sumY Y (j + 1) : Nat) := by
  rw [sumY, hk, hz, hX]; omega
set_option maxRecDepth 100000 in
set_option maxHeartbeats 2000000 in
theorem seconds_ok (Y M D h m s : Nat) (w : World) (hv : validB Y M D h m s = true) :
    Calls Try.prog 184 #[clkV Y M D h m s] w fun e w' => e = .returned (cI (secI Y M D h m s)) ∧ Below w.heap.size w w' := by
  have hb := dayI_bd Y M D h m s hv
  have hV := (validB_iff Y M D h m s).1 hv
  have q2 := (mD_ge Y M).2
  have HV := Lib.hid hV
  have g1 : (1 : Int) ≤ (D : Int) := by omega
  have g2 : (D : Int) ≤ 31 := by omega
  have g3 : (h : Int) ≤ 23 := by omega
  have g4 : (m : Int) ≤ 59 := by omega
  have g5 : (s : Int) ≤ 59 := by omega
  have e0 : (0 : Int) ≤ (D : Int) - 1 := by omega
  clear hv q2 hV
  go_enter Try.func184, Try.ntmps184
  go_wp2
  go_loopw [3, 4] (fun t k wr => ∃ c X n : Nat, Hid (c + 1 = n ∧ n ≤ M ∧ X = D - 1 + dM Y c) ∧ t = cI (X : Int) ∧ k = cI (n : Int) ∧ BW w Y M D h m s wr) (fun _ k _ => M - (intOf k).toNat)
  case atStart => exact ⟨0, D - 1, 1, Lib.hid ⟨rfl, by have := HV.out; omega, rfl⟩, congrArg (Value.int IntKind.i64) (by omega), rfl, BW.start w Y M D h m s⟩
  case round =>
    obtain ⟨c, X, n, HR, rfl, rfl, H⟩ := hrel
    obtain ⟨c0, c1, c2, c3, c4, c5⟩ := H.c
    have bX : X ≤ 100000 := by
      have := HR.out; have := HV.out; have := dM_le Y c; omega
    by_cases hlt : n < M
    · obtain ⟨z, hz⟩ : ∃ z, mD Y n = z := ⟨_, rfl⟩
      have d1 := fun W => monthDays_ok Y n W (by have := HR.out; omega) (by have := HR.out; have := HV.out; omega)
      have bz : z ≤ 31 := by rw [← hz]; exact (mD_ge Y n).2
      have bn : n < 12 := by have := HV.out; omega
      rw [hz] at d1
      have HZ := Lib.hid hz
      clear hz
      go_wp2_with (go_at_call 153; (with_reducible refine (d1 _).mono ?_); rintro e w1 ⟨rfl, hBm⟩; have H1 := H.below hBm; clear hBm)
      go_roundw
      case rel =>
        refine ⟨c + 1, X + z, n + 1, Lib.hid ⟨by rw [HR.out.1], hlt, ?_⟩, by go_num, by go_num, H1⟩
        obtain ⟨r1, r2, r3⟩ := HR.out
        rw [dM, r1, HZ.out, r3, Nat.add_assoc]
      case measure => simp only [intOf]; omega
    · have hXA : Hid (X = D - 1 + dM Y (M - 1)) := Lib.hid (by
        obtain ⟨r1, r2, r3⟩ := HR.out
        rw [r3, show M - 1 = c by omega])
      go_wp2
      clear c0 c1 c2 c3 c4 c5 HR hlt
      rename_i wr
      go_loopw [3, 5] (fun t k wr => ∃ j X' k' : Nat, Hid (1970 + j = k' ∧ j ≤ Y - 1970 ∧ X' = X + sumY 1970 j) ∧ t = cI (X' : Int) ∧ k = cI (k' : Int) ∧ BW w Y M D h m s wr) (fun _ k _ => Y - (intOf k).toNat)
      case atStart => exact ⟨0, X, 1970, Lib.hid ⟨rfl, Nat.zero_le _, rfl⟩, rfl, rfl, H⟩
      case round =>
        clear H
        obtain ⟨j, X', k', HR, rfl, rfl, H⟩ := hrel
        obtain ⟨c0, c1, c2, c3, c4, c5⟩ := H.c
        have bX' : X' ≤ 200000 := by
          have := HR.out; have := HV.out; have := sumY_le 1970 j; omega
        have bk : k' ≤ 2155 := by
          have := HR.out; have := HV.out; omega
        by_cases hlt : k' < Y
        · obtain ⟨z, hz⟩ : ∃ z, yD k' = z := ⟨_, rfl⟩
          have d1 := fun W => yearDays_ok k' W
          have bz : z ≤ 366 := by rw [← hz]; exact (yD_ge k').2
          rw [hz] at d1
          have HZ := Lib.hid hz
          clear hz
          go_wp2_with (go_at_call 152; (with_reducible refine (d1 _).mono ?_); rintro e w1 ⟨rfl, rfl⟩)
          go_roundw
          case rel =>
            obtain ⟨r1, r2, r3⟩ := HR.out
            exact ⟨j + 1, X' + z, k' + 1, Lib.hid ⟨by rw [← r1]; rfl, by omega, up_step r1 r3 HZ.out⟩, by go_num, by go_num, H⟩
          case measure => simp only [intOf]; omega
        · have hXB : Hid ((X' : Int) = (sumY 1970 (Y - 1970) : Nat) + (X : Int)) := Lib.hid (by
            obtain ⟨r1, r2, r3⟩ := HR.out
            rw [r3, show Y - 1970 = j by omega]
            omega)
          go_wp2
          clear c0 c1 c2 c3 c4 c5 HR hlt bk
          go_loopw [3, 6] (fun t k wr => ∃ (j : Nat) (X2 : Int) (k' : Nat), Hid (Y + j = k' ∧ j ≤ 1970 - Y ∧ X2 = (X' : Int) - (sumY Y j : Nat)) ∧ t = cI X2 ∧ k = cI (k' : Int) ∧ BW w Y M D h m s wr) (fun _ k _ => 1970 - (intOf k).toNat)
          case atStart => exact ⟨0, X', Y, Lib.hid ⟨rfl, Nat.zero_le _, by simp [sumY]⟩, rfl, rfl, H⟩
          case round =>
            clear H
            obtain ⟨j, X2, k', HR, rfl, rfl, H⟩ := hrel
            obtain ⟨c0, c1, c2, c3, c4, c5⟩ := H.c
            have bX2 : X2 ≤ 200000 := by
              have := HR.out; omega
            have bX3 : -200000 ≤ X2 := by
              have := HR.out; have := HV.out; have := sumY_le Y j; omega
            have bk : k' ≤ 2155 := by
              have := HR.out; have := HV.out; omega
            by_cases hlt : k' < 1970
            · obtain ⟨z, hz⟩ : ∃ z, yD k' = z := ⟨_, rfl⟩
              have d1 := fun W => yearDays_ok k' W
              have bz : z ≤ 366 := by rw [← hz]; exact (yD_ge k').2
              rw [hz] at d1
              have HZ := Lib.hid hz
              clear hz
              go_wp2_with (go_at_call 152; (with_reducible refine (d1 _).mono ?_); rintro e w1 ⟨rfl, rfl⟩)
              go_roundw
              case rel =>
                obtain ⟨r1, r2, r3⟩ := HR.out
                exact ⟨j + 1, X2 - z, k' + 1, Lib.hid ⟨by rw [← r1]; rfl, by omega, dn_step r1 r3 HZ.out⟩, by go_num, by go_num, H⟩
              case measure => simp only [intOf]; omega
            · have hfin : Hid (secI Y M D h m s = X2 * 86400 + h * 3600 + m * 60 + s) := Lib.hid (by
                obtain ⟨r1, r2, r3⟩ := HR.out
                have r4 : X2 = (X' : Int) - (sumY Y (1970 - Y) : Nat) := by rw [r3, show 1970 - Y = j by omega]
                have r5 := hXB.out
                have r6 := hXA.out
                rw [secI, dayI]
                omega)
              go_wp2
              go_ret
              refine ⟨?_, H.2⟩
              show Ending.returned (cI (X2 * 86400 + h * 3600 + m * 60 + s)) = _
              rw [hfin.out]
set_option maxRecDepth 100000 in
set_option maxHeartbeats 2000000 in
theorem rseconds_ok (Y M D h m s : Nat) (w : World) (hv : validB Y M D h m s = true) :
    Calls Try.prog 163 #[clkV Y M D h m s] w fun e w' => e = .returned (cI (secI Y M D h m s)) ∧ Below w.heap.size w w' := by
  have hb := dayI_bd Y M D h m s hv
  have hV := (validB_iff Y M D h m s).1 hv
  have q2 := (mD_ge Y M).2
  have HV := Lib.hid hV
  have g1 : (1 : Int) ≤ (D : Int) := by omega
  have g2 : (D : Int) ≤ 31 := by omega
  have g3 : (h : Int) ≤ 23 := by omega
  have g4 : (m : Int) ≤ 59 := by omega
  have g5 : (s : Int) ≤ 59 := by omega
  clear hv q2 hV
  go_enter Try.func163, Try.ntmps163
  go_wp2
  go_loopw [3, 4] (fun t k wr => ∃ j X k' : Nat, Hid (1970 + j = k' ∧ j ≤ Y - 1970 ∧ X = 0 + sumY 1970 j) ∧ t = cI (X : Int) ∧ k = cI (k' : Int) ∧ BW w Y M D h m s wr) (fun _ k _ => Y - (intOf k).toNat)
  case atStart => exact ⟨0, 0, 1970, Lib.hid ⟨rfl, Nat.zero_le _, rfl⟩, rfl, rfl, BW.start w Y M D h m s⟩
  case round =>
    obtain ⟨j, X, k', HR, rfl, rfl, H⟩ := hrel
    obtain ⟨c0, c1, c2, c3, c4, c5⟩ := H.c
    have bX : X ≤ 100000 := by
      have := HR.out; have := HV.out; have := sumY_le 1970 j; omega
    have bk : k' ≤ 2155 := by
      have := HR.out; have := HV.out; omega
    by_cases hlt : k' < Y
    · obtain ⟨z, hz⟩ : ∃ z, yD k' = z := ⟨_, rfl⟩
      have d1 := fun W => ryear_ok k' W
      have bz : z ≤ 366 := by rw [← hz]; exact (yD_ge k').2
      rw [hz] at d1
      have HZ := Lib.hid hz
      clear hz
      go_wp2_with (go_at_call 180; (with_reducible refine (d1 _).mono ?_); rintro e w1 ⟨rfl, rfl⟩)
      go_roundw
      case rel =>
        obtain ⟨r1, r2, r3⟩ := HR.out
        exact ⟨j + 1, X + z, k' + 1, Lib.hid ⟨by rw [← r1]; rfl, by omega, up_step r1 r3 HZ.out⟩, by go_num, by go_num, H⟩
      case measure => simp only [intOf]; omega
    · have hXA : Hid (X = sumY 1970 (Y - 1970)) := Lib.hid (by
        obtain ⟨r1, r2, r3⟩ := HR.out
        rw [r3, show Y - 1970 = j by omega, Nat.zero_add])
      go_wp2
      clear c0 c1 c2 c3 c4 c5 HR hlt bk
      go_loopw [3, 5] (fun t k wr => ∃ (j : Nat) (X2 : Int) (k' : Nat), Hid (Y + j = k' ∧ j ≤ 1970 - Y ∧ X2 = (X : Int) - (sumY Y j : Nat)) ∧ t = cI X2 ∧ k = cI (k' : Int) ∧ BW w Y M D h m s wr) (fun _ k _ => 1970 - (intOf k).toNat)
      case atStart => exact ⟨0, X, Y, Lib.hid ⟨rfl, Nat.zero_le _, by simp [sumY]⟩, rfl, rfl, H⟩
      case round =>
        clear H
        obtain ⟨j, X2, k', HR, rfl, rfl, H⟩ := hrel
        obtain ⟨c0, c1, c2, c3, c4, c5⟩ := H.c
        have bX2 : X2 ≤ 200000 := by
          have := HR.out; omega
        have bX3 : -200000 ≤ X2 := by
          have := HR.out; have := HV.out; have := sumY_le Y j; omega
        have bk : k' ≤ 2155 := by
          have := HR.out; have := HV.out; omega
        by_cases hlt : k' < 1970
        · obtain ⟨z, hz⟩ : ∃ z, yD k' = z := ⟨_, rfl⟩
          have d1 := fun W => ryear_ok k' W
          have bz : z ≤ 366 := by rw [← hz]; exact (yD_ge k').2
          rw [hz] at d1
          have HZ := Lib.hid hz
          clear hz
          go_wp2_with (go_at_call 180; (with_reducible refine (d1 _).mono ?_); rintro e w1 ⟨rfl, rfl⟩)
          go_roundw
          case rel =>
            obtain ⟨r1, r2, r3⟩ := HR.out
            exact ⟨j + 1, X2 - z, k' + 1, Lib.hid ⟨by rw [← r1]; rfl, by omega, dn_step r1 r3 HZ.out⟩, by go_num, by go_num, H⟩
          case measure => simp only [intOf]; omega
        · have hXB : Hid (X2 = (sumY 1970 (Y - 1970) : Nat) - (sumY Y (1970 - Y) : Nat)) := Lib.hid (by
            obtain ⟨r1, r2, r3⟩ := HR.out
            rw [r3, show 1970 - Y = j by omega, hXA.out])
          go_wp2
          clear c0 c1 c2 c3 c4 c5 HR hlt bk
          generalize decide ((k' : Int) < 1970) = bb
          go_loopw [3, 6] (fun t k wr => ∃ (c : Nat) (X3 : Int) (n : Nat), Hid (c + 1 = n ∧ n ≤ M ∧ X3 = X2 + dM Y c) ∧ t = cI X3 ∧ k = cI (n : Int) ∧ BW w Y M D h m s wr) (fun _ k _ => M - (intOf k).toNat)
          case atStart => exact ⟨0, X2, 1, Lib.hid ⟨rfl, by have := HV.out; omega, by simp [dM]⟩, rfl, rfl, H⟩
          case round =>
            clear H
            obtain ⟨c, X3, n, HR, rfl, rfl, H⟩ := hrel
            obtain ⟨c0, c1, c2, c3, c4, c5⟩ := H.c
            have bY : X3 ≤ 400000 := by
              have := HR.out; have := HV.out; have := dM_le Y c; omega
            have bZ : -400000 ≤ X3 := by
              have := HR.out; omega
            by_cases hlt : n < M
            · obtain ⟨z, hz⟩ : ∃ z, mD Y n = z := ⟨_, rfl⟩
              have d1 := fun W => rdays_ok Y n W (by have := HR.out; omega) (by have := HR.out; have := HV.out; omega)
              have bz : z ≤ 31 := by rw [← hz]; exact (mD_ge Y n).2
              have bn : n < 12 := by have := HV.out; omega
              rw [hz] at d1
              have HZ := Lib.hid hz
              clear hz
              go_wp2_with (go_at_call 162; (with_reducible refine (d1 _).mono ?_); rintro e w1 ⟨rfl, rfl⟩)
              go_roundw
              case rel =>
                refine ⟨c + 1, X3 + z, n + 1, Lib.hid ⟨by rw [HR.out.1], hlt, ?_⟩, by go_num, by go_num, H⟩
                obtain ⟨r1, r2, r3⟩ := HR.out
                rw [dM, r1, HZ.out, r3]
                omega
              case measure => simp only [intOf]; omega
            · have hfin : Hid (secI Y M D h m s = (X3 + D - 1) * 86400 + h * 3600 + m * 60 + s) := Lib.hid (by
                obtain ⟨r1, r2, r3⟩ := HR.out
                have r4 : X3 = X2 + dM Y (M - 1) := by rw [r3, show M - 1 = c by omega]
                have r5 := hXB.out
                rw [secI, dayI]
                omega)
              go_wp2
              go_ret
              refine ⟨?_, H.2⟩
              show Ending.returned (cI ((X3 + D - 1) * 86400 + h * 3600 + m * 60 + s)) = _
              rw [hfin.out]
end Go.Proofs.Ytnmlephjhcmbhaa
