/- Package datetime: Split. -/
import Derived.Test.YtnmlephjhcmbhaaDta
namespace Go.Proofs.Ytnmlephjhcmbhaa
set_option linter.unusedSimpArgs false
set_option linter.unusedVariables false
open Go Go.RowKit
abbrev cI (n : Int) : Value := .int .i64 n
/-- The clock of a date and a time of day, as a value. -/
def clkA (x : Dt) (h m s : Nat) : Array Value := #[cI ((1970 + x.k : Nat) : Int), cI ((x.c + 1 : Nat) : Int), cI ((x.d + 1 : Nat) : Int), cI h, cI m, cI s]
theorem wrap_le (z : Int) (h0 : 0 ≤ z) (h1 : z < 1000000000000) : wrap64 z = z := by unfold wrap64; omega
theorem year_step {x : Dt} {j Y D : Nat} (hY : 1970 + j = Y) (hD : D + dU j = x.days) (hN : x.days < 48000) (hlt : j < x.k) :
    ∃ E, Hid (1970 + (j + 1) = Y + 1 ∧ j + 1 ≤ x.k ∧ E + dU (j + 1) = x.days) ∧ Hid (E < D) ∧ ((yD Y : Nat) : Int) ≤ (D : Int) ∧ wrap64 ((D : Int) - ((yD Y : Nat) : Int)) = (E : Int) ∧ wrap64 ((Y : Int) + 1) = ((Y + 1 : Nat) : Int) := by
  have q0 : dU (j + 1) ≤ dU x.k := dU_mono (by omega)
  have qs : dU (j + 1) = dU j + yD (1970 + j) := rfl
  rw [hY] at qs
  have q1 : dU x.k ≤ x.days := by rw [Dt.days]; omega
  have q2 := yD_ge Y
  have q3 := dU_ge j
  refine ⟨D - yD Y, Lib.hid ⟨by omega, by omega, by omega⟩, Lib.hid (by omega), by omega, ?_, ?_⟩
  · rw [wrap_le _ (by omega) (by omega)]; omega
  · rw [wrap_le _ (by omega) (by omega)]; omega
theorem year_stop {x : Dt} {j Y D : Nat} (hx : x.Good) (hY : 1970 + j = Y) (hj : j ≤ x.k) (hD : D + dU j = x.days) (hlt : ¬ j < x.k) :
    ¬ ((yD Y : Nat) : Int) ≤ (D : Int) ∧ Hid (1970 + x.k = Y ∧ D = dM Y x.c + x.d) := by
  have h1 := hx.lt_year
  obtain rfl : j = x.k := by omega
  rw [hY] at h1
  rw [Dt.days, hY] at hD
  exact ⟨by omega, Lib.hid ⟨hY, by omega⟩⟩
theorem month_step {c d Y e M D : Nat} (hM : e + 1 = M) (hD : D + dM Y e = dM Y c + d) (hc : c < 12) (hlt : e < c) (hN : D < 48000) :
    ∃ E, Hid (e + 1 + 1 = M + 1 ∧ e + 1 ≤ c ∧ E + dM Y (e + 1) = dM Y c + d) ∧ Hid (E < D) ∧ ((mD Y M : Nat) : Int) ≤ (D : Int) ∧ wrap64 ((D : Int) - ((mD Y M : Nat) : Int)) = (E : Int) ∧ wrap64 ((M : Int) + 1) = ((M + 1 : Nat) : Int) ∧ 1 ≤ M ∧ M ≤ 12 := by
  have q0 : dM Y (e + 1) ≤ dM Y c := dM_mono Y (by omega)
  have qs : dM Y (e + 1) = dM Y e + mD Y M := by rw [← hM]; rfl
  have q2 := mD_ge Y M
  refine ⟨D - mD Y M, Lib.hid ⟨by omega, by omega, by omega⟩, Lib.hid (by omega), by omega, ?_, ?_, by omega, by omega⟩
  · rw [wrap_le _ (by omega) (by omega)]; omega
  · rw [wrap_le _ (by omega) (by omega)]; omega
theorem month_stop {c d Y e M D : Nat} (hd : d < mD Y (c + 1)) (hc : c < 12) (hM : e + 1 = M) (he : e ≤ c) (hD : D + dM Y e = dM Y c + d) (hlt : ¬ e < c) :
    ¬ ((mD Y M : Nat) : Int) ≤ (D : Int) ∧ Hid (c + 1 = M ∧ D = d) ∧ 1 ≤ M ∧ M ≤ 12 ∧ wrap64 ((D : Int) + 1) = ((D + 1 : Nat) : Int) := by
  obtain rfl : e = c := by omega
  rw [hM] at hd
  have q2 := mD_ge Y M
  exact ⟨by omega, Lib.hid ⟨hM, by omega⟩, by omega, by omega, by rw [wrap_le _ (by omega) (by omega)]; omega⟩
/-- The two clocks of a Split: the result's, still zero, and the one under way. -/
def CkSt (w : World) (Y M D h m s : Nat) (wr : World) : Prop :=
  wr.heap[w.heap.size + 1]? = some (.cells #[cI (Y : Int), cI (M : Int), cI (D : Int), cI h, cI m, cI s] 117 (0, 0)) ∧ wr.heap[w.heap.size]? = some (.cells #[cI 0, cI 0, cI 0, cI 0, cI 0, cI 0] 117 (0, 0)) ∧ Below w.heap.size w wr
theorem CkSt.c0 {w wr : World} {Y M D h m s : Nat} (H : CkSt w Y M D h m s wr) : wr.cell? ⟨w.heap.size + 1, 0, none⟩ = some (cI Y) := by rw [Lib.cell_of_heap H.1]; rfl
theorem CkSt.c1 {w wr : World} {Y M D h m s : Nat} (H : CkSt w Y M D h m s wr) : wr.cell? ⟨w.heap.size + 1, 1, none⟩ = some (cI M) := by rw [Lib.cell_of_heap H.1]; rfl
theorem CkSt.c2 {w wr : World} {Y M D h m s : Nat} (H : CkSt w Y M D h m s wr) : wr.cell? ⟨w.heap.size + 1, 2, none⟩ = some (cI D) := by rw [Lib.cell_of_heap H.1]; rfl
theorem CkSt.c345 {w wr : World} {Y M D h m s : Nat} (H : CkSt w Y M D h m s wr) : wr.cell? ⟨w.heap.size + 1, 3, none⟩ = some (cI h) ∧ wr.cell? ⟨w.heap.size + 1, 4, none⟩ = some (cI m) ∧ wr.cell? ⟨w.heap.size + 1, 5, none⟩ = some (cI s) := by
  rw [Lib.cell_of_heap H.1, Lib.cell_of_heap H.1, Lib.cell_of_heap H.1]; exact ⟨rfl, rfl, rfl⟩
theorem CkSt.r {w wr : World} {Y M D h m s : Nat} (H : CkSt w Y M D h m s wr) (j : Nat) (hj : j < 6) : wr.cell? ⟨w.heap.size, j, none⟩ = some (cI 0) := by
  rw [Lib.cell_of_heap H.2.1]
  match j, hj with
  | 0, _ | 1, _ | 2, _ | 3, _ | 4, _ | 5, _ => rfl
theorem CkSt.rf {w wr : World} {Y M D h m s : Nat} (H : CkSt w Y M D h m s wr) (j : Nat) : wr.frozen? ⟨w.heap.size, j, none⟩ = false := Lib.frozen_of_heap H.2.1 j
theorem CkSt.fz {w wr : World} {Y M D h m s : Nat} (H : CkSt w Y M D h m s wr) (j : Nat) : wr.frozen? ⟨w.heap.size + 1, j, none⟩ = false := Lib.frozen_of_heap H.1 j
theorem CkSt.lt {w wr : World} {Y M D h m s : Nat} (H : CkSt w Y M D h m s wr) : w.heap.size + 1 < wr.heap.size := by
  rcases Nat.lt_or_ge (w.heap.size + 1) wr.heap.size with h' | h'
  · exact h'
  · have := H.1
    simp [Array.getElem?_eq_none h'] at this
theorem CkSt.below {w wr w1 : World} {Y M D h m s : Nat} (H : CkSt w Y M D h m s wr) (k : Below wr.heap.size wr w1) : CkSt w Y M D h m s w1 :=
  ⟨(k.block _ H.lt).trans H.1, (k.block _ (by have := H.lt; omega)).trans H.2.1, H.2.2.trans (k.mono H.2.2.size)⟩
theorem CkSt.year {w wr : World} {Y M D h m s : Nat} (H : CkSt w Y M D h m s wr) : CkSt w (Y + 1) M D h m s (wr.setCell ⟨w.heap.size + 1, 0, none⟩ (.int .i64 ((Y : Int) + 1))) :=
  ⟨row_set 0 _ H.1, row_other 0 _ H.2.1 (by omega), H.2.2.setCell (p := ⟨w.heap.size + 1, 0, none⟩) (by simp) _⟩
theorem CkSt.month {w wr : World} {Y M D h m s : Nat} (H : CkSt w Y M D h m s wr) : CkSt w Y (M + 1) D h m s (wr.setCell ⟨w.heap.size + 1, 1, none⟩ (.int .i64 ((M : Int) + 1))) :=
  ⟨row_set 1 _ H.1, row_other 1 _ H.2.1 (by omega), H.2.2.setCell (p := ⟨w.heap.size + 1, 1, none⟩) (by simp) _⟩
theorem CkSt.day {w wr : World} {Y M D h m s : Nat} (H : CkSt w Y M D h m s wr) (D' : Nat) : CkSt w Y M D' h m s (wr.setCell ⟨w.heap.size + 1, 2, none⟩ (.int .i64 (D' : Int))) :=
  ⟨row_set 2 _ H.1, row_other 2 _ H.2.1 (by omega), H.2.2.setCell (p := ⟨w.heap.size + 1, 2, none⟩) (by simp) _⟩
/-- A row of six cells, written over. -/
abbrev put6 (W : World) (b : Nat) (v0 v1 v2 v3 v4 v5 : Value) : World :=
  (((((W.setCell ⟨b, 0, none⟩ v0).setCell ⟨b, 1, none⟩ v1).setCell ⟨b, 2, none⟩ v2).setCell ⟨b, 3, none⟩ v3).setCell ⟨b, 4, none⟩ v4).setCell ⟨b, 5, none⟩ v5
theorem set6 {W : World} {b : Nat} {u0 u1 u2 u3 u4 u5 : Value} {t : TypeId} (h : W.heap[b]? = some (.cells #[u0, u1, u2, u3, u4, u5] t (0, 0))) (v0 v1 v2 v3 v4 v5 : Value) :
    (put6 W b v0 v1 v2 v3 v4 v5).heap[b]? = some (.cells #[v0, v1, v2, v3, v4, v5] t (0, 0)) :=
  row_set 5 v5 (row_set 4 v4 (row_set 3 v3 (row_set 2 v2 (row_set 1 v1 (row_set 0 v0 h)))))
theorem below6 {w W : World} (h : Below w.heap.size w W) (v0 v1 v2 v3 v4 v5 : Value) : Below w.heap.size w (put6 W w.heap.size v0 v1 v2 v3 v4 v5) :=
  (((((h.setCell (p := ⟨w.heap.size, 0, none⟩) (Nat.le_refl _) v0).setCell (p := ⟨w.heap.size, 1, none⟩) (Nat.le_refl _) v1).setCell (p := ⟨w.heap.size, 2, none⟩) (Nat.le_refl _) v2).setCell (p := ⟨w.heap.size, 3, none⟩) (Nat.le_refl _) v3).setCell (p := ⟨w.heap.size, 4, none⟩) (Nat.le_refl _) v4).setCell (p := ⟨w.heap.size, 5, none⟩) (Nat.le_refl _) v5
theorem cells6 {W : World} {b : Nat} {u0 u1 u2 u3 u4 u5 : Value} {t : TypeId} (h : W.heap[b]? = some (.cells #[u0, u1, u2, u3, u4, u5] t (0, 0))) :
    W.cell? ⟨b, 0, none⟩ = some u0 ∧ W.cell? ⟨b, 1, none⟩ = some u1 ∧ W.cell? ⟨b, 2, none⟩ = some u2 ∧ W.cell? ⟨b, 3, none⟩ = some u3 ∧ W.cell? ⟨b, 4, none⟩ = some u4 ∧ W.cell? ⟨b, 5, none⟩ = some u5 := by
  simp only [Lib.cell_of_heap h]
  exact ⟨rfl, rfl, rfl, rfl, rfl, rfl⟩
set_option maxRecDepth 100000 in
set_option maxHeartbeats 1000000 in
theorem split_ok (t z : Int) (x : Dt) (h m s : Nat) (w : World) (hx : x.Good) (ht : 315532800 ≤ t ∧ t ≤ 4102444799) (hz : -1440 ≤ z ∧ z ≤ 1440)
    (hh : h < 24) (hm : m < 60) (hs : s < 60) (hl : t + 60 * z = (x.days : Int) * 86400 + h * 3600 + m * 60 + s) :
    Calls Try.prog 104 #[cI t, cI z] w fun e w' => e = .returned (.tuple #[.agg (clkA x h m s), cI 0]) ∧ Below w.heap.size w w' := by
  have c1 := fun W => isTime_ok t W
  rw [decide_eq_true ht] at c1
  have c2 := fun W => isZone_ok z W
  rw [decide_eq_true hz] at c2
  have a1 : IntKind.i64.wrap (60 * z) = 60 * z := by rw [IntKind.wrap_i64]; omega
  have a2 : IntKind.i64.wrap (t + 60 * z) = (x.days : Int) * 86400 + h * 3600 + m * 60 + s := by rw [IntKind.wrap_i64]; omega
  have a1' : wrap64 (60 * z) = 60 * z := by unfold wrap64; omega
  have a2' : wrap64 (t + 60 * z) = (x.days : Int) * 86400 + h * 3600 + m * 60 + s := by unfold wrap64; omega
  obtain ⟨L, hL⟩ : ∃ L : Nat, (x.days : Int) * 86400 + h * 3600 + m * 60 + s = L := ⟨x.days * 86400 + h * 3600 + m * 60 + s, by omega⟩
  rw [hL] at a2 a2'
  have hN : x.days < 48000 := by omega
  obtain ⟨sec, hsec⟩ : ∃ sec : Nat, L % 86400 = sec := ⟨_, rfl⟩
  have b1 : (L : Int).tdiv 86400 = (x.days : Int) := by rw [Int.tdiv_eq_ediv_of_nonneg (by omega)]; omega
  have b2 : (L : Int).tmod 86400 = (sec : Int) := by rw [Int.tmod_eq_emod_of_nonneg (by omega)]; omega
  have b1' : (L : Int) / 86400 = (x.days : Int) := by omega
  have b2' : (L : Int) % 86400 = (sec : Int) := by omega
  have b3 : (sec : Int) / 3600 = h := by omega
  have b4 : (sec : Int) / 60 % 60 = m := by omega
  have b5 : (sec : Int) % 60 = s := by omega
  have b6 : wrap64 (x.days : Int) = (x.days : Int) := by unfold wrap64; omega
  have HH := Lib.hid (And.intro hx hN)
  clear hl hL hsec ht hz hN hx
  go_enter Try.func104, Try.ntmps104
  go_wp2_with (first | (go_at_call 150; (with_reducible refine (c1 _).mono ?_); rintro e w1 ⟨rfl, rfl⟩) | (go_at_call 151; (with_reducible refine (c2 _).mono ?_); rintro e w1 ⟨rfl, rfl⟩))
  have HB6 := Lib.hid b6
  clear a1 a2 a1' a2' b1 b2 b1' b2' b3 b4 b5 b6 c1 c2
  go_loopw [7] (fun d wr => ∃ j Y D : Nat, Hid (1970 + j = Y ∧ j ≤ x.k ∧ D + dU j = x.days) ∧ d = cI (D : Int) ∧ CkSt w Y 1 0 h m s wr) (fun d _ => (intOf d).toNat)
  case atStart =>
    refine ⟨0, 1970, x.days, Lib.hid ⟨rfl, by omega, by simp [dU]⟩, by rw [HB6.out], ?_, ?_, ((Below.refl _ w).alloc (Nat.le_refl _) _).alloc (by simp) _⟩
    · have := World.alloc_heap_new (w.alloc (.cells #[cI 0, cI 0, cI 0, cI 0, cI 0, cI 0] 117)) (.cells #[cI 1970, cI 1, cI 0, cI h, cI m, cI s] 117)
      rw [World.size_alloc] at this
      exact this
    · rw [heap_alloc_get, if_neg (by simp)]
      exact World.alloc_heap_new _ _
  case round =>
    obtain ⟨j, Y, D, HR, rfl, H⟩ := hrel
    have e0 := H.c0
    have f0 := H.fz 0
    have c3 := fun W => yearDays_ok Y W
    obtain ⟨hY, hj, hD⟩ := HR.out
    by_cases hlt : j < x.k
    · obtain ⟨E, HR2, HM, g1, g2, g3⟩ := year_step hY hD HH.out.2 hlt
      clear hY hj hD hlt
      generalize yD Y = yd at c3 g1 g2
      go_wp2_with (first | (go_at_call 152; (with_reducible refine (c3 _).mono ?_); rintro e w1 ⟨rfl, rfl⟩))
      go_roundw
      case rel => exact ⟨j + 1, Y + 1, E, HR2, by rw [g2], H.year⟩
      case measure =>
        simp only [intOf]
        rw [g2, Int.toNat_natCast, Int.toNat_natCast]
        exact HM.out
    · obtain ⟨g1, HS⟩ := year_stop HH.out.1 hY hj hD hlt
      clear hY hj hD hlt
      go_wp2_with (first | (go_at_call 152; (with_reducible refine (c3 _).mono ?_); rintro e w1 ⟨rfl, rfl⟩))
      clear e0 f0 c3 g1 HR
      generalize decide (yD Y ≤ D) = bb
      generalize yD Y = yd
      go_loopw [7] (fun d wr => ∃ e M D : Nat, Hid (e + 1 = M ∧ e ≤ x.c ∧ D + dM Y e = dM Y x.c + x.d) ∧ d = cI (D : Int) ∧ CkSt w Y M 0 h m s wr) (fun d _ => (intOf d).toNat)
      case atStart => exact ⟨0, 1, D, Lib.hid ⟨rfl, Nat.zero_le _, by rw [HS.out.2]; simp [dM]⟩, rfl, H⟩
      case round =>
        clear H
        obtain ⟨e, M, D', HR, rfl, H⟩ := hrel
        have e0 := H.c0
        have e1 := H.c1
        have c3 := fun W => monthDays_ok Y M W
        obtain ⟨hM, he, hD⟩ := HR.out
        by_cases hlt : e < x.c
        · have hDN : D' < 48000 := by
            have q1 := HS.out.2
            have q2 := HH.out.2
            rw [Dt.days, HS.out.1] at q2
            omega
          obtain ⟨E, HR2, HM, g1, g2, g3, g4, g5⟩ := month_step hM hD HH.out.1.1 hlt hDN
          have c4 := fun W => c3 W g4 g5
          clear hM he hD hlt hDN c3 g4 g5
          generalize mD Y M = md at c4 g1 g2
          go_wp2_with (first | (go_at_call 153; (with_reducible refine (c4 _).mono ?_); rintro e w1 ⟨rfl, hBm⟩; have H := H.below hBm; have e0 := H.c0; have e1 := H.c1; have f1 := H.fz 1; clear hBm))
          go_roundw
          case rel => exact ⟨e + 1, M + 1, E, HR2, by rw [g2], H.month⟩
          case measure =>
            simp only [intOf]
            rw [g2, Int.toNat_natCast, Int.toNat_natCast]
            exact HM.out
        · obtain ⟨g1, HS2, g4, g5, g6⟩ := month_stop (by have := HH.out.1.2; rw [HS.out.1] at this; exact this) HH.out.1.1 hM he hD hlt
          have c4 := fun W => c3 W g4 g5
          clear hM he hD hlt c3 g4 g5
          generalize mD Y M = md at c4 g1
          go_wp2_with (first | (go_at_call 153; (with_reducible refine (c4 _).mono ?_); rintro e w1 ⟨rfl, hBm⟩; have H := H.below hBm; have e0 := H.c0; have e1 := H.c1; have e2 := H.c2; have f2 := H.fz 2; obtain ⟨e3, e4, e5⟩ := H.c345; have r0 := H.r 0 (by decide); have r1 := H.r 1 (by decide); have r2 := H.r 2 (by decide); have r3 := H.r 3 (by decide); have r4 := H.r 4 (by decide); have r5 := H.r 5 (by decide); have rf := H.rf; clear hBm))
          have hclk : clkA x h m s = #[cI Y, cI M, .int .i64 ((D' : Int) + 1), cI h, cI m, cI s] := by
            rw [clkA, HS.out.1, HS2.out.1, HS2.out.2, Int.natCast_add x.d 1]
            rfl
          rw [hclk]
          have hrow := set6 (row_other (B' := w.heap.size + 1) 2 (.int .i64 ((D' : Int) + 1)) H.2.1 (by omega)) (cI Y) (cI M) (.int .i64 ((D' : Int) + 1)) (cI h) (cI m) (cI s)
          have hbel := below6 (((H.2.2.setCell (p := ⟨w.heap.size + 1, 2, none⟩) (by simp) (.int .i64 ((D' : Int) + 1))))) (cI Y) (cI M) (.int .i64 ((D' : Int) + 1)) (cI h) (cI m) (cI s)
          refine bodyPost_ret (v := .tuple #[.agg #[cI Y, cI M, .int .i64 ((D' : Int) + 1), cI h, cI m, cI s], cI 0]) ?_ rfl ⟨rfl, hbel⟩
          obtain ⟨q0, q1, q2, q3, q4, q5⟩ := cells6 hrow
          simp [results, Try.results104, go_sem, q0, q1, q2, q3, q4, q5]
end Go.Proofs.Ytnmlephjhcmbhaa
