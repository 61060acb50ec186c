/- The reference of package datetime: utc, Split, Record. -/
import Derived.Test.YtnmlephjhcmbhaaDtc
namespace Go.Proofs.Ytnmlephjhcmbhaa
set_option linter.unusedSimpArgs false
set_option linter.unusedVariables false
open Go Go.RowKit
set_option maxRecDepth 100000 in
set_option maxHeartbeats 400000 in
theorem rTime_ok (t : Int) (w : World) : Calls Try.prog 112 #[.int .i64 t] w fun e w' => e = .returned (.bool (decide (315532800 ≤ t ∧ t ≤ 4102444799))) ∧ w = w' := by
  by_cases h1 : 315532800 ≤ t
  · by_cases h2 : t ≤ 4102444799
    · rw [decide_eq_true ⟨h1, h2⟩]
      go_enter Try.func112, Try.ntmps112
      go_wp2
      go_ret
      exact ⟨rfl, rfl⟩
    · rw [decide_eq_false fun h => h2 h.2]
      go_enter Try.func112, Try.ntmps112
      go_wp2
      go_ret
      exact ⟨rfl, rfl⟩
  · rw [decide_eq_false fun h => h1 h.1]
    go_enter Try.func112, Try.ntmps112
    go_wp2
    go_ret
    exact ⟨rfl, rfl⟩
set_option maxRecDepth 100000 in
set_option maxHeartbeats 400000 in
theorem rZone_ok (t : Int) (w : World) : Calls Try.prog 157 #[.int .i64 t] w fun e w' => e = .returned (.bool (decide (-1440 ≤ t ∧ t ≤ 1440))) ∧ w = w' := by
  by_cases h1 : -1440 ≤ t
  · by_cases h2 : t ≤ 1440
    · rw [decide_eq_true ⟨h1, h2⟩]
      go_enter Try.func157, Try.ntmps157
      go_wp2
      go_ret
      exact ⟨rfl, rfl⟩
    · rw [decide_eq_false fun h => h2 h.2]
      go_enter Try.func157, Try.ntmps157
      go_wp2
      go_ret
      exact ⟨rfl, rfl⟩
  · rw [decide_eq_false fun h => h1 h.1]
    go_enter Try.func157, Try.ntmps157
    go_wp2
    go_ret
    exact ⟨rfl, rfl⟩
set_option maxRecDepth 100000 in
set_option maxHeartbeats 400000 in
theorem rQuarter_ok (t : Int) (w : World) : Calls Try.prog 113 #[.int .i64 t] w fun e w' => e = .returned (.bool (decide (t % 15 = 0 ∧ -720 ≤ t ∧ t ≤ 780))) ∧ w = w' := by
  obtain ⟨r, hr⟩ : ∃ r, t.tmod 15 = r := ⟨_, rfl⟩
  have e : t % 15 = 0 ↔ r = 0 := by
    rw [← hr]
    constructor
    · intro h; exact Int.tmod_eq_zero_of_dvd (Int.dvd_of_emod_eq_zero h)
    · intro h; exact Int.emod_eq_zero_of_dvd (Int.dvd_of_tmod_eq_zero h)
  by_cases h1 : -720 ≤ t
  · by_cases h2 : t ≤ 780
    · by_cases h0 : r = 0
      · subst h0
        rw [decide_eq_true ⟨e.2 rfl, h1, h2⟩]
        clear e
        go_enter Try.func113, Try.ntmps113
        go_wp2
        go_ret
        exact ⟨rfl, rfl⟩
      · rw [decide_eq_false fun h => h0 (e.1 h.1)]
        have t0 : (r == 0) = false := by simpa using h0
        clear e
        go_enter Try.func113, Try.ntmps113
        go_wp2
        go_ret
        exact ⟨rfl, rfl⟩
    · rw [decide_eq_false fun h => h2 h.2.2]
      clear e
      go_enter Try.func113, Try.ntmps113
      go_wp2
      go_ret
      exact ⟨rfl, rfl⟩
  · rw [decide_eq_false fun h => h1 h.2.1]
    clear e
    go_enter Try.func113, Try.ntmps113
    go_wp2
    go_ret
    exact ⟨rfl, rfl⟩
set_option maxRecDepth 100000 in
set_option maxHeartbeats 1000000 in
theorem utc_ok (L : Nat) (x : Dt) (h m s : Nat) (w : World) (hx : x.Good) (hN : x.days < 48000)
    (hh : h < 24) (hm : m < 60) (hs : s < 60) (hL : (x.days : Int) * 86400 + h * 3600 + m * 60 + s = L) :
    Calls Try.prog 158 #[cI L] w fun e w' => e = .returned (.agg (clkA x h m s)) ∧ Below w.heap.size w w' := by
  obtain ⟨sec, hsec⟩ : ∃ sec : Nat, L % 86400 = sec := ⟨_, rfl⟩
  have b1 : (L : Int).tdiv 86400 = (x.days : Int) := by rw [Int.tdiv_eq_ediv_of_nonneg (by omega)]; omega
  have b2 : (L : Int).tmod 86400 = (sec : Int) := by rw [Int.tmod_eq_emod_of_nonneg (by omega)]; omega
  have b1' : (L : Int) / 86400 = (x.days : Int) := by omega
  have b2' : (L : Int) % 86400 = (sec : Int) := by omega
  have b3 : (sec : Int) / 3600 = h := by omega
  have b4 : (sec : Int) / 60 % 60 = m := by omega
  have b5 : (sec : Int) % 60 = s := by omega
  have b6 : wrap64 (x.days : Int) = (x.days : Int) := by unfold wrap64; omega
  have HH := Lib.hid (And.intro hx hN)
  have HK : Hid ((L : Int) % 86400 / 3600 = h ∧ (L : Int) % 86400 / 60 % 60 = m ∧ (L : Int) % 60 = s) := Lib.hid ⟨by rw [b2']; exact b3, by rw [b2']; exact b4, by rw [← Int.emod_emod_of_dvd (L : Int) (show (60 : Int) ∣ 86400 by decide), b2']; exact b5⟩
  clear hL hsec hN hx b2 b2' b3 b4 b5
  go_enter Try.func158, Try.ntmps158
  go_wp2
  have HB6 := Lib.hid b6
  clear b1 b1' b6
  go_loopw [4] (fun d wr => ∃ j Y D : Nat, Hid (1970 + j = Y ∧ j ≤ x.k ∧ D + dU j = x.days) ∧ d = cI (D : Int) ∧ CkSt w Y 1 1 0 0 0 wr) (fun d _ => (intOf d).toNat)
  case atStart =>
    refine ⟨0, 1970, x.days, Lib.hid ⟨rfl, by omega, by simp [dU]⟩, by rw [HB6.out], ?_, ?_, ((Below.refl _ w).alloc (Nat.le_refl _) _).alloc (by simp) _⟩
    · have := World.alloc_heap_new (w.alloc (.cells #[cI 0, cI 0, cI 0, cI 0, cI 0, cI 0] 117)) (.cells #[cI 1970, cI 1, cI 1, cI 0, cI 0, cI 0] 117)
      rw [World.size_alloc] at this
      exact this
    · rw [heap_alloc_get, if_neg (by simp)]
      exact World.alloc_heap_new _ _
  case round =>
    obtain ⟨j, Y, D, HR, rfl, H⟩ := hrel
    have e0 := H.c0
    have f0 := H.fz 0
    have c3 := fun W => ryear_ok Y W
    obtain ⟨hY, hj, hD⟩ := HR.out
    by_cases hlt : j < x.k
    · obtain ⟨E, HR2, HM, g1, g2, g3⟩ := year_step hY hD HH.out.2 hlt
      clear hY hj hD hlt
      generalize yD Y = yd at c3 g1 g2
      go_wp2_with (first | (go_at_call 180; (with_reducible refine (c3 _).mono ?_); rintro e w1 ⟨rfl, rfl⟩))
      go_roundw
      case rel => exact ⟨j + 1, Y + 1, E, HR2, by rw [g2], H.year⟩
      case measure =>
        simp only [intOf]
        rw [g2, Int.toNat_natCast, Int.toNat_natCast]
        exact HM.out
    · obtain ⟨g1, HS⟩ := year_stop HH.out.1 hY hj hD hlt
      clear hY hj hD hlt
      go_wp2_with (first | (go_at_call 180; (with_reducible refine (c3 _).mono ?_); rintro e w1 ⟨rfl, rfl⟩))
      clear e0 f0 c3 g1 HR
      generalize decide (yD Y ≤ D) = bb
      generalize yD Y = yd
      go_loopw [4] (fun d wr => ∃ e M D : Nat, Hid (e + 1 = M ∧ e ≤ x.c ∧ D + dM Y e = dM Y x.c + x.d) ∧ d = cI (D : Int) ∧ CkSt w Y M 1 0 0 0 wr) (fun d _ => (intOf d).toNat)
      case atStart => exact ⟨0, 1, D, Lib.hid ⟨rfl, Nat.zero_le _, by rw [HS.out.2]; simp [dM]⟩, rfl, H⟩
      case round =>
        clear H
        obtain ⟨e, M, D', HR, rfl, H⟩ := hrel
        have e0 := H.c0
        have e1 := H.c1
        have c3 := fun W => rdays_ok Y M W
        obtain ⟨hM, he, hD⟩ := HR.out
        by_cases hlt : e < x.c
        · have hDN : D' < 48000 := by
            have q1 := HS.out.2
            have q2 := HH.out.2
            rw [Dt.days, HS.out.1] at q2
            omega
          obtain ⟨E, HR2, HM, g1, g2, g3, g4, g5⟩ := month_step hM hD HH.out.1.1 hlt hDN
          have c4 := fun W => c3 W g4 g5
          clear hM he hD hlt hDN c3 g4 g5
          generalize mD Y M = md at c4 g1 g2
          go_wp2_with (first | (go_at_call 162; (with_reducible refine (c4 _).mono ?_); rintro e w1 ⟨rfl, rfl⟩; have e0 := H.c0; have e1 := H.c1; have f1 := H.fz 1))
          go_roundw
          case rel => exact ⟨e + 1, M + 1, E, HR2, by rw [g2], H.month⟩
          case measure =>
            simp only [intOf]
            rw [g2, Int.toNat_natCast, Int.toNat_natCast]
            exact HM.out
        · obtain ⟨g1, HS2, g4, g5, g6⟩ := month_stop (by have := HH.out.1.2; rw [HS.out.1] at this; exact this) HH.out.1.1 hM he hD hlt
          have c4 := fun W => c3 W g4 g5
          clear hM he hD hlt c3 g4 g5
          generalize mD Y M = md at c4 g1
          have HG6 : Hid (wrap64 (1 + (D' : Int)) = ((D' + 1 : Nat) : Int)) := Lib.hid (by rw [Int.add_comm]; exact g6)
          clear g6
          have e2 := H.c2
          obtain ⟨e3, e4, e5⟩ := H.c345
          have r0 := H.r 0 (by decide)
          have r1 := H.r 1 (by decide)
          have r2 := H.r 2 (by decide)
          have r3 := H.r 3 (by decide)
          have r4 := H.r 4 (by decide)
          have r5 := H.r 5 (by decide)
          have rf := H.rf
          have f2 := H.fz 2
          have f3 := H.fz 3
          have f4 := H.fz 4
          have f5 := H.fz 5
          go_wp2_with (first | (go_at_call 162; (with_reducible refine (c4 _).mono ?_); rintro e w1 ⟨rfl, rfl⟩))
          obtain ⟨k3, k4, k5⟩ := HK.out
          have hclk : clkA x h m s = #[cI Y, cI M, .int .i64 (wrap64 (1 + (D' : Int))), .int .i64 ((L : Int) % 86400 / 3600), .int .i64 ((L : Int) % 86400 / 60 % 60), .int .i64 ((L : Int) % 60)] := by
            rw [k3, k4, k5, HG6.out, clkA, HS.out.1, HS2.out.1, HS2.out.2]
          rw [hclk]
          have hrow := set6 (row_other (B' := w.heap.size + 1) 5 (.int .i64 ((L : Int) % 60)) (row_other (B' := w.heap.size + 1) 4 (.int .i64 ((L : Int) % 86400 / 60 % 60)) (row_other (B' := w.heap.size + 1) 3 (.int .i64 ((L : Int) % 86400 / 3600)) (row_other (B' := w.heap.size + 1) 2 (.int .i64 (wrap64 (1 + (D' : Int)))) H.2.1 (by omega)) (by omega)) (by omega)) (by omega)) (cI Y) (cI M) (.int .i64 (wrap64 (1 + (D' : Int)))) (.int .i64 ((L : Int) % 86400 / 3600)) (.int .i64 ((L : Int) % 86400 / 60 % 60)) (.int .i64 ((L : Int) % 60))
          have hbel := below6 ((((H.2.2.setCell (p := ⟨w.heap.size + 1, 2, none⟩) (by simp) (.int .i64 (wrap64 (1 + (D' : Int))))).setCell (p := ⟨w.heap.size + 1, 3, none⟩) (by simp) (.int .i64 ((L : Int) % 86400 / 3600))).setCell (p := ⟨w.heap.size + 1, 4, none⟩) (by simp) (.int .i64 ((L : Int) % 86400 / 60 % 60))).setCell (p := ⟨w.heap.size + 1, 5, none⟩) (by simp) (.int .i64 ((L : Int) % 60))) (cI Y) (cI M) (.int .i64 (wrap64 (1 + (D' : Int)))) (.int .i64 ((L : Int) % 86400 / 3600)) (.int .i64 ((L : Int) % 86400 / 60 % 60)) (.int .i64 ((L : Int) % 60))
          refine bodyPost_ret (v := .agg #[cI Y, cI M, .int .i64 (wrap64 (1 + (D' : Int))), .int .i64 ((L : Int) % 86400 / 3600), .int .i64 ((L : Int) % 86400 / 60 % 60), .int .i64 ((L : Int) % 60)]) ?_ rfl ⟨rfl, hbel⟩
          obtain ⟨q0, q1, q2, q3, q4, q5⟩ := cells6 hrow
          clear k3 k4 k5 hclk
          simp [results, Try.results158, go_sem, q0, q1, q2, q3, q4, q5]
end Go.Proofs.Ytnmlephjhcmbhaa
