/- The reference of package datetime: utc, Split, Record. The reference of package datetime: Split, signed, Record. The reference of package datetime: signed, Record. The reference of package datetime: Record. Package datetime and its reference: seconds. -/
import Derived.Test.YtnmlephjhcmbhaaGreatMc
import Derived.Test.YtnmlephjhcmbhaaGreatMa
namespace Go.Proofs.YtnmlephjhcmbhaaGreat
set_option linter.unusedSimpArgs false
set_option linter.unusedVariables false
open Go Go.RowKit
set_option maxRecDepth 100000 in
set_option maxHeartbeats 400000 in
theorem rTime_ok (t : Int) (w : World) : Calls Tryz.prog 100 #[.int .i64 t] w fun e w' => e = .returned (.bool (decide (315532800 ≤ t ∧ t ≤ 4102444799))) ∧ w = w' := by
  by_cases h1 : 315532800 ≤ t
  · by_cases h2 : t ≤ 4102444799
    · rw [decide_eq_true ⟨h1, h2⟩]
      go_enter Tryz.func100, Tryz.ntmps100
      go_wp2
      go_ret
      exact ⟨rfl, rfl⟩
    · rw [decide_eq_false fun h => h2 h.2]
      go_enter Tryz.func100, Tryz.ntmps100
      go_wp2
      go_ret
      exact ⟨rfl, rfl⟩
  · rw [decide_eq_false fun h => h1 h.1]
    go_enter Tryz.func100, Tryz.ntmps100
    go_wp2
    go_ret
    exact ⟨rfl, rfl⟩
set_option maxRecDepth 100000 in
set_option maxHeartbeats 400000 in
theorem rZone_ok (t : Int) (w : World) : Calls Tryz.prog 122 #[.int .i64 t] w fun e w' => e = .returned (.bool (decide (-1440 ≤ t ∧ t ≤ 1440))) ∧ w = w' := by
  by_cases h1 : -1440 ≤ t
  · by_cases h2 : t ≤ 1440
    · rw [decide_eq_true ⟨h1, h2⟩]
      go_enter Tryz.func122, Tryz.ntmps122
      go_wp2
      go_ret
      exact ⟨rfl, rfl⟩
    · rw [decide_eq_false fun h => h2 h.2]
      go_enter Tryz.func122, Tryz.ntmps122
      go_wp2
      go_ret
      exact ⟨rfl, rfl⟩
  · rw [decide_eq_false fun h => h1 h.1]
    go_enter Tryz.func122, Tryz.ntmps122
    go_wp2
    go_ret
    exact ⟨rfl, rfl⟩
set_option maxRecDepth 100000 in
set_option maxHeartbeats 400000 in
theorem rQuarter_ok (t : Int) (w : World) : Calls Tryz.prog 101 #[.int .i64 t] w fun e w' => e = .returned (.bool (decide (t % 15 = 0 ∧ -720 ≤ t ∧ t ≤ 780))) ∧ w = w' := by
  obtain ⟨r, hr⟩ : ∃ r, t.tmod 15 = r := ⟨_, rfl⟩
  have e : t % 15 = 0 ↔ r = 0 := by
    rw [← hr]
    constructor
    · intro h; exact Int.tmod_eq_zero_of_dvd (Int.dvd_of_emod_eq_zero h)
    · intro h; exact Int.emod_eq_zero_of_dvd (Int.dvd_of_tmod_eq_zero h)
  by_cases h1 : -720 ≤ t
  · by_cases h2 : t ≤ 780
    · by_cases h0 : r = 0
      · subst h0
        rw [decide_eq_true ⟨e.2 rfl, h1, h2⟩]
        clear e
        go_enter Tryz.func101, Tryz.ntmps101
        go_wp2
        go_ret
        exact ⟨rfl, rfl⟩
      · rw [decide_eq_false fun h => h0 (e.1 h.1)]
        have t0 : (r == 0) = false := by simpa using h0
        clear e
        go_enter Tryz.func101, Tryz.ntmps101
        go_wp2
        go_ret
        exact ⟨rfl, rfl⟩
    · rw [decide_eq_false fun h => h2 h.2.2]
      clear e
      go_enter Tryz.func101, Tryz.ntmps101
      go_wp2
      go_ret
      exact ⟨rfl, rfl⟩
  · rw [decide_eq_false fun h => h1 h.2.1]
    clear e
    go_enter Tryz.func101, Tryz.ntmps101
    go_wp2
    go_ret
    exact ⟨rfl, rfl⟩
set_option maxRecDepth 100000 in
set_option maxHeartbeats 1000000 in
theorem utc_ok (L : Nat) (x : Dt) (h m s : Nat) (w : World) (hx : x.Good) (hN : x.days < 48000)
    (hh : h < 24) (hm : m < 60) (hs : s < 60) (hL : (x.days : Int) * 86400 + h * 3600 + m * 60 + s = L) :
    Calls Tryz.prog 123 #[cI L] w fun e w' => e = .returned (.agg (clkA x h m s)) ∧ Below w.heap.size w w' := by
  obtain ⟨sec, hsec⟩ : ∃ sec : Nat, L % 86400 = sec := ⟨_, rfl⟩
  have b1 : (L : Int).tdiv 86400 = (x.days : Int) := by rw [Int.tdiv_eq_ediv_of_nonneg (by omega)]; omega
  have b2 : (L : Int).tmod 86400 = (sec : Int) := by rw [Int.tmod_eq_emod_of_nonneg (by omega)]; omega
  have b1' : (L : Int) / 86400 = (x.days : Int) := by omega
  have b2' : (L : Int) % 86400 = (sec : Int) := by omega
  have b3 : (sec : Int) / 3600 = h := by omega
  have b4 : (sec : Int) / 60 % 60 = m := by omega
  have b5 : (sec : Int) % 60 = s := by omega
  have b6 : wrap64 (x.days : Int) = (x.days : Int) := by unfold wrap64; omega
  have HH := Lib.hid (And.intro hx hN)
  have HK : Hid ((L : Int) % 86400 / 3600 = h ∧ (L : Int) % 86400 / 60 % 60 = m ∧ (L : Int) % 60 = s) := Lib.hid ⟨by rw [b2']; exact b3, by rw [b2']; exact b4, by rw [← Int.emod_emod_of_dvd (L : Int) (show (60 : Int) ∣ 86400 by decide), b2']; exact b5⟩
  clear hL hsec hN hx b2 b2' b3 b4 b5
  go_enter Tryz.func123, Tryz.ntmps123
  go_wp2
  have HB6 := Lib.hid b6
  clear b1 b1' b6
  go_loopw [4] (fun d wr => ∃ j Y D : Nat, Hid (1970 + j = Y ∧ j ≤ x.k ∧ D + dU j = x.days) ∧ d = cI (D : Int) ∧ CkSt w Y 1 1 0 0 0 wr) (fun d _ => (intOf d).toNat)
  case atStart =>
    refine ⟨0, 1970, x.days, Lib.hid ⟨rfl, by omega, by simp [dU]⟩, by rw [HB6.out], ?_, ?_, ((Below.refl _ w).alloc (Nat.le_refl _) _).alloc (by simp) _⟩
    · have := World.alloc_heap_new (w.alloc (.cells #[cI 0, cI 0, cI 0, cI 0, cI 0, cI 0] 119)) (.cells #[cI 1970, cI 1, cI 1, cI 0, cI 0, cI 0] 119)
      rw [World.size_alloc] at this
      exact this
    · rw [heap_alloc_get, if_neg (by simp)]
      exact World.alloc_heap_new _ _
  case round =>
    obtain ⟨j, Y, D, HR, rfl, H⟩ := hrel
    have e0 := H.c0
    have f0 := H.fz 0
    have c3 := fun W => ryear_ok Y W
    obtain ⟨hY, hj, hD⟩ := HR.out
    by_cases hlt : j < x.k
    · obtain ⟨E, HR2, HM, g1, g2, g3⟩ := year_step hY hD HH.out.2 hlt
      clear hY hj hD hlt
      generalize yD Y = yd at c3 g1 g2
      go_wp2_with (first | (go_at_call 133; (with_reducible refine (c3 _).mono ?_); rintro e w1 ⟨rfl, rfl⟩))
      go_roundw
      case rel => exact ⟨j + 1, Y + 1, E, HR2, by rw [g2], H.year⟩
      case measure =>
        simp only [intOf]
        rw [g2, Int.toNat_natCast, Int.toNat_natCast]
        exact HM.out
    · obtain ⟨g1, HS⟩ := year_stop HH.out.1 hY hj hD hlt
      clear hY hj hD hlt
      go_wp2_with (first | (go_at_call 133; (with_reducible refine (c3 _).mono ?_); rintro e w1 ⟨rfl, rfl⟩))
      clear e0 f0 c3 g1 HR
      generalize decide (yD Y ≤ D) = bb
      generalize yD Y = yd
      go_loopw [4] (fun d wr => ∃ e M D : Nat, Hid (e + 1 = M ∧ e ≤ x.c ∧ D + dM Y e = dM Y x.c + x.d) ∧ d = cI (D : Int) ∧ CkSt w Y M 1 0 0 0 wr) (fun d _ => (intOf d).toNat)
      case atStart => exact ⟨0, 1, D, Lib.hid ⟨rfl, Nat.zero_le _, by rw [HS.out.2]; simp [dM]⟩, rfl, H⟩
      case round =>
        clear H
        obtain ⟨e, M, D', HR, rfl, H⟩ := hrel
        have e0 := H.c0
        have e1 := H.c1
        have c3 := fun W => rdays_ok Y M W
        obtain ⟨hM, he, hD⟩ := HR.out
        by_cases hlt : e < x.c
        · have hDN : D' < 48000 := by
            have q1 := HS.out.2
            have q2 := HH.out.2
            rw [Dt.days, HS.out.1] at q2
            omega
          obtain ⟨E, HR2, HM, g1, g2, g3, g4, g5⟩ := month_step hM hD HH.out.1.1 hlt hDN
          have c4 := fun W => c3 W g4 g5
          clear hM he hD hlt hDN c3 g4 g5
          generalize mD Y M = md at c4 g1 g2
          go_wp2_with (first | (go_at_call 134; (with_reducible refine (c4 _).mono ?_); rintro e w1 ⟨rfl, rfl⟩; have e0 := H.c0; have e1 := H.c1; have f1 := H.fz 1))
          go_roundw
          case rel => exact ⟨e + 1, M + 1, E, HR2, by rw [g2], H.month⟩
          case measure =>
            simp only [intOf]
            rw [g2, Int.toNat_natCast, Int.toNat_natCast]
            exact HM.out
        · obtain ⟨g1, HS2, g4, g5, g6⟩ := month_stop (by have := HH.out.1.2; rw [HS.out.1] at this; exact this) HH.out.1.1 hM he hD hlt
          have c4 := fun W => c3 W g4 g5
          clear hM he hD hlt c3 g4 g5
          generalize mD Y M = md at c4 g1
          have HG6 : Hid (wrap64 (1 + (D' : Int)) = ((D' + 1 : Nat) : Int)) := Lib.hid (by rw [Int.add_comm]; exact g6)
          clear g6
          have e2 := H.c2
          obtain ⟨e3, e4, e5⟩ := H.c345
          have r0 := H.r 0 (by decide)
          have r1 := H.r 1 (by decide)
          have r2 := H.r 2 (by decide)
          have r3 := H.r 3 (by decide)
          have r4 := H.r 4 (by decide)
          have r5 := H.r 5 (by decide)
          have rf := H.rf
          have f2 := H.fz 2
          have f3 := H.fz 3
          have f4 := H.fz 4
          have f5 := H.fz 5
          go_wp2_with (first | (go_at_call 134; (with_reducible refine (c4 _).mono ?_); rintro e w1 ⟨rfl, rfl⟩))
          obtain ⟨k3, k4, k5⟩ := HK.out
          have hclk : clkA x h m s = #[cI Y, cI M, .int .i64 (wrap64 (1 + (D' : Int))), .int .i64 ((L : Int) % 86400 / 3600), .int .i64 ((L : Int) % 86400 / 60 % 60), .int .i64 ((L : Int) % 60)] := by
            rw [k3, k4, k5, HG6.out, clkA, HS.out.1, HS2.out.1, HS2.out.2]
          rw [hclk]
          have hrow := set6 (row_other (B' := w.heap.size + 1) 5 (.int .i64 ((L : Int) % 60)) (row_other (B' := w.heap.size + 1) 4 (.int .i64 ((L : Int) % 86400 / 60 % 60)) (row_other (B' := w.heap.size + 1) 3 (.int .i64 ((L : Int) % 86400 / 3600)) (row_other (B' := w.heap.size + 1) 2 (.int .i64 (wrap64 (1 + (D' : Int)))) H.2.1 (by omega)) (by omega)) (by omega)) (by omega)) (cI Y) (cI M) (.int .i64 (wrap64 (1 + (D' : Int)))) (.int .i64 ((L : Int) % 86400 / 3600)) (.int .i64 ((L : Int) % 86400 / 60 % 60)) (.int .i64 ((L : Int) % 60))
          have hbel := below6 ((((H.2.2.setCell (p := ⟨w.heap.size + 1, 2, none⟩) (by simp) (.int .i64 (wrap64 (1 + (D' : Int))))).setCell (p := ⟨w.heap.size + 1, 3, none⟩) (by simp) (.int .i64 ((L : Int) % 86400 / 3600))).setCell (p := ⟨w.heap.size + 1, 4, none⟩) (by simp) (.int .i64 ((L : Int) % 86400 / 60 % 60))).setCell (p := ⟨w.heap.size + 1, 5, none⟩) (by simp) (.int .i64 ((L : Int) % 60))) (cI Y) (cI M) (.int .i64 (wrap64 (1 + (D' : Int)))) (.int .i64 ((L : Int) % 86400 / 3600)) (.int .i64 ((L : Int) % 86400 / 60 % 60)) (.int .i64 ((L : Int) % 60))
          refine bodyPost_ret (v := .agg #[cI Y, cI M, .int .i64 (wrap64 (1 + (D' : Int))), .int .i64 ((L : Int) % 86400 / 3600), .int .i64 ((L : Int) % 86400 / 60 % 60), .int .i64 ((L : Int) % 60)]) ?_ rfl ⟨rfl, hbel⟩
          obtain ⟨q0, q1, q2, q3, q4, q5⟩ := cells6 hrow
          clear k3 k4 k5 hclk
          simp [results, Tryz.results123, go_sem, q0, q1, q2, q3, q4, q5]
end Go.Proofs.YtnmlephjhcmbhaaGreat
namespace Go.Proofs.YtnmlephjhcmbhaaGreat
set_option linter.unusedSimpArgs false
set_option linter.unusedVariables false
open Go Go.RowKit
set_option maxRecDepth 100000 in
set_option maxHeartbeats 1000000 in
theorem rsplit_ok (t z : Int) (x : Dt) (Y M D h m s : Nat) (w : World) (hY : 1970 + x.k = Y) (hM : x.c + 1 = M) (hD : x.d + 1 = D) (hx : x.Good) (ht : 315532800 ≤ t ∧ t ≤ 4102444799) (hz : -1440 ≤ z ∧ z ≤ 1440)
    (hh : h < 24) (hm : m < 60) (hs : s < 60) (hl : t + 60 * z = (x.days : Int) * 86400 + h * 3600 + m * 60 + s) :
    Calls Tryz.prog 102 #[cI t, cI z] w fun e w' => e = .returned (.tuple #[.agg #[cI Y, cI M, cI D, cI h, cI m, cI s], cI 0]) ∧ Below w.heap.size w w' := by
  have c1 := fun W => rTime_ok t W
  rw [decide_eq_true ht] at c1
  have c2 := fun W => rZone_ok z W
  rw [decide_eq_true hz] at c2
  obtain ⟨L, hL⟩ : ∃ L : Nat, (x.days : Int) * 86400 + h * 3600 + m * 60 + s = L := ⟨x.days * 86400 + h * 3600 + m * 60 + s, by omega⟩
  have c3 : ∀ W : World, Calls Tryz.prog 123 #[cI L] W fun e w' => e = .returned (.agg #[cI Y, cI M, cI D, cI h, cI m, cI s]) ∧ Below W.heap.size W w' := fun W => by
    subst hY hM hD
    exact utc_ok L x h m s W hx (by omega) hh hm hs hL
  rw [hL] at hl
  have a1' : wrap64 (60 * z) = 60 * z := by unfold wrap64; omega
  have a2' : wrap64 (t + 60 * z) = (L : Int) := by unfold wrap64; omega
  clear hl hL ht hz hx hY hM hD hh hm hs
  go_enter Tryz.func102, Tryz.ntmps102
  go_wp2_with (first | (go_at_call 100; (with_reducible refine (c1 _).mono ?_); rintro e w1 ⟨rfl, rfl⟩) | (go_at_call 122; (with_reducible refine (c2 _).mono ?_); rintro e w1 ⟨rfl, rfl⟩) | (go_at_call 123; (with_reducible refine (c3 _).mono ?_); rintro e w2 ⟨rfl, hB2⟩; have H0 : w2.heap[w.heap.size]? = some (.cells #[cI 0, cI 0, cI 0, cI 0, cI 0, cI 0] 119 (0, 0)) := (hB2.block _ (by simp)).trans (World.alloc_heap_new _ _); have HR := Lib.hid H0; obtain ⟨p0, p1, p2, p3, p4, p5⟩ := cells6 H0; have rf := fun j => Lib.frozen_of_heap H0 j; clear H0))
  have hrow := set6 HR.out (cI Y) (cI M) (cI D) (cI h) (cI m) (cI s)
  have hbel := below6 (((Below.refl _ w).alloc (Nat.le_refl _) (.cells #[cI 0, cI 0, cI 0, cI 0, cI 0, cI 0] 119)).trans (hB2.mono (by simp))) (cI Y) (cI M) (cI D) (cI h) (cI m) (cI s)
  refine bodyPost_ret (v := .tuple #[.agg #[cI Y, cI M, cI D, cI h, cI m, cI s], cI 0]) ?_ rfl ⟨rfl, hbel⟩
  obtain ⟨q0, q1, q2, q3, q4, q5⟩ := cells6 hrow
  simp [results, Tryz.results102, go_sem, q0, q1, q2, q3, q4, q5]
end Go.Proofs.YtnmlephjhcmbhaaGreat
namespace Go.Proofs.YtnmlephjhcmbhaaGreat
set_option linter.unusedSimpArgs false
set_option linter.unusedVariables false
open Go Go.RowKit
set_option maxRecDepth 100000 in
set_option maxHeartbeats 400000 in
theorem rsigned_ok (n : Int) (b : UInt8) (w : World) (h1 : -128 ≤ n) (h2 : n ≤ 127) (e : n % 256 = (b.toNat : Int)) :
    Calls Tryz.prog 103 #[cI n] w fun e w' => e = .returned (.int .u8 (b.toNat : Int)) ∧ w = w' := by
  have g1 : wrap64 (n + 256) = n + 256 := by unfold wrap64; omega
  have g2 : (n + 256).tmod 256 = (n + 256) % 256 := Int.tmod_eq_emod_of_nonneg (by omega)
  have HE := Lib.hid e
  clear h1 h2 e
  go_enter Tryz.func103, Tryz.ntmps103
  go_wp2
  go_ret
  refine ⟨?_, rfl⟩
  show Ending.returned (.int .u8 (n % 256)) = _
  rw [HE.out]
set_option maxRecDepth 100000 in
set_option maxHeartbeats 1000000 in
theorem rrecord_walk (t z q : Int) (Y M D h m s : Nat) (b0 b1 b2 b3 b4 b5 b6 : UInt8) (w : World) (ht : 315532800 ≤ t ∧ t ≤ 4102444799) (hq : z % 15 = 0 ∧ -720 ≤ z ∧ z ≤ 780)
    (e0 : IntKind.u8.wrap (wrap64 ((Y : Int) - 1900)) = (b0.toNat : Int)) (e1 : IntKind.u8.wrap (M : Int) = (b1.toNat : Int)) (e2 : IntKind.u8.wrap (D : Int) = (b2.toNat : Int)) (e3 : IntKind.u8.wrap (h : Int) = (b3.toNat : Int))
    (e4 : IntKind.u8.wrap (m : Int) = (b4.toNat : Int)) (e5 : IntKind.u8.wrap (s : Int) = (b5.toNat : Int)) (e9 : IntKind.i64.wrap q = q) (e8 : z.tdiv 15 = q)
    (c4 : ∀ w : World, Calls Tryz.prog 103 #[cI q] w fun e w' => e = .returned (.int .u8 (b6.toNat : Int)) ∧ w = w')
    (c1 : ∀ w : World, Calls Tryz.prog 102 #[cI t, cI z] w fun e w' => e = .returned (.tuple #[.agg #[cI Y, cI M, cI D, cI h, cI m, cI s], cI 0]) ∧ Below w.heap.size w w') :
    Calls Tryz.prog 72 #[cI t, cI z] w fun e w' => e = .returned (.tuple #[.string ⟨#[b0, b1, b2, b3, b4, b5, b6]⟩, cI 0]) ∧ Below w.heap.size w w' := by
  have c2 := fun W => rTime_ok t W
  rw [decide_eq_true ht] at c2
  have c3 := fun W => rQuarter_ok z W
  rw [decide_eq_true hq] at c3
  clear hq ht
  rw [IntKind.wrap_u8] at e0 e1 e2 e3 e4 e5
  go_enter Tryz.func72, Tryz.ntmps72
  go_wp2_with (first | (go_at_call 100; (with_reducible refine (c2 _).mono ?_); rintro e w1 ⟨rfl, rfl⟩) | (go_at_call 101; (with_reducible refine (c3 _).mono ?_); rintro e w1 ⟨rfl, rfl⟩) | (go_at_call 102; (with_reducible refine (c1 _).mono ?_); rintro e w2 ⟨rfl, hB2⟩))
  obtain ⟨W0, hW0⟩ : ∃ W0, (w2.alloc (.cells #[cI Y, cI M, cI D, cI h, cI m, cI s] 119)) = W0 := ⟨_, rfl⟩
  have hr0 : W0.drew.heap[w2.heap.size]? = some (.cells #[cI Y, cI M, cI D, cI h, cI m, cI s] 119 (0, 0)) := by
    rw [← hW0]
    exact World.alloc_heap_new _ _
  obtain ⟨p0, p1, p2, p3, p4, p5⟩ := cells6 hr0
  have hBW : Below w.heap.size w W0 := by rw [← hW0]; exact hB2.alloc hB2.size _
  have HW := Lib.hid hW0
  rw [hW0]
  clear hr0 hW0
  refine region_sch (fun w' => w' = W0.drew) [(true, 0), (true, 1), (true, 2), (true, 3), (true, 4), (true, 5), (true, 6), (true, 7), (true, 8), (true, 9), (true, 10), (true, 11), (true, 12), (true, 13), (true, 14), (true, 15), (true, 16), (true, 17), (true, 18), (true, 19), (true, 20), (false, 21)] [22, 23, 24, 25] (by kernel_rfl) (by kernel_rfl) (by rintro ⟨_, _, h, _⟩; cases h) (fun _ _ d _ _ h => by cases d <;> exact h) rfl ?_
  simp only [pickM, pickT, List.filterMap_cons, List.filterMap_nil, List.getElem?_cons_zero, List.getElem?_cons_succ, Option.map_some]
  repeat (refine m_float ⟨?_, .inl ⟨?_, .inl ?_⟩, fun K' hK => ?_⟩; rotate_left; (first | rfl | (go_simp; done)); (intro w' hS; subst hS; go_simp; try rfl); (simp only [Act.put, List.setIfInBounds_toArray, List.set_cons_succ, List.set_cons_zero]; refine hK _ ?_; clear hK K'))
  refine m_loud ?_ (fun K' hK => ?_)
  · rintro ⟨_, _, h, _⟩; cases h
  go_wp2_with (go_at_call 103; (with_reducible refine (c4 _).mono ?_); rintro e w5 ⟨rfl, rfl⟩)
  refine hK _ _ rfl ?_
  clear hK K'
  refine m_nil ?_
  show wpList Tryz.prog _ _ (List.cons _ _) _ _
  go_wp2
  have hrow : (World.drew (W0.alloc (.cells #[.int .u8 b0.toNat, .int .u8 b1.toNat, .int .u8 b2.toNat, .int .u8 b3.toNat, .int .u8 b4.toNat, .int .u8 b5.toNat, .int .u8 b6.toNat] 5))).heap[W0.heap.size]? = some (.cells (cb [b0, b1, b2, b3, b4, b5, b6]).toArray 5 (0, 0)) := World.alloc_heap_new _ _
  have hcv := row_string (P := Tryz.prog) (src := 69) (dst := 9) (n := 7) (cap := 7) (bs := [b0, b1, b2, b3, b4, b5, b6]) Tryz.underlying69 Tryz.underlying5 Tryz.underlying9 rfl hrow
  rw [hcv]
  simp only [Result.andThen]
  rw [Oper.upon_value]
  go_wp2
  go_ret2
  exact ⟨rfl, (hBW.alloc hBW.size _).drew⟩
end Go.Proofs.YtnmlephjhcmbhaaGreat
namespace Go.Proofs.YtnmlephjhcmbhaaGreat
set_option linter.unusedSimpArgs false
set_option linter.unusedVariables false
open Go Go.RowKit
theorem rrecord_ok (t z : Int) (x : Dt) (h m s : Nat) (w : World) (hx : x.Good) (ht : 315532800 ≤ t ∧ t ≤ 4102444799) (hq : z % 15 = 0 ∧ -720 ≤ z ∧ z ≤ 780)
    (hh : h < 24) (hm : m < 60) (hs : s < 60) (hl : t + 60 * z = (x.days : Int) * 86400 + h * 3600 + m * 60 + s) :
    Calls Tryz.prog 72 #[cI t, cI z] w fun e w' => e = .returned (.tuple #[.string ⟨(recL (1970 + x.k) (x.c + 1) (x.d + 1) h m s z).toArray⟩, cI 0]) ∧ Below w.heap.size w w' := by
  have hk := years_le ht.2 (by omega) hl
  have hd := (mD_ge (1970 + x.k) (x.c + 1)).2
  have hx1 := hx.1
  have hx2 := hx.2
  have e : z.tdiv 15 = z / 15 := Int.tdiv_eq_ediv_of_dvd (Int.dvd_of_emod_eq_zero hq.1)
  obtain ⟨q, hqq⟩ : ∃ q, z / 15 = q := ⟨_, rfl⟩
  have hb : -48 ≤ q ∧ q ≤ 52 := by omega
  have hz : q % 256 = ((zB z).toNat : Int) := by
    rw [zB, hqq, UInt8.toNat_ofNat', Nat.mod_eq_of_lt (show ((q + 256) % 256).toNat < 2 ^ 8 by omega)]
    omega
  exact rrecord_walk t z q (1970 + x.k) (x.c + 1) (x.d + 1) h m s _ _ _ _ _ _ (zB z) w ht hq (year_byte _ (by omega) (by omega)) (cutB _ (by omega)) (cutB _ (by omega)) (cutB _ (by omega)) (cutB _ (by omega)) (cutB _ (by omega))
    (by rw [IntKind.wrap_i64]; omega) (by rw [e, hqq]) (fun W => rsigned_ok q (zB z) W (by omega) (by omega) hz) fun W => rsplit_ok t z x _ _ _ h m s W rfl rfl rfl hx ht (by omega) hh hm hs hl
set_option maxRecDepth 100000 in
set_option maxHeartbeats 400000 in
theorem rrecord_bad (t z : Int) (w : World) (h : ¬ ((315532800 ≤ t ∧ t ≤ 4102444799) ∧ z % 15 = 0 ∧ -720 ≤ z ∧ z ≤ 780)) :
    Calls Tryz.prog 72 #[cI t, cI z] w fun e w' => e = .returned (.tuple #[.string ByteArray.empty, cI 2]) ∧ Below w.heap.size w w' := by
  have c2 := fun W => rTime_ok t W
  have c3 := fun W => rQuarter_ok z W
  by_cases h1 : 315532800 ≤ t ∧ t ≤ 4102444799
  · have h2 : ¬ (z % 15 = 0 ∧ -720 ≤ z ∧ z ≤ 780) := fun k => h ⟨h1, k⟩
    rw [decide_eq_true h1] at c2
    rw [decide_eq_false h2] at c3
    clear h h1 h2
    go_enter Tryz.func72, Tryz.ntmps72
    go_wp2_with (first | (go_at_call 100; (with_reducible refine (c2 _).mono ?_); rintro e w1 ⟨rfl, rfl⟩) | (go_at_call 101; (with_reducible refine (c3 _).mono ?_); rintro e w1 ⟨rfl, rfl⟩))
    go_ret2
    exact ⟨rfl, Below.refl _ _⟩
  · rw [decide_eq_false h1] at c2
    clear h h1
    go_enter Tryz.func72, Tryz.ntmps72
    go_wp2_with (first | (go_at_call 100; (with_reducible refine (c2 _).mono ?_); rintro e w1 ⟨rfl, rfl⟩))
    go_ret2
    exact ⟨rfl, Below.refl _ _⟩
end Go.Proofs.YtnmlephjhcmbhaaGreat
namespace Go.Proofs.YtnmlephjhcmbhaaGreat
set_option linter.unusedSimpArgs false
set_option linter.unusedVariables false
open Go Go.RowKit
abbrev clkV (Y M D h m s : Nat) : Value := .agg #[cI Y, cI M, cI D, cI h, cI m, cI s]
/-- The clock that came in lies in the call's first block. -/
def BW (w : World) (Y M D h m s : Nat) (wr : World) : Prop := wr.heap[w.heap.size]? = some (.cells #[cI Y, cI M, cI D, cI h, cI m, cI s] 119 (0, 0)) ∧ Below w.heap.size w wr
theorem BW.c {w wr : World} {Y M D h m s : Nat} (H : BW w Y M D h m s wr) : wr.cell? ⟨w.heap.size, 0, none⟩ = some (cI Y) ∧ wr.cell? ⟨w.heap.size, 1, none⟩ = some (cI M) ∧ wr.cell? ⟨w.heap.size, 2, none⟩ = some (cI D) ∧ wr.cell? ⟨w.heap.size, 3, none⟩ = some (cI h) ∧ wr.cell? ⟨w.heap.size, 4, none⟩ = some (cI m) ∧ wr.cell? ⟨w.heap.size, 5, none⟩ = some (cI s) := cells6 H.1
theorem BW.lt {w wr : World} {Y M D h m s : Nat} (H : BW w Y M D h m s wr) : w.heap.size < wr.heap.size := by
  rcases Nat.lt_or_ge w.heap.size wr.heap.size with h' | h'
  · exact h'
  · have := H.1
    simp [Array.getElem?_eq_none h'] at this
theorem BW.below {w wr w1 : World} {Y M D h m s : Nat} (H : BW w Y M D h m s wr) (k : Below wr.heap.size wr w1) : BW w Y M D h m s w1 :=
  ⟨(k.block _ H.lt).trans H.1, H.2.trans (k.mono H.2.size)⟩
theorem BW.start (w : World) (Y M D h m s : Nat) : BW w Y M D h m s (w.alloc (.cells #[cI Y, cI M, cI D, cI h, cI m, cI s] 119)) :=
  ⟨World.alloc_heap_new _ _, (Below.refl _ w).alloc (Nat.le_refl _) _⟩
theorem up_step {j k A X z : Nat} (hk : 1970 + j = k) (hX : X = A + sumY 1970 j) (hz : yD k = z) : X + z = A + sumY 1970 (j + 1) := by
  rw [sumY, hk, hz, hX, Nat.add_assoc]
theorem dn_step {Y j k A z : Nat} {X : Int} (hk : Y + j = k) (hX : X = (A : Int) - (sumY Y j : Nat)) (hz : yD k = z) : X - (z : Nat) = (A : Int) - (sumY Y (j + 1) : Nat) := by
  rw [sumY, hk, hz, hX]; omega
set_option maxRecDepth 100000 in
set_option maxHeartbeats 2000000 in
theorem seconds_ok (Y M D h m s : Nat) (w : World) (hv : validB Y M D h m s = true) :
    Calls Tryz.prog 138 #[clkV Y M D h m s] w fun e w' => e = .returned (cI (secI Y M D h m s)) ∧ Below w.heap.size w w' := by
  have hb := dayI_bd Y M D h m s hv
  have hV := (validB_iff Y M D h m s).1 hv
  have q2 := (mD_ge Y M).2
  have HV := Lib.hid hV
  have g1 : (1 : Int) ≤ (D : Int) := by omega
  have g2 : (D : Int) ≤ 31 := by omega
  have g3 : (h : Int) ≤ 23 := by omega
  have g4 : (m : Int) ≤ 59 := by omega
  have g5 : (s : Int) ≤ 59 := by omega
  have e0 : (0 : Int) ≤ (D : Int) - 1 := by omega
  clear hv q2 hV
  go_enter Tryz.func138, Tryz.ntmps138
  go_wp2
  go_loopw [3, 4] (fun t k wr => ∃ c X n : Nat, Hid (c + 1 = n ∧ n ≤ M ∧ X = D - 1 + dM Y c) ∧ t = cI (X : Int) ∧ k = cI (n : Int) ∧ BW w Y M D h m s wr) (fun _ k _ => M - (intOf k).toNat)
  case atStart => exact ⟨0, D - 1, 1, Lib.hid ⟨rfl, by have := HV.out; omega, rfl⟩, congrArg (Value.int IntKind.i64) (by omega), rfl, BW.start w Y M D h m s⟩
  case round =>
    obtain ⟨c, X, n, HR, rfl, rfl, H⟩ := hrel
    obtain ⟨c0, c1, c2, c3, c4, c5⟩ := H.c
    have bX : X ≤ 100000 := by
      have := HR.out; have := HV.out; have := dM_le Y c; omega
    by_cases hlt : n < M
    · obtain ⟨z, hz⟩ : ∃ z, mD Y n = z := ⟨_, rfl⟩
      have d1 := fun W => monthDays_ok Y n W (by have := HR.out; omega) (by have := HR.out; have := HV.out; omega)
      have bz : z ≤ 31 := by rw [← hz]; exact (mD_ge Y n).2
      have bn : n < 12 := by have := HV.out; omega
      rw [hz] at d1
      have HZ := Lib.hid hz
      clear hz
      go_wp2_with (go_at_call 119; (with_reducible refine (d1 _).mono ?_); rintro e w1 ⟨rfl, hBm⟩; have H1 := H.below hBm; clear hBm)
      go_roundw
      case rel =>
        refine ⟨c + 1, X + z, n + 1, Lib.hid ⟨by rw [HR.out.1], hlt, ?_⟩, by go_num, by go_num, H1⟩
        obtain ⟨r1, r2, r3⟩ := HR.out
        rw [dM, r1, HZ.out, r3, Nat.add_assoc]
      case measure => simp only [intOf]; omega
    · have hXA : Hid (X = D - 1 + dM Y (M - 1)) := Lib.hid (by
        obtain ⟨r1, r2, r3⟩ := HR.out
        rw [r3, show M - 1 = c by omega])
      go_wp2
      clear c0 c1 c2 c3 c4 c5 HR hlt
      rename_i wr
      go_loopw [3, 5] (fun t k wr => ∃ j X' k' : Nat, Hid (1970 + j = k' ∧ j ≤ Y - 1970 ∧ X' = X + sumY 1970 j) ∧ t = cI (X' : Int) ∧ k = cI (k' : Int) ∧ BW w Y M D h m s wr) (fun _ k _ => Y - (intOf k).toNat)
      case atStart => exact ⟨0, X, 1970, Lib.hid ⟨rfl, Nat.zero_le _, rfl⟩, rfl, rfl, H⟩
      case round =>
        clear H
        obtain ⟨j, X', k', HR, rfl, rfl, H⟩ := hrel
        obtain ⟨c0, c1, c2, c3, c4, c5⟩ := H.c
        have bX' : X' ≤ 200000 := by
          have := HR.out; have := HV.out; have := sumY_le 1970 j; omega
        have bk : k' ≤ 2155 := by
          have := HR.out; have := HV.out; omega
        by_cases hlt : k' < Y
        · obtain ⟨z, hz⟩ : ∃ z, yD k' = z := ⟨_, rfl⟩
          have d1 := fun W => yearDays_ok k' W
          have bz : z ≤ 366 := by rw [← hz]; exact (yD_ge k').2
          rw [hz] at d1
          have HZ := Lib.hid hz
          clear hz
          go_wp2_with (go_at_call 118; (with_reducible refine (d1 _).mono ?_); rintro e w1 ⟨rfl, rfl⟩)
          go_roundw
          case rel =>
            obtain ⟨r1, r2, r3⟩ := HR.out
            exact ⟨j + 1, X' + z, k' + 1, Lib.hid ⟨by rw [← r1]; rfl, by omega, up_step r1 r3 HZ.out⟩, by go_num, by go_num, H⟩
          case measure => simp only [intOf]; omega
        · have hXB : Hid ((X' : Int) = (sumY 1970 (Y - 1970) : Nat) + (X : Int)) := Lib.hid (by
            obtain ⟨r1, r2, r3⟩ := HR.out
            rw [r3, show Y - 1970 = j by omega]
            omega)
          go_wp2
          clear c0 c1 c2 c3 c4 c5 HR hlt bk
          go_loopw [3, 6] (fun t k wr => ∃ (j : Nat) (X2 : Int) (k' : Nat), Hid (Y + j = k' ∧ j ≤ 1970 - Y ∧ X2 = (X' : Int) - (sumY Y j : Nat)) ∧ t = cI X2 ∧ k = cI (k' : Int) ∧ BW w Y M D h m s wr) (fun _ k _ => 1970 - (intOf k).toNat)
          case atStart => exact ⟨0, X', Y, Lib.hid ⟨rfl, Nat.zero_le _, by simp [sumY]⟩, rfl, rfl, H⟩
          case round =>
            clear H
            obtain ⟨j, X2, k', HR, rfl, rfl, H⟩ := hrel
            obtain ⟨c0, c1, c2, c3, c4, c5⟩ := H.c
            have bX2 : X2 ≤ 200000 := by
              have := HR.out; omega
            have bX3 : -200000 ≤ X2 := by
              have := HR.out; have := HV.out; have := sumY_le Y j; omega
            have bk : k' ≤ 2155 := by
              have := HR.out; have := HV.out; omega
            by_cases hlt : k' < 1970
            · obtain ⟨z, hz⟩ : ∃ z, yD k' = z := ⟨_, rfl⟩
              have d1 := fun W => yearDays_ok k' W
              have bz : z ≤ 366 := by rw [← hz]; exact (yD_ge k').2
              rw [hz] at d1
              have HZ := Lib.hid hz
              clear hz
              go_wp2_with (go_at_call 118; (with_reducible refine (d1 _).mono ?_); rintro e w1 ⟨rfl, rfl⟩)
              go_roundw
              case rel =>
                obtain ⟨r1, r2, r3⟩ := HR.out
                exact ⟨j + 1, X2 - z, k' + 1, Lib.hid ⟨by rw [← r1]; rfl, by omega, dn_step r1 r3 HZ.out⟩, by go_num, by go_num, H⟩
              case measure => simp only [intOf]; omega
            · have hfin : Hid (secI Y M D h m s = X2 * 86400 + h * 3600 + m * 60 + s) := Lib.hid (by
                obtain ⟨r1, r2, r3⟩ := HR.out
                have r4 : X2 = (X' : Int) - (sumY Y (1970 - Y) : Nat) := by rw [r3, show 1970 - Y = j by omega]
                have r5 := hXB.out
                have r6 := hXA.out
                rw [secI, dayI]
                omega)
              go_wp2
              go_ret
              refine ⟨?_, H.2⟩
              show Ending.returned (cI (X2 * 86400 + h * 3600 + m * 60 + s)) = _
              rw [hfin.out]
end Go.Proofs.YtnmlephjhcmbhaaGreat
