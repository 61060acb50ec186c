/- The reference of package datetime: Record. -/
import Derived.Test.YtnmlephjhcmbhaaDtf
namespace Go.Proofs.Ytnmlephjhcmbhaa
set_option linter.unusedSimpArgs false
set_option linter.unusedVariables false
open Go Go.RowKit
theorem rrecord_ok (t z : Int) (x : Dt) (h m s : Nat) (w : World) (hx : x.Good) (ht : 315532800 ≤ t ∧ t ≤ 4102444799) (hq : z % 15 = 0 ∧ -720 ≤ z ∧ z ≤ 780)
    (hh : h < 24) (hm : m < 60) (hs : s < 60) (hl : t + 60 * z = (x.days : Int) * 86400 + h * 3600 + m * 60 + s) :
    Calls Try.prog 56 #[cI t, cI z] w fun e w' => e = .returned (.tuple #[.string ⟨(recL (1970 + x.k) (x.c + 1) (x.d + 1) h m s z).toArray⟩, cI 0]) ∧ Below w.heap.size w w' := by
  have hk := years_le ht.2 (by omega) hl
  have hd := (mD_ge (1970 + x.k) (x.c + 1)).2
  have hx1 := hx.1
  have hx2 := hx.2
  have e : z.tdiv 15 = z / 15 := Int.tdiv_eq_ediv_of_dvd (Int.dvd_of_emod_eq_zero hq.1)
  obtain ⟨q, hqq⟩ : ∃ q, z / 15 = q := ⟨_, rfl⟩
  have hb : -48 ≤ q ∧ q ≤ 52 := by omega
  have hz : q % 256 = ((zB z).toNat : Int) := by
    rw [zB, hqq, UInt8.toNat_ofNat', Nat.mod_eq_of_lt (show ((q + 256) % 256).toNat < 2 ^ 8 by omega)]
    omega
  exact rrecord_walk t z q (1970 + x.k) (x.c + 1) (x.d + 1) h m s _ _ _ _ _ _ (zB z) w ht hq (year_byte _ (by omega) (by omega)) (cutB _ (by omega)) (cutB _ (by omega)) (cutB _ (by omega)) (cutB _ (by omega)) (cutB _ (by omega))
    (by rw [IntKind.wrap_i64]; omega) (by rw [e, hqq]) (fun W => rsigned_ok q (zB z) W (by omega) (by omega) hz) fun W => rsplit_ok t z x _ _ _ h m s W rfl rfl rfl hx ht (by omega) hh hm hs hl
set_option maxRecDepth 100000 in
set_option maxHeartbeats 400000 in
theorem rrecord_bad (t z : Int) (w : World) (h : ¬ ((315532800 ≤ t ∧ t ≤ 4102444799) ∧ z % 15 = 0 ∧ -720 ≤ z ∧ z ≤ 780)) :
    Calls Try.prog 56 #[cI t, cI z] w fun e w' => e = .returned (.tuple #[.string ByteArray.empty, cI 2]) ∧ Below w.heap.size w w' := by
  have c2 := fun W => rTime_ok t W
  have c3 := fun W => rQuarter_ok z W
  by_cases h1 : 315532800 ≤ t ∧ t ≤ 4102444799
  · have h2 : ¬ (z % 15 = 0 ∧ -720 ≤ z ∧ z ≤ 780) := fun k => h ⟨h1, k⟩
    rw [decide_eq_true h1] at c2
    rw [decide_eq_false h2] at c3
    clear h h1 h2
    go_enter Try.func56, Try.ntmps56
    go_wp2_with (first | (go_at_call 112; (with_reducible refine (c2 _).mono ?_); rintro e w1 ⟨rfl, rfl⟩) | (go_at_call 113; (with_reducible refine (c3 _).mono ?_); rintro e w1 ⟨rfl, rfl⟩))
    go_ret2
    exact ⟨rfl, Below.refl _ _⟩
  · rw [decide_eq_false h1] at c2
    clear h h1
    go_enter Try.func56, Try.ntmps56
    go_wp2_with (first | (go_at_call 112; (with_reducible refine (c2 _).mono ?_); rintro e w1 ⟨rfl, rfl⟩))
    go_ret2
    exact ⟨rfl, Below.refl _ _⟩
end Go.Proofs.Ytnmlephjhcmbhaa
