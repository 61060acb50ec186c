/- The reference of package datetime: Split, signed, Record. -/
import Derived.Test.YtnmlephjhcmbhaaDtd
namespace Go.Proofs.Ytnmlephjhcmbhaa
set_option linter.unusedSimpArgs false
set_option linter.unusedVariables false
open Go Go.RowKit
set_option maxRecDepth 100000 in
set_option maxHeartbeats 1000000 in
theorem rsplit_ok (t z : Int) (x : Dt) (Y M D h m s : Nat) (w : World) (hY : 1970 + x.k = Y) (hM : x.c + 1 = M) (hD : x.d + 1 = D) (hx : x.Good) (ht : 315532800 ≤ t ∧ t ≤ 4102444799) (hz : -1440 ≤ z ∧ z ≤ 1440)
    (hh : h < 24) (hm : m < 60) (hs : s < 60) (hl : t + 60 * z = (x.days : Int) * 86400 + h * 3600 + m * 60 + s) :
    Calls Try.prog 114 #[cI t, cI z] w fun e w' => e = .returned (.tuple #[.agg #[cI Y, cI M, cI D, cI h, cI m, cI s], cI 0]) ∧ Below w.heap.size w w' := by
  have c1 := fun W => rTime_ok t W
  rw [decide_eq_true ht] at c1
  have c2 := fun W => rZone_ok z W
  rw [decide_eq_true hz] at c2
  obtain ⟨L, hL⟩ : ∃ L : Nat, (x.days : Int) * 86400 + h * 3600 + m * 60 + s = L := ⟨x.days * 86400 + h * 3600 + m * 60 + s, by omega⟩
  have c3 : ∀ W : World, Calls Try.prog 158 #[cI L] W fun e w' => e = .returned (.agg #[cI Y, cI M, cI D, cI h, cI m, cI s]) ∧ Below W.heap.size W w' := fun W => by
    subst hY hM hD
    exact utc_ok L x h m s W hx (by omega) hh hm hs hL
  rw [hL] at hl
  have a1' : wrap64 (60 * z) = 60 * z := by unfold wrap64; omega
  have a2' : wrap64 (t + 60 * z) = (L : Int) := by unfold wrap64; omega
  clear hl hL ht hz hx hY hM hD hh hm hs
  go_enter Try.func114, Try.ntmps114
  go_wp2_with (first | (go_at_call 112; (with_reducible refine (c1 _).mono ?_); rintro e w1 ⟨rfl, rfl⟩) | (go_at_call 157; (with_reducible refine (c2 _).mono ?_); rintro e w1 ⟨rfl, rfl⟩) | (go_at_call 158; (with_reducible refine (c3 _).mono ?_); rintro e w2 ⟨rfl, hB2⟩; have H0 : w2.heap[w.heap.size]? = some (.cells #[cI 0, cI 0, cI 0, cI 0, cI 0, cI 0] 117 (0, 0)) := (hB2.block _ (by simp)).trans (World.alloc_heap_new _ _); have HR := Lib.hid H0; obtain ⟨p0, p1, p2, p3, p4, p5⟩ := cells6 H0; have rf := fun j => Lib.frozen_of_heap H0 j; clear H0))
  have hrow := set6 HR.out (cI Y) (cI M) (cI D) (cI h) (cI m) (cI s)
  have hbel := below6 (((Below.refl _ w).alloc (Nat.le_refl _) (.cells #[cI 0, cI 0, cI 0, cI 0, cI 0, cI 0] 117)).trans (hB2.mono (by simp))) (cI Y) (cI M) (cI D) (cI h) (cI m) (cI s)
  refine bodyPost_ret (v := .tuple #[.agg #[cI Y, cI M, cI D, cI h, cI m, cI s], cI 0]) ?_ rfl ⟨rfl, hbel⟩
  obtain ⟨q0, q1, q2, q3, q4, q5⟩ := cells6 hrow
  simp [results, Try.results114, go_sem, q0, q1, q2, q3, q4, q5]
end Go.Proofs.Ytnmlephjhcmbhaa
