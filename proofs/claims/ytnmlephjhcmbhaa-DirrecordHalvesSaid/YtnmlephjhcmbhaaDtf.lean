/- The reference of package datetime: signed, Record. -/
import Derived.Test.YtnmlephjhcmbhaaDte
import Derived.Test.YtnmlephjhcmbhaaRgn
namespace Go.Proofs.Ytnmlephjhcmbhaa
set_option linter.unusedSimpArgs false
set_option linter.unusedVariables false
open Go Go.RowKit
set_option maxRecDepth 100000 in
set_option maxHeartbeats 400000 in
theorem rsigned_ok (n : Int) (b : UInt8) (w : World) (h1 : -128 ≤ n) (h2 : n ≤ 127) (e : n % 256 = (b.toNat : Int)) :
    Calls Try.prog 115 #[cI n] w fun e w' => e = .returned (.int .u8 (b.toNat : Int)) ∧ w = w' := by
  have g1 : wrap64 (n + 256) = n + 256 := by unfold wrap64; omega
  have g2 : (n + 256).tmod 256 = (n + 256) % 256 := Int.tmod_eq_emod_of_nonneg (by omega)
  have HE := Lib.hid e
  clear h1 h2 e
  go_enter Try.func115, Try.ntmps115
  go_wp2
  go_ret
  refine ⟨?_, rfl⟩
  show Ending.returned (.int .u8 (n % 256)) = _
  rw [HE.out]
set_option maxRecDepth 100000 in
set_option maxHeartbeats 1000000 in
theorem rrecord_walk (t z q : Int) (Y M D h m s : Nat) (b0 b1 b2 b3 b4 b5 b6 : UInt8) (w : World) (ht : 315532800 ≤ t ∧ t ≤ 4102444799) (hq : z % 15 = 0 ∧ -720 ≤ z ∧ z ≤ 780)
    (e0 : IntKind.u8.wrap (wrap64 ((Y : Int) - 1900)) = (b0.toNat : Int)) (e1 : IntKind.u8.wrap (M : Int) = (b1.toNat : Int)) (e2 : IntKind.u8.wrap (D : Int) = (b2.toNat : Int)) (e3 : IntKind.u8.wrap (h : Int) = (b3.toNat : Int))
    (e4 : IntKind.u8.wrap (m : Int) = (b4.toNat : Int)) (e5 : IntKind.u8.wrap (s : Int) = (b5.toNat : Int)) (e9 : IntKind.i64.wrap q = q) (e8 : z.tdiv 15 = q)
    (c4 : ∀ w : World, Calls Try.prog 115 #[cI q] w fun e w' => e = .returned (.int .u8 (b6.toNat : Int)) ∧ w = w')
    (c1 : ∀ w : World, Calls Try.prog 114 #[cI t, cI z] w fun e w' => e = .returned (.tuple #[.agg #[cI Y, cI M, cI D, cI h, cI m, cI s], cI 0]) ∧ Below w.heap.size w w') :
    Calls Try.prog 56 #[cI t, cI z] w fun e w' => e = .returned (.tuple #[.string ⟨#[b0, b1, b2, b3, b4, b5, b6]⟩, cI 0]) ∧ Below w.heap.size w w' := by
  have c2 := fun W => rTime_ok t W
  rw [decide_eq_true ht] at c2
  have c3 := fun W => rQuarter_ok z W
  rw [decide_eq_true hq] at c3
  clear hq ht
  rw [IntKind.wrap_u8] at e0 e1 e2 e3 e4 e5
  go_enter Try.func56, Try.ntmps56
  go_wp2_with (first | (go_at_call 112; (with_reducible refine (c2 _).mono ?_); rintro e w1 ⟨rfl, rfl⟩) | (go_at_call 113; (with_reducible refine (c3 _).mono ?_); rintro e w1 ⟨rfl, rfl⟩) | (go_at_call 114; (with_reducible refine (c1 _).mono ?_); rintro e w2 ⟨rfl, hB2⟩))
  obtain ⟨W0, hW0⟩ : ∃ W0, (w2.alloc (.cells #[cI Y, cI M, cI D, cI h, cI m, cI s] 117)) = W0 := ⟨_, rfl⟩
  have hr0 : W0.drew.heap[w2.heap.size]? = some (.cells #[cI Y, cI M, cI D, cI h, cI m, cI s] 117 (0, 0)) := by
    rw [← hW0]
    exact World.alloc_heap_new _ _
  obtain ⟨p0, p1, p2, p3, p4, p5⟩ := cells6 hr0
  have hBW : Below w.heap.size w W0 := by rw [← hW0]; exact hB2.alloc hB2.size _
  have HW := Lib.hid hW0
  rw [hW0]
  clear hr0 hW0
  refine region_sch (fun w' => w' = W0.drew) [(true, 0), (true, 1), (true, 2), (true, 3), (true, 4), (true, 5), (true, 6), (true, 7), (true, 8), (true, 9), (true, 10), (true, 11), (true, 12), (true, 13), (true, 14), (true, 15), (true, 16), (true, 17), (true, 18), (true, 19), (true, 20), (false, 21)] [22, 23, 24, 25] (by kernel_rfl) (by kernel_rfl) (by rintro ⟨_, _, h, _⟩; cases h) (fun _ _ d _ _ h => by cases d <;> exact h) rfl ?_
  simp only [pickM, pickT, List.filterMap_cons, List.filterMap_nil, List.getElem?_cons_zero, List.getElem?_cons_succ, Option.map_some]
  repeat (refine m_float ⟨?_, .inl ⟨?_, .inl ?_⟩, fun K' hK => ?_⟩; rotate_left; (first | rfl | (go_simp; done)); (intro w' hS; subst hS; go_simp; try rfl); (simp only [Act.put, List.setIfInBounds_toArray, List.set_cons_succ, List.set_cons_zero]; refine hK _ ?_; clear hK K'))
  refine m_loud ?_ (fun K' hK => ?_)
  · rintro ⟨_, _, h, _⟩; cases h
  go_wp2_with (go_at_call 115; (with_reducible refine (c4 _).mono ?_); rintro e w5 ⟨rfl, rfl⟩)
  refine hK _ _ rfl ?_
  clear hK K'
  refine m_nil ?_
  show wpList Try.prog _ _ (List.cons _ _) _ _
  go_wp2
  have hrow : (World.drew (W0.alloc (.cells #[.int .u8 b0.toNat, .int .u8 b1.toNat, .int .u8 b2.toNat, .int .u8 b3.toNat, .int .u8 b4.toNat, .int .u8 b5.toNat, .int .u8 b6.toNat] 5))).heap[W0.heap.size]? = some (.cells (cb [b0, b1, b2, b3, b4, b5, b6]).toArray 5 (0, 0)) := World.alloc_heap_new _ _
  have hcv := row_string (P := Try.prog) (src := 37) (dst := 9) (n := 7) (cap := 7) (bs := [b0, b1, b2, b3, b4, b5, b6]) Try.underlying37 Try.underlying5 Try.underlying9 rfl hrow
  rw [hcv]
  simp only [Result.andThen]
  rw [Oper.upon_value]
  go_wp2
  go_ret2
  exact ⟨rfl, (hBW.alloc hBW.size _).drew⟩
end Go.Proofs.Ytnmlephjhcmbhaa
