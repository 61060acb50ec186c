/- The reference of package datetime: zone, finish, ReadRecord. -/
import Derived.Test.YtnmlephjhcmbhaaDtm
import Derived.Test.YtnmlephjhcmbhaaDtl
namespace Go.Proofs.Ytnmlephjhcmbhaa
set_option linter.unusedSimpArgs false
set_option linter.unusedVariables false
open Go Go.RowKit
set_option maxRecDepth 100000 in
set_option maxHeartbeats 400000 in
theorem rzone_ok (b : UInt8) (w : World) : Calls Try.prog 120 #[.int .u8 b.toNat] w fun e w' => e = .returned (.tuple #[cI (15 * zN b.toNat), .bool (zR b.toNat)]) ∧ w = w' := by
  have hb := UInt8.toNat_lt b
  obtain ⟨n, hn⟩ : ∃ n, b.toNat = n := ⟨_, rfl⟩
  rw [hn] at hb ⊢
  have hb8 : (n : Int) < 256 := by omega
  rw [zR]
  by_cases h0 : n < 128
  · rw [zN, if_pos h0]
    by_cases h2 : (n : Int) ≤ 52
    · rw [decide_eq_true ⟨by omega, h2⟩]
      go_enter Try.func120, Try.ntmps120
      go_wp2
      go_ret2
      exact ⟨rfl, rfl⟩
    · rw [decide_eq_false fun h => h2 h.2]
      go_enter Try.func120, Try.ntmps120
      go_wp2
      go_ret2
      exact ⟨rfl, rfl⟩
  · rw [zN, if_neg h0]
    by_cases h1 : (-48 : Int) ≤ (n : Int) - 256
    · rw [decide_eq_true ⟨h1, by omega⟩]
      have h3 : (n : Int) - 256 ≤ 52 := by omega
      go_enter Try.func120, Try.ntmps120
      go_wp2
      go_ret2
      exact ⟨rfl, rfl⟩
    · rw [decide_eq_false fun h => h1 h.1]
      go_enter Try.func120, Try.ntmps120
      go_wp2
      go_ret2
      exact ⟨rfl, rfl⟩
set_option maxRecDepth 100000 in
set_option maxHeartbeats 1000000 in
theorem finish_ok (Y M D h m s : Nat) (z : Int) (w : World) (hv : validB Y M D h m s = true) (hz : -1440 ≤ z ∧ z ≤ 1440) :
    Calls Try.prog 122 #[clkV Y M D h m s, cI z] w fun e w' => e = .returned (.tuple #[cI (fT true true (secI Y M D h m s - 60 * z)), cI (if fE true true (secI Y M D h m s - 60 * z) = 0 then z else 0), cI (fE true true (secI Y M D h m s - 60 * z))]) ∧ Below w.heap.size w w' := by
  have c3 := fun W => rseconds_ok Y M D h m s W hv
  have hb := secI_bd Y M D h m s hv
  obtain ⟨S, hS⟩ : ∃ S, secI Y M D h m s = S := ⟨_, rfl⟩
  rw [hS] at c3 hb ⊢
  have b1 := hb.1
  have b2 := hb.2
  have b3 := hz.1
  have b4 := hz.2
  have c4 := fun W => rTime_ok (S - 60 * z) W
  clear hS hb hz hv
  have e1 : fT true true (S - 60 * z) = jnT (S - 60 * z) := by simp [fT, jnT]
  have e2 : fE true true (S - 60 * z) = jnE (S - 60 * z) := by simp [fE, jnE]
  have e3 : decide (315532800 ≤ S - 60 * z ∧ S - 60 * z ≤ 4102444799) = isT (S - 60 * z) := rfl
  rw [e1, e2]
  rw [e3] at c4
  clear e1 e2 e3
  unfold jnT jnE at *
  cases ht : isT (S - 60 * z)
  all_goals
    rw [ht] at c4
    clear ht
    try rw [if_neg (by decide : ¬ (if false = true then (0 : Int) else 2) = 0)]
    simp only [Bool.false_eq_true, if_false, if_true]
    go_enter Try.func122, Try.ntmps122
    go_wp2_with (first | (go_at_call 163; (with_reducible refine (c3 _).mono ?_); rintro e w2 ⟨rfl, hB2⟩; have H2 := (BW.start w Y M D h m s).below hB2; clear hB2) | (go_at_call 112; (with_reducible refine (c4 _).mono ?_); rintro e w1 ⟨rfl, rfl⟩))
    go_ret3
    exact ⟨rfl, H2.2⟩
set_option maxRecDepth 100000 in
set_option maxHeartbeats 2000000 in
theorem rreadRecord_ok (s : ByteArray) (w : World) (hs : 7 ≤ s.size) (hs2 : s.size ≤ 7) :
    Calls Try.prog 63 #[.string s] w fun e w' => e = .returned (.tuple #[cI (rrA (sB s)), cI (rrB (sB s)), cI (rrE (sB s))]) ∧ Below w.heap.size w w' := by
  have l0 := sB_lt s 0
  have l1 := sB_lt s 1
  have l2 := sB_lt s 2
  have l3 := sB_lt s 3
  have l4 := sB_lt s 4
  have l5 := sB_lt s 5
  have c1 := fun W => rzone_ok (s[6]'(by omega)) W
  rw [sB_get s 6 (by omega)] at c1
  have e0 := sB_get s 0 (by omega)
  have e1 := sB_get s 1 (by omega)
  have e2 := sB_get s 2 (by omega)
  have e3 := sB_get s 3 (by omega)
  have e4 := sB_get s 4 (by omega)
  have e5 := sB_get s 5 (by omega)
  have e6 := sB_get s 6 (by omega)
  have eY : ((1900 + sB s 0 : Nat) : Int) = 1900 + (sB s 0 : Int) := by omega
  have c3 : ∀ W : World, Calls Try.prog 121 #[.agg #[cI (1900 + (sB s 0 : Int)), cI (sB s 1), cI (sB s 2), cI (sB s 3), cI (sB s 4), cI (sB s 5)]] W fun e w' => e = .returned (.bool (validB (1900 + sB s 0) (sB s 1) (sB s 2) (sB s 3) (sB s 4) (sB s 5))) ∧ Below W.heap.size W w' := fun W => by
    have h := rvalid_ok (1900 + sB s 0) (sB s 1) (sB s 2) (sB s 3) (sB s 4) (sB s 5) W (by omega) (by omega)
    rw [clkV, eY] at h
    exact h
  have c2 := fun W hv hr => finish_ok (1900 + sB s 0) (sB s 1) (sB s 2) (sB s 3) (sB s 4) (sB s 5) (15 * zN (sB s 6)) W hv (zN_bd (b := sB s 6) hr)
  rw [rrB, rrE, rrA, rrT, rrV, rrZ]
  generalize zN (sB s 6) = z at *
  generalize zR (sB s 6) = zr at *
  delta clkV at c2
  rw [eY] at c2
  clear eY
  generalize validB (1900 + sB s 0) (sB s 1) (sB s 2) (sB s 3) (sB s 4) (sB s 5) = v at *
  generalize secI (1900 + sB s 0) (sB s 1) (sB s 2) (sB s 3) (sB s 4) (sB s 5) - 60 * (15 * z) = t at *
  generalize sB s 0 = n0 at *
  generalize sB s 1 = n1 at *
  generalize sB s 2 = n2 at *
  generalize sB s 3 = n3 at *
  generalize sB s 4 = n4 at *
  generalize sB s 5 = n5 at *
  generalize sB s 6 = n6 at *
  have b0 : 0 < s.size := by omega
  have b1 : (1 : Int) < (s.size : Int) := by omega
  have b2 : (2 : Int) < (s.size : Int) := by omega
  have b3 : (3 : Int) < (s.size : Int) := by omega
  have b4 : (4 : Int) < (s.size : Int) := by omega
  have b5 : (5 : Int) < (s.size : Int) := by omega
  have b6 : (6 : Int) < (s.size : Int) := by omega
  have t7 : ((s.size : Int) != 7) = false := by simp; omega
  have hcase : (v = false ∧ fT v zr t = 0 ∧ fE v zr t = 10) ∨ (v = true ∧ zr = false ∧ fT v zr t = 0 ∧ fE v zr t = 10) ∨ (v = true ∧ zr = true) := by
    cases v <;> cases zr <;> simp [fT, fE]
  rcases hcase with ⟨rfl, e7, e8⟩ | ⟨rfl, rfl, e7, e8⟩ | ⟨rfl, rfl⟩
  · rw [e7, e8, if_neg (by decide)]
    clear e7 e8 c2
    go_enter Try.func63, Try.ntmps63
    go_wp2
    refine region_sch (fun _ => True) [(true, 0), (true, 1), (true, 2), (true, 3), (true, 4), (true, 5), (true, 6), (true, 7), (true, 8), (true, 9), (true, 10), (true, 11), (true, 12), (true, 13), (true, 14), (true, 15), (true, 16), (true, 17), (true, 18), (true, 19), (false, 20)] [21] (by kernel_rfl) (by kernel_rfl) (by rintro ⟨_, _, h, _⟩; cases h) (fun _ _ d _ _ h => by cases d <;> exact h) trivial ?_
    simp only [pickM, pickT, List.filterMap_cons, List.filterMap_nil, List.getElem?_cons_zero, List.getElem?_cons_succ, Option.map_some]
    repeat (refine m_float ⟨?_, .inl ⟨?_, .inl ?_⟩, fun K' hK => ?_⟩; rotate_left; (first | rfl | (go_simp; done)); (intro w' hS; go_simp; try rfl); (simp only [Act.put, List.setIfInBounds_toArray, List.set_cons_succ, List.set_cons_zero]; refine hK _ ?_; clear hK K'))
    refine m_loud ?_ (fun K' hK => ?_)
    · rintro ⟨_, _, h, _⟩; cases h
    go_wp2
    refine hK _ _ trivial ?_
    clear hK K'
    refine m_nil ?_
    show wpList Try.prog _ _ (List.cons _ _) _ _
    go_wp2_with (first | (go_at_call 120; (with_reducible refine (c1 _).mono ?_); rintro e w0 ⟨rfl, rfl⟩) | (go_at_call 121; (with_reducible refine (c3 _).mono ?_); rintro e w1 ⟨rfl, hB1⟩; have H1 := (hB1.block w.heap.size (by simp)).trans (World.alloc_heap_new w _); have hBw : Below w.heap.size w w1 := ((Below.refl _ w).alloc (Nat.le_refl _) _).drew.trans (hB1.mono (by simp)); obtain ⟨q0, q1, q2, q3, q4, q5⟩ := cells6 H1; clear H1 hB1) | (go_at_call 122; (with_reducible refine (c5 _).mono ?_); rintro e w5 ⟨rfl, hB5⟩))
    go_ret3
    exact ⟨rfl, hBw⟩
  · rw [e7, e8, if_neg (by decide)]
    clear e7 e8 c2
    go_enter Try.func63, Try.ntmps63
    go_wp2
    refine region_sch (fun _ => True) [(true, 0), (true, 1), (true, 2), (true, 3), (true, 4), (true, 5), (true, 6), (true, 7), (true, 8), (true, 9), (true, 10), (true, 11), (true, 12), (true, 13), (true, 14), (true, 15), (true, 16), (true, 17), (true, 18), (true, 19), (false, 20)] [21] (by kernel_rfl) (by kernel_rfl) (by rintro ⟨_, _, h, _⟩; cases h) (fun _ _ d _ _ h => by cases d <;> exact h) trivial ?_
    simp only [pickM, pickT, List.filterMap_cons, List.filterMap_nil, List.getElem?_cons_zero, List.getElem?_cons_succ, Option.map_some]
    repeat (refine m_float ⟨?_, .inl ⟨?_, .inl ?_⟩, fun K' hK => ?_⟩; rotate_left; (first | rfl | (go_simp; done)); (intro w' hS; go_simp; try rfl); (simp only [Act.put, List.setIfInBounds_toArray, List.set_cons_succ, List.set_cons_zero]; refine hK _ ?_; clear hK K'))
    refine m_loud ?_ (fun K' hK => ?_)
    · rintro ⟨_, _, h, _⟩; cases h
    go_wp2
    refine hK _ _ trivial ?_
    clear hK K'
    refine m_nil ?_
    show wpList Try.prog _ _ (List.cons _ _) _ _
    go_wp2_with (first | (go_at_call 120; (with_reducible refine (c1 _).mono ?_); rintro e w0 ⟨rfl, rfl⟩) | (go_at_call 121; (with_reducible refine (c3 _).mono ?_); rintro e w1 ⟨rfl, hB1⟩; have H1 := (hB1.block w.heap.size (by simp)).trans (World.alloc_heap_new w _); have hBw : Below w.heap.size w w1 := ((Below.refl _ w).alloc (Nat.le_refl _) _).drew.trans (hB1.mono (by simp)); obtain ⟨q0, q1, q2, q3, q4, q5⟩ := cells6 H1; clear H1 hB1) | (go_at_call 122; (with_reducible refine (c5 _).mono ?_); rintro e w5 ⟨rfl, hB5⟩))
    go_ret3
    exact ⟨rfl, hBw⟩
  · have c5 := fun W => c2 W rfl rfl
    clear c2
    generalize (if fE true true t = 0 then 15 * z else 0) = u at c5 ⊢
    generalize fT true true t = x at c5 ⊢
    generalize fE true true t = y at c5 ⊢
    go_enter Try.func63, Try.ntmps63
    go_wp2
    refine region_sch (fun _ => True) [(true, 0), (true, 1), (true, 2), (true, 3), (true, 4), (true, 5), (true, 6), (true, 7), (true, 8), (true, 9), (true, 10), (true, 11), (true, 12), (true, 13), (true, 14), (true, 15), (true, 16), (true, 17), (true, 18), (true, 19), (false, 20)] [21] (by kernel_rfl) (by kernel_rfl) (by rintro ⟨_, _, h, _⟩; cases h) (fun _ _ d _ _ h => by cases d <;> exact h) trivial ?_
    simp only [pickM, pickT, List.filterMap_cons, List.filterMap_nil, List.getElem?_cons_zero, List.getElem?_cons_succ, Option.map_some]
    repeat (refine m_float ⟨?_, .inl ⟨?_, .inl ?_⟩, fun K' hK => ?_⟩; rotate_left; (first | rfl | (go_simp; done)); (intro w' hS; go_simp; try rfl); (simp only [Act.put, List.setIfInBounds_toArray, List.set_cons_succ, List.set_cons_zero]; refine hK _ ?_; clear hK K'))
    refine m_loud ?_ (fun K' hK => ?_)
    · rintro ⟨_, _, h, _⟩; cases h
    go_wp2
    refine hK _ _ trivial ?_
    clear hK K'
    refine m_nil ?_
    show wpList Try.prog _ _ (List.cons _ _) _ _
    go_wp2_with (first | (go_at_call 120; (with_reducible refine (c1 _).mono ?_); rintro e w0 ⟨rfl, rfl⟩) | (go_at_call 121; (with_reducible refine (c3 _).mono ?_); rintro e w1 ⟨rfl, hB1⟩; have H1 := (hB1.block w.heap.size (by simp)).trans (World.alloc_heap_new w _); have hBw : Below w.heap.size w w1 := ((Below.refl _ w).alloc (Nat.le_refl _) _).drew.trans (hB1.mono (by simp)); obtain ⟨q0, q1, q2, q3, q4, q5⟩ := cells6 H1; clear H1 hB1) | (go_at_call 122; (with_reducible refine (c5 _).mono ?_); rintro e w5 ⟨rfl, hB5⟩))
    go_ret3
    exact ⟨rfl, bthen hBw hB5⟩
end Go.Proofs.Ytnmlephjhcmbhaa
