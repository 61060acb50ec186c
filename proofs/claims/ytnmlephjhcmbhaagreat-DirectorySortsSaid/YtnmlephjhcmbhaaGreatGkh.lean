/- slices.symMergeCmpFunc of records: one element on the right. -/
import Derived.Test.YtnmlephjhcmbhaaGreatGkg
namespace Go.Proofs.YtnmlephjhcmbhaaGreat
set_option linter.unusedSimpArgs false
set_option linter.unusedVariables false
open Go Go.RowKit
set_option maxRecDepth 100000 in
set_option maxHeartbeats 4000000 in
theorem sym_right (cf : Rec → Rec → Int) (hcf : CmpOk cf) (P : Rec → Prop) (w : World) (g : Nat) (tl : List Value) (Fb cap : Nat) (hcmp : CmpC cf P w g tl Fb) (N : Nat) (hN2 : N ≤ 2000) (A L C : List TR) (y : TR) (a m b : Nat) (W0 : World) (hL2 : 1 < L.length)
    (ha : a = A.length) (hm : m = a + L.length) (hb : b = m + 1) (hN : N = (A ++ L ++ [y] ++ C).length) (hL : L.Pairwise (ltT cf)) (hx : ∀ x ∈ L, x.2 < y.2) (hP : ∀ x ∈ y :: L, P x.1) (hS : ST w g tl (A ++ L ++ [y] ++ C) W0) :
    Calls Tryz.prog 92 #[.slice (some ⟨g, 0, none⟩) N cap, cN a, cN m, cN b, .func (.func 46) #[] #[.pointer (some ⟨Fb, 0, none⟩)]] W0 (SeT cf w g tl A (L ++ [y]) C) := by
  have g0 : ((m : Int) - (a : Int) == 1) = false := by simp; omega
  have g1 : ((b : Int) - (m : Int) == 1) = true := by simp; omega
  have hq : b ≤ N := by rw [hN, hb, hm, ha]; simp; omega
  have ham : a < m := by omega
  have hmb : m < b := by omega
  have HS0 := Lib.hid hS
  have HA := Lib.hid ha
  have HM := Lib.hid hm
  have HN := Lib.hid hN
  have HR := Lib.hid hL
  have HX := Lib.hid hx
  have HP := Lib.hid hP
  have HC := Lib.hid hcmp
  have HF := Lib.hid hcf
  clear hS ha hm hb hN hL hx hP hcmp hcf hL2
  go_enter Tryz.func92, Tryz.ntmps92
  go_wp2
  go_loopw [14, 15, 16] (fun i j _ wr => ∃ ki kj : Nat, i = cN ki ∧ j = cN kj ∧ a ≤ ki ∧ ki ≤ kj ∧ kj ≤ m ∧ OneLo (ltT cf) L y (ki - a) ∧ OneHi (ltT cf) L y (kj - a) ∧ ST w g tl (A ++ L ++ [y] ++ C) wr) (fun i j _ _ => (intOf j).toNat - (intOf i).toNat)
  case atStart => exact ⟨a, m, rfl, rfl, Nat.le_refl _, Nat.le_of_lt ham, Nat.le_refl _, fun c y h => by omega, fun c y h hy => by obtain ⟨h1, -⟩ := List.getElem?_eq_some_iff.1 hy; have := HM.out; omega, HS0.out⟩
  case round =>
    obtain ⟨ki, kj, rfl, rfl, hmi, hij, hj, hlo, hhi, hS⟩ := hrel
    have HLO := Lib.hid hlo
    have HHI := Lib.hid hhi
    have HS := Lib.hid hS
    clear hlo hhi hS
    by_cases hlt : ki < kj
    · have g2 : (ki : Int) < (kj : Int) := by omega
      have e1 := half_of ki kj
      obtain ⟨c, hc⟩ : ∃ c, c = (ki + kj) / 2 := ⟨_, rfl⟩
      rw [← hc] at e1
      have hc1 : ki ≤ c := by omega
      have hc2 : c < kj := by omega
      have hcb : c < m := by omega
      have hcN : (c : Int) < (N : Int) := by omega
      have hmN : (m : Int) < (N : Int) := by omega
      obtain ⟨x, hxc⟩ : ∃ x, L[c - a]? = some x := ⟨L[c - a]'(by have := HM.out; omega), List.getElem?_eq_getElem _⟩
      have hxL : x ∈ L := List.mem_of_getElem? hxc
      have cx : ∀ W, ST w g tl (A ++ L ++ [y] ++ C) W → CellsR W g ((c) * 8) x.1 := fun W hW => hW.cellR c x (by
        rw [List.append_assoc, List.append_assoc, List.getElem?_append_right (by have := HA.out; omega), List.getElem?_append_left (by have := HA.out; have := HM.out; omega), ← HA.out]
        exact hxc)
      have cy : ∀ W, ST w g tl (A ++ L ++ [y] ++ C) W → CellsR W g ((m) * 8) y.1 := fun W hW => hW.cellR m y (by
        rw [show A ++ L ++ [y] ++ C = (A ++ L) ++ y :: C by simp]; exact at_mid _ _ _ _ (by rw [List.length_append, ← HA.out]; exact HM.out))
      have c1 := HC.out wr.drew _ y.1 x.1 HS.out.drew (HP.out y (List.mem_cons_self ..)) (HP.out x (List.mem_cons_of_mem _ hxL))
      have hord := ltX_of HF.out (HX.out x hxL)
      obtain ⟨q0, q1, q2, q3, q4, q5, q6, q7⟩ := cy _ HS.out
      obtain ⟨r0, r1, r2, r3, r4, r5, r6, r7⟩ := cx _ HS.out
      have HY := Lib.hid hxc
      have HCC := Lib.hid hc
      obtain ⟨v, hv⟩ : ∃ v, cf y.1 x.1 = v := ⟨_, rfl⟩
      rw [hv] at c1 hord
      have HORD := Lib.hid hord
      clear hc hxc hxL cy cx hv hord hij hlt
      by_cases hneg : v < 0
      · have HV := Lib.hid hneg
        go_wp2
        refine region_sch (fun w' => w' = wr.drew) [(true, 0), (true, 1), (true, 2), (true, 3), (true, 4), (true, 5), (true, 6), (true, 7), (true, 8)] [9, 10, 11] (by kernel_rfl) (by kernel_rfl) (by rintro ⟨_, _, h⟩; cases h.1) (fun _ _ d _ _ h => by cases d <;> exact h) rfl ?_
        simp only [pickM, pickT, List.filterMap_cons, List.filterMap_nil, List.getElem?_cons_zero, List.getElem?_cons_succ, Option.map_some]
        repeat (first | (refine m_float ⟨?_, .inl ⟨?_, .inl ?_⟩, fun K' hK => ?_⟩; rotate_left; (first | rfl | (go_simp; done)); (intro w' hS; subst hS; go_simp; try rfl); (simp only [Act.put, List.setIfInBounds_toArray, List.set_cons_succ, List.set_cons_zero]; refine hK _ ?_; clear hK K')) | (refine m_float ⟨undef, .inr ⟨?_, rfl⟩, fun K' hK => ?_⟩; (first | rfl | (go_simp; done)); (simp only [Act.put, List.setIfInBounds_toArray, List.set_cons_succ, List.set_cons_zero]; refine hK _ ?_; clear hK K')))
        refine m_nil ?_
        show wpList Tryz.prog _ _ (List.cons _ _) _ _
        go_wp2_with fail
        with_reducible refine c1.mono ?_
        rintro e w1 ⟨rfl, hB1⟩
        have HS1 := Lib.hid (HS.out.drew.below hB1)
        clear hB1 q0 q1 q2 q3 q4 q5 q6 q7 r0 r1 r2 r3 r4 r5 r6 r7
        go_wp2
        go_roundw
        case rel => exact ⟨ki, c, rfl, rfl, hmi, hc1, by omega, HLO.out, oneHi_step (ltX_trans HF.out) HR.out HY.out (HORD.out.1 HV.out), HS1.out⟩
        case measure => simp [intOf]; omega
      · have hneg2 : 0 ≤ v := by omega
        have HV := Lib.hid hneg
        have g3 : decide (v < 0) = false := decide_eq_false hneg
        go_wp2
        refine region_sch (fun w' => w' = wr.drew) [(true, 0), (true, 1), (true, 2), (true, 3), (true, 4), (true, 5), (true, 6), (true, 7), (true, 8)] [9, 10, 11] (by kernel_rfl) (by kernel_rfl) (by rintro ⟨_, _, h⟩; cases h.1) (fun _ _ d _ _ h => by cases d <;> exact h) rfl ?_
        simp only [pickM, pickT, List.filterMap_cons, List.filterMap_nil, List.getElem?_cons_zero, List.getElem?_cons_succ, Option.map_some]
        repeat (first | (refine m_float ⟨?_, .inl ⟨?_, .inl ?_⟩, fun K' hK => ?_⟩; rotate_left; (first | rfl | (go_simp; done)); (intro w' hS; subst hS; go_simp; try rfl); (simp only [Act.put, List.setIfInBounds_toArray, List.set_cons_succ, List.set_cons_zero]; refine hK _ ?_; clear hK K')) | (refine m_float ⟨undef, .inr ⟨?_, rfl⟩, fun K' hK => ?_⟩; (first | rfl | (go_simp; done)); (simp only [Act.put, List.setIfInBounds_toArray, List.set_cons_succ, List.set_cons_zero]; refine hK _ ?_; clear hK K')))
        refine m_nil ?_
        show wpList Tryz.prog _ _ (List.cons _ _) _ _
        go_wp2_with fail
        with_reducible refine c1.mono ?_
        rintro e w1 ⟨rfl, hB1⟩
        have HS1 := Lib.hid (HS.out.drew.below hB1)
        clear hB1 q0 q1 q2 q3 q4 q5 q6 q7 r0 r1 r2 r3 r4 r5 r6 r7
        go_wp2
        go_roundw
        case rel => exact ⟨c + 1, kj, by go_num, rfl, by omega, by omega, hj, by
          have := oneLo_step (ltX_trans HF.out) HR.out HY.out (HORD.out.2 HV.out)
          rwa [show c - a + 1 = c + 1 - a by omega] at this, HHI.out, HS1.out⟩
        case measure => simp [intOf]; omega
    · have hkk : ki = kj := by omega
      subst hkk
      obtain ⟨j, hj⟩ : ∃ j, j = ki - a := ⟨_, rfl⟩
      rw [← hj] at HLO HHI
      have hki : ki = a + j := by omega
      have hjR : j ≤ L.length := by have := HM.out; omega
      have g2 : ¬ (ki : Int) < (ki : Int) := by omega
      have HKI := Lib.hid hki
      have HJ := Lib.hid hj
      clear hj hki hij hlt
      go_wp2
      go_loopw [17] (fun k wr => ∃ t L1 L2, k = cN (t : Nat) ∧ ki ≤ t ∧ t ≤ m ∧ L = L1 ++ L2 ∧ t = a + L1.length ∧ ST w g tl (A ++ L1 ++ y :: L2 ++ C) wr) (fun k _ => (intOf k).toNat)
      case atStart => exact ⟨m, L, [], rfl, by omega, Nat.le_refl _, by simp, HM.out, by simpa using HS.out⟩
      case round =>
        obtain ⟨k, L1, L2, rfl, hk1, hk2, hr, hr1, hS2⟩ := hrel
        have HRR := Lib.hid hr
        have HR1 := Lib.hid hr1
        have HS2 := Lib.hid hS2
        clear hr hr1 hS2
        by_cases htj : ki < k
        · have g3 : (ki : Int) < (k : Int) := by omega
          rcases List.eq_nil_or_concat L1 with h0 | ⟨L1', x, h0⟩
          · exfalso; have := HR1.out; rw [h0] at this; simp at this; omega
          rw [List.concat_eq_append] at h0
          subst h0
          obtain ⟨p, rfl⟩ : ∃ p, k = p + 1 := ⟨k - 1, by have := HR1.out; simp at this; omega⟩
          have hka : p = (A ++ L1').length := by have := HR1.out; have := HA.out; simp at *; omega
          have hkN : p + 1 < N := by omega
          have d1 : A ++ (L1' ++ [x]) ++ y :: L2 ++ C = (A ++ L1') ++ x :: (y :: L2 ++ C) := by simp
          have d2 : A ++ (L1' ++ [x]) ++ y :: L2 ++ C = (A ++ L1' ++ [x]) ++ y :: (L2 ++ C) := by simp
          have hsa := HS2.out
          obtain ⟨q0, q1, q2, q3, q4, q5, q6, q7⟩ : CellsR wr g ((p) * 8) x.1 := hsa.cellR _ x (by rw [d1]; exact at_mid _ _ _ _ hka)
          obtain ⟨r0, r1, r2, r3, r4, r5, r6, r7⟩ : CellsR wr g ((p + 1) * 8) y.1 := hsa.cellR _ y (by rw [d2]; exact at_mid _ _ _ _ (by rw [List.length_append, ← hka]; rfl))
          have hkey : ST w g tl (A ++ L1' ++ y :: (x :: L2) ++ C) ((wr.setCells g ((p + 1) * 8) (recA x.1).toList).setCells g ((p) * 8) (recA y.1).toList) := by
            have k1 := hsa
            have lb : p + 1 = (A ++ L1' ++ [x]).length := by rw [List.length_append, ← hka]; rfl
            rw [d2] at k1
            have k2 := k1.put (p + 1) x (by rw [lb]; simp)
            rw [set_mid _ _ _ _ _ lb] at k2
            rw [show (A ++ L1' ++ [x]) ++ x :: (L2 ++ C) = (A ++ L1') ++ x :: (x :: L2 ++ C) by simp] at k2
            have k3 := k2.put p y (by rw [hka]; simp)
            rw [set_mid _ _ _ _ _ hka] at k3
            simpa using k3
          have fz : ∀ j, wr.frozen? ⟨g, j, none⟩ = false := fun j => hsa.fz j
          have HKEY := Lib.hid hkey
          have p0 : (p : Int) < (N : Int) := by omega
          have p1 : (p : Int) + 1 < (N : Int) := by omega
          have p2 : (0 : Int) ≤ (p : Int) + 1 := by omega
          have e0 : ((p : Int) + 1).toNat = p + 1 := by omega
          have hwp : IntKind.i64.wrap (p : Int) = (p : Int) := by rw [IntKind.wrap_i64]; omega
          have HKA := Lib.hid hka
          clear hsa hkey d1 d2 hka hjR
          go_wp2
          go_big_region
          all_goals go_wp2
          all_goals go_roundw
          case rel => exact ⟨p, L1', x :: L2, by go_num, by omega, by omega, by rw [HRR.out]; simp, by have := HR1.out; simp at this; omega, HKEY.out.drew⟩
          case measure => first | (simp [intOf]; done) | (simp [intOf]; omega)
        · have htj2 : k = ki := by omega
          have g3 : ¬ (ki : Int) < (k : Int) := by omega
          have HT := Lib.hid htj2
          clear htj htj2 hjR
          go_wp2
          go_end0
          have hlen : L1.length = j := by have := HR1.out; have := HT.out; have := HKI.out; omega
          have e1 : L.take j = L1 := by rw [HRR.out, ← hlen]; simp
          have e2 : L.drop j = L2 := by rw [HRR.out, ← hlen]; simp
          refine ⟨rfl, L.take j ++ y :: L.drop j, (one_perm j).trans (List.perm_append_comm (l₁ := [y])), one_sorted (ltX_trans HF.out) HR.out HLO.out HHI.out, ?_⟩
          rw [e1, e2]
          simpa using HS2.out
end Go.Proofs.YtnmlephjhcmbhaaGreat
