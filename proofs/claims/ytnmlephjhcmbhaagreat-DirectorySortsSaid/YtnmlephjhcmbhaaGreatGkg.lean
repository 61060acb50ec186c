/- slices.symMergeCmpFunc of records: one element on the left. -/
import Derived.Test.YtnmlephjhcmbhaaGreatGkf
namespace Go.Proofs.YtnmlephjhcmbhaaGreat
set_option linter.unusedSimpArgs false
set_option linter.unusedVariables false
open Go Go.RowKit
theorem half_of (x y : Nat) : ((x : Int) + (y : Int)) / 2 = (((x + y) / 2 : Nat) : Int) := by omega
set_option maxRecDepth 100000 in
set_option maxHeartbeats 4000000 in
theorem sym_left (cf : Rec → Rec → Int) (hcf : CmpOk cf) (P : Rec → Prop) (w : World) (g : Nat) (tl : List Value) (Fb cap : Nat) (hcmp : CmpC cf P w g tl Fb) (N : Nat) (hN2 : N ≤ 2000) (A R C : List TR) (x : TR) (a m b : Nat) (W0 : World)
    (ha : a = A.length) (hm : m = a + 1) (hb : b = m + R.length) (hN : N = (A ++ [x] ++ R ++ C).length) (hR : R.Pairwise (ltT cf)) (hx : ∀ y ∈ R, x.2 < y.2) (hP : ∀ y ∈ x :: R, P y.1) (hS : ST w g tl (A ++ [x] ++ R ++ C) W0) :
    Calls Tryz.prog 92 #[.slice (some ⟨g, 0, none⟩) N cap, cN a, cN m, cN b, .func (.func 46) #[] #[.pointer (some ⟨Fb, 0, none⟩)]] W0 (SeT cf w g tl A ([x] ++ R) C) := by
  have g1 : ((m : Int) - (a : Int) == 1) = true := by simp; omega
  have hq : b ≤ N := by rw [hN, hb, hm, ha]; simp; omega
  have ham : a < m := by omega
  have hmb : m ≤ b := by omega
  have HS0 := Lib.hid hS
  have HA := Lib.hid ha
  have HM := Lib.hid hm
  have HBB := Lib.hid hb
  have HN := Lib.hid hN
  have HR := Lib.hid hR
  have HX := Lib.hid hx
  have HP := Lib.hid hP
  have HC := Lib.hid hcmp
  have HF := Lib.hid hcf
  clear hS ha hm hb hN hR hx hP hcmp hcf
  go_enter Tryz.func92, Tryz.ntmps92
  go_wp2
  go_loopw [10, 11, 12] (fun i j _ wr => ∃ ki kj : Nat, i = cN ki ∧ j = cN kj ∧ m ≤ ki ∧ ki ≤ kj ∧ kj ≤ b ∧ OneLo (ltT cf) R x (ki - m) ∧ OneHi (ltT cf) R x (kj - m) ∧ ST w g tl (A ++ [x] ++ R ++ C) wr) (fun i j _ _ => (intOf j).toNat - (intOf i).toNat)
  case atStart => exact ⟨m, b, rfl, rfl, Nat.le_refl _, hmb, Nat.le_refl _, fun c y h => by omega, fun c y h hy => by obtain ⟨h1, -⟩ := List.getElem?_eq_some_iff.1 hy; have := HBB.out; omega, HS0.out⟩
  case round =>
    obtain ⟨ki, kj, rfl, rfl, hmi, hij, hj, hlo, hhi, hS⟩ := hrel
    have HLO := Lib.hid hlo
    have HHI := Lib.hid hhi
    have HS := Lib.hid hS
    clear hlo hhi hS
    by_cases hlt : ki < kj
    · have g2 : (ki : Int) < (kj : Int) := by omega
      have e1 := half_of ki kj
      obtain ⟨c, hc⟩ : ∃ c, c = (ki + kj) / 2 := ⟨_, rfl⟩
      rw [← hc] at e1
      have hc1 : ki ≤ c := by omega
      have hc2 : c < kj := by omega
      have hcb : c < b := by omega
      have hcN : (c : Int) < (N : Int) := by omega
      have haN : (a : Int) < (N : Int) := by omega
      obtain ⟨y, hy⟩ : ∃ y, R[c - m]? = some y := ⟨R[c - m]'(by have := HBB.out; omega), List.getElem?_eq_getElem _⟩
      have hyR : y ∈ R := List.mem_of_getElem? hy
      have cy : ∀ W, ST w g tl (A ++ [x] ++ R ++ C) W → CellsR W g ((c) * 8) y.1 := fun W hW => hW.cellR c y (by
        rw [List.append_assoc, List.getElem?_append_right (by have := HA.out; have := HM.out; simp; omega), List.getElem?_append_left (by have := HA.out; have := HM.out; have := HBB.out; simp; omega)]
        rw [← hy]; congr 1; have := HA.out; have := HM.out; simp; omega)
      have cx : ∀ W, ST w g tl (A ++ [x] ++ R ++ C) W → CellsR W g ((a) * 8) x.1 := fun W hW => hW.cellR a x (by
        rw [show A ++ [x] ++ R ++ C = A ++ x :: (R ++ C) by simp]; exact at_mid _ _ _ _ HA.out)
      have c1 := HC.out wr.drew _ y.1 x.1 HS.out.drew (HP.out y (List.mem_cons_of_mem _ hyR)) (HP.out x (List.mem_cons_self ..))
      have hord := ltX_of HF.out (HX.out y hyR)
      obtain ⟨q0, q1, q2, q3, q4, q5, q6, q7⟩ := cy _ HS.out
      obtain ⟨r0, r1, r2, r3, r4, r5, r6, r7⟩ := cx _ HS.out
      have HY := Lib.hid hy
      have HCC := Lib.hid hc
      obtain ⟨v, hv⟩ : ∃ v, cf y.1 x.1 = v := ⟨_, rfl⟩
      rw [hv] at c1 hord
      have HORD := Lib.hid hord
      clear hc hy hyR cy cx hv hord hij hlt
      by_cases hneg : v < 0
      · have HV := Lib.hid hneg
        go_wp2
        refine region_sch (fun w' => w' = wr.drew) [(true, 0), (true, 1), (true, 2), (true, 3), (true, 4), (true, 5), (true, 6), (true, 7), (true, 8)] [9, 10] (by kernel_rfl) (by kernel_rfl) (by rintro ⟨_, _, h⟩; cases h.1) (fun _ _ d _ _ h => by cases d <;> exact h) rfl ?_
        simp only [pickM, pickT, List.filterMap_cons, List.filterMap_nil, List.getElem?_cons_zero, List.getElem?_cons_succ, Option.map_some]
        repeat (first | (refine m_float ⟨?_, .inl ⟨?_, .inl ?_⟩, fun K' hK => ?_⟩; rotate_left; (first | rfl | (go_simp; done)); (intro w' hS; subst hS; go_simp; try rfl); (simp only [Act.put, List.setIfInBounds_toArray, List.set_cons_succ, List.set_cons_zero]; refine hK _ ?_; clear hK K')) | (refine m_float ⟨undef, .inr ⟨?_, rfl⟩, fun K' hK => ?_⟩; (first | rfl | (go_simp; done)); (simp only [Act.put, List.setIfInBounds_toArray, List.set_cons_succ, List.set_cons_zero]; refine hK _ ?_; clear hK K')))
        refine m_nil ?_
        show wpList Tryz.prog _ _ (List.cons _ _) _ _
        go_wp2_with fail
        with_reducible refine c1.mono ?_
        rintro e w1 ⟨rfl, hB1⟩
        have HS1 := Lib.hid (HS.out.drew.below hB1)
        clear hB1 q0 q1 q2 q3 q4 q5 q6 q7 r0 r1 r2 r3 r4 r5 r6 r7
        go_wp2
        go_roundw
        case rel => exact ⟨c + 1, kj, by go_num, rfl, by omega, by omega, hj, by
          have := oneLo_step (ltX_trans HF.out) HR.out HY.out (HORD.out.1 HV.out)
          rwa [show c - m + 1 = c + 1 - m by omega] at this, HHI.out, HS1.out⟩
        case measure => simp [intOf]; omega
      · have hneg2 : 0 ≤ v := by omega
        have HV := Lib.hid hneg
        go_wp2
        refine region_sch (fun w' => w' = wr.drew) [(true, 0), (true, 1), (true, 2), (true, 3), (true, 4), (true, 5), (true, 6), (true, 7), (true, 8)] [9, 10] (by kernel_rfl) (by kernel_rfl) (by rintro ⟨_, _, h⟩; cases h.1) (fun _ _ d _ _ h => by cases d <;> exact h) rfl ?_
        simp only [pickM, pickT, List.filterMap_cons, List.filterMap_nil, List.getElem?_cons_zero, List.getElem?_cons_succ, Option.map_some]
        repeat (first | (refine m_float ⟨?_, .inl ⟨?_, .inl ?_⟩, fun K' hK => ?_⟩; rotate_left; (first | rfl | (go_simp; done)); (intro w' hS; subst hS; go_simp; try rfl); (simp only [Act.put, List.setIfInBounds_toArray, List.set_cons_succ, List.set_cons_zero]; refine hK _ ?_; clear hK K')) | (refine m_float ⟨undef, .inr ⟨?_, rfl⟩, fun K' hK => ?_⟩; (first | rfl | (go_simp; done)); (simp only [Act.put, List.setIfInBounds_toArray, List.set_cons_succ, List.set_cons_zero]; refine hK _ ?_; clear hK K')))
        refine m_nil ?_
        show wpList Tryz.prog _ _ (List.cons _ _) _ _
        go_wp2_with fail
        with_reducible refine c1.mono ?_
        rintro e w1 ⟨rfl, hB1⟩
        have HS1 := Lib.hid (HS.out.drew.below hB1)
        clear hB1 q0 q1 q2 q3 q4 q5 q6 q7 r0 r1 r2 r3 r4 r5 r6 r7
        go_wp2
        go_roundw
        case rel => exact ⟨ki, c, rfl, rfl, hmi, hc1, by omega, HLO.out, oneHi_step (ltX_trans HF.out) HR.out HY.out (HORD.out.2 HV.out), HS1.out⟩
        case measure => simp [intOf]; omega
    · have hkk : ki = kj := by omega
      subst hkk
      obtain ⟨j, hj⟩ : ∃ j, j = ki - m := ⟨_, rfl⟩
      rw [← hj] at HLO HHI
      have hki : ki = m + j := by omega
      have hjR : j ≤ R.length := by have := HBB.out; omega
      have g2 : ¬ (ki : Int) < (ki : Int) := by omega
      have hjb : ki ≤ N := by omega
      have HKI := Lib.hid hki
      have HJ := Lib.hid hj
      clear hj hki hij hlt
      go_wp2
      go_loopw [13] (fun k wr => ∃ t R1 R2, k = cN ((a + t : Nat) : Int) ∧ t ≤ j ∧ R = R1 ++ R2 ∧ R1.length = t ∧ ST w g tl (A ++ R1 ++ x :: R2 ++ C) wr) (fun k _ => a + j - (intOf k).toNat)
      case atStart => exact ⟨0, [], R, by simp, Nat.zero_le _, rfl, rfl, by simpa using HS.out⟩
      case round =>
        obtain ⟨t, R1, R2, hcc, ht, hr, hr1, hS2⟩ := hrel
        obtain ⟨k, hk⟩ : ∃ k, k = a + t := ⟨_, rfl⟩
        rw [← hk] at hcc
        subst hcc
        have HRR := Lib.hid hr
        have HR1 := Lib.hid hr1
        have HS2 := Lib.hid hS2
        have HK := Lib.hid hk
        clear hr hr1 hS2
        by_cases htj : t < j
        · have g3 : (k : Int) < (ki : Int) - 1 := by have := HKI.out; have := HM.out; omega
          obtain ⟨y, R2, rfl⟩ : ∃ x l, R2 = x :: l := cons_of_lt (by have := HR1.out; rw [HRR.out] at hjR; simp at hjR; omega)
          have hka : k = (A ++ R1).length := by rw [List.length_append, HR1.out, ← HA.out]; exact HK.out
          have hkN : k + 1 < N := by
            have h1 := HK.out; have h2 := HR1.out; have h3 := HN.out; have h4 := HA.out
            rw [HRR.out] at h3
            simp at h3
            omega
          have d1 : A ++ R1 ++ x :: y :: R2 ++ C = (A ++ R1) ++ x :: (y :: R2 ++ C) := by simp
          have d2 : A ++ R1 ++ x :: y :: R2 ++ C = (A ++ R1 ++ [x]) ++ y :: (R2 ++ C) := by simp
          have hsa := HS2.out
          obtain ⟨q0, q1, q2, q3, q4, q5, q6, q7⟩ : CellsR wr g ((k) * 8) x.1 := hsa.cellR _ x (by rw [d1]; exact at_mid _ _ _ _ hka)
          obtain ⟨r0, r1, r2, r3, r4, r5, r6, r7⟩ : CellsR wr g ((k + 1) * 8) y.1 := hsa.cellR _ y (by rw [d2]; exact at_mid _ _ _ _ (by rw [List.length_append, ← hka]; rfl))
          have hkey : ST w g tl (A ++ (R1 ++ [y]) ++ x :: R2 ++ C) ((wr.setCells g ((k) * 8) (recA y.1).toList).setCells g ((k + 1) * 8) (recA x.1).toList) := by
            have k1 := hsa
            rw [d1] at k1
            have k2 := k1.put k y (by rw [hka]; simp)
            rw [set_mid _ _ _ _ _ hka] at k2
            rw [show (A ++ R1) ++ y :: (y :: R2 ++ C) = (A ++ R1 ++ [y]) ++ y :: (R2 ++ C) by simp] at k2
            have lb : k + 1 = (A ++ R1 ++ [y]).length := by rw [List.length_append, ← hka]; rfl
            have k3 := k2.put (k + 1) x (by rw [lb]; simp)
            rw [set_mid _ _ _ _ _ lb] at k3
            simpa using k3
          have fz : ∀ j, wr.frozen? ⟨g, j, none⟩ = false := fun j => hsa.fz j
          have HKEY := Lib.hid hkey
          have p0 : (k : Int) < (N : Int) := by omega
          have p1 : (k : Int) + 1 < (N : Int) := by omega
          have p2 : (0 : Int) ≤ (k : Int) + 1 := by omega
          have e0 : ((k : Int) + 1).toNat = k + 1 := by omega
          clear hsa hkey d1 d2 hka hk hjR
          go_wp2
          go_big_region
          all_goals go_wp2
          all_goals go_roundw
          case rel => exact ⟨t + 1, R1 ++ [y], R2, num_eq (by have := HK.out; omega), by omega, by rw [HRR.out]; simp, by simp [HR1.out], HKEY.out.drew⟩
          case measure => have := HK.out; first | (simp [intOf]; done) | (simp [intOf]; omega)
        · have htj2 : t = j := by omega
          have g3 : ¬ (k : Int) < (ki : Int) - 1 := by have := HKI.out; have := HM.out; omega
          have HT := Lib.hid htj2
          clear hk htj htj2 hjR
          go_wp2
          go_end0
          have hlen : R1.length = j := by rw [HR1.out, HT.out]
          have e1 : R.take j = R1 := by rw [HRR.out, ← hlen]; simp
          have e2 : R.drop j = R2 := by rw [HRR.out, ← hlen]; simp
          refine ⟨rfl, R.take j ++ x :: R.drop j, one_perm j, one_sorted (ltX_trans HF.out) HR.out HLO.out HHI.out, ?_⟩
          rw [e1, e2]
          simpa using HS2.out
end Go.Proofs.YtnmlephjhcmbhaaGreat
