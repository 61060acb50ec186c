/- slices.insertionSortCmpFunc of records, walked. -/
import Derived.Test.YtnmlephjhcmbhaaGreatDkp
import Derived.BigRegion
namespace Go.Proofs.YtnmlephjhcmbhaaGreat
set_option linter.unusedSimpArgs false
set_option linter.unusedVariables false
open Go Go.RowKit
set_option maxRecDepth 100000 in
set_option maxHeartbeats 4000000 in
theorem insrec_ok (cf : Rec → Rec → Int) (hcf : CmpOk cf) (P : Rec → Prop) (w : World) (g : Nat) (tl : List Value) (Fb cap : Nat) (A C : List TR) (x0 : TR) (M0 : List TR) (hcmp : CmpC cf P w g tl Fb)
    (hP : ∀ t ∈ x0 :: M0, P t.1) (htag : (x0 :: M0).Pairwise (fun a b => a.2 < b.2)) (a b n : Nat) (ha : a = A.length) (hb : b = a + (x0 :: M0).length) (hn : n = b + C.length) (hn2 : n ≤ 2000)
    (W0 : World) (hS : SR w g tl (recsT (A ++ (x0 :: M0) ++ C)) W0) :
    Calls Tryz.prog 91 #[.slice (some ⟨g, 0, none⟩) n cap, cN a, cN b, .func (.func 46) #[] #[.pointer (some ⟨Fb, 0, none⟩)]] W0 (InsEnd cf w g tl A (x0 :: M0) C) := by
  have hab : a + 1 ≤ b := by rw [hb, List.length_cons]; omega
  have hbn : b ≤ n := by omega
  have hO : InsO cf w g tl A (x0 :: M0) C (a + 1) W0 := ⟨[x0], M0, [x0], rfl, by simp [ha], List.Perm.refl _, by simp, by simpa using hS⟩
  have HO := Lib.hid hO
  have HC := Lib.hid hcmp
  have HP := Lib.hid hP
  have HT := Lib.hid htag
  have HA := Lib.hid ha
  have HBB := Lib.hid hb
  have HN := Lib.hid hn
  have HF := Lib.hid hcf
  clear hS hO hcmp hP htag ha hb hn hcf
  go_enter Tryz.func91, Tryz.ntmps91
  go_wp2
  go_loopw [8, 9] (fun i _ wr => ∃ k, i = cN (k : Nat) ∧ a + 1 ≤ k ∧ k ≤ b ∧ InsO cf w g tl A (x0 :: M0) C k wr) (fun i _ _ => b - (intOf i).toNat)
  case atStart => exact ⟨a + 1, by go_num, Nat.le_refl _, hab, HO.out⟩
  case round =>
    obtain ⟨k, rfl, hk1, hk2, M1, M2, m1, hM, hki, hp, hs, hS⟩ := hrel
    have HM := Lib.hid hM
    have HKI := Lib.hid hki
    have HPM := Lib.hid hp
    have HSO := Lib.hid hs
    have HSR := Lib.hid hS
    clear hM hki hp hs hS
    cases M2 with
    | nil =>
      have hkb : k = b := by
        have e1 := HM.out; have e2 := HKI.out; have e3 := HBB.out; have e4 := HA.out
        rw [List.append_nil] at e1
        rw [e1] at e3
        omega
      have HK := Lib.hid hkb
      have g1 : ¬ (k : Int) < (b : Int) := by omega
      clear hkb
      go_wp2
      go_end0
      have e1 := HM.out
      rw [List.append_nil] at e1
      exact ⟨rfl, m1, by rw [e1]; exact HPM.out, HSO.out, by simpa using HSR.out⟩
    | cons x M2 =>
      have hkb : k < b := by
        have e1 := HM.out; have e2 := HKI.out; have e3 := HBB.out; have e4 := HA.out
        rw [e1] at e3
        simp at e3
        omega
      have g1 : (k : Int) < (b : Int) := by omega
      generalize hwo : wr = wo
      go_wp2
      go_loopw [9] (fun j wr => ∃ q, j = cN (q : Nat) ∧ a ≤ q ∧ q ≤ k ∧ InsI cf w g tl A m1 x (M2 ++ C) q wr) (fun j _ => (intOf j).toNat)
      case atStart =>
        refine ⟨k, rfl, by omega, Nat.le_refl _, ?_⟩
        have := InsI.start (cf := cf) (w := w) (g := g) (tl := tl) (A := A) (m1 := m1) (M2 := M2) (C := C) (x := x) (W := wo) (by rw [← hwo]; exact HSR.out) M1.length HPM.out.length_eq.symm
        rw [HKI.out]
        exact this
      case round =>
        obtain ⟨q, rfl, hq1, hq2, p1, p2, he, hqi, h2, hS⟩ := hrel
        have HE := Lib.hid he
        have HQI := Lib.hid hqi
        have H2 := Lib.hid h2
        have HS := Lib.hid hS
        have hlen : (A ++ p1 ++ (x :: p2 ++ (M2 ++ C))).length = n := by
          have e1 := HM.out; have e2 := HBB.out; have e3 := HA.out; have e4 := HN.out; have e5 := HPM.out.length_eq
          rw [e1] at e2
          rw [HE.out] at e5
          simp at e2 e5 ⊢
          omega
        have hqn : q < n := by omega
        have HLN := Lib.hid hlen
        have OUT : (∀ y, p1.getLast? = some y → ¬ cf x.1 y.1 < 0) → ∀ W, SR w g tl (recsT (A ++ p1 ++ (x :: p2 ++ (M2 ++ C)))) W → InsO cf w g tl A (x0 :: M0) C (k + 1) W := fun h1 W hW => by
          have := InsO.next HF.out (by rw [← HM.out]; exact HT.out) HPM.out HSO.out HE.out H2.out h1 hW
          rw [← HM.out, ← HKI.out] at this
          exact this
        have HOUT := Lib.hid OUT
        clear he hqi h2 hS hlen OUT
        rcases List.eq_nil_or_concat p1 with hp1 | ⟨p1', y, hp1⟩
        · have hqa : q = a := by have := HQI.out; rw [hp1, HA.out.symm] at this; simpa using this
          subst hp1
          have g2 : decide (a < q) = false := decide_eq_false (by omega)
          have HQA := Lib.hid hqa
          clear hqa
          go_wp2
          refine region_sch (fun w' => w' = wr.drew) [(true, 0), (true, 1), (true, 2), (true, 3), (true, 4), (true, 5), (true, 6), (true, 7), (true, 8), (true, 9), (true, 10), (true, 11), (true, 12), (true, 13)] [14, 15, 16] (by kernel_rfl) (by kernel_rfl) (by rintro ⟨_, _, h⟩; cases h.1) (fun _ _ d _ _ h => by cases d <;> exact h) rfl ?_
          simp only [pickM, pickT, List.filterMap_cons, List.filterMap_nil, List.getElem?_cons_zero, List.getElem?_cons_succ, Option.map_some]
          repeat (first | (refine m_float ⟨?_, .inl ⟨?_, .inl ?_⟩, fun K' hK => ?_⟩; rotate_left; (first | rfl | (go_simp; done)); (intro w' hS; subst hS; go_simp; try rfl); (simp only [Act.put, List.setIfInBounds_toArray, List.set_cons_succ, List.set_cons_zero]; refine hK _ ?_; clear hK K')) | (refine m_float ⟨undef, .inr ⟨?_, rfl⟩, fun K' hK => ?_⟩; (first | rfl | (go_simp; done)); (simp only [Act.put, List.setIfInBounds_toArray, List.set_cons_succ, List.set_cons_zero]; refine hK _ ?_; clear hK K')))
          refine m_nil ?_
          show wpList Tryz.prog _ _ (List.cons _ _) _ _
          go_wp2
          go_roundw
          case rel => exact ⟨k + 1, by go_num, by omega, by omega, HOUT.out (by intro y hy; simp at hy) _ HS.out.drew⟩
          case measure => simp [intOf]; omega
        · rw [List.concat_eq_append] at hp1
          subst hp1
          obtain ⟨jp, rfl⟩ : ∃ jp, q = jp + 1 := ⟨q - 1, by have := HQI.out; simp at this; omega⟩
          have hjp : jp = (A ++ p1').length := by have := HQI.out; simp at this; simp; omega
          have hap : a ≤ jp := by rw [hjp, HA.out]; simp
          have hmem : ∀ t ∈ x0 :: M0, P t.1 := HP.out
          have hPx : P x.1 := hmem x (by rw [HM.out]; simp)
          have hPy : P y.1 := hmem y (by rw [HM.out]; exact List.mem_append_left _ (HPM.out.subset (by rw [HE.out]; simp)))
          have hd1 : A ++ (p1' ++ [y]) ++ (x :: p2 ++ (M2 ++ C)) = (A ++ p1' ++ [y]) ++ x :: (p2 ++ (M2 ++ C)) := by simp
          have hd2 : A ++ (p1' ++ [y]) ++ (x :: p2 ++ (M2 ++ C)) = (A ++ p1') ++ y :: ([x] ++ (p2 ++ (M2 ++ C))) := by simp
          have cx : ∀ W, SR w g tl (recsT (A ++ (p1' ++ [y]) ++ (x :: p2 ++ (M2 ++ C)))) W → CellsR W g ((jp + 1) * 8) x.1 := fun W hW => by
            have := hW.cells (jp + 1) (by rw [recsT_len, HLN.out]; omega)
            rw [hd1, recsT_get _ _ _ _ (by rw [List.length_append, ← hjp]; rfl)] at this
            exact this
          have cy : ∀ W, SR w g tl (recsT (A ++ (p1' ++ [y]) ++ (x :: p2 ++ (M2 ++ C)))) W → CellsR W g (jp * 8) y.1 := fun W hW => by
            have := hW.cells jp (by rw [recsT_len, HLN.out]; omega)
            rw [hd2, recsT_get _ _ _ _ hjp] at this
            exact this
          have g2 : decide ((a : Int) < (jp : Int) + 1) = true := decide_eq_true (by omega)
          have jz : (jp : Int) + 1 < (n : Int) := by omega
          have jz1 : (jp : Int) < (n : Int) := by omega
          have p0 : (0 : Int) ≤ (jp : Int) + 1 := by omega
          have e0 : ((jp : Int) + 1).toNat = jp + 1 := by omega
          have hwp : IntKind.i64.wrap (jp : Int) = (jp : Int) := by rw [IntKind.wrap_i64]; omega
          obtain ⟨q0, q1, q2, q3, q4, q5, q6, q7⟩ := cx _ HS.out
          obtain ⟨r0, r1, r2, r3, r4, r5, r6, r7⟩ := cy _ HS.out
          have c1 := HC.out wr.drew _ x.1 y.1 HS.out.drew hPx hPy
          have HJP := Lib.hid hjp
          have HD1 := Lib.hid hd1
          have HD2 := Lib.hid hd2
          have CX := Lib.hid cx
          have CY := Lib.hid cy
          clear hjp hmem hPx hPy hd1 hd2 cx cy
          by_cases hlt : cf x.1 y.1 < 0
          · obtain ⟨v, hv⟩ : ∃ v, cf x.1 y.1 = v := ⟨_, rfl⟩
            have HV := Lib.hid hlt
            rw [hv] at hlt c1
            clear hv
            go_wp2
            refine region_sch (fun w' => w' = wr.drew) [(true, 0), (true, 1), (true, 2), (true, 3), (true, 4), (true, 5), (true, 6), (true, 7), (true, 8), (true, 9), (true, 10), (true, 11), (true, 12), (true, 13)] [14, 15, 16] (by kernel_rfl) (by kernel_rfl) (by rintro ⟨_, _, h⟩; cases h.1) (fun _ _ d _ _ h => by cases d <;> exact h) rfl ?_
            simp only [pickM, pickT, List.filterMap_cons, List.filterMap_nil, List.getElem?_cons_zero, List.getElem?_cons_succ, Option.map_some]
            repeat (first | (refine m_float ⟨?_, .inl ⟨?_, .inl ?_⟩, fun K' hK => ?_⟩; rotate_left; (first | rfl | (go_simp; done)); (intro w' hS; subst hS; go_simp; try rfl); (simp only [Act.put, List.setIfInBounds_toArray, List.set_cons_succ, List.set_cons_zero]; refine hK _ ?_; clear hK K')) | (refine m_float ⟨undef, .inr ⟨?_, rfl⟩, fun K' hK => ?_⟩; (first | rfl | (go_simp; done)); (simp only [Act.put, List.setIfInBounds_toArray, List.set_cons_succ, List.set_cons_zero]; refine hK _ ?_; clear hK K')))
            refine m_nil ?_
            show wpList Tryz.prog _ _ (List.cons _ _) _ _
            go_wp2_with fail
            with_reducible refine c1.mono ?_
            rintro e w1 ⟨rfl, hB1⟩
            have hS1 := HS.out.drew.below hB1
            clear q0 q1 q2 q3 q4 q5 q6 q7 r0 r1 r2 r3 r4 r5 r6 r7
            obtain ⟨q0, q1, q2, q3, q4, q5, q6, q7⟩ := CX.out _ hS1
            obtain ⟨r0, r1, r2, r3, r4, r5, r6, r7⟩ := CY.out _ hS1
            have fz : ∀ j, w1.frozen? ⟨g, j, none⟩ = false := fun j => Lib.frozen_of_heap hS1.row j
            have hkey : SR w g tl (recsT (A ++ p1' ++ (x :: (y :: p2) ++ (M2 ++ C)))) ((w1.setCells g ((jp + 1) * 8) (recA y.1).toList).setCells g (jp * 8) (recA x.1).toList) := by
              have k1 := hS1
              rw [HD1.out, recsT_app] at k1
              have k2 := k1.put (x := y.1) (jp + 1) (by rw [recsT_len, List.length_append, ← HJP.out]; rfl)
              rw [recsT_app (A ++ p1'), List.append_assoc] at k2
              have k3 := SR.put (x := x.1) k2 jp (by rw [recsT_len, HJP.out])
              have e : recsT (A ++ p1' ++ (x :: (y :: p2) ++ (M2 ++ C))) = recsT (A ++ p1') ++ x.1 :: ([] ++ y.1 :: recsT (p2 ++ (M2 ++ C))) := by simp [recsT]
              rw [e]
              exact k3
            have HKEY := Lib.hid hkey
            have HIN : Hid (∀ W, SR w g tl (recsT (A ++ p1' ++ (x :: (y :: p2) ++ (M2 ++ C)))) W → InsI cf w g tl A m1 x (M2 ++ C) jp W) := Lib.hid fun W hW => ⟨p1', y :: p2, by rw [HE.out]; simp, by rw [HJP.out]; simp, fun z hz => by
              rcases List.mem_cons.1 hz with rfl | hz
              · exact HV.out
              · exact H2.out z hz, hW⟩
            clear hS1 hB1 hkey
            go_wp2
            go_big_region
            all_goals go_wp2
            all_goals go_roundw
            case rel => exact ⟨jp, by go_num, hap, by omega, HIN.out _ HKEY.out.drew⟩
            case measure => first | (simp [intOf]; done) | (simp [intOf]; omega)
          · obtain ⟨v, hv⟩ : ∃ v, cf x.1 y.1 = v := ⟨_, rfl⟩
            have HV := Lib.hid hlt
            rw [hv] at hlt c1
            have hv0 : 0 ≤ v := by omega
            clear hv
            go_wp2
            refine region_sch (fun w' => w' = wr.drew) [(true, 0), (true, 1), (true, 2), (true, 3), (true, 4), (true, 5), (true, 6), (true, 7), (true, 8), (true, 9), (true, 10), (true, 11), (true, 12), (true, 13)] [14, 15, 16] (by kernel_rfl) (by kernel_rfl) (by rintro ⟨_, _, h⟩; cases h.1) (fun _ _ d _ _ h => by cases d <;> exact h) rfl ?_
            simp only [pickM, pickT, List.filterMap_cons, List.filterMap_nil, List.getElem?_cons_zero, List.getElem?_cons_succ, Option.map_some]
            repeat (first | (refine m_float ⟨?_, .inl ⟨?_, .inl ?_⟩, fun K' hK => ?_⟩; rotate_left; (first | rfl | (go_simp; done)); (intro w' hS; subst hS; go_simp; try rfl); (simp only [Act.put, List.setIfInBounds_toArray, List.set_cons_succ, List.set_cons_zero]; refine hK _ ?_; clear hK K')) | (refine m_float ⟨undef, .inr ⟨?_, rfl⟩, fun K' hK => ?_⟩; (first | rfl | (go_simp; done)); (simp only [Act.put, List.setIfInBounds_toArray, List.set_cons_succ, List.set_cons_zero]; refine hK _ ?_; clear hK K')))
            refine m_nil ?_
            show wpList Tryz.prog _ _ (List.cons _ _) _ _
            go_wp2_with fail
            with_reducible refine c1.mono ?_
            rintro e w1 ⟨rfl, hB1⟩
            have HS1 := Lib.hid (HS.out.drew.below hB1)
            clear q0 q1 q2 q3 q4 q5 q6 q7 r0 r1 r2 r3 r4 r5 r6 r7 hB1
            go_wp2
            go_roundw
            case rel => exact ⟨k + 1, by go_num, by omega, by omega, HOUT.out (by intro z hz; simp at hz; subst hz; exact HV.out) _ HS1.out⟩
            case measure => simp [intOf]; omega
end Go.Proofs.YtnmlephjhcmbhaaGreat
