/- slices.symMergeCmpFunc of indices: one element on the right. slices.symMergeCmpFunc of indices: the whole. slices.symMergeCmpFunc of indices: walked. slices.SortStableFunc of fewer than 40 indices. -/
import Derived.Test.YtnmlephjhcmbhaaNa
namespace Go.Proofs.Ytnmlephjhcmbhaa
set_option linter.unusedSimpArgs false
set_option linter.unusedVariables false
open Go Go.RowKit
set_option maxRecDepth 100000 in
set_option maxHeartbeats 4000000 in
theorem sym_right (cf : Nat → Nat → Int) (hcf : OrdI cf) (P : Nat → Prop) (w : World) (g : Nat) (tl : List Value) (F1 F2 cap : Nat) (hcmp : CmpI cf P w g tl F1 F2) (N : Nat) (hN2 : N ≤ 2000) (A L C : List Nat) (y : Nat) (a m b : Nat) (W0 : World) (hL2 : 1 < L.length)
    (ha : a = A.length) (hm : m = a + L.length) (hb : b = m + 1) (hN : N = (A ++ L ++ [y] ++ C).length) (hL : L.Pairwise (ltI cf)) (hx : ∀ x ∈ L, x < y) (hP : ∀ x ∈ y :: L, P x) (hS : SI w g tl (A ++ L ++ [y] ++ C) W0) :
    Calls Try.prog 166 #[.slice (some ⟨g, 0, none⟩) N cap, cN a, cN m, cN b, .func (.func 75) #[] #[.pointer (some ⟨F1, 0, none⟩), .pointer (some ⟨F2, 0, none⟩)]] W0 (SeI cf w g tl A (L ++ [y]) C) := by
  have g0 : ((m : Int) - (a : Int) == 1) = false := by simp; omega
  have g1 : ((b : Int) - (m : Int) == 1) = true := by simp; omega
  have hq : b ≤ N := by rw [hN, hb, hm, ha]; simp; omega
  have ham : a < m := by omega
  have hmb : m < b := by omega
  have HS0 := Lib.hid hS
  have HA := Lib.hid ha
  have HM := Lib.hid hm
  have HN := Lib.hid hN
  have HR := Lib.hid hL
  have HX := Lib.hid hx
  have HP := Lib.hid hP
  have HC := Lib.hid hcmp
  have HF := Lib.hid hcf
  clear hS ha hm hb hN hL hx hP hcmp hcf hL2
  go_enter Try.func166, Try.ntmps166
  go_wp2
  go_loopw [14, 15, 16] (fun i j _ wr => ∃ ki kj : Nat, i = cN ki ∧ j = cN kj ∧ a ≤ ki ∧ ki ≤ kj ∧ kj ≤ m ∧ OneLo (ltI cf) L y (ki - a) ∧ OneHi (ltI cf) L y (kj - a) ∧ SI w g tl (A ++ L ++ [y] ++ C) wr) (fun i j _ _ => (intOf j).toNat - (intOf i).toNat)
  case atStart => exact ⟨a, m, rfl, rfl, Nat.le_refl _, Nat.le_of_lt ham, Nat.le_refl _, fun c y h => by omega, fun c y h hy => by obtain ⟨h1, -⟩ := List.getElem?_eq_some_iff.1 hy; have := HM.out; omega, HS0.out⟩
  case round =>
    obtain ⟨ki, kj, rfl, rfl, hmi, hij, hj, hlo, hhi, hS⟩ := hrel
    have HLO := Lib.hid hlo
    have HHI := Lib.hid hhi
    have HS := Lib.hid hS
    clear hlo hhi hS
    by_cases hlt : ki < kj
    · have g2 : (ki : Int) < (kj : Int) := by omega
      have e1 := half_of ki kj
      obtain ⟨c, hc⟩ : ∃ c, c = (ki + kj) / 2 := ⟨_, rfl⟩
      rw [← hc] at e1
      have hc1 : ki ≤ c := by omega
      have hc2 : c < kj := by omega
      have hcb : c < m := by omega
      have hcN : (c : Int) < (N : Int) := by omega
      have hmN : (m : Int) < (N : Int) := by omega
      obtain ⟨x, hxc⟩ : ∃ x, L[c - a]? = some x := ⟨L[c - a]'(by have := HM.out; omega), List.getElem?_eq_getElem _⟩
      have hxL : x ∈ L := List.mem_of_getElem? hxc
      have cx : ∀ W, SI w g tl (A ++ L ++ [y] ++ C) W → W.cell? ⟨g, c, none⟩ = some (cN (x : Int)) := fun W hW => hW.cell c x (by
        rw [List.append_assoc, List.append_assoc, List.getElem?_append_right (by have := HA.out; omega), List.getElem?_append_left (by have := HA.out; have := HM.out; omega), ← HA.out]
        exact hxc)
      have cy : ∀ W, SI w g tl (A ++ L ++ [y] ++ C) W → W.cell? ⟨g, m, none⟩ = some (cN (y : Int)) := fun W hW => hW.cell m y (by
        rw [show A ++ L ++ [y] ++ C = (A ++ L) ++ y :: C by simp]; exact at_mid _ _ _ _ (by rw [List.length_append, ← HA.out]; exact HM.out))
      have c1 := HC.out wr.drew _ y x HS.out.drew (HP.out y (List.mem_cons_self ..)) (HP.out x (List.mem_cons_of_mem _ hxL))
      have hord := ltI_of HF.out (HX.out x hxL)
      have q0 := cy _ HS.out
      have r0 := cx _ HS.out
      have HY := Lib.hid hxc
      have HCC := Lib.hid hc
      obtain ⟨v, hv⟩ : ∃ v, cf y x = v := ⟨_, rfl⟩
      rw [hv] at c1 hord
      have HORD := Lib.hid hord
      clear hc hxc hxL cy cx hv hord hij hlt
      by_cases hneg : v < 0
      · have HV := Lib.hid hneg
        go_wp2
        refine region_sch (fun w' => w' = wr.drew) [(true, 0), (true, 1), (true, 2), (true, 3), (true, 4), (true, 5), (true, 6), (true, 7), (true, 8)] [9, 10, 11] (by kernel_rfl) (by kernel_rfl) (by rintro ⟨_, _, h⟩; cases h.1) (fun _ _ d _ _ h => by cases d <;> exact h) rfl ?_
        simp only [pickM, pickT, List.filterMap_cons, List.filterMap_nil, List.getElem?_cons_zero, List.getElem?_cons_succ, Option.map_some]
        repeat (first | (refine m_float ⟨?_, .inl ⟨?_, .inl ?_⟩, fun K' hK => ?_⟩; rotate_left; (first | rfl | (go_simp; done)); (intro w' hS; subst hS; go_simp; try rfl); (simp only [Act.put, List.setIfInBounds_toArray, List.set_cons_succ, List.set_cons_zero]; refine hK _ ?_; clear hK K')) | (refine m_float ⟨undef, .inr ⟨?_, rfl⟩, fun K' hK => ?_⟩; (first | rfl | (go_simp; done)); (simp only [Act.put, List.setIfInBounds_toArray, List.set_cons_succ, List.set_cons_zero]; refine hK _ ?_; clear hK K')))
        refine m_nil ?_
        show wpList Try.prog _ _ (List.cons _ _) _ _
        go_wp2_with fail
        with_reducible refine c1.mono ?_
        rintro e w1 ⟨rfl, hB1⟩
        have HS1 := Lib.hid (HS.out.drew.below hB1)
        clear hB1 q0 r0
        go_wp2
        go_roundw
        case rel => exact ⟨ki, c, rfl, rfl, hmi, hc1, by omega, HLO.out, oneHi_step (ltI_trans HF.out) HR.out HY.out (HORD.out.1 HV.out), HS1.out⟩
        case measure => simp [intOf]; omega
      · have hneg2 : 0 ≤ v := by omega
        have HV := Lib.hid hneg
        have g3 : decide (v < 0) = false := decide_eq_false hneg
        go_wp2
        refine region_sch (fun w' => w' = wr.drew) [(true, 0), (true, 1), (true, 2), (true, 3), (true, 4), (true, 5), (true, 6), (true, 7), (true, 8)] [9, 10, 11] (by kernel_rfl) (by kernel_rfl) (by rintro ⟨_, _, h⟩; cases h.1) (fun _ _ d _ _ h => by cases d <;> exact h) rfl ?_
        simp only [pickM, pickT, List.filterMap_cons, List.filterMap_nil, List.getElem?_cons_zero, List.getElem?_cons_succ, Option.map_some]
        repeat (first | (refine m_float ⟨?_, .inl ⟨?_, .inl ?_⟩, fun K' hK => ?_⟩; rotate_left; (first | rfl | (go_simp; done)); (intro w' hS; subst hS; go_simp; try rfl); (simp only [Act.put, List.setIfInBounds_toArray, List.set_cons_succ, List.set_cons_zero]; refine hK _ ?_; clear hK K')) | (refine m_float ⟨undef, .inr ⟨?_, rfl⟩, fun K' hK => ?_⟩; (first | rfl | (go_simp; done)); (simp only [Act.put, List.setIfInBounds_toArray, List.set_cons_succ, List.set_cons_zero]; refine hK _ ?_; clear hK K')))
        refine m_nil ?_
        show wpList Try.prog _ _ (List.cons _ _) _ _
        go_wp2_with fail
        with_reducible refine c1.mono ?_
        rintro e w1 ⟨rfl, hB1⟩
        have HS1 := Lib.hid (HS.out.drew.below hB1)
        clear hB1 q0 r0
        go_wp2
        go_roundw
        case rel => exact ⟨c + 1, kj, by go_num, rfl, by omega, by omega, hj, by
          have := oneLo_step (ltI_trans HF.out) HR.out HY.out (HORD.out.2 HV.out)
          rwa [show c - a + 1 = c + 1 - a by omega] at this, HHI.out, HS1.out⟩
        case measure => simp [intOf]; omega
    · have hkk : ki = kj := by omega
      subst hkk
      obtain ⟨j, hj⟩ : ∃ j, j = ki - a := ⟨_, rfl⟩
      rw [← hj] at HLO HHI
      have hki : ki = a + j := by omega
      have hjR : j ≤ L.length := by have := HM.out; omega
      have g2 : ¬ (ki : Int) < (ki : Int) := by omega
      have HKI := Lib.hid hki
      have HJ := Lib.hid hj
      clear hj hki hij hlt
      go_wp2
      go_loopw [17] (fun k wr => ∃ t L1 L2, k = cN (t : Nat) ∧ ki ≤ t ∧ t ≤ m ∧ L = L1 ++ L2 ∧ t = a + L1.length ∧ SI w g tl (A ++ L1 ++ y :: L2 ++ C) wr) (fun k _ => (intOf k).toNat)
      case atStart => exact ⟨m, L, [], rfl, by omega, Nat.le_refl _, by simp, HM.out, by simpa using HS.out⟩
      case round =>
        obtain ⟨k, L1, L2, rfl, hk1, hk2, hr, hr1, hS2⟩ := hrel
        have HRR := Lib.hid hr
        have HR1 := Lib.hid hr1
        have HS2 := Lib.hid hS2
        clear hr hr1 hS2
        by_cases htj : ki < k
        · have g3 : (ki : Int) < (k : Int) := by omega
          rcases List.eq_nil_or_concat L1 with h0 | ⟨L1', x, h0⟩
          · exfalso; have := HR1.out; rw [h0] at this; simp at this; omega
          rw [List.concat_eq_append] at h0
          subst h0
          obtain ⟨p, rfl⟩ : ∃ p, k = p + 1 := ⟨k - 1, by have := HR1.out; simp at this; omega⟩
          have hka : p = (A ++ L1').length := by have := HR1.out; have := HA.out; simp at *; omega
          have hkN : p + 1 < N := by omega
          have d1 : A ++ (L1' ++ [x]) ++ y :: L2 ++ C = (A ++ L1') ++ x :: (y :: L2 ++ C) := by simp
          have d2 : A ++ (L1' ++ [x]) ++ y :: L2 ++ C = (A ++ L1' ++ [x]) ++ y :: (L2 ++ C) := by simp
          have hsa := HS2.out
          have q0 : wr.cell? ⟨g, p, none⟩ = some (cN (x : Int)) := hsa.cell _ x (by rw [d1]; exact at_mid _ _ _ _ hka)
          have r0 : wr.cell? ⟨g, p + 1, none⟩ = some (cN (y : Int)) := hsa.cell _ y (by rw [d2]; exact at_mid _ _ _ _ (by rw [List.length_append, ← hka]; rfl))
          have hkey : SI w g tl (A ++ L1' ++ y :: (x :: L2) ++ C) ((wr.setCell ⟨g, p + 1, none⟩ (cN (x : Int))).setCell ⟨g, p, none⟩ (cN (y : Int))) := by
            have k1 := hsa
            have lb : p + 1 = (A ++ L1' ++ [x]).length := by rw [List.length_append, ← hka]; rfl
            rw [d2] at k1
            have k2 := k1.put (p + 1) x (by rw [lb]; simp)
            rw [set_mid _ _ _ _ _ lb] at k2
            rw [show (A ++ L1' ++ [x]) ++ x :: (L2 ++ C) = (A ++ L1') ++ x :: (x :: L2 ++ C) by simp] at k2
            have k3 := k2.put p y (by rw [hka]; simp)
            rw [set_mid _ _ _ _ _ hka] at k3
            simpa using k3
          have fz : ∀ j, wr.frozen? ⟨g, j, none⟩ = false := fun j => hsa.fz j
          have HKEY := Lib.hid hkey
          have p0 : (p : Int) < (N : Int) := by omega
          have p1 : (p : Int) + 1 < (N : Int) := by omega
          have p2 : (0 : Int) ≤ (p : Int) + 1 := by omega
          have e0 : ((p : Int) + 1).toNat = p + 1 := by omega
          have hwp : IntKind.i64.wrap (p : Int) = (p : Int) := by rw [IntKind.wrap_i64]; omega
          have HKA := Lib.hid hka
          clear hsa hkey d1 d2 hka hjR
          go_wp2
          go_big_region
          all_goals go_wp2
          all_goals go_roundw
          case rel => exact ⟨p, L1', x :: L2, by go_num, by omega, by omega, by rw [HRR.out]; simp, by have := HR1.out; simp at this; omega, HKEY.out.drew⟩
          case measure => first | (simp [intOf]; done) | (simp [intOf]; omega)
        · have htj2 : k = ki := by omega
          have g3 : ¬ (ki : Int) < (k : Int) := by omega
          have HT := Lib.hid htj2
          clear htj htj2 hjR
          go_wp2
          go_end0
          have hlen : L1.length = j := by have := HR1.out; have := HT.out; have := HKI.out; omega
          have e1 : L.take j = L1 := by rw [HRR.out, ← hlen]; simp
          have e2 : L.drop j = L2 := by rw [HRR.out, ← hlen]; simp
          refine ⟨rfl, L.take j ++ y :: L.drop j, (one_perm j).trans (List.perm_append_comm (l₁ := [y])), one_sorted (ltI_trans HF.out) HR.out HLO.out HHI.out, ?_⟩
          rw [e1, e2]
          simpa using HS2.out
end Go.Proofs.Ytnmlephjhcmbhaa
namespace Go.Proofs.Ytnmlephjhcmbhaa
set_option linter.unusedSimpArgs false
set_option linter.unusedVariables false
open Go Go.RowKit
def SymH (cf : Nat → Nat → Int) (P : Nat → Prop) (w : World) (g : Nat) (tl : List Value) (F1 F2 cap N k : Nat) : Prop :=
  ∀ (A L R C : List Nat) (a m b : Nat) (W0 : World), L.length + R.length ≤ k → 0 < L.length → 0 < R.length → a = A.length → m = a + L.length → b = m + R.length → N = (A ++ L ++ R ++ C).length → L.Pairwise (ltI cf) → R.Pairwise (ltI cf) →
    (∀ x ∈ L, ∀ y ∈ R, x < y) → (∀ x ∈ L ++ R, P x) → SI w g tl (A ++ L ++ R ++ C) W0 →
    Calls Try.prog 166 #[.slice (some ⟨g, 0, none⟩) N cap, cN a, cN m, cN b, .func (.func 75) #[] #[.pointer (some ⟨F1, 0, none⟩), .pointer (some ⟨F2, 0, none⟩)]] W0 (SeI cf w g tl A (L ++ R) C)
theorem sym_end {cf : Nat → Nat → Int} {w : World} {g : Nat} {tl : List Value} {A L R C m1 m2 : List Nat} {s t : Nat} {W : World} (h1 : m1.Perm (L.take s ++ R.take t)) (h2 : m2.Perm (L.drop s ++ R.drop t)) (s1 : m1.Pairwise (ltI cf)) (s2 : m2.Pairwise (ltI cf))
    (hx : ∀ x ∈ L.take s ++ R.take t, ∀ y ∈ L.drop s ++ R.drop t, ltI cf x y) (hS : SI w g tl (A ++ (m1 ++ m2) ++ C) W) : ∃ m, m.Perm (L ++ R) ∧ m.Pairwise (ltI cf) ∧ SI w g tl (A ++ m ++ C) W :=
  ⟨m1 ++ m2, sym_perm s t h1 h2, sym_join s1 s2 h1 h2 hx, hS⟩
theorem pw_nil_left {cf : Nat → Nat → Int} {L R : List Nat} {s t : Nat} (hL : L.Pairwise (ltI cf)) (hR : R.Pairwise (ltI cf)) (h : (L.take s).length = 0 ∨ (R.take t).length = 0) : (L.take s ++ R.take t).Pairwise (ltI cf) := by
  rcases h with h | h
  · rw [List.eq_nil_of_length_eq_zero h]; exact hR.sublist (List.take_sublist _ _)
  · rw [List.eq_nil_of_length_eq_zero h, List.append_nil]; exact hL.sublist (List.take_sublist _ _)
theorem pw_nil_right {cf : Nat → Nat → Int} {L R : List Nat} {s t : Nat} (hL : L.Pairwise (ltI cf)) (hR : R.Pairwise (ltI cf)) (h : (L.drop s).length = 0 ∨ (R.drop t).length = 0) : (L.drop s ++ R.drop t).Pairwise (ltI cf) := by
  rcases h with h | h
  · rw [List.eq_nil_of_length_eq_zero h]; exact hR.sublist (List.drop_sublist _ _)
  · rw [List.eq_nil_of_length_eq_zero h, List.append_nil]; exact hL.sublist (List.drop_sublist _ _)
/-- All that is known where the search has ended. -/
structure SymC (cf : Nat → Nat → Int) (P : Nat → Prop) (w : World) (g : Nat) (tl : List Value) (A L R C : List Nat) (a m b mid N ki en : Nat) (W : World) (s t : Nat) : Prop where
  ha : a = A.length
  hm : m = a + L.length
  hb : b = m + R.length
  hmid : mid = a + s + t
  hki : ki = a + s
  hen : en = m + t
  hs : s ≤ L.length
  ht : t ≤ R.length
  h2 : 2 ≤ s + t
  h2' : s + t + 2 ≤ L.length + R.length
  hp : 1 < L.length
  hq : 1 < R.length
  hN : N = (A ++ L ++ R ++ C).length
  hL : L.Pairwise (ltI cf)
  hR : R.Pairwise (ltI cf)
  hx : ∀ x ∈ L, ∀ y ∈ R, x < y
  hP : ∀ x ∈ L ++ R, P x
  cut : ∀ x ∈ L.take s ++ R.take t, ∀ y ∈ L.drop s ++ R.drop t, ltI cf x y
  hS : SI w g tl (A ++ L ++ R ++ C) W
theorem SymC.parts {cf : Nat → Nat → Int} {P : Nat → Prop} {w : World} {g : Nat} {tl : List Value} {A L R C : List Nat} {a m b mid N ki en : Nat} {W : World} {s t : Nat} (h : SymC cf P w g tl A L R C a m b mid N ki en W s t) :
    A ++ L ++ R ++ C = (A ++ L.take s) ++ L.drop s ++ R.take t ++ (R.drop t ++ C) := by
  conv => lhs; rw [← List.take_append_drop s L, ← List.take_append_drop t R]
  simp only [List.append_assoc]
theorem SymC.lens {cf : Nat → Nat → Int} {P : Nat → Prop} {w : World} {g : Nat} {tl : List Value} {A L R C : List Nat} {a m b mid N ki en : Nat} {W : World} {s t : Nat} (h : SymC cf P w g tl A L R C a m b mid N ki en W s t) :
    (L.take s).length = s ∧ (L.drop s).length = L.length - s ∧ (R.take t).length = t ∧ (R.drop t).length = R.length - t := by
  have h1 := h.hs; have h2 := h.ht
  refine ⟨?_, ?_, ?_, ?_⟩ <;> simp <;> omega
/-- Behind the exchange. -/
def SymR (w : World) (g : Nat) (tl : List Value) (A L R C : List Nat) (s t : Nat) (W : World) : Prop := SI w g tl (A ++ (L.take s ++ R.take t) ++ (L.drop s ++ R.drop t) ++ C) W
theorem SymC.still {cf : Nat → Nat → Int} {P : Nat → Prop} {w : World} {g : Nat} {tl : List Value} {A L R C : List Nat} {a m b mid N ki en : Nat} {W : World} {s t : Nat} (h : SymC cf P w g tl A L R C a m b mid N ki en W s t) (k : L.length ≤ s ∨ t = 0) : SymR w g tl A L R C s t W := by
  have h1 := h.hS
  rw [h.parts] at h1
  unfold SymR
  have e : (A ++ L.take s) ++ L.drop s ++ R.take t ++ (R.drop t ++ C) = A ++ (L.take s ++ R.take t) ++ (L.drop s ++ R.drop t) ++ C := by
    rcases k with k | k
    · rw [List.drop_eq_nil_of_le k]
      simp only [List.append_assoc, List.nil_append]
    · subst k
      simp only [List.append_assoc, List.take_zero, List.nil_append]
  rw [← e]
  exact h1
theorem SymC.rot {cf : Nat → Nat → Int} {P : Nat → Prop} {w : World} {g : Nat} {tl : List Value} {A L R C : List Nat} {a m b mid N ki en cap : Nat} {W : World} {s t : Nat} (h : SymC cf P w g tl A L R C a m b mid N ki en W s t) (hN2 : N ≤ 2000) (k1 : s < L.length) (k2 : 0 < t) (fv : Value) :
    Calls Try.prog 186 #[.slice (some ⟨g, 0, none⟩) N cap, cN ki, cN m, cN en, fv] W fun e w' => e = .returned (.tuple #[]) ∧ SymR w g tl A L R C s t w' := by
  obtain ⟨l1, l2, l3, l4⟩ := h.lens
  have hS := h.hS
  rw [h.parts] at hS
  refine (rotint_ok w g tl cap fv (A ++ L.take s) (L.drop s) (R.take t) (R.drop t ++ C) ki m en N (by omega) (by omega) (by rw [List.length_append, l1, ← h.ha]; exact h.hki) (by rw [l2, h.hki, h.hm]; have := h.hs; omega) (by rw [l3]; exact h.hen) (by rw [← h.parts]; exact h.hN) hN2 W hS).mono ?_
  rintro e w' ⟨rfl, hE⟩
  refine ⟨rfl, ?_⟩
  unfold SymR
  simpa using hE
def SymM1 (cf : Nat → Nat → Int) (w : World) (g : Nat) (tl : List Value) (A L R C : List Nat) (s t : Nat) (W : World) : Prop := ∃ m1, m1.Perm (L.take s ++ R.take t) ∧ m1.Pairwise (ltI cf) ∧ SI w g tl (A ++ m1 ++ (L.drop s ++ R.drop t) ++ C) W
theorem SymC.skip1 {cf : Nat → Nat → Int} {P : Nat → Prop} {w : World} {g : Nat} {tl : List Value} {A L R C : List Nat} {a m b mid N ki en : Nat} {W W1 : World} {s t : Nat} (h : SymC cf P w g tl A L R C a m b mid N ki en W s t) (k : s = 0 ∨ t = 0) (hr : SymR w g tl A L R C s t W1) : SymM1 cf w g tl A L R C s t W1 := by
  obtain ⟨l1, l2, l3, l4⟩ := h.lens
  exact ⟨_, List.Perm.refl _, pw_nil_left h.hL h.hR (by omega), hr⟩
theorem SymC.call1 {cf : Nat → Nat → Int} {P : Nat → Prop} {w : World} {g : Nat} {tl : List Value} {A L R C : List Nat} {a m b mid N ki en cap F1 F2 k : Nat} {W W1 : World} {s t : Nat} (h : SymC cf P w g tl A L R C a m b mid N ki en W s t) (ih : SymH cf P w g tl F1 F2 cap N k) (hk : L.length + R.length ≤ k + 1) (k1 : 0 < s) (k2 : 0 < t)
    (hr : SymR w g tl A L R C s t W1) : Calls Try.prog 166 #[.slice (some ⟨g, 0, none⟩) N cap, cN a, cN ki, cN mid, .func (.func 75) #[] #[.pointer (some ⟨F1, 0, none⟩), .pointer (some ⟨F2, 0, none⟩)]] W1 fun e w' => e = .returned (.tuple #[]) ∧ SymM1 cf w g tl A L R C s t w' := by
  obtain ⟨l1, l2, l3, l4⟩ := h.lens
  have h1 := h.h2'
  refine (ih A (L.take s) (R.take t) (L.drop s ++ R.drop t ++ C) a ki mid W1 (by omega) (by omega) (by omega) h.ha (by rw [l1]; exact h.hki) (by rw [l3, h.hki]; exact h.hmid) ?_ (h.hL.sublist (List.take_sublist _ _)) (h.hR.sublist (List.take_sublist _ _))
    (fun x hx y hy => h.hx x (List.mem_of_mem_take hx) y (List.mem_of_mem_take hy)) (fun x hx => h.hP x ?_) (by unfold SymR at hr; simpa using hr)).mono ?_
  · rw [h.hN]
    have := h.hs; have := h.ht
    simp
    omega
  · rcases List.mem_append.1 hx with hx | hx
    · exact List.mem_append_left _ (List.mem_of_mem_take hx)
    · exact List.mem_append_right _ (List.mem_of_mem_take hx)
  · rintro e w' ⟨rfl, m1, p1, q1, r1⟩
    exact ⟨rfl, m1, p1, q1, by simpa using r1⟩
theorem SymC.skip2 {cf : Nat → Nat → Int} {P : Nat → Prop} {w : World} {g : Nat} {tl : List Value} {A L R C : List Nat} {a m b mid N ki en : Nat} {W W1 : World} {s t : Nat} (h : SymC cf P w g tl A L R C a m b mid N ki en W s t) (k : L.length ≤ s ∨ R.length ≤ t) (hr : SymM1 cf w g tl A L R C s t W1) : SeI cf w g tl A (L ++ R) C (.returned (.tuple #[])) W1 := by
  obtain ⟨l1, l2, l3, l4⟩ := h.lens
  obtain ⟨m1, p1, q1, r1⟩ := hr
  exact ⟨rfl, sym_end p1 (List.Perm.refl _) q1 (pw_nil_right h.hL h.hR (by omega)) h.cut (by simpa using r1)⟩
theorem SymC.call2 {cf : Nat → Nat → Int} {P : Nat → Prop} {w : World} {g : Nat} {tl : List Value} {A L R C : List Nat} {a m b mid N ki en cap F1 F2 k : Nat} {W W1 : World} {s t : Nat} (h : SymC cf P w g tl A L R C a m b mid N ki en W s t) (ih : SymH cf P w g tl F1 F2 cap N k) (hk : L.length + R.length ≤ k + 1) (k1 : s < L.length) (k2 : t < R.length)
    (hr : SymM1 cf w g tl A L R C s t W1) : Calls Try.prog 166 #[.slice (some ⟨g, 0, none⟩) N cap, cN mid, cN en, cN b, .func (.func 75) #[] #[.pointer (some ⟨F1, 0, none⟩), .pointer (some ⟨F2, 0, none⟩)]] W1 (SeI cf w g tl A (L ++ R) C) := by
  obtain ⟨l1, l2, l3, l4⟩ := h.lens
  obtain ⟨m1, p1, q1, r1⟩ := hr
  have hl := p1.length_eq
  rw [List.length_append, l1, l3] at hl
  have h1 := h.h2; have h2 := h.hs; have h3 := h.ht; have h4 := h.hm; have h5 := h.hb; have h6 := h.hen; have h7 := h.hmid; have h8 := h.ha
  refine (ih (A ++ m1) (L.drop s) (R.drop t) C mid en b W1 (by omega) (by omega) (by omega) (by rw [List.length_append, hl]; omega) (by omega) (by omega) ?_ (h.hL.sublist (List.drop_sublist _ _)) (h.hR.sublist (List.drop_sublist _ _))
    (fun x hx y hy => h.hx x (List.mem_of_mem_drop hx) y (List.mem_of_mem_drop hy)) (fun x hx => h.hP x ?_) (by simpa using r1)).mono ?_
  · rw [h.hN]
    simp
    omega
  · rcases List.mem_append.1 hx with hx | hx
    · exact List.mem_append_left _ (List.mem_of_mem_drop hx)
    · exact List.mem_append_right _ (List.mem_of_mem_drop hx)
  · rintro e w' ⟨rfl, m2, p2, q2, r2⟩
    exact ⟨rfl, sym_end p1 p2 q1 q2 h.cut (by simpa using r2)⟩
end Go.Proofs.Ytnmlephjhcmbhaa
namespace Go.Proofs.Ytnmlephjhcmbhaa
set_option linter.unusedSimpArgs false
set_option linter.unusedVariables false
open Go Go.RowKit
/-- All that stands before the search. -/
structure SymG (cf : Nat → Nat → Int) (P : Nat → Prop) (w : World) (g : Nat) (tl : List Value) (F1 F2 : Nat) (A L R C : List Nat) (a m b mid nn pp N : Nat) : Prop where
  ha : a = A.length
  hm : m = a + L.length
  hb : b = m + R.length
  hmid : mid = a + (L.length + R.length) / 2
  hnn : nn = mid + m
  hpp : pp = nn - 1
  hp : 1 < L.length
  hq : 1 < R.length
  hN : N = (A ++ L ++ R ++ C).length
  hL : L.Pairwise (ltI cf)
  hR : R.Pairwise (ltI cf)
  hx : ∀ x ∈ L, ∀ y ∈ R, x < y
  hP : ∀ x ∈ L ++ R, P x
  hF : OrdI cf
  hC : CmpI cf P w g tl F1 F2
section
variable {cf : Nat → Nat → Int} {P : Nat → Prop} {w : World} {g : Nat} {tl : List Value} {F1 F2 : Nat} {A L R C : List Nat} {a m b mid nn pp N : Nat}
/-- The state of the search. -/
structure SymL (cf : Nat → Nat → Int) (w : World) (g : Nat) (tl : List Value) (A L R C : List Nat) (a ki kj : Nat) (W : World) : Prop where
  h1 : a + symS L.length R.length ≤ ki
  h2 : ki ≤ kj
  h3 : kj ≤ a + symR L.length R.length
  lo : CutLo (ltI cf) L R ((L.length + R.length) / 2) (symS L.length R.length) (ki - a)
  hi : CutHi (ltI cf) L R ((L.length + R.length) / 2) (kj - a) (symR L.length R.length)
  hS : SI w g tl (A ++ L ++ R ++ C) W
theorem SymG.nums (h : SymG cf P w g tl F1 F2 A L R C a m b mid nn pp N) : ((m : Int) - (a : Int) == 1) = false ∧ ((b : Int) - (m : Int) == 1) = false ∧ ((a : Int) + (b : Int)) / 2 = ((mid : Nat) : Int) ∧ (mid : Int) + (m : Int) = ((nn : Nat) : Int) ∧ (nn : Int) - 1 = ((pp : Nat) : Int) ∧ b ≤ N ∧ a < m ∧ m < b ∧ mid < b := by
  have h1 := h.hm; have h2 := h.hb; have h3 := h.hmid; have h4 := h.hnn; have h5 := h.hpp; have h6 := h.hp; have h7 := h.hq; have h8 := h.hN; have h9 := h.ha
  have hbN : b ≤ N := by rw [h8, h2, h1, h9]; simp; omega
  clear h8
  refine ⟨by simp; omega, by simp; omega, by omega, by omega, by omega, hbN, by omega, by omega, by omega⟩
theorem SymG.start1 (h : SymG cf P w g tl F1 F2 A L R C a m b mid nn pp N) (hc : mid < m) {W : World} (hS : SI w g tl (A ++ L ++ R ++ C) W) : ∃ s0 : Nat, (nn : Int) - (b : Int) = (s0 : Int) ∧ SymL cf w g tl A L R C a s0 mid W := by
  have h1 := h.hm; have h2 := h.hb; have h3 := h.hmid; have h4 := h.hnn; have h6 := h.hp; have h7 := h.hq
  have e1 : symS L.length R.length = (L.length + R.length) / 2 - R.length := by rw [symS, if_pos (by omega)]
  have e2 : symR L.length R.length = (L.length + R.length) / 2 := by rw [symR, if_pos (by omega)]
  refine ⟨a + symS L.length R.length, by omega, Nat.le_refl _, by omega, by omega, ?_, ?_, hS⟩
  · rw [Nat.add_sub_cancel_left]; exact cutLo_start _ _ _ _
  · rw [show mid - a = symR L.length R.length by omega]; exact cutHi_start _ _ _ _
theorem SymG.start2 (h : SymG cf P w g tl F1 F2 A L R C a m b mid nn pp N) (hc : ¬ mid < m) {W : World} (hS : SI w g tl (A ++ L ++ R ++ C) W) : SymL cf w g tl A L R C a a m W := by
  have h1 := h.hm; have h2 := h.hb; have h3 := h.hmid; have h4 := h.hnn; have h6 := h.hp; have h7 := h.hq
  have e1 : symS L.length R.length = 0 := by rw [symS, if_neg (by omega)]
  have e2 : symR L.length R.length = L.length := by rw [symR, if_neg (by omega)]
  refine ⟨by omega, by omega, by omega, ?_, ?_, hS⟩
  · rw [Nat.sub_self, e1]; exact cutLo_start _ _ _ _
  · rw [show m - a = symR L.length R.length by omega]; exact cutHi_start _ _ _ _
/-- One round of the search. -/
structure SymQ (cf : Nat → Nat → Int) (w : World) (g : Nat) (tl : List Value) (A L R C : List Nat) (a N ki kj c d x y : Nat) (v : Int) : Prop where
  c1 : ki ≤ c
  c2 : c < kj
  cx : ∀ W, SI w g tl (A ++ L ++ R ++ C) W → W.cell? ⟨g, c, none⟩ = some (cN (x : Int))
  cy : ∀ W, SI w g tl (A ++ L ++ R ++ C) W → W.cell? ⟨g, d, none⟩ = some (cN (y : Int))
  up : v < 0 → ∀ W, SI w g tl (A ++ L ++ R ++ C) W → SymL cf w g tl A L R C a ki c W
  down : ¬ v < 0 → ∀ W, SI w g tl (A ++ L ++ R ++ C) W → SymL cf w g tl A L R C a (c + 1) kj W
theorem SymG.round (h : SymG cf P w g tl F1 F2 A L R C a m b mid nn pp N) {ki kj : Nat} {W : World} (hl : SymL cf w g tl A L R C a ki kj W) (hlt : ki < kj) :
    ∃ c d x y v, ((ki : Int) + (kj : Int)) / 2 = ((c : Nat) : Int) ∧ (pp : Int) - (c : Int) = ((d : Nat) : Int) ∧ (c : Int) < (N : Int) ∧ (d : Int) < (N : Int) ∧ SymQ cf w g tl A L R C a N ki kj c d x y v ∧
      ∀ W d, SI w g tl d W → Calls Try.prog 75 #[cN (y : Int), cN (x : Int), .pointer (some ⟨F1, 0, none⟩), .pointer (some ⟨F2, 0, none⟩)] W fun e w' => e = .returned (cN v) ∧ Below W.heap.size W w' := by
  obtain ⟨-, -, -, -, -, hbN, -, -, -⟩ := h.nums
  have h1 := h.hm; have h2 := h.hb; have h3 := h.hmid; have h4 := h.hnn; have h5 := h.hpp; have h6 := h.hp; have h7 := h.hq; have h9 := h.ha
  have k1 := hl.h1; have k2 := hl.h2; have k3 := hl.h3
  obtain ⟨b1, b2, b3, b4⟩ := sym_bounds L.length R.length
  obtain ⟨H, hH⟩ : ∃ H, H = (L.length + R.length) / 2 := ⟨_, rfl⟩
  rw [← hH] at h3 b3 b4
  have hlo := hl.lo; have hhi := hl.hi
  rw [← hH] at hlo hhi
  obtain ⟨c, hc⟩ : ∃ c, c = (ki + kj) / 2 := ⟨_, rfl⟩
  have hc1 : ki ≤ c := by omega
  have hc2 : c < kj := by omega
  have e1 : ((ki : Int) + (kj : Int)) / 2 = ((c : Nat) : Int) := by omega
  clear hc
  have hcH : c - a < H := by omega
  have hcL : c - a < L.length := by omega
  have hdR : H - 1 - (c - a) < R.length := by omega
  have hac : a ≤ c := by omega
  obtain ⟨d, hd⟩ : ∃ d, d = m + (H - 1 - (c - a)) := ⟨_, rfl⟩
  have hdp : d = pp - c := by omega
  have hcp : c ≤ pp := by omega
  have hxc : L[c - a]? = some (L[c - a]'hcL) := List.getElem?_eq_getElem _
  have hyc : R[H - 1 - (c - a)]? = some (R[H - 1 - (c - a)]'hdR) := List.getElem?_eq_getElem _
  generalize (L[c - a]'hcL) = x at hxc
  generalize (R[H - 1 - (c - a)]'hdR) = y at hyc
  have hxL : x ∈ L := List.mem_of_getElem? hxc
  have hyR : y ∈ R := List.mem_of_getElem? hyc
  have hord := ltI_of h.hF (h.hx x hxL y hyR)
  refine ⟨c, d, x, y, cf y x, e1, by omega, by omega, by omega, ⟨hc1, hc2, fun W hW => hW.cell c x ?_, fun W hW => hW.cell d y ?_, fun hv W hW => ⟨k1, hc1, by omega, hl.lo, ?_, hW⟩, fun hv W hW => ⟨by omega, by omega, k3, ?_, hl.hi, hW⟩⟩, fun W d hW => h.hC W d y x hW (h.hP y (List.mem_append_right _ hyR)) (h.hP x (List.mem_append_left _ hxL))⟩
  · rw [List.append_assoc, List.append_assoc, List.getElem?_append_right (by omega), List.getElem?_append_left (by omega), ← h9]
    exact hxc
  · rw [List.append_assoc (A ++ L), List.getElem?_append_right (by rw [List.length_append]; omega), List.getElem?_append_left (by rw [List.length_append]; omega), ← hyc]
    congr 1
    rw [List.length_append]
    omega
  · rw [← hH]
    exact cutHi_step (ltI_trans h.hF) h.hL h.hR hcH (by omega) hxc hyc (hord.1 hv)
  · rw [← hH]
    have := cutLo_step (s0 := symS L.length R.length) (ltI_trans h.hF) h.hL h.hR hcH hxc hyc (hord.2 hv)
    rwa [show c - a + 1 = c + 1 - a by omega] at this
theorem SymG.stop (h : SymG cf P w g tl F1 F2 A L R C a m b mid nn pp N) {ki : Nat} {W : World} (hl : SymL cf w g tl A L R C a ki ki W) :
    ∃ en s t, (nn : Int) - (ki : Int) = ((en : Nat) : Int) ∧ SymC cf P w g tl A L R C a m b mid N ki en W s t := by
  have h1 := h.hm; have h2 := h.hb; have h3 := h.hmid; have h4 := h.hnn; have h5 := h.hpp; have h6 := h.hp; have h7 := h.hq; have h9 := h.ha
  have k1 := hl.h1; have k3 := hl.h3
  obtain ⟨b1, b2, b3, b4⟩ := sym_bounds L.length R.length
  have hcut := sym_cut (ltI_trans h.hF) h.hL h.hR (s := ki - a) (by omega) (by omega) hl.lo hl.hi
  obtain ⟨t, ht⟩ : ∃ t, t = (L.length + R.length) / 2 - (ki - a) := ⟨_, rfl⟩
  rw [← ht] at hcut
  exact ⟨m + t, ki - a, t, by omega, ⟨h9, h1, h2, by omega, by omega, rfl, by omega, by omega, by omega, by omega, h6, h7, h.hN, h.hL, h.hR, h.hx, h.hP, hcut, hl.hS⟩⟩
end
section
variable {cf : Nat → Nat → Int} {P : Nat → Prop} {w : World} {g : Nat} {tl : List Value} {A L R C : List Nat} {a m b mid N ki en : Nat} {W : World} {s t : Nat}
theorem SymC.n1 (h : SymC cf P w g tl A L R C a m b mid N ki en W s t) : ((ki : Int) < (m : Int) ↔ s < L.length) ∧ ((m : Int) < (en : Int) ↔ 0 < t) ∧ ((a : Int) < (ki : Int) ↔ 0 < s) ∧ ((ki : Int) < (mid : Int) ↔ 0 < t) ∧ ((mid : Int) < (en : Int) ↔ s < L.length) ∧ ((en : Int) < (b : Int) ↔ t < R.length) := by
  have h1 := h.hm; have h2 := h.hb; have h3 := h.hmid; have h4 := h.hki; have h5 := h.hen
  refine ⟨?_, ?_, ?_, ?_, ?_, ?_⟩ <;> constructor <;> intro k <;> omega
/-- The seven ways. -/
theorem SymC.ways (h : SymC cf P w g tl A L R C a m b mid N ki en W s t) :
    (s = 0 ∧ 0 < t ∧ s < L.length ∧ t = R.length) ∨ (s = 0 ∧ 0 < t ∧ s < L.length ∧ t < R.length) ∨ (0 < s ∧ t = 0 ∧ s = L.length ∧ t < R.length) ∨ (0 < s ∧ t = 0 ∧ s < L.length ∧ t < R.length) ∨
    (0 < s ∧ 0 < t ∧ s = L.length ∧ t < R.length) ∨ (0 < s ∧ 0 < t ∧ s < L.length ∧ t = R.length) ∨ (0 < s ∧ 0 < t ∧ s < L.length ∧ t < R.length) := by
  have h1 := h.hs; have h2 := h.ht; have h3 := h.h2; have h4 := h.h2'; have h5 := h.hp; have h6 := h.hq
  omega
end
set_option maxRecDepth 100000 in
set_option maxHeartbeats 8000000 in
theorem sym_main (cf : Nat → Nat → Int) (P : Nat → Prop) (w : World) (g : Nat) (tl : List Value) (F1 F2 cap : Nat) (N : Nat) (hN2 : N ≤ 2000) (k : Nat) (ih : SymH cf P w g tl F1 F2 cap N k) (A L R C : List Nat) (a m b mid nn pp : Nat) (W0 : World)
    (hk : L.length + R.length ≤ k + 1) (hG : SymG cf P w g tl F1 F2 A L R C a m b mid nn pp N) (hS : SI w g tl (A ++ L ++ R ++ C) W0) :
    Calls Try.prog 166 #[.slice (some ⟨g, 0, none⟩) N cap, cN a, cN m, cN b, .func (.func 75) #[] #[.pointer (some ⟨F1, 0, none⟩), .pointer (some ⟨F2, 0, none⟩)]] W0 (SeI cf w g tl A (L ++ R) C) := by
  obtain ⟨g0, g1, e1, e2, e3, hbN, hab, hmb, hmid⟩ := hG.nums
  have HG := Lib.hid hG
  have HIH := Lib.hid ih
  by_cases hc : mid < m
  · have g2 : (mid : Int) < (m : Int) := by omega
    obtain ⟨s0, e4, hst⟩ := hG.start1 hc hS
    have HSTART := Lib.hid hst
    clear hG ih hS hc hst
    go_enter Try.func166, Try.ntmps166
    go_wp2
    go_loopw [20, 21, 23] (fun i j _ wr => ∃ ki kj : Nat, i = cN ki ∧ j = cN kj ∧ SymL cf w g tl A L R C a ki kj wr) (fun i j _ _ => (intOf j).toNat - (intOf i).toNat)
    case atStart => exact ⟨_, _, rfl, rfl, HSTART.out⟩
    case round =>
      obtain ⟨ki, kj, rfl, rfl, hl⟩ := hrel
      have HLL := Lib.hid hl
      have hij := hl.h2
      clear hl
      by_cases hlt : ki < kj
      · have g2 : (ki : Int) < (kj : Int) := by omega
        obtain ⟨c, d, x, y, v, e4, e5, hcN, hdN, hQ, c0⟩ := HG.out.round HLL.out hlt
        have hwp : IntKind.i64.wrap (d : Int) = (d : Int) := by rw [IntKind.wrap_i64]; omega
        have hc1 := hQ.c1
        have hc2 := hQ.c2
        have c1 := c0 wr.drew _ HLL.out.hS.drew
        have q0 := hQ.cx _ HLL.out.hS
        have r0 := hQ.cy _ HLL.out.hS
        have HQ := Lib.hid hQ
        clear hQ c0 hlt hij
        by_cases hneg : v < 0
        · have HV := Lib.hid hneg
          go_wp2
          refine region_sch (fun w' => w' = wr.drew) [(true, 0), (true, 1), (true, 2), (true, 3), (true, 4), (true, 5), (true, 6), (true, 7), (true, 8), (true, 9), (true, 10)] [11, 12, 13] (by kernel_rfl) (by kernel_rfl) (by rintro ⟨_, _, h⟩; cases h.1) (fun _ _ d _ _ h => by cases d <;> exact h) rfl ?_
          simp only [pickM, pickT, List.filterMap_cons, List.filterMap_nil, List.getElem?_cons_zero, List.getElem?_cons_succ, Option.map_some]
          repeat (first | (refine m_float ⟨?_, .inl ⟨?_, .inl ?_⟩, fun K' hK => ?_⟩; rotate_left; (first | rfl | (go_simp; done)); (intro w' hS; subst hS; go_simp; try rfl); (simp only [Act.put, List.setIfInBounds_toArray, List.set_cons_succ, List.set_cons_zero]; refine hK _ ?_; clear hK K')) | (refine m_float ⟨undef, .inr ⟨?_, rfl⟩, fun K' hK => ?_⟩; (first | rfl | (go_simp; done)); (simp only [Act.put, List.setIfInBounds_toArray, List.set_cons_succ, List.set_cons_zero]; refine hK _ ?_; clear hK K')))
          refine m_nil ?_
          show wpList Try.prog _ _ (List.cons _ _) _ _
          go_wp2_with fail
          with_reducible refine c1.mono ?_
          rintro e w1 ⟨rfl, hB1⟩
          have HS1 := Lib.hid (HLL.out.hS.drew.below hB1)
          clear hB1 q0 r0
          go_wp2
          go_roundw
          case rel => exact ⟨ki, c, rfl, rfl, HQ.out.up HV.out _ HS1.out⟩
          case measure => simp [intOf]; omega
        · have hneg2 : 0 ≤ v := by omega
          have g3 : decide (v < 0) = false := decide_eq_false hneg
          have HV := Lib.hid hneg
          go_wp2
          refine region_sch (fun w' => w' = wr.drew) [(true, 0), (true, 1), (true, 2), (true, 3), (true, 4), (true, 5), (true, 6), (true, 7), (true, 8), (true, 9), (true, 10)] [11, 12, 13] (by kernel_rfl) (by kernel_rfl) (by rintro ⟨_, _, h⟩; cases h.1) (fun _ _ d _ _ h => by cases d <;> exact h) rfl ?_
          simp only [pickM, pickT, List.filterMap_cons, List.filterMap_nil, List.getElem?_cons_zero, List.getElem?_cons_succ, Option.map_some]
          repeat (first | (refine m_float ⟨?_, .inl ⟨?_, .inl ?_⟩, fun K' hK => ?_⟩; rotate_left; (first | rfl | (go_simp; done)); (intro w' hS; subst hS; go_simp; try rfl); (simp only [Act.put, List.setIfInBounds_toArray, List.set_cons_succ, List.set_cons_zero]; refine hK _ ?_; clear hK K')) | (refine m_float ⟨undef, .inr ⟨?_, rfl⟩, fun K' hK => ?_⟩; (first | rfl | (go_simp; done)); (simp only [Act.put, List.setIfInBounds_toArray, List.set_cons_succ, List.set_cons_zero]; refine hK _ ?_; clear hK K')))
          refine m_nil ?_
          show wpList Try.prog _ _ (List.cons _ _) _ _
          go_wp2_with fail
          with_reducible refine c1.mono ?_
          rintro e w1 ⟨rfl, hB1⟩
          have HS1 := Lib.hid (HLL.out.hS.drew.below hB1)
          clear hB1 q0 r0
          go_wp2
          go_roundw
          case rel => exact ⟨c + 1, kj, by go_num, rfl, HQ.out.down (by have := HV.out; omega) _ HS1.out⟩
          case measure => simp [intOf]; omega
      · obtain rfl : ki = kj := by omega
        obtain ⟨en, s, t, e4, hsc⟩ := HG.out.stop HLL.out
        have g2 : ¬ (ki : Int) < (ki : Int) := by omega
        have HSC := Lib.hid hsc
        clear hlt hij
        have hn := hsc.n1
        rcases hsc.ways with z | z | z | z | z | z | z
        · obtain ⟨z1, z2, z3, z4⟩ := z
          have k1 := hn.1.2 z3
          have k2 := hn.2.1.2 z2
          have k3 : ¬ (a : Int) < (ki : Int) := fun h => by have := hn.2.2.1.1 h; omega
          have k5 := hn.2.2.2.2.1.2 z3
          have k6 : ¬ (en : Int) < (b : Int) := fun h => by have := hn.2.2.2.2.2.1 h; omega
          clear hsc hn
          have cR := HSC.out.rot (cap := cap) hN2 (by omega) (by omega) (.func (.func 75) #[] #[.pointer (some ⟨F1, 0, none⟩), .pointer (some ⟨F2, 0, none⟩)])
          go_wp2_with fail
          with_reducible refine cR.mono ?_
          rintro e w1 ⟨rfl, hE⟩
          have HSR := Lib.hid hE
          clear hE cR
          have HM1 := Lib.hid (HSC.out.skip1 (by omega) HSR.out)
          have HE := Lib.hid (HSC.out.skip2 (by omega) HM1.out)
          go_wp2
          all_goals (go_end0; exact HE.out)
        · obtain ⟨z1, z2, z3, z4⟩ := z
          have k1 := hn.1.2 z3
          have k2 := hn.2.1.2 z2
          have k3 : ¬ (a : Int) < (ki : Int) := fun h => by have := hn.2.2.1.1 h; omega
          have k5 := hn.2.2.2.2.1.2 z3
          have k6 := hn.2.2.2.2.2.2 z4
          clear hsc hn
          have cR := HSC.out.rot (cap := cap) hN2 (by omega) (by omega) (.func (.func 75) #[] #[.pointer (some ⟨F1, 0, none⟩), .pointer (some ⟨F2, 0, none⟩)])
          go_wp2_with fail
          with_reducible refine cR.mono ?_
          rintro e w1 ⟨rfl, hE⟩
          have HSR := Lib.hid hE
          clear hE cR
          have HM1 := Lib.hid (HSC.out.skip1 (by omega) HSR.out)
          have c2 := HSC.out.call2 HIH.out hk (by omega) (by omega) HM1.out
          go_wp2_with fail
          all_goals (with_reducible refine c2.mono ?_)
          all_goals (rintro e w3 ⟨rfl, hE⟩; have HE := Lib.hid hE; clear hE c2; go_wp2; go_end0; exact ⟨rfl, HE.out⟩)
        · obtain ⟨z1, z2, z3, z4⟩ := z
          have k1 : ¬ (ki : Int) < (m : Int) := fun h => by have := hn.1.1 h; omega
          have k3 := hn.2.2.1.2 z1
          have k4 : ¬ (ki : Int) < (mid : Int) := fun h => by have := hn.2.2.2.1.1 h; omega
          have k5 : ¬ (mid : Int) < (en : Int) := fun h => by have := hn.2.2.2.2.1.1 h; omega
          clear hsc hn
          have HSR := Lib.hid (HSC.out.still (by omega))
          have HM1 := Lib.hid (HSC.out.skip1 (by omega) HSR.out)
          have HE := Lib.hid (HSC.out.skip2 (by omega) HM1.out)
          go_wp2
          all_goals (go_end0; exact HE.out)
        · obtain ⟨z1, z2, z3, z4⟩ := z
          have k1 := hn.1.2 z3
          have k2 : ¬ (m : Int) < (en : Int) := fun h => by have := hn.2.1.1 h; omega
          have k3 := hn.2.2.1.2 z1
          have k4 : ¬ (ki : Int) < (mid : Int) := fun h => by have := hn.2.2.2.1.1 h; omega
          have k5 := hn.2.2.2.2.1.2 z3
          have k6 := hn.2.2.2.2.2.2 z4
          clear hsc hn
          have HSR := Lib.hid (HSC.out.still (by omega))
          have HM1 := Lib.hid (HSC.out.skip1 (by omega) HSR.out)
          have c2 := HSC.out.call2 HIH.out hk (by omega) (by omega) HM1.out
          go_wp2_with fail
          all_goals (with_reducible refine c2.mono ?_)
          all_goals (rintro e w3 ⟨rfl, hE⟩; have HE := Lib.hid hE; clear hE c2; go_wp2; go_end0; exact ⟨rfl, HE.out⟩)
        · obtain ⟨z1, z2, z3, z4⟩ := z
          have k1 : ¬ (ki : Int) < (m : Int) := fun h => by have := hn.1.1 h; omega
          have k3 := hn.2.2.1.2 z1
          have k4 := hn.2.2.2.1.2 z2
          have k5 : ¬ (mid : Int) < (en : Int) := fun h => by have := hn.2.2.2.2.1.1 h; omega
          clear hsc hn
          have HSR := Lib.hid (HSC.out.still (by omega))
          have c1 := fun W (h : SymR w g tl A L R C s t W) => HSC.out.call1 HIH.out hk (by omega) (by omega) h
          go_wp2_with fail
          with_reducible refine (c1 _ HSR.out).mono ?_
          rintro e w2 ⟨rfl, hE⟩
          have HM1 := Lib.hid hE
          clear hE c1
          have HE := Lib.hid (HSC.out.skip2 (by omega) HM1.out)
          go_wp2
          all_goals (go_end0; exact HE.out)
        · obtain ⟨z1, z2, z3, z4⟩ := z
          have k1 := hn.1.2 z3
          have k2 := hn.2.1.2 z2
          have k3 := hn.2.2.1.2 z1
          have k4 := hn.2.2.2.1.2 z2
          have k5 := hn.2.2.2.2.1.2 z3
          have k6 : ¬ (en : Int) < (b : Int) := fun h => by have := hn.2.2.2.2.2.1 h; omega
          clear hsc hn
          have cR := HSC.out.rot (cap := cap) hN2 (by omega) (by omega) (.func (.func 75) #[] #[.pointer (some ⟨F1, 0, none⟩), .pointer (some ⟨F2, 0, none⟩)])
          go_wp2_with fail
          with_reducible refine cR.mono ?_
          rintro e w1 ⟨rfl, hE⟩
          have HSR := Lib.hid hE
          clear hE cR
          have c1 := fun W (h : SymR w g tl A L R C s t W) => HSC.out.call1 HIH.out hk (by omega) (by omega) h
          go_wp2_with fail
          with_reducible refine (c1 _ HSR.out).mono ?_
          rintro e w2 ⟨rfl, hE⟩
          have HM1 := Lib.hid hE
          clear hE c1
          have HE := Lib.hid (HSC.out.skip2 (by omega) HM1.out)
          go_wp2
          all_goals (go_end0; exact HE.out)
        · obtain ⟨z1, z2, z3, z4⟩ := z
          have k1 := hn.1.2 z3
          have k2 := hn.2.1.2 z2
          have k3 := hn.2.2.1.2 z1
          have k4 := hn.2.2.2.1.2 z2
          have k5 := hn.2.2.2.2.1.2 z3
          have k6 := hn.2.2.2.2.2.2 z4
          clear hsc hn
          have cR := HSC.out.rot (cap := cap) hN2 (by omega) (by omega) (.func (.func 75) #[] #[.pointer (some ⟨F1, 0, none⟩), .pointer (some ⟨F2, 0, none⟩)])
          go_wp2_with fail
          with_reducible refine cR.mono ?_
          rintro e w1 ⟨rfl, hE⟩
          have HSR := Lib.hid hE
          clear hE cR
          have c1 := fun W (h : SymR w g tl A L R C s t W) => HSC.out.call1 HIH.out hk (by omega) (by omega) h
          go_wp2_with fail
          with_reducible refine (c1 _ HSR.out).mono ?_
          rintro e w2 ⟨rfl, hE⟩
          have HM1 := Lib.hid hE
          clear hE c1
          have c2 := HSC.out.call2 HIH.out hk (by omega) (by omega) HM1.out
          go_wp2_with fail
          all_goals (with_reducible refine c2.mono ?_)
          all_goals (rintro e w3 ⟨rfl, hE⟩; have HE := Lib.hid hE; clear hE c2; go_wp2; go_end0; exact ⟨rfl, HE.out⟩)
  · have g2 : ¬ (mid : Int) < (m : Int) := by omega
    have hst := hG.start2 hc hS
    have HSTART := Lib.hid hst
    clear hG ih hS hc hst
    go_enter Try.func166, Try.ntmps166
    go_wp2
    go_loopw [20, 21, 23] (fun i j _ wr => ∃ ki kj : Nat, i = cN ki ∧ j = cN kj ∧ SymL cf w g tl A L R C a ki kj wr) (fun i j _ _ => (intOf j).toNat - (intOf i).toNat)
    case atStart => exact ⟨_, _, rfl, rfl, HSTART.out⟩
    case round =>
      obtain ⟨ki, kj, rfl, rfl, hl⟩ := hrel
      have HLL := Lib.hid hl
      have hij := hl.h2
      clear hl
      by_cases hlt : ki < kj
      · have g2 : (ki : Int) < (kj : Int) := by omega
        obtain ⟨c, d, x, y, v, e4, e5, hcN, hdN, hQ, c0⟩ := HG.out.round HLL.out hlt
        have hwp : IntKind.i64.wrap (d : Int) = (d : Int) := by rw [IntKind.wrap_i64]; omega
        have hc1 := hQ.c1
        have hc2 := hQ.c2
        have c1 := c0 wr.drew _ HLL.out.hS.drew
        have q0 := hQ.cx _ HLL.out.hS
        have r0 := hQ.cy _ HLL.out.hS
        have HQ := Lib.hid hQ
        clear hQ c0 hlt hij
        by_cases hneg : v < 0
        · have HV := Lib.hid hneg
          go_wp2
          refine region_sch (fun w' => w' = wr.drew) [(true, 0), (true, 1), (true, 2), (true, 3), (true, 4), (true, 5), (true, 6), (true, 7), (true, 8), (true, 9), (true, 10)] [11, 12, 13] (by kernel_rfl) (by kernel_rfl) (by rintro ⟨_, _, h⟩; cases h.1) (fun _ _ d _ _ h => by cases d <;> exact h) rfl ?_
          simp only [pickM, pickT, List.filterMap_cons, List.filterMap_nil, List.getElem?_cons_zero, List.getElem?_cons_succ, Option.map_some]
          repeat (first | (refine m_float ⟨?_, .inl ⟨?_, .inl ?_⟩, fun K' hK => ?_⟩; rotate_left; (first | rfl | (go_simp; done)); (intro w' hS; subst hS; go_simp; try rfl); (simp only [Act.put, List.setIfInBounds_toArray, List.set_cons_succ, List.set_cons_zero]; refine hK _ ?_; clear hK K')) | (refine m_float ⟨undef, .inr ⟨?_, rfl⟩, fun K' hK => ?_⟩; (first | rfl | (go_simp; done)); (simp only [Act.put, List.setIfInBounds_toArray, List.set_cons_succ, List.set_cons_zero]; refine hK _ ?_; clear hK K')))
          refine m_nil ?_
          show wpList Try.prog _ _ (List.cons _ _) _ _
          go_wp2_with fail
          with_reducible refine c1.mono ?_
          rintro e w1 ⟨rfl, hB1⟩
          have HS1 := Lib.hid (HLL.out.hS.drew.below hB1)
          clear hB1 q0 r0
          go_wp2
          go_roundw
          case rel => exact ⟨ki, c, rfl, rfl, HQ.out.up HV.out _ HS1.out⟩
          case measure => simp [intOf]; omega
        · have hneg2 : 0 ≤ v := by omega
          have g3 : decide (v < 0) = false := decide_eq_false hneg
          have HV := Lib.hid hneg
          go_wp2
          refine region_sch (fun w' => w' = wr.drew) [(true, 0), (true, 1), (true, 2), (true, 3), (true, 4), (true, 5), (true, 6), (true, 7), (true, 8), (true, 9), (true, 10)] [11, 12, 13] (by kernel_rfl) (by kernel_rfl) (by rintro ⟨_, _, h⟩; cases h.1) (fun _ _ d _ _ h => by cases d <;> exact h) rfl ?_
          simp only [pickM, pickT, List.filterMap_cons, List.filterMap_nil, List.getElem?_cons_zero, List.getElem?_cons_succ, Option.map_some]
          repeat (first | (refine m_float ⟨?_, .inl ⟨?_, .inl ?_⟩, fun K' hK => ?_⟩; rotate_left; (first | rfl | (go_simp; done)); (intro w' hS; subst hS; go_simp; try rfl); (simp only [Act.put, List.setIfInBounds_toArray, List.set_cons_succ, List.set_cons_zero]; refine hK _ ?_; clear hK K')) | (refine m_float ⟨undef, .inr ⟨?_, rfl⟩, fun K' hK => ?_⟩; (first | rfl | (go_simp; done)); (simp only [Act.put, List.setIfInBounds_toArray, List.set_cons_succ, List.set_cons_zero]; refine hK _ ?_; clear hK K')))
          refine m_nil ?_
          show wpList Try.prog _ _ (List.cons _ _) _ _
          go_wp2_with fail
          with_reducible refine c1.mono ?_
          rintro e w1 ⟨rfl, hB1⟩
          have HS1 := Lib.hid (HLL.out.hS.drew.below hB1)
          clear hB1 q0 r0
          go_wp2
          go_roundw
          case rel => exact ⟨c + 1, kj, by go_num, rfl, HQ.out.down (by have := HV.out; omega) _ HS1.out⟩
          case measure => simp [intOf]; omega
      · obtain rfl : ki = kj := by omega
        obtain ⟨en, s, t, e4, hsc⟩ := HG.out.stop HLL.out
        have g2 : ¬ (ki : Int) < (ki : Int) := by omega
        have HSC := Lib.hid hsc
        clear hlt hij
        have hn := hsc.n1
        rcases hsc.ways with z | z | z | z | z | z | z
        · obtain ⟨z1, z2, z3, z4⟩ := z
          have k1 := hn.1.2 z3
          have k2 := hn.2.1.2 z2
          have k3 : ¬ (a : Int) < (ki : Int) := fun h => by have := hn.2.2.1.1 h; omega
          have k5 := hn.2.2.2.2.1.2 z3
          have k6 : ¬ (en : Int) < (b : Int) := fun h => by have := hn.2.2.2.2.2.1 h; omega
          clear hsc hn
          have cR := HSC.out.rot (cap := cap) hN2 (by omega) (by omega) (.func (.func 75) #[] #[.pointer (some ⟨F1, 0, none⟩), .pointer (some ⟨F2, 0, none⟩)])
          go_wp2_with fail
          with_reducible refine cR.mono ?_
          rintro e w1 ⟨rfl, hE⟩
          have HSR := Lib.hid hE
          clear hE cR
          have HM1 := Lib.hid (HSC.out.skip1 (by omega) HSR.out)
          have HE := Lib.hid (HSC.out.skip2 (by omega) HM1.out)
          go_wp2
          all_goals (go_end0; exact HE.out)
        · obtain ⟨z1, z2, z3, z4⟩ := z
          have k1 := hn.1.2 z3
          have k2 := hn.2.1.2 z2
          have k3 : ¬ (a : Int) < (ki : Int) := fun h => by have := hn.2.2.1.1 h; omega
          have k5 := hn.2.2.2.2.1.2 z3
          have k6 := hn.2.2.2.2.2.2 z4
          clear hsc hn
          have cR := HSC.out.rot (cap := cap) hN2 (by omega) (by omega) (.func (.func 75) #[] #[.pointer (some ⟨F1, 0, none⟩), .pointer (some ⟨F2, 0, none⟩)])
          go_wp2_with fail
          with_reducible refine cR.mono ?_
          rintro e w1 ⟨rfl, hE⟩
          have HSR := Lib.hid hE
          clear hE cR
          have HM1 := Lib.hid (HSC.out.skip1 (by omega) HSR.out)
          have c2 := HSC.out.call2 HIH.out hk (by omega) (by omega) HM1.out
          go_wp2_with fail
          all_goals (with_reducible refine c2.mono ?_)
          all_goals (rintro e w3 ⟨rfl, hE⟩; have HE := Lib.hid hE; clear hE c2; go_wp2; go_end0; exact ⟨rfl, HE.out⟩)
        · obtain ⟨z1, z2, z3, z4⟩ := z
          have k1 : ¬ (ki : Int) < (m : Int) := fun h => by have := hn.1.1 h; omega
          have k3 := hn.2.2.1.2 z1
          have k4 : ¬ (ki : Int) < (mid : Int) := fun h => by have := hn.2.2.2.1.1 h; omega
          have k5 : ¬ (mid : Int) < (en : Int) := fun h => by have := hn.2.2.2.2.1.1 h; omega
          clear hsc hn
          have HSR := Lib.hid (HSC.out.still (by omega))
          have HM1 := Lib.hid (HSC.out.skip1 (by omega) HSR.out)
          have HE := Lib.hid (HSC.out.skip2 (by omega) HM1.out)
          go_wp2
          all_goals (go_end0; exact HE.out)
        · obtain ⟨z1, z2, z3, z4⟩ := z
          have k1 := hn.1.2 z3
          have k2 : ¬ (m : Int) < (en : Int) := fun h => by have := hn.2.1.1 h; omega
          have k3 := hn.2.2.1.2 z1
          have k4 : ¬ (ki : Int) < (mid : Int) := fun h => by have := hn.2.2.2.1.1 h; omega
          have k5 := hn.2.2.2.2.1.2 z3
          have k6 := hn.2.2.2.2.2.2 z4
          clear hsc hn
          have HSR := Lib.hid (HSC.out.still (by omega))
          have HM1 := Lib.hid (HSC.out.skip1 (by omega) HSR.out)
          have c2 := HSC.out.call2 HIH.out hk (by omega) (by omega) HM1.out
          go_wp2_with fail
          all_goals (with_reducible refine c2.mono ?_)
          all_goals (rintro e w3 ⟨rfl, hE⟩; have HE := Lib.hid hE; clear hE c2; go_wp2; go_end0; exact ⟨rfl, HE.out⟩)
        · obtain ⟨z1, z2, z3, z4⟩ := z
          have k1 : ¬ (ki : Int) < (m : Int) := fun h => by have := hn.1.1 h; omega
          have k3 := hn.2.2.1.2 z1
          have k4 := hn.2.2.2.1.2 z2
          have k5 : ¬ (mid : Int) < (en : Int) := fun h => by have := hn.2.2.2.2.1.1 h; omega
          clear hsc hn
          have HSR := Lib.hid (HSC.out.still (by omega))
          have c1 := fun W (h : SymR w g tl A L R C s t W) => HSC.out.call1 HIH.out hk (by omega) (by omega) h
          go_wp2_with fail
          with_reducible refine (c1 _ HSR.out).mono ?_
          rintro e w2 ⟨rfl, hE⟩
          have HM1 := Lib.hid hE
          clear hE c1
          have HE := Lib.hid (HSC.out.skip2 (by omega) HM1.out)
          go_wp2
          all_goals (go_end0; exact HE.out)
        · obtain ⟨z1, z2, z3, z4⟩ := z
          have k1 := hn.1.2 z3
          have k2 := hn.2.1.2 z2
          have k3 := hn.2.2.1.2 z1
          have k4 := hn.2.2.2.1.2 z2
          have k5 := hn.2.2.2.2.1.2 z3
          have k6 : ¬ (en : Int) < (b : Int) := fun h => by have := hn.2.2.2.2.2.1 h; omega
          clear hsc hn
          have cR := HSC.out.rot (cap := cap) hN2 (by omega) (by omega) (.func (.func 75) #[] #[.pointer (some ⟨F1, 0, none⟩), .pointer (some ⟨F2, 0, none⟩)])
          go_wp2_with fail
          with_reducible refine cR.mono ?_
          rintro e w1 ⟨rfl, hE⟩
          have HSR := Lib.hid hE
          clear hE cR
          have c1 := fun W (h : SymR w g tl A L R C s t W) => HSC.out.call1 HIH.out hk (by omega) (by omega) h
          go_wp2_with fail
          with_reducible refine (c1 _ HSR.out).mono ?_
          rintro e w2 ⟨rfl, hE⟩
          have HM1 := Lib.hid hE
          clear hE c1
          have HE := Lib.hid (HSC.out.skip2 (by omega) HM1.out)
          go_wp2
          all_goals (go_end0; exact HE.out)
        · obtain ⟨z1, z2, z3, z4⟩ := z
          have k1 := hn.1.2 z3
          have k2 := hn.2.1.2 z2
          have k3 := hn.2.2.1.2 z1
          have k4 := hn.2.2.2.1.2 z2
          have k5 := hn.2.2.2.2.1.2 z3
          have k6 := hn.2.2.2.2.2.2 z4
          clear hsc hn
          have cR := HSC.out.rot (cap := cap) hN2 (by omega) (by omega) (.func (.func 75) #[] #[.pointer (some ⟨F1, 0, none⟩), .pointer (some ⟨F2, 0, none⟩)])
          go_wp2_with fail
          with_reducible refine cR.mono ?_
          rintro e w1 ⟨rfl, hE⟩
          have HSR := Lib.hid hE
          clear hE cR
          have c1 := fun W (h : SymR w g tl A L R C s t W) => HSC.out.call1 HIH.out hk (by omega) (by omega) h
          go_wp2_with fail
          with_reducible refine (c1 _ HSR.out).mono ?_
          rintro e w2 ⟨rfl, hE⟩
          have HM1 := Lib.hid hE
          clear hE c1
          have c2 := HSC.out.call2 HIH.out hk (by omega) (by omega) HM1.out
          go_wp2_with fail
          all_goals (with_reducible refine c2.mono ?_)
          all_goals (rintro e w3 ⟨rfl, hE⟩; have HE := Lib.hid hE; clear hE c2; go_wp2; go_end0; exact ⟨rfl, HE.out⟩)
theorem symint_ok (cf : Nat → Nat → Int) (hcf : OrdI cf) (P : Nat → Prop) (w : World) (g : Nat) (tl : List Value) (F1 F2 cap : Nat) (hcmp : CmpI cf P w g tl F1 F2) (N : Nat) (hN2 : N ≤ 2000) : ∀ k, SymH cf P w g tl F1 F2 cap N k
  | 0 => fun A L R C a m b W0 hk hL0 hR0 => by omega
  | k + 1 => fun A L R C a m b W0 hk hL0 hR0 ha hm hb hN hL hR hx hP hS => by
    have ih := symint_ok cf hcf P w g tl F1 F2 cap hcmp N hN2 k
    by_cases hp1 : L.length = 1
    · obtain ⟨x, rfl⟩ := List.length_eq_one_iff.1 hp1
      exact sym_left cf hcf P w g tl F1 F2 cap hcmp N hN2 A R C x a m b W0 ha hm hb hN hR (hx x (by simp)) (by simpa using hP) hS
    · by_cases hq1 : R.length = 1
      · obtain ⟨y, rfl⟩ := List.length_eq_one_iff.1 hq1
        refine sym_right cf hcf P w g tl F1 F2 cap hcmp N hN2 A L C y a m b W0 (by omega) ha hm hb hN hL (fun x h => hx x h y (by simp)) (fun x h => hP x ?_) hS
        rcases List.mem_cons.1 h with rfl | h
        · simp
        · exact List.mem_append_left _ h
      · exact sym_main cf P w g tl F1 F2 cap N hN2 k ih A L R C a m b _ _ _ W0 hk ⟨ha, hm, hb, rfl, rfl, rfl, by omega, by omega, hN, hL, hR, hx, hP, hcf, hcmp⟩ hS
end Go.Proofs.Ytnmlephjhcmbhaa
namespace Go.Proofs.Ytnmlephjhcmbhaa
set_option linter.unusedSimpArgs false
set_option linter.unusedVariables false
open Go Go.RowKit
set_option maxRecDepth 100000 in
set_option maxHeartbeats 400000 in
theorem insint_none (ad : Option Addr) (n cap a : Nat) (b : Nat) (hb : b ≤ a + 1) (ha : a ≤ 2000) (fv : Value) (w : World) : Calls Try.prog 165 #[.slice ad n cap, cN a, cN b, fv] w fun e w' => e = .returned (.tuple #[]) ∧ w' = w := by
  have g1 : ¬ (a : Int) + 1 < (b : Int) := by omega
  go_enter Try.func165, Try.ntmps165
  go_wp2
  refine wp_loop_rounds 1 ?_
  rw [rounds_succ]
  go_wp2
  go_end0
  exact ⟨rfl, by trivial⟩
set_option maxRecDepth 100000 in
set_option maxHeartbeats 400000 in
theorem stabint_nil (ad : Option Addr) (cap : Nat) (fv : Value) (w : World) : Calls Try.prog 132 #[.slice ad 0 cap, cN 0, fv] w fun e w' => e = .returned (.tuple #[]) ∧ w' = w := by
  have c1 := insint_none ad 0 cap 0 0 (by omega) (by omega) fv w
  rw [show ((0 : Nat) : Int) = 0 from rfl] at c1
  go_enter Try.func132, Try.ntmps132
  go_wp2
  refine wp_loop_rounds 1 ?_
  rw [rounds_succ]
  go_wp2_with fail
  with_reducible refine c1.mono ?_
  rintro e w1 ⟨rfl, rfl⟩
  go_wp2
  refine wp_loop_rounds 1 ?_
  rw [rounds_succ]
  go_wp2
  go_end0
  exact ⟨rfl, by trivial⟩
theorem se_join {cf : Nat → Nat → Int} {zs m1 m2 : List Nat} {k : Nat} (h1 : m1.Perm (zs.take k)) (h2 : m2.Perm (zs.drop k)) : (m1 ++ m2).Perm zs := by
  have := h1.append h2
  rwa [List.take_append_drop] at this
set_option maxRecDepth 100000 in
set_option maxHeartbeats 4000000 in
theorem stabint_ok (cf : Nat → Nat → Int) (hcf : OrdI cf) (P : Nat → Prop) (w : World) (g : Nat) (tl : List Value) (F1 F2 cap : Nat) (zs : List Nat) (hcmp : CmpI cf P w g tl F1 F2) (hP : ∀ t ∈ zs, P t) (hinc : zs.Pairwise (· < ·)) (h0 : zs ≠ []) (hn : zs.length < 40) (W0 : World) (hS : SI w g tl zs W0) :
    Calls Try.prog 132 #[.slice (some ⟨g, 0, none⟩) zs.length cap, cN zs.length, .func (.func 75) #[] #[.pointer (some ⟨F1, 0, none⟩), .pointer (some ⟨F2, 0, none⟩)]] W0 (SeI cf w g tl [] zs []) := by
  by_cases hs : zs.length < 20
  · obtain ⟨x, l', rfl⟩ : ∃ x l', zs = x :: l' := by cases zs with | nil => exact absurd rfl h0 | cons x l' => exact ⟨x, l', rfl⟩
    have c1 := insint_ok cf hcf P w g tl F1 F2 cap [] [] x l' hcmp hP hinc 0 (x :: l').length (x :: l').length rfl (by simp) (by simp) (by omega) W0 (by simpa using hS)
    rw [show ((0 : Nat) : Int) = 0 from rfl] at c1
    have g1 : ¬ (20 : Int) ≤ ((x :: l').length : Int) := by omega
    have g2 : ¬ (20 : Int) < ((x :: l').length : Int) := by omega
    generalize (x :: l').length = n at c1 g1 g2 ⊢
    clear hcmp hP hS h0 hn hs hcf
    go_enter Try.func132, Try.ntmps132
    go_wp2
    refine wp_loop_rounds 1 ?_
    rw [rounds_succ]
    go_wp2_with fail
    with_reducible refine c1.mono ?_
    rintro e w1 ⟨rfl, hE⟩
    have HE := Lib.hid hE
    clear hE
    go_wp2
    refine wp_loop_rounds 1 ?_
    rw [rounds_succ]
    go_wp2
    go_end0
    exact ⟨rfl, HE.out⟩
  · obtain ⟨x, l', hz1⟩ : ∃ x l', zs.take 20 = x :: l' := by
      cases hz : zs.take 20 with
      | nil =>
        have := congrArg List.length hz
        rw [List.length_take, List.length_nil] at this
        omega
      | cons x l' => exact ⟨x, l', rfl⟩
    have hinc1 := hinc.sublist (List.take_sublist 20 zs)
    have hl1 : (zs.take 20).length = 20 := by rw [List.length_take]; omega
    have c1 := insint_ok cf hcf P w g tl F1 F2 cap [] (zs.drop 20) x l' hcmp (fun t ht => hP t (List.mem_of_mem_take (by rw [hz1]; exact ht))) (by rw [← hz1]; exact hinc1) 0 20 zs.length rfl (by rw [← hz1, hl1]) (by simp; omega) (by omega) W0 (by rw [← hz1]; simpa using hS)
    rw [show ((0 : Nat) : Int) = 0 from rfl, show ((20 : Nat) : Int) = 20 from rfl, ← hz1] at c1
    have g1 : (20 : Int) ≤ (zs.length : Int) := by omega
    have g3 : ¬ (40 : Int) ≤ (zs.length : Int) := by omega
    by_cases h20 : zs.length = 20
    · have c2 := fun W => insint_none (some ⟨g, 0, none⟩) zs.length cap 20 zs.length (by omega) (by omega) (.func (.func 75) #[] #[.pointer (some ⟨F1, 0, none⟩), .pointer (some ⟨F2, 0, none⟩)]) W
      rw [show ((20 : Nat) : Int) = 20 from rfl] at c2
      have g2 : ¬ (20 : Int) < (zs.length : Int) := by rw [h20]; decide
      have HD := Lib.hid (show zs.take 20 = zs by rw [List.take_of_length_le (Nat.le_of_eq h20)])
      have HD2 := Lib.hid (show zs.drop 20 = [] by rw [List.drop_eq_nil_of_le (Nat.le_of_eq h20)])
      generalize zs.length = n at c1 c2 g1 g2 g3 ⊢
      clear hcmp hP hS h0 hn hs hcf hz1 hinc hinc1 hl1 h20
      go_enter Try.func132, Try.ntmps132
      go_wp2
      refine wp_loop_rounds 2 ?_
      rw [rounds_succ]
      go_wp2_with fail
      with_reducible refine c1.mono ?_
      rintro e w1 ⟨rfl, hE⟩
      have HE := Lib.hid hE
      clear hE
      go_wp2
      rw [rounds_succ]
      go_wp2_with fail
      with_reducible refine (c2 _).mono ?_
      rintro e w2 ⟨rfl, rfl⟩
      go_wp2
      refine wp_loop_rounds 1 ?_
      rw [rounds_succ]
      go_wp2
      go_end0
      have := HE.out
      rw [HD.out, HD2.out] at this
      exact ⟨rfl, this⟩
    · obtain ⟨y, r', hz2⟩ : ∃ x l', zs.drop 20 = x :: l' := by
        cases hz : zs.drop 20 with
        | nil =>
          have := congrArg List.length hz
          rw [List.length_drop, List.length_nil] at this
          omega
        | cons x l' => exact ⟨x, l', rfl⟩
      have hinc2 := hinc.sublist (List.drop_sublist 20 zs)
      have hl2 : (zs.drop 20).length = zs.length - 20 := by simp
      have c2 : ∀ m1 W, m1.Perm (zs.take 20) → SI w g tl ([] ++ m1 ++ zs.drop 20) W → Calls Try.prog 165 #[.slice (some ⟨g, 0, none⟩) zs.length cap, cN 20, cN zs.length, .func (.func 75) #[] #[.pointer (some ⟨F1, 0, none⟩), .pointer (some ⟨F2, 0, none⟩)]] W (SeI cf w g tl m1 (zs.drop 20) []) := fun m1 W hm hW => by
        have := insint_ok cf hcf P w g tl F1 F2 cap m1 [] y r' hcmp (fun t ht => hP t (List.mem_of_mem_drop (by rw [hz2]; exact ht))) (by rw [← hz2]; exact hinc2) 20 zs.length zs.length (by rw [hm.length_eq, hl1]) (by rw [← hz2, hl2]; omega) (by simp) (by omega) W (by rw [← hz2]; simpa using hW)
        rw [show ((20 : Nat) : Int) = 20 from rfl, ← hz2] at this
        exact this
      have c3 : ∀ m1 m2 W, m1.Perm (zs.take 20) → m2.Perm (zs.drop 20) → m1.Pairwise (ltI cf) → m2.Pairwise (ltI cf) → SI w g tl (m1 ++ m2 ++ []) W → Calls Try.prog 166 #[.slice (some ⟨g, 0, none⟩) zs.length cap, cN 0, cN 20, cN zs.length, .func (.func 75) #[] #[.pointer (some ⟨F1, 0, none⟩), .pointer (some ⟨F2, 0, none⟩)]] W (SeI cf w g tl [] (m1 ++ m2) []) := fun m1 m2 W h1 h2 s1 s2 hW => by
        have e1 := h1.length_eq
        have e2 := h2.length_eq
        rw [hl1] at e1
        rw [hl2] at e2
        have := symint_ok cf hcf P w g tl F1 F2 cap hcmp zs.length (by omega) (m1.length + m2.length) [] m1 m2 [] 0 20 zs.length W (Nat.le_refl _) (by omega) (by omega) rfl (by omega) (by omega) (by simp; omega) s1 s2
          (fun x hx y hy => by
            have := hinc
            rw [← List.take_append_drop 20 zs, List.pairwise_append] at this
            exact this.2.2 x (h1.subset hx) y (h2.subset hy))
          (fun x hx => hP x (by
            rcases List.mem_append.1 hx with hx | hx
            · exact List.mem_of_mem_take (h1.subset hx)
            · exact List.mem_of_mem_drop (h2.subset hx))) (by simpa using hW)
        exact this
      have g2 : (20 : Int) < (zs.length : Int) := by omega
      have g4 : ¬ (40 : Int) < (zs.length : Int) := by omega
      generalize zs.length = n at c1 c2 c3 g1 g2 g3 g4 ⊢
      have C2 := Lib.hid c2
      have C3 := Lib.hid c3
      clear hcmp hP hS h0 hn hs hcf hz1 hz2 hinc hinc1 hinc2 hl1 hl2 h20 c2 c3
      go_enter Try.func132, Try.ntmps132
      go_wp2
      refine wp_loop_rounds 2 ?_
      rw [rounds_succ]
      go_wp2_with fail
      with_reducible refine c1.mono ?_
      rintro e w1 ⟨rfl, hE⟩
      obtain ⟨m1, p1, s1, hS1⟩ := hE
      have H1 := Lib.hid (And.intro p1 s1)
      have c2 := C2.out m1 w1 p1 hS1
      clear p1 s1 hS1 c1
      go_wp2
      rw [rounds_succ]
      go_wp2_with fail
      with_reducible refine c2.mono ?_
      rintro e w2 ⟨rfl, hE⟩
      obtain ⟨m2, p2, s2, hS2⟩ := hE
      have H2 := Lib.hid (And.intro p2 s2)
      have c3 := C3.out m1 m2 w2 H1.out.1 p2 H1.out.2 s2 hS2
      clear p2 s2 hS2 c2
      go_wp2
      refine wp_loop_rounds 2 ?_
      rw [rounds_succ]
      go_wp2
      refine wp_loop_rounds 1 ?_
      rw [rounds_succ]
      go_wp2_with fail
      with_reducible refine c3.mono ?_
      rintro e w3 ⟨rfl, hE⟩
      have HE := Lib.hid hE
      clear hE c3
      go_wp2
      rw [rounds_succ]
      go_wp2
      go_end0
      obtain ⟨m, p3, s3, hS3⟩ := HE.out
      exact ⟨rfl, m, p3.trans (se_join (cf := cf) H1.out.1 H2.out.1), s3, hS3⟩
set_option maxRecDepth 100000 in
set_option maxHeartbeats 400000 in
theorem ssint_ok (cf : Nat → Nat → Int) (hcf : OrdI cf) (P : Nat → Prop) (w : World) (g : Nat) (tl : List Value) (F1 F2 cap : Nat) (zs : List Nat) (hcmp : CmpI cf P w g tl F1 F2) (hP : ∀ t ∈ zs, P t) (hinc : zs.Pairwise (· < ·)) (h0 : zs ≠ []) (hn : zs.length < 40) (W0 : World) (hS : SI w g tl zs W0) :
    Calls Try.prog 76 #[.slice (some ⟨g, 0, none⟩) zs.length cap, .func (.func 75) #[] #[.pointer (some ⟨F1, 0, none⟩), .pointer (some ⟨F2, 0, none⟩)]] W0 (SeI cf w g tl [] zs []) := by
  have c1 := stabint_ok cf hcf P w g tl F1 F2 cap zs hcmp hP hinc h0 hn W0 hS
  clear hcmp hP h0 hn hS
  go_enter Try.func76, Try.ntmps76
  go_wp2_with fail
  with_reducible refine c1.mono ?_
  rintro e w1 ⟨rfl, hE⟩
  have HE := Lib.hid hE
  clear hE
  go_wp2
  go_end0
  exact ⟨rfl, HE.out⟩
set_option maxRecDepth 100000 in
set_option maxHeartbeats 400000 in
theorem ssint_nil (ad : Option Addr) (cap : Nat) (fv : Value) (w : World) : Calls Try.prog 76 #[.slice ad 0 cap, fv] w fun e w' => e = .returned (.tuple #[]) ∧ w' = w := by
  have c1 := stabint_nil ad cap fv w
  go_enter Try.func76, Try.ntmps76
  go_wp2_with fail
  with_reducible refine c1.mono ?_
  rintro e w1 ⟨rfl, rfl⟩
  go_wp2
  go_end0
  exact ⟨rfl, by trivial⟩
end Go.Proofs.Ytnmlephjhcmbhaa
