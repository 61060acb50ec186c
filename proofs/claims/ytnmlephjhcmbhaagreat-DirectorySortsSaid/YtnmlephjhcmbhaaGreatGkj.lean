/- slices.symMergeCmpFunc of records: walked. -/
import Derived.Test.YtnmlephjhcmbhaaGreatGki
namespace Go.Proofs.YtnmlephjhcmbhaaGreat
set_option linter.unusedSimpArgs false
set_option linter.unusedVariables false
open Go Go.RowKit
/-- All that stands before the search. -/
structure SymG (cf : Rec → Rec → Int) (P : Rec → Prop) (w : World) (g : Nat) (tl : List Value) (Fb : Nat) (A L R C : List TR) (a m b mid nn pp N : Nat) : Prop where
  ha : a = A.length
  hm : m = a + L.length
  hb : b = m + R.length
  hmid : mid = a + (L.length + R.length) / 2
  hnn : nn = mid + m
  hpp : pp = nn - 1
  hp : 1 < L.length
  hq : 1 < R.length
  hN : N = (A ++ L ++ R ++ C).length
  hL : L.Pairwise (ltT cf)
  hR : R.Pairwise (ltT cf)
  hx : ∀ x ∈ L, ∀ y ∈ R, x.2 < y.2
  hP : ∀ x ∈ L ++ R, P x.1
  hF : CmpOk cf
  hC : CmpC cf P w g tl Fb
section
variable {cf : Rec → Rec → Int} {P : Rec → Prop} {w : World} {g : Nat} {tl : List Value} {Fb : Nat} {A L R C : List TR} {a m b mid nn pp N : Nat}
/-- The state of the search. -/
structure SymL (cf : Rec → Rec → Int) (w : World) (g : Nat) (tl : List Value) (A L R C : List TR) (a ki kj : Nat) (W : World) : Prop where
  h1 : a + symS L.length R.length ≤ ki
  h2 : ki ≤ kj
  h3 : kj ≤ a + symR L.length R.length
  lo : CutLo (ltT cf) L R ((L.length + R.length) / 2) (symS L.length R.length) (ki - a)
  hi : CutHi (ltT cf) L R ((L.length + R.length) / 2) (kj - a) (symR L.length R.length)
  hS : ST w g tl (A ++ L ++ R ++ C) W
theorem SymG.nums (h : SymG cf P w g tl Fb A L R C a m b mid nn pp N) : ((m : Int) - (a : Int) == 1) = false ∧ ((b : Int) - (m : Int) == 1) = false ∧ ((a : Int) + (b : Int)) / 2 = ((mid : Nat) : Int) ∧ (mid : Int) + (m : Int) = ((nn : Nat) : Int) ∧ (nn : Int) - 1 = ((pp : Nat) : Int) ∧ b ≤ N ∧ a < m ∧ m < b ∧ mid < b := by
  have h1 := h.hm; have h2 := h.hb; have h3 := h.hmid; have h4 := h.hnn; have h5 := h.hpp; have h6 := h.hp; have h7 := h.hq; have h8 := h.hN; have h9 := h.ha
  have hbN : b ≤ N := by rw [h8, h2, h1, h9]; simp; omega
  clear h8
  refine ⟨by simp; omega, by simp; omega, by omega, by omega, by omega, hbN, by omega, by omega, by omega⟩
theorem SymG.start1 (h : SymG cf P w g tl Fb A L R C a m b mid nn pp N) (hc : mid < m) {W : World} (hS : ST w g tl (A ++ L ++ R ++ C) W) : ∃ s0 : Nat, (nn : Int) - (b : Int) = (s0 : Int) ∧ SymL cf w g tl A L R C a s0 mid W := by
  have h1 := h.hm; have h2 := h.hb; have h3 := h.hmid; have h4 := h.hnn; have h6 := h.hp; have h7 := h.hq
  have e1 : symS L.length R.length = (L.length + R.length) / 2 - R.length := by rw [symS, if_pos (by omega)]
  have e2 : symR L.length R.length = (L.length + R.length) / 2 := by rw [symR, if_pos (by omega)]
  refine ⟨a + symS L.length R.length, by omega, Nat.le_refl _, by omega, by omega, ?_, ?_, hS⟩
  · rw [Nat.add_sub_cancel_left]; exact cutLo_start _ _ _ _
  · rw [show mid - a = symR L.length R.length by omega]; exact cutHi_start _ _ _ _
theorem SymG.start2 (h : SymG cf P w g tl Fb A L R C a m b mid nn pp N) (hc : ¬ mid < m) {W : World} (hS : ST w g tl (A ++ L ++ R ++ C) W) : SymL cf w g tl A L R C a a m W := by
  have h1 := h.hm; have h2 := h.hb; have h3 := h.hmid; have h4 := h.hnn; have h6 := h.hp; have h7 := h.hq
  have e1 : symS L.length R.length = 0 := by rw [symS, if_neg (by omega)]
  have e2 : symR L.length R.length = L.length := by rw [symR, if_neg (by omega)]
  refine ⟨by omega, by omega, by omega, ?_, ?_, hS⟩
  · rw [Nat.sub_self, e1]; exact cutLo_start _ _ _ _
  · rw [show m - a = symR L.length R.length by omega]; exact cutHi_start _ _ _ _
/-- One round of the search. -/
structure SymQ (cf : Rec → Rec → Int) (w : World) (g : Nat) (tl : List Value) (A L R C : List TR) (a N ki kj c d : Nat) (x y : TR) (v : Int) : Prop where
  c1 : ki ≤ c
  c2 : c < kj
  cx : ∀ W, ST w g tl (A ++ L ++ R ++ C) W → CellsR W g ((c) * 8) x.1
  cy : ∀ W, ST w g tl (A ++ L ++ R ++ C) W → CellsR W g ((d) * 8) y.1
  up : v < 0 → ∀ W, ST w g tl (A ++ L ++ R ++ C) W → SymL cf w g tl A L R C a ki c W
  down : ¬ v < 0 → ∀ W, ST w g tl (A ++ L ++ R ++ C) W → SymL cf w g tl A L R C a (c + 1) kj W
theorem SymG.round (h : SymG cf P w g tl Fb A L R C a m b mid nn pp N) {ki kj : Nat} {W : World} (hl : SymL cf w g tl A L R C a ki kj W) (hlt : ki < kj) :
    ∃ c d x y v, ((ki : Int) + (kj : Int)) / 2 = ((c : Nat) : Int) ∧ (pp : Int) - (c : Int) = ((d : Nat) : Int) ∧ (c : Int) < (N : Int) ∧ (d : Int) < (N : Int) ∧ SymQ cf w g tl A L R C a N ki kj c d x y v ∧
      ∀ W d, ST w g tl d W → Calls Tryz.prog 46 #[.agg (recA y.1), .agg (recA x.1), .pointer (some ⟨Fb, 0, none⟩)] W fun e w' => e = .returned (cN v) ∧ Below W.heap.size W w' := by
  obtain ⟨-, -, -, -, -, hbN, -, -, -⟩ := h.nums
  have h1 := h.hm; have h2 := h.hb; have h3 := h.hmid; have h4 := h.hnn; have h5 := h.hpp; have h6 := h.hp; have h7 := h.hq; have h9 := h.ha
  have k1 := hl.h1; have k2 := hl.h2; have k3 := hl.h3
  obtain ⟨b1, b2, b3, b4⟩ := sym_bounds L.length R.length
  obtain ⟨H, hH⟩ : ∃ H, H = (L.length + R.length) / 2 := ⟨_, rfl⟩
  rw [← hH] at h3 b3 b4
  have hlo := hl.lo; have hhi := hl.hi
  rw [← hH] at hlo hhi
  obtain ⟨c, hc⟩ : ∃ c, c = (ki + kj) / 2 := ⟨_, rfl⟩
  have hc1 : ki ≤ c := by omega
  have hc2 : c < kj := by omega
  have e1 : ((ki : Int) + (kj : Int)) / 2 = ((c : Nat) : Int) := by omega
  clear hc
  have hcH : c - a < H := by omega
  have hcL : c - a < L.length := by omega
  have hdR : H - 1 - (c - a) < R.length := by omega
  have hac : a ≤ c := by omega
  obtain ⟨d, hd⟩ : ∃ d, d = m + (H - 1 - (c - a)) := ⟨_, rfl⟩
  have hdp : d = pp - c := by omega
  have hcp : c ≤ pp := by omega
  have hxc : L[c - a]? = some (L[c - a]'hcL) := List.getElem?_eq_getElem _
  have hyc : R[H - 1 - (c - a)]? = some (R[H - 1 - (c - a)]'hdR) := List.getElem?_eq_getElem _
  generalize (L[c - a]'hcL) = x at hxc
  generalize (R[H - 1 - (c - a)]'hdR) = y at hyc
  have hxL : x ∈ L := List.mem_of_getElem? hxc
  have hyR : y ∈ R := List.mem_of_getElem? hyc
  have hord := ltX_of h.hF (h.hx x hxL y hyR)
  refine ⟨c, d, x, y, cf y.1 x.1, e1, by omega, by omega, by omega, ⟨hc1, hc2, fun W hW => hW.cellR c x ?_, fun W hW => hW.cellR d y ?_, fun hv W hW => ⟨k1, hc1, by omega, hl.lo, ?_, hW⟩, fun hv W hW => ⟨by omega, by omega, k3, ?_, hl.hi, hW⟩⟩, fun W d hW => h.hC W _ y.1 x.1 hW (h.hP y (List.mem_append_right _ hyR)) (h.hP x (List.mem_append_left _ hxL))⟩
  · rw [List.append_assoc, List.append_assoc, List.getElem?_append_right (by omega), List.getElem?_append_left (by omega), ← h9]
    exact hxc
  · rw [List.append_assoc (A ++ L), List.getElem?_append_right (by rw [List.length_append]; omega), List.getElem?_append_left (by rw [List.length_append]; omega), ← hyc]
    congr 1
    rw [List.length_append]
    omega
  · rw [← hH]
    exact cutHi_step (ltX_trans h.hF) h.hL h.hR hcH (by omega) hxc hyc (hord.1 hv)
  · rw [← hH]
    have := cutLo_step (s0 := symS L.length R.length) (ltX_trans h.hF) h.hL h.hR hcH hxc hyc (hord.2 hv)
    rwa [show c - a + 1 = c + 1 - a by omega] at this
theorem SymG.stop (h : SymG cf P w g tl Fb A L R C a m b mid nn pp N) {ki : Nat} {W : World} (hl : SymL cf w g tl A L R C a ki ki W) :
    ∃ en s t, (nn : Int) - (ki : Int) = ((en : Nat) : Int) ∧ SymC cf P w g tl A L R C a m b mid N ki en W s t := by
  have h1 := h.hm; have h2 := h.hb; have h3 := h.hmid; have h4 := h.hnn; have h5 := h.hpp; have h6 := h.hp; have h7 := h.hq; have h9 := h.ha
  have k1 := hl.h1; have k3 := hl.h3
  obtain ⟨b1, b2, b3, b4⟩ := sym_bounds L.length R.length
  have hcut := sym_cut (ltX_trans h.hF) h.hL h.hR (s := ki - a) (by omega) (by omega) hl.lo hl.hi
  obtain ⟨t, ht⟩ : ∃ t, t = (L.length + R.length) / 2 - (ki - a) := ⟨_, rfl⟩
  rw [← ht] at hcut
  exact ⟨m + t, ki - a, t, by omega, ⟨h9, h1, h2, by omega, by omega, rfl, by omega, by omega, by omega, by omega, h6, h7, h.hN, h.hL, h.hR, h.hx, h.hP, hcut, hl.hS⟩⟩
end
section
variable {cf : Rec → Rec → Int} {P : Rec → Prop} {w : World} {g : Nat} {tl : List Value} {A L R C : List TR} {a m b mid N ki en : Nat} {W : World} {s t : Nat}
theorem SymC.n1 (h : SymC cf P w g tl A L R C a m b mid N ki en W s t) : ((ki : Int) < (m : Int) ↔ s < L.length) ∧ ((m : Int) < (en : Int) ↔ 0 < t) ∧ ((a : Int) < (ki : Int) ↔ 0 < s) ∧ ((ki : Int) < (mid : Int) ↔ 0 < t) ∧ ((mid : Int) < (en : Int) ↔ s < L.length) ∧ ((en : Int) < (b : Int) ↔ t < R.length) := by
  have h1 := h.hm; have h2 := h.hb; have h3 := h.hmid; have h4 := h.hki; have h5 := h.hen
  refine ⟨?_, ?_, ?_, ?_, ?_, ?_⟩ <;> constructor <;> intro k <;> omega
/-- The seven ways. -/
theorem SymC.ways (h : SymC cf P w g tl A L R C a m b mid N ki en W s t) :
    (s = 0 ∧ 0 < t ∧ s < L.length ∧ t = R.length) ∨ (s = 0 ∧ 0 < t ∧ s < L.length ∧ t < R.length) ∨ (0 < s ∧ t = 0 ∧ s = L.length ∧ t < R.length) ∨ (0 < s ∧ t = 0 ∧ s < L.length ∧ t < R.length) ∨
    (0 < s ∧ 0 < t ∧ s = L.length ∧ t < R.length) ∨ (0 < s ∧ 0 < t ∧ s < L.length ∧ t = R.length) ∨ (0 < s ∧ 0 < t ∧ s < L.length ∧ t < R.length) := by
  have h1 := h.hs; have h2 := h.ht; have h3 := h.h2; have h4 := h.h2'; have h5 := h.hp; have h6 := h.hq
  omega
end
set_option maxRecDepth 100000 in
set_option maxHeartbeats 8000000 in
theorem sym_main (cf : Rec → Rec → Int) (P : Rec → Prop) (w : World) (g : Nat) (tl : List Value) (Fb cap : Nat) (N : Nat) (hN2 : N ≤ 2000) (k : Nat) (ih : SymH cf P w g tl Fb cap N k) (A L R C : List TR) (a m b mid nn pp : Nat) (W0 : World)
    (hk : L.length + R.length ≤ k + 1) (hG : SymG cf P w g tl Fb A L R C a m b mid nn pp N) (hS : ST w g tl (A ++ L ++ R ++ C) W0) :
    Calls Tryz.prog 92 #[.slice (some ⟨g, 0, none⟩) N cap, cN a, cN m, cN b, .func (.func 46) #[] #[.pointer (some ⟨Fb, 0, none⟩)]] W0 (SeT cf w g tl A (L ++ R) C) := by
  obtain ⟨g0, g1, e1, e2, e3, hbN, hab, hmb, hmid⟩ := hG.nums
  have HG := Lib.hid hG
  have HIH := Lib.hid ih
  by_cases hc : mid < m
  · have g2 : (mid : Int) < (m : Int) := by omega
    obtain ⟨s0, e4, hst⟩ := hG.start1 hc hS
    have HSTART := Lib.hid hst
    clear hG ih hS hc hst
    go_enter Tryz.func92, Tryz.ntmps92
    go_wp2
    go_loopw [20, 21, 23] (fun i j _ wr => ∃ ki kj : Nat, i = cN ki ∧ j = cN kj ∧ SymL cf w g tl A L R C a ki kj wr) (fun i j _ _ => (intOf j).toNat - (intOf i).toNat)
    case atStart => exact ⟨_, _, rfl, rfl, HSTART.out⟩
    case round =>
      obtain ⟨ki, kj, rfl, rfl, hl⟩ := hrel
      have HLL := Lib.hid hl
      have hij := hl.h2
      clear hl
      by_cases hlt : ki < kj
      · have g2 : (ki : Int) < (kj : Int) := by omega
        obtain ⟨c, d, x, y, v, e4, e5, hcN, hdN, hQ, c0⟩ := HG.out.round HLL.out hlt
        have hwp : IntKind.i64.wrap (d : Int) = (d : Int) := by rw [IntKind.wrap_i64]; omega
        have hc1 := hQ.c1
        have hc2 := hQ.c2
        have c1 := c0 wr.drew _ HLL.out.hS.drew
        obtain ⟨q0, q1, q2, q3, q4, q5, q6, q7⟩ := hQ.cx _ HLL.out.hS
        obtain ⟨r0, r1, r2, r3, r4, r5, r6, r7⟩ := hQ.cy _ HLL.out.hS
        have HQ := Lib.hid hQ
        clear hQ c0 hlt hij
        by_cases hneg : v < 0
        · have HV := Lib.hid hneg
          go_wp2
          refine region_sch (fun w' => w' = wr.drew) [(true, 0), (true, 1), (true, 2), (true, 3), (true, 4), (true, 5), (true, 6), (true, 7), (true, 8), (true, 9), (true, 10)] [11, 12, 13] (by kernel_rfl) (by kernel_rfl) (by rintro ⟨_, _, h⟩; cases h.1) (fun _ _ d _ _ h => by cases d <;> exact h) rfl ?_
          simp only [pickM, pickT, List.filterMap_cons, List.filterMap_nil, List.getElem?_cons_zero, List.getElem?_cons_succ, Option.map_some]
          repeat (first | (refine m_float ⟨?_, .inl ⟨?_, .inl ?_⟩, fun K' hK => ?_⟩; rotate_left; (first | rfl | (go_simp; done)); (intro w' hS; subst hS; go_simp; try rfl); (simp only [Act.put, List.setIfInBounds_toArray, List.set_cons_succ, List.set_cons_zero]; refine hK _ ?_; clear hK K')) | (refine m_float ⟨undef, .inr ⟨?_, rfl⟩, fun K' hK => ?_⟩; (first | rfl | (go_simp; done)); (simp only [Act.put, List.setIfInBounds_toArray, List.set_cons_succ, List.set_cons_zero]; refine hK _ ?_; clear hK K')))
          refine m_nil ?_
          show wpList Tryz.prog _ _ (List.cons _ _) _ _
          go_wp2_with fail
          with_reducible refine c1.mono ?_
          rintro e w1 ⟨rfl, hB1⟩
          have HS1 := Lib.hid (HLL.out.hS.drew.below hB1)
          clear hB1 q0 q1 q2 q3 q4 q5 q6 q7 r0 r1 r2 r3 r4 r5 r6 r7
          go_wp2
          go_roundw
          case rel => exact ⟨ki, c, rfl, rfl, HQ.out.up HV.out _ HS1.out⟩
          case measure => simp [intOf]; omega
        · have hneg2 : 0 ≤ v := by omega
          have g3 : decide (v < 0) = false := decide_eq_false hneg
          have HV := Lib.hid hneg
          go_wp2
          refine region_sch (fun w' => w' = wr.drew) [(true, 0), (true, 1), (true, 2), (true, 3), (true, 4), (true, 5), (true, 6), (true, 7), (true, 8), (true, 9), (true, 10)] [11, 12, 13] (by kernel_rfl) (by kernel_rfl) (by rintro ⟨_, _, h⟩; cases h.1) (fun _ _ d _ _ h => by cases d <;> exact h) rfl ?_
          simp only [pickM, pickT, List.filterMap_cons, List.filterMap_nil, List.getElem?_cons_zero, List.getElem?_cons_succ, Option.map_some]
          repeat (first | (refine m_float ⟨?_, .inl ⟨?_, .inl ?_⟩, fun K' hK => ?_⟩; rotate_left; (first | rfl | (go_simp; done)); (intro w' hS; subst hS; go_simp; try rfl); (simp only [Act.put, List.setIfInBounds_toArray, List.set_cons_succ, List.set_cons_zero]; refine hK _ ?_; clear hK K')) | (refine m_float ⟨undef, .inr ⟨?_, rfl⟩, fun K' hK => ?_⟩; (first | rfl | (go_simp; done)); (simp only [Act.put, List.setIfInBounds_toArray, List.set_cons_succ, List.set_cons_zero]; refine hK _ ?_; clear hK K')))
          refine m_nil ?_
          show wpList Tryz.prog _ _ (List.cons _ _) _ _
          go_wp2_with fail
          with_reducible refine c1.mono ?_
          rintro e w1 ⟨rfl, hB1⟩
          have HS1 := Lib.hid (HLL.out.hS.drew.below hB1)
          clear hB1 q0 q1 q2 q3 q4 q5 q6 q7 r0 r1 r2 r3 r4 r5 r6 r7
          go_wp2
          go_roundw
          case rel => exact ⟨c + 1, kj, by go_num, rfl, HQ.out.down (by have := HV.out; omega) _ HS1.out⟩
          case measure => simp [intOf]; omega
      · obtain rfl : ki = kj := by omega
        obtain ⟨en, s, t, e4, hsc⟩ := HG.out.stop HLL.out
        have g2 : ¬ (ki : Int) < (ki : Int) := by omega
        have HSC := Lib.hid hsc
        clear hlt hij
        have hn := hsc.n1
        rcases hsc.ways with z | z | z | z | z | z | z
        · obtain ⟨z1, z2, z3, z4⟩ := z
          have k1 := hn.1.2 z3
          have k2 := hn.2.1.2 z2
          have k3 : ¬ (a : Int) < (ki : Int) := fun h => by have := hn.2.2.1.1 h; omega
          have k5 := hn.2.2.2.2.1.2 z3
          have k6 : ¬ (en : Int) < (b : Int) := fun h => by have := hn.2.2.2.2.2.1 h; omega
          clear hsc hn
          have cR := HSC.out.rot (cap := cap) hN2 (by omega) (by omega) (.func (.func 46) #[] #[.pointer (some ⟨Fb, 0, none⟩)])
          go_wp2_with fail
          with_reducible refine cR.mono ?_
          rintro e w1 ⟨rfl, hE⟩
          have HSR := Lib.hid hE
          clear hE cR
          have HM1 := Lib.hid (HSC.out.skip1 (by omega) HSR.out)
          have HE := Lib.hid (HSC.out.skip2 (by omega) HM1.out)
          go_wp2
          all_goals (go_end0; exact HE.out)
        · obtain ⟨z1, z2, z3, z4⟩ := z
          have k1 := hn.1.2 z3
          have k2 := hn.2.1.2 z2
          have k3 : ¬ (a : Int) < (ki : Int) := fun h => by have := hn.2.2.1.1 h; omega
          have k5 := hn.2.2.2.2.1.2 z3
          have k6 := hn.2.2.2.2.2.2 z4
          clear hsc hn
          have cR := HSC.out.rot (cap := cap) hN2 (by omega) (by omega) (.func (.func 46) #[] #[.pointer (some ⟨Fb, 0, none⟩)])
          go_wp2_with fail
          with_reducible refine cR.mono ?_
          rintro e w1 ⟨rfl, hE⟩
          have HSR := Lib.hid hE
          clear hE cR
          have HM1 := Lib.hid (HSC.out.skip1 (by omega) HSR.out)
          have c2 := HSC.out.call2 HIH.out hk (by omega) (by omega) HM1.out
          go_wp2_with fail
          all_goals (with_reducible refine c2.mono ?_)
          all_goals (rintro e w3 ⟨rfl, hE⟩; have HE := Lib.hid hE; clear hE c2; go_wp2; go_end0; exact ⟨rfl, HE.out⟩)
        · obtain ⟨z1, z2, z3, z4⟩ := z
          have k1 : ¬ (ki : Int) < (m : Int) := fun h => by have := hn.1.1 h; omega
          have k3 := hn.2.2.1.2 z1
          have k4 : ¬ (ki : Int) < (mid : Int) := fun h => by have := hn.2.2.2.1.1 h; omega
          have k5 : ¬ (mid : Int) < (en : Int) := fun h => by have := hn.2.2.2.2.1.1 h; omega
          clear hsc hn
          have HSR := Lib.hid (HSC.out.still (by omega))
          have HM1 := Lib.hid (HSC.out.skip1 (by omega) HSR.out)
          have HE := Lib.hid (HSC.out.skip2 (by omega) HM1.out)
          go_wp2
          all_goals (go_end0; exact HE.out)
        · obtain ⟨z1, z2, z3, z4⟩ := z
          have k1 := hn.1.2 z3
          have k2 : ¬ (m : Int) < (en : Int) := fun h => by have := hn.2.1.1 h; omega
          have k3 := hn.2.2.1.2 z1
          have k4 : ¬ (ki : Int) < (mid : Int) := fun h => by have := hn.2.2.2.1.1 h; omega
          have k5 := hn.2.2.2.2.1.2 z3
          have k6 := hn.2.2.2.2.2.2 z4
          clear hsc hn
          have HSR := Lib.hid (HSC.out.still (by omega))
          have HM1 := Lib.hid (HSC.out.skip1 (by omega) HSR.out)
          have c2 := HSC.out.call2 HIH.out hk (by omega) (by omega) HM1.out
          go_wp2_with fail
          all_goals (with_reducible refine c2.mono ?_)
          all_goals (rintro e w3 ⟨rfl, hE⟩; have HE := Lib.hid hE; clear hE c2; go_wp2; go_end0; exact ⟨rfl, HE.out⟩)
        · obtain ⟨z1, z2, z3, z4⟩ := z
          have k1 : ¬ (ki : Int) < (m : Int) := fun h => by have := hn.1.1 h; omega
          have k3 := hn.2.2.1.2 z1
          have k4 := hn.2.2.2.1.2 z2
          have k5 : ¬ (mid : Int) < (en : Int) := fun h => by have := hn.2.2.2.2.1.1 h; omega
          clear hsc hn
          have HSR := Lib.hid (HSC.out.still (by omega))
          have c1 := fun W (h : SymR w g tl A L R C s t W) => HSC.out.call1 HIH.out hk (by omega) (by omega) h
          go_wp2_with fail
          with_reducible refine (c1 _ HSR.out).mono ?_
          rintro e w2 ⟨rfl, hE⟩
          have HM1 := Lib.hid hE
          clear hE c1
          have HE := Lib.hid (HSC.out.skip2 (by omega) HM1.out)
          go_wp2
          all_goals (go_end0; exact HE.out)
        · obtain ⟨z1, z2, z3, z4⟩ := z
          have k1 := hn.1.2 z3
          have k2 := hn.2.1.2 z2
          have k3 := hn.2.2.1.2 z1
          have k4 := hn.2.2.2.1.2 z2
          have k5 := hn.2.2.2.2.1.2 z3
          have k6 : ¬ (en : Int) < (b : Int) := fun h => by have := hn.2.2.2.2.2.1 h; omega
          clear hsc hn
          have cR := HSC.out.rot (cap := cap) hN2 (by omega) (by omega) (.func (.func 46) #[] #[.pointer (some ⟨Fb, 0, none⟩)])
          go_wp2_with fail
          with_reducible refine cR.mono ?_
          rintro e w1 ⟨rfl, hE⟩
          have HSR := Lib.hid hE
          clear hE cR
          have c1 := fun W (h : SymR w g tl A L R C s t W) => HSC.out.call1 HIH.out hk (by omega) (by omega) h
          go_wp2_with fail
          with_reducible refine (c1 _ HSR.out).mono ?_
          rintro e w2 ⟨rfl, hE⟩
          have HM1 := Lib.hid hE
          clear hE c1
          have HE := Lib.hid (HSC.out.skip2 (by omega) HM1.out)
          go_wp2
          all_goals (go_end0; exact HE.out)
        · obtain ⟨z1, z2, z3, z4⟩ := z
          have k1 := hn.1.2 z3
          have k2 := hn.2.1.2 z2
          have k3 := hn.2.2.1.2 z1
          have k4 := hn.2.2.2.1.2 z2
          have k5 := hn.2.2.2.2.1.2 z3
          have k6 := hn.2.2.2.2.2.2 z4
          clear hsc hn
          have cR := HSC.out.rot (cap := cap) hN2 (by omega) (by omega) (.func (.func 46) #[] #[.pointer (some ⟨Fb, 0, none⟩)])
          go_wp2_with fail
          with_reducible refine cR.mono ?_
          rintro e w1 ⟨rfl, hE⟩
          have HSR := Lib.hid hE
          clear hE cR
          have c1 := fun W (h : SymR w g tl A L R C s t W) => HSC.out.call1 HIH.out hk (by omega) (by omega) h
          go_wp2_with fail
          with_reducible refine (c1 _ HSR.out).mono ?_
          rintro e w2 ⟨rfl, hE⟩
          have HM1 := Lib.hid hE
          clear hE c1
          have c2 := HSC.out.call2 HIH.out hk (by omega) (by omega) HM1.out
          go_wp2_with fail
          all_goals (with_reducible refine c2.mono ?_)
          all_goals (rintro e w3 ⟨rfl, hE⟩; have HE := Lib.hid hE; clear hE c2; go_wp2; go_end0; exact ⟨rfl, HE.out⟩)
  · have g2 : ¬ (mid : Int) < (m : Int) := by omega
    have hst := hG.start2 hc hS
    have HSTART := Lib.hid hst
    clear hG ih hS hc hst
    go_enter Tryz.func92, Tryz.ntmps92
    go_wp2
    go_loopw [20, 21, 23] (fun i j _ wr => ∃ ki kj : Nat, i = cN ki ∧ j = cN kj ∧ SymL cf w g tl A L R C a ki kj wr) (fun i j _ _ => (intOf j).toNat - (intOf i).toNat)
    case atStart => exact ⟨_, _, rfl, rfl, HSTART.out⟩
    case round =>
      obtain ⟨ki, kj, rfl, rfl, hl⟩ := hrel
      have HLL := Lib.hid hl
      have hij := hl.h2
      clear hl
      by_cases hlt : ki < kj
      · have g2 : (ki : Int) < (kj : Int) := by omega
        obtain ⟨c, d, x, y, v, e4, e5, hcN, hdN, hQ, c0⟩ := HG.out.round HLL.out hlt
        have hwp : IntKind.i64.wrap (d : Int) = (d : Int) := by rw [IntKind.wrap_i64]; omega
        have hc1 := hQ.c1
        have hc2 := hQ.c2
        have c1 := c0 wr.drew _ HLL.out.hS.drew
        obtain ⟨q0, q1, q2, q3, q4, q5, q6, q7⟩ := hQ.cx _ HLL.out.hS
        obtain ⟨r0, r1, r2, r3, r4, r5, r6, r7⟩ := hQ.cy _ HLL.out.hS
        have HQ := Lib.hid hQ
        clear hQ c0 hlt hij
        by_cases hneg : v < 0
        · have HV := Lib.hid hneg
          go_wp2
          refine region_sch (fun w' => w' = wr.drew) [(true, 0), (true, 1), (true, 2), (true, 3), (true, 4), (true, 5), (true, 6), (true, 7), (true, 8), (true, 9), (true, 10)] [11, 12, 13] (by kernel_rfl) (by kernel_rfl) (by rintro ⟨_, _, h⟩; cases h.1) (fun _ _ d _ _ h => by cases d <;> exact h) rfl ?_
          simp only [pickM, pickT, List.filterMap_cons, List.filterMap_nil, List.getElem?_cons_zero, List.getElem?_cons_succ, Option.map_some]
          repeat (first | (refine m_float ⟨?_, .inl ⟨?_, .inl ?_⟩, fun K' hK => ?_⟩; rotate_left; (first | rfl | (go_simp; done)); (intro w' hS; subst hS; go_simp; try rfl); (simp only [Act.put, List.setIfInBounds_toArray, List.set_cons_succ, List.set_cons_zero]; refine hK _ ?_; clear hK K')) | (refine m_float ⟨undef, .inr ⟨?_, rfl⟩, fun K' hK => ?_⟩; (first | rfl | (go_simp; done)); (simp only [Act.put, List.setIfInBounds_toArray, List.set_cons_succ, List.set_cons_zero]; refine hK _ ?_; clear hK K')))
          refine m_nil ?_
          show wpList Tryz.prog _ _ (List.cons _ _) _ _
          go_wp2_with fail
          with_reducible refine c1.mono ?_
          rintro e w1 ⟨rfl, hB1⟩
          have HS1 := Lib.hid (HLL.out.hS.drew.below hB1)
          clear hB1 q0 q1 q2 q3 q4 q5 q6 q7 r0 r1 r2 r3 r4 r5 r6 r7
          go_wp2
          go_roundw
          case rel => exact ⟨ki, c, rfl, rfl, HQ.out.up HV.out _ HS1.out⟩
          case measure => simp [intOf]; omega
        · have hneg2 : 0 ≤ v := by omega
          have g3 : decide (v < 0) = false := decide_eq_false hneg
          have HV := Lib.hid hneg
          go_wp2
          refine region_sch (fun w' => w' = wr.drew) [(true, 0), (true, 1), (true, 2), (true, 3), (true, 4), (true, 5), (true, 6), (true, 7), (true, 8), (true, 9), (true, 10)] [11, 12, 13] (by kernel_rfl) (by kernel_rfl) (by rintro ⟨_, _, h⟩; cases h.1) (fun _ _ d _ _ h => by cases d <;> exact h) rfl ?_
          simp only [pickM, pickT, List.filterMap_cons, List.filterMap_nil, List.getElem?_cons_zero, List.getElem?_cons_succ, Option.map_some]
          repeat (first | (refine m_float ⟨?_, .inl ⟨?_, .inl ?_⟩, fun K' hK => ?_⟩; rotate_left; (first | rfl | (go_simp; done)); (intro w' hS; subst hS; go_simp; try rfl); (simp only [Act.put, List.setIfInBounds_toArray, List.set_cons_succ, List.set_cons_zero]; refine hK _ ?_; clear hK K')) | (refine m_float ⟨undef, .inr ⟨?_, rfl⟩, fun K' hK => ?_⟩; (first | rfl | (go_simp; done)); (simp only [Act.put, List.setIfInBounds_toArray, List.set_cons_succ, List.set_cons_zero]; refine hK _ ?_; clear hK K')))
          refine m_nil ?_
          show wpList Tryz.prog _ _ (List.cons _ _) _ _
          go_wp2_with fail
          with_reducible refine c1.mono ?_
          rintro e w1 ⟨rfl, hB1⟩
          have HS1 := Lib.hid (HLL.out.hS.drew.below hB1)
          clear hB1 q0 q1 q2 q3 q4 q5 q6 q7 r0 r1 r2 r3 r4 r5 r6 r7
          go_wp2
          go_roundw
          case rel => exact ⟨c + 1, kj, by go_num, rfl, HQ.out.down (by have := HV.out; omega) _ HS1.out⟩
          case measure => simp [intOf]; omega
      · obtain rfl : ki = kj := by omega
        obtain ⟨en, s, t, e4, hsc⟩ := HG.out.stop HLL.out
        have g2 : ¬ (ki : Int) < (ki : Int) := by omega
        have HSC := Lib.hid hsc
        clear hlt hij
        have hn := hsc.n1
        rcases hsc.ways with z | z | z | z | z | z | z
        · obtain ⟨z1, z2, z3, z4⟩ := z
          have k1 := hn.1.2 z3
          have k2 := hn.2.1.2 z2
          have k3 : ¬ (a : Int) < (ki : Int) := fun h => by have := hn.2.2.1.1 h; omega
          have k5 := hn.2.2.2.2.1.2 z3
          have k6 : ¬ (en : Int) < (b : Int) := fun h => by have := hn.2.2.2.2.2.1 h; omega
          clear hsc hn
          have cR := HSC.out.rot (cap := cap) hN2 (by omega) (by omega) (.func (.func 46) #[] #[.pointer (some ⟨Fb, 0, none⟩)])
          go_wp2_with fail
          with_reducible refine cR.mono ?_
          rintro e w1 ⟨rfl, hE⟩
          have HSR := Lib.hid hE
          clear hE cR
          have HM1 := Lib.hid (HSC.out.skip1 (by omega) HSR.out)
          have HE := Lib.hid (HSC.out.skip2 (by omega) HM1.out)
          go_wp2
          all_goals (go_end0; exact HE.out)
        · obtain ⟨z1, z2, z3, z4⟩ := z
          have k1 := hn.1.2 z3
          have k2 := hn.2.1.2 z2
          have k3 : ¬ (a : Int) < (ki : Int) := fun h => by have := hn.2.2.1.1 h; omega
          have k5 := hn.2.2.2.2.1.2 z3
          have k6 := hn.2.2.2.2.2.2 z4
          clear hsc hn
          have cR := HSC.out.rot (cap := cap) hN2 (by omega) (by omega) (.func (.func 46) #[] #[.pointer (some ⟨Fb, 0, none⟩)])
          go_wp2_with fail
          with_reducible refine cR.mono ?_
          rintro e w1 ⟨rfl, hE⟩
          have HSR := Lib.hid hE
          clear hE cR
          have HM1 := Lib.hid (HSC.out.skip1 (by omega) HSR.out)
          have c2 := HSC.out.call2 HIH.out hk (by omega) (by omega) HM1.out
          go_wp2_with fail
          all_goals (with_reducible refine c2.mono ?_)
          all_goals (rintro e w3 ⟨rfl, hE⟩; have HE := Lib.hid hE; clear hE c2; go_wp2; go_end0; exact ⟨rfl, HE.out⟩)
        · obtain ⟨z1, z2, z3, z4⟩ := z
          have k1 : ¬ (ki : Int) < (m : Int) := fun h => by have := hn.1.1 h; omega
          have k3 := hn.2.2.1.2 z1
          have k4 : ¬ (ki : Int) < (mid : Int) := fun h => by have := hn.2.2.2.1.1 h; omega
          have k5 : ¬ (mid : Int) < (en : Int) := fun h => by have := hn.2.2.2.2.1.1 h; omega
          clear hsc hn
          have HSR := Lib.hid (HSC.out.still (by omega))
          have HM1 := Lib.hid (HSC.out.skip1 (by omega) HSR.out)
          have HE := Lib.hid (HSC.out.skip2 (by omega) HM1.out)
          go_wp2
          all_goals (go_end0; exact HE.out)
        · obtain ⟨z1, z2, z3, z4⟩ := z
          have k1 := hn.1.2 z3
          have k2 : ¬ (m : Int) < (en : Int) := fun h => by have := hn.2.1.1 h; omega
          have k3 := hn.2.2.1.2 z1
          have k4 : ¬ (ki : Int) < (mid : Int) := fun h => by have := hn.2.2.2.1.1 h; omega
          have k5 := hn.2.2.2.2.1.2 z3
          have k6 := hn.2.2.2.2.2.2 z4
          clear hsc hn
          have HSR := Lib.hid (HSC.out.still (by omega))
          have HM1 := Lib.hid (HSC.out.skip1 (by omega) HSR.out)
          have c2 := HSC.out.call2 HIH.out hk (by omega) (by omega) HM1.out
          go_wp2_with fail
          all_goals (with_reducible refine c2.mono ?_)
          all_goals (rintro e w3 ⟨rfl, hE⟩; have HE := Lib.hid hE; clear hE c2; go_wp2; go_end0; exact ⟨rfl, HE.out⟩)
        · obtain ⟨z1, z2, z3, z4⟩ := z
          have k1 : ¬ (ki : Int) < (m : Int) := fun h => by have := hn.1.1 h; omega
          have k3 := hn.2.2.1.2 z1
          have k4 := hn.2.2.2.1.2 z2
          have k5 : ¬ (mid : Int) < (en : Int) := fun h => by have := hn.2.2.2.2.1.1 h; omega
          clear hsc hn
          have HSR := Lib.hid (HSC.out.still (by omega))
          have c1 := fun W (h : SymR w g tl A L R C s t W) => HSC.out.call1 HIH.out hk (by omega) (by omega) h
          go_wp2_with fail
          with_reducible refine (c1 _ HSR.out).mono ?_
          rintro e w2 ⟨rfl, hE⟩
          have HM1 := Lib.hid hE
          clear hE c1
          have HE := Lib.hid (HSC.out.skip2 (by omega) HM1.out)
          go_wp2
          all_goals (go_end0; exact HE.out)
        · obtain ⟨z1, z2, z3, z4⟩ := z
          have k1 := hn.1.2 z3
          have k2 := hn.2.1.2 z2
          have k3 := hn.2.2.1.2 z1
          have k4 := hn.2.2.2.1.2 z2
          have k5 := hn.2.2.2.2.1.2 z3
          have k6 : ¬ (en : Int) < (b : Int) := fun h => by have := hn.2.2.2.2.2.1 h; omega
          clear hsc hn
          have cR := HSC.out.rot (cap := cap) hN2 (by omega) (by omega) (.func (.func 46) #[] #[.pointer (some ⟨Fb, 0, none⟩)])
          go_wp2_with fail
          with_reducible refine cR.mono ?_
          rintro e w1 ⟨rfl, hE⟩
          have HSR := Lib.hid hE
          clear hE cR
          have c1 := fun W (h : SymR w g tl A L R C s t W) => HSC.out.call1 HIH.out hk (by omega) (by omega) h
          go_wp2_with fail
          with_reducible refine (c1 _ HSR.out).mono ?_
          rintro e w2 ⟨rfl, hE⟩
          have HM1 := Lib.hid hE
          clear hE c1
          have HE := Lib.hid (HSC.out.skip2 (by omega) HM1.out)
          go_wp2
          all_goals (go_end0; exact HE.out)
        · obtain ⟨z1, z2, z3, z4⟩ := z
          have k1 := hn.1.2 z3
          have k2 := hn.2.1.2 z2
          have k3 := hn.2.2.1.2 z1
          have k4 := hn.2.2.2.1.2 z2
          have k5 := hn.2.2.2.2.1.2 z3
          have k6 := hn.2.2.2.2.2.2 z4
          clear hsc hn
          have cR := HSC.out.rot (cap := cap) hN2 (by omega) (by omega) (.func (.func 46) #[] #[.pointer (some ⟨Fb, 0, none⟩)])
          go_wp2_with fail
          with_reducible refine cR.mono ?_
          rintro e w1 ⟨rfl, hE⟩
          have HSR := Lib.hid hE
          clear hE cR
          have c1 := fun W (h : SymR w g tl A L R C s t W) => HSC.out.call1 HIH.out hk (by omega) (by omega) h
          go_wp2_with fail
          with_reducible refine (c1 _ HSR.out).mono ?_
          rintro e w2 ⟨rfl, hE⟩
          have HM1 := Lib.hid hE
          clear hE c1
          have c2 := HSC.out.call2 HIH.out hk (by omega) (by omega) HM1.out
          go_wp2_with fail
          all_goals (with_reducible refine c2.mono ?_)
          all_goals (rintro e w3 ⟨rfl, hE⟩; have HE := Lib.hid hE; clear hE c2; go_wp2; go_end0; exact ⟨rfl, HE.out⟩)
theorem symint_ok (cf : Rec → Rec → Int) (hcf : CmpOk cf) (P : Rec → Prop) (w : World) (g : Nat) (tl : List Value) (Fb cap : Nat) (hcmp : CmpC cf P w g tl Fb) (N : Nat) (hN2 : N ≤ 2000) : ∀ k, SymH cf P w g tl Fb cap N k
  | 0 => fun A L R C a m b W0 hk hL0 hR0 => by omega
  | k + 1 => fun A L R C a m b W0 hk hL0 hR0 ha hm hb hN hL hR hx hP hS => by
    have ih := symint_ok cf hcf P w g tl Fb cap hcmp N hN2 k
    by_cases hp1 : L.length = 1
    · obtain ⟨x, rfl⟩ := List.length_eq_one_iff.1 hp1
      exact sym_left cf hcf P w g tl Fb cap hcmp N hN2 A R C x a m b W0 ha hm hb hN hR (hx x (by simp)) (by simpa using hP) hS
    · by_cases hq1 : R.length = 1
      · obtain ⟨y, rfl⟩ := List.length_eq_one_iff.1 hq1
        refine sym_right cf hcf P w g tl Fb cap hcmp N hN2 A L C y a m b W0 (by omega) ha hm hb hN hL (fun x h => hx x h y (by simp)) (fun x h => hP x ?_) hS
        rcases List.mem_cons.1 h with rfl | h
        · simp
        · exact List.mem_append_left _ h
      · exact sym_main cf P w g tl Fb cap N hN2 k ih A L R C a m b _ _ _ W0 hk ⟨ha, hm, hb, rfl, rfl, rfl, by omega, by omega, hN, hL, hR, hx, hP, hcf, hcmp⟩ hS
end Go.Proofs.YtnmlephjhcmbhaaGreat
