/- Sparing tables: Replace. -/
import Derived.Test.YtocncjimepnlcaaGreatDoorSph
namespace Go.Proofs.YtocncjimepnlcaaGreatDoor
set_option linter.unusedSimpArgs false
set_option linter.unusedVariables false
open Go Go.RowKit
/-- A row of the call's own, from block B on. -/
def OL (B : Nat) (v : Value) (l : List Sp) (W : World) : Prop := ∃ a c, v = .slice a l.length c ∧ ∀ k, k < l.length → ∃ g, a = some ⟨g, 0, none⟩ ∧ B ≤ g ∧ Own W g c l
theorem SL.form {w : World} {v : Value} {l : List Sp} (h : SL w v l) : ∃ a c, v = .slice a l.length c := by
  rcases h with ⟨rfl, a, c, rfl⟩ | ⟨b, off, c, rfl, -⟩
  · exact ⟨a, c, rfl⟩
  · exact ⟨_, c, rfl⟩
theorem Own.sl {W : World} {g c : Nat} {l : List Sp} (h : Own W g c l) : SL W (.slice (some ⟨g, 0, none⟩) l.length c) l := by
  obtain ⟨cur, hg, hcs, hnc, htake⟩ := id h
  exact .inr ⟨g, 0, c, rfl, hnc, lt_of_block hg, h.row⟩
theorem Own.other {W : World} {g c r i : Nat} {u : Value} {l : List Sp} (h : Own W g c l) (hg : r ≠ g) : Own (W.setCell ⟨r, i, none⟩ u) g c l := by
  obtain ⟨cur, hk, rest⟩ := h
  exact ⟨cur, row_other i u hk (by first | exact hg | exact hg.symm), rest⟩
set_option maxRecDepth 100000 in
set_option maxHeartbeats 1000000 in
theorem delete_nil (f : Int) (F : Nat) (w : World) (hF : w.heap[F]? = some (.cells #[cN f] 3 (0, 0))) :
    Calls Tryz.prog 27 #[.slice none 0 0, .func (.func 29) #[] #[.pointer (some ⟨F, 0, none⟩)]] w fun e w' => e = .returned (.slice none 0 0) ∧ Below w.heap.size w w' := by
  have hix := index_row none 0 [] f F w (by simp) hF (fun k hk => absurd hk (Nat.not_lt_zero _))
  simp only [List.length_nil] at hix
  clear hF
  go_enter Tryz.func27, Tryz.ntmps27
  go_wp2_with (go_at_call 45; (with_reducible refine hix.mono ?_); rintro e w1 ⟨r, rfl, hr, hB1⟩; rcases hr with ⟨rfl, -⟩ | ⟨k, -, hk, -⟩; rotate_left; exact absurd hk (Nat.not_lt_zero _))
  go_ret
  exact ⟨rfl, hB1⟩
theorem delete_ok (A : Nat) (v : Value) (l : List Sp) (f : Int) (F : Nat) (w : World) (hl : l.length ≤ 1000) (hO : OW A v l w) (hF : w.heap[F]? = some (.cells #[cN f] 3 (0, 0))) (hA : A ≤ w.heap.size) :
    Calls Tryz.prog 27 #[v, .func (.func 29) #[] #[.pointer (some ⟨F, 0, none⟩)]] w fun e w' => ∃ v', e = .returned v' ∧ OL A v' (remF f l) w' ∧ Fr w w' ∧ Below A w w' := by
  rcases hO.2 with ⟨rfl, hn⟩ | ⟨g, cap, cur, rfl, hb, hg, hnc, hcm, hcs, htake⟩
  · obtain rfl := List.length_eq_zero_iff.1 hn
    refine (delete_nil f F w hF).mono fun e w' ⟨he, hB⟩ => ⟨_, he, ⟨none, 0, rfl, fun k hk => absurd hk (Nat.not_lt_zero _)⟩, Fr.below hB, hB.mono hA⟩
  · refine (delete_row g cap l f F A w hl ⟨cur, hg, hcs, hnc, htake⟩ hb hF hA).mono fun e w' ⟨he, h1, h2, h3⟩ => ⟨_, he, ⟨_, cap, rfl, fun k hk => ⟨g, rfl, hb, h1⟩⟩, h2, h3⟩
/-- What Replace gives at a valid table. -/
def RepPost (s block : Int) (l : List Sp) (w : World) (e : Ending) (w' : World) : Prop :=
  Below w.heap.size w w' ∧ ((e = .returned (.tuple #[.agg #[cN 0, .slice none 0 0], cN 0, cN 12]) ∧ ∀ i, i < (remF (block - block % 8) l).length → (at_ (remF (block - block % 8) l) i).1 ≠ UN) ∨
    (e = .returned (.tuple #[.agg #[cN 0, .slice none 0 0], cN 0, cN 7]) ∧ s = 4294967295 ∧ ∃ i, i < (remF (block - block % 8) l).length ∧ (at_ (remF (block - block % 8) l) i).1 = UN) ∨
    (∃ v u m, e = .returned (.tuple #[.agg #[cN (s + 1), v], cN m, cN 0]) ∧ SL w' v u ∧ Rep l (block - block % 8) m u ∧ s ≠ 4294967295))
theorem bestK_no {m : List Sp} {k : Nat} (h : (at_ m k).1 ≠ UN) : bestK m (k + 1) = bestK m k := by
  rw [bestK, if_neg fun hc => h hc.1]
theorem bestK_yes {m : List Sp} {k : Nat} (h : (at_ m k).1 = UN) (h2 : bestK m k = -1) : bestK m (k + 1) = k := by
  rw [bestK, if_pos ⟨h, .inl (by omega)⟩]
theorem bestK_new {m : List Sp} {k b : Nat} (h : (at_ m k).1 = UN) (h2 : bestK m k = b) (h3 : (at_ m k).2 < (at_ m b).2) : bestK m (k + 1) = k := by
  rw [bestK, if_pos ⟨h, .inr (by rw [h2]; exact h3)⟩]
theorem bestK_old {m : List Sp} {k b : Nat} (h2 : bestK m k = b) (h3 : ¬ (at_ m k).2 < (at_ m b).2) : bestK m (k + 1) = bestK m k := by
  rw [bestK, if_neg]
  rintro ⟨-, h | h⟩
  · omega
  · rw [h2] at h
    exact h3 h
set_option maxRecDepth 100000 in
set_option maxHeartbeats 4000000 in
theorem replace_walk (s block : Int) (v : Value) (l : List Sp) (w : World) (h : SL w v l) (hv : validB s l = true) (h0 : 0 ≤ block) (h1 : block ≤ 4294967279) :
    Calls Tryz.prog 11 #[.agg #[cN s, v], cN block] w (RepPost s block l w) := by
  have hV := (valid_iff s l).1 hv
  have hl8 := hV.len
  have hs0 := hV.s0
  have hs1 := hV.s1
  obtain ⟨a, c, rfl⟩ := h.form
  have c1 := fun (W : World) (k : Below w.heap.size w W) => valid_ok s _ l W (h.below k)
  rw [hv] at c1
  have c2 := fun (W : World) (k : Below w.heap.size w W) => clone_ok _ l W (h.below k) (by omega)
  clear hV hv
  obtain ⟨r, hr⟩ : ∃ r, Int.tmod block 8 = r := ⟨_, rfl⟩
  have hr2 : block % 8 = r := by rw [← hr, Int.tmod_eq_emod_of_nonneg h0]
  unfold RepPost
  rw [hr2]
  obtain ⟨f, hf⟩ : ∃ f, block - r = f := ⟨_, rfl⟩
  have hw : IntKind.i64.wrap (block - r) = f := by rw [IntKind.wrap_i64]; omega
  rw [hf]
  obtain ⟨m, hm⟩ : ∃ m, remF f l = m := ⟨_, rfl⟩
  have hm8 : m.length ≤ 8 := by rw [← hm]; exact Nat.le_trans (List.length_filter_le _ _) hl8
  have HM := Lib.hid hm
  have c3 := fun (W : World) (A : Nat) (v : Value) (F : Nat) (hO : OW A v l W) (hF : W.heap[F]? = some (.cells #[cN f] 3 (0, 0))) (hA : A ≤ W.heap.size) => delete_ok A v l f F W (by omega) hO hF hA
  rw [hm] at c3 ⊢
  have hh : Hid (SL w (.slice a l.length c) l) := Lib.hid h
  clear h hm hr2 hf
  go_enter Tryz.func11, Tryz.ntmps11
  go_wp2_with (go_at_call 10; (with_reducible refine (c1 _ (bal (bal (Below.refl _ w) _) _)).mono ?_); rintro e w1 ⟨rfl, hB1⟩; have E0 : ((w.alloc (.cells #[cN s, .slice a l.length c] 24)).alloc (.cells #[cN 0, .slice none 0 0] 24)).heap[w.heap.size]? = some (.cells #[cN s, .slice a l.length c] 24 (0, 0)) := (Lib.alloc_old _ _ _ (by simp)).trans (World.alloc_heap_new w _); have E1 : ((w.alloc (.cells #[cN s, .slice a l.length c] 24)).alloc (.cells #[cN 0, .slice none 0 0] 24)).heap[w.heap.size + 1]? = some (.cells #[cN 0, .slice none 0 0] 24 (0, 0)) := (by { have := World.alloc_heap_new (w.alloc (.cells #[cN s, .slice a l.length c] 24)) (.cells #[.int .i64 0, .slice none 0 0] 24); rwa [World.size_alloc] at this }); have HB1 := Lib.hid (bthen (bal (bal (Below.refl _ w) _) _) hB1); have F0 := (hB1.block _ (lt_of_block E0)).trans E0; have F1 := (hB1.block _ (lt_of_block E1)).trans E1; clear hB1 E0 E1 c1; have HF0 := Lib.hid F0; have HF1 := Lib.hid F1; have p1 := Lib.cell_of_heap ((Lib.alloc_old w1 (.cells #[cN f] 3) _ (lt_of_block F0)).trans F0) 1; clear F0 F1)
  generalize hW2 : w1.alloc (.cells #[cN f] 3) = W2
  have G0 : Hid (W2.heap[w.heap.size]? = some (.cells #[cN s, .slice a l.length c] 24 (0, 0))) := Lib.hid (by rw [← hW2]; exact (Lib.alloc_old _ _ _ (lt_of_block HF0.out)).trans HF0.out)
  have G1 : Hid (W2.heap[w.heap.size + 1]? = some (.cells #[cN 0, .slice none 0 0] 24 (0, 0))) := Lib.hid (by rw [← hW2]; exact (Lib.alloc_old _ _ _ (lt_of_block HF1.out)).trans HF1.out)
  have G2 : Hid (W2.heap[w1.heap.size]? = some (.cells #[cN f] 3 (0, 0))) := Lib.hid (by rw [← hW2]; exact World.alloc_heap_new _ _)
  have HB2 : Hid (Below w.heap.size w W2) := Lib.hid (by rw [← hW2]; exact bal HB1.out _)
  have hA : w.heap.size + 1 < W2.heap.size := lt_of_block G1.out
  generalize w1.heap.size = F at *
  clear hW2 HF0 HF1 HB1 p1
  go_wp2_with (first | (go_at_call 28; (with_reducible refine (c2 _ HB2.out).mono ?_); rintro e w3 ⟨v3, rfl, hO3, hB3⟩; have J2 := (hB3.block _ (lt_of_block G2.out)).trans G2.out; have HB3 := Lib.hid hB3; clear hB3 c2) | (go_at_call 27; (with_reducible refine (c3 _ _ _ F hO3 J2 HB3.out.size).mono ?_); rintro e w4 ⟨v4, rfl, ⟨a4, k4, rfl, hOL⟩, hFr4, hB4⟩; clear c3 hO3 J2))
  generalize hW4 : w4.alloc (.cells #[.slice a4 m.length k4] 22) = W4
  have HX : Hid (Below W2.heap.size W2 w4 ∧ Below w4.heap.size w4 W4) := Lib.hid ⟨HB3.out.trans hB4, by rw [← hW4]; exact (Below.refl _ w4).alloc (Nat.le_refl _) _⟩
  have HL : Hid (W4.heap[w4.heap.size]? = some (.cells #[.slice a4 m.length k4] 22 (0, 0))) := Lib.hid (by rw [← hW4]; exact World.alloc_heap_new _ _)
  have HLT : Hid (w4.heap.size < W4.heap.size) := Lib.hid (lt_of_block HL.out)
  have HB4 : Hid (Below w.heap.size w W4) := Lib.hid (bthen (bthen HB2.out HX.out.1) HX.out.2)
  have K0 : Hid (W4.heap[w.heap.size]? = some (.cells #[cN s, .slice a l.length c] 24 (0, 0))) := Lib.hid ((HX.out.2.block _ (by have := HX.out.1.size; omega)).trans ((HX.out.1.block _ (by omega)).trans G0.out))
  have K1 : Hid (W4.heap[w.heap.size + 1]? = some (.cells #[cN 0, .slice none 0 0] 24 (0, 0))) := Lib.hid ((HX.out.2.block _ (by have := HX.out.1.size; omega)).trans ((HX.out.1.block _ hA).trans G1.out))
  have K2 : Hid (W4.heap[F]? = some (.cells #[cN f] 3 (0, 0))) := Lib.hid ((HX.out.2.block _ (by have := HX.out.1.size; have := lt_of_block G2.out; omega)).trans ((HX.out.1.block _ (lt_of_block G2.out)).trans G2.out))
  have HOL : Hid (∀ k, k < m.length → ∃ g, a4 = some ⟨g, 0, none⟩ ∧ W2.heap.size ≤ g ∧ Own W4 g k4 m) := Lib.hid fun k hk => (by
    obtain ⟨g, h1, h2, h3⟩ := hOL k hk
    exact ⟨g, h1, h2, h3.keep HX.out.2⟩)
  generalize w4.heap.size = L at *
  clear hW4 HX hOL hFr4 hB4 HB3 G0 G1 G2
  go_wp2
  go_loopw [9, 37] (fun bst i wr => ∃ k : Nat, i = cN k ∧ bst = cN (bestK m k) ∧ k ≤ m.length ∧ Below W4.heap.size W4 wr) (fun _ i _ => m.length - (intOf i).toNat)
  case atStart => exact ⟨0, rfl, rfl, Nat.zero_le _, Below.refl _ _⟩
  case round =>
    obtain ⟨k, rfl, rfl, hk, hB⟩ := hrel
    have HLr : Hid (wr.heap[L]? = some (.cells #[.slice a4 m.length k4] 22 (0, 0))) := Lib.hid ((hB.block _ HLT.out).trans HL.out)
    have K0r : Hid (wr.heap[w.heap.size]? = some (.cells #[cN s, .slice a l.length c] 24 (0, 0))) := Lib.hid ((hB.block _ (lt_of_block K0.out)).trans K0.out)
    have K1r : Hid (wr.heap[w.heap.size + 1]? = some (.cells #[cN 0, .slice none 0 0] 24 (0, 0))) := Lib.hid ((hB.block _ (lt_of_block K1.out)).trans K1.out)
    have K2r : Hid (wr.heap[F]? = some (.cells #[cN f] 3 (0, 0))) := Lib.hid ((hB.block _ (lt_of_block K2.out)).trans K2.out)
    have HBr : Hid (Below w.heap.size w wr) := Lib.hid (bthen HB4.out hB)
    have hspec := bestK_spec m k hk
    by_cases hlt : (k : Int) < (m.length : Int)
    · have hkl : k < m.length := by omega
      obtain ⟨g, rfl, hgA, hO⟩ := HOL.out k hkl
      have hOr := hO.keep hB
      obtain ⟨q0, q1⟩ := hOr.row k hkl
      rw [Nat.zero_add] at q0 q1
      obtain ⟨xo, xm, hx⟩ : ∃ xo xm, at_ m k = (xo, xm) := ⟨_, _, rfl⟩
      rw [hx] at q0 q1
      simp only at q0 q1
      have HXX := Lib.hid hx
      clear hx
      cases hu : (xo == 4294967295)
      · have HV : Hid (bestK m (k + 1) = bestK m k) := Lib.hid (bestK_no (by rw [HXX.out]; rw [beq_eq_false_iff_ne] at hu; exact hu))
        clear hspec
        generalize bestK m k = bb at *
        go_wp2
        generalize hW5 : wr.alloc (.cells #[cN xo, cN xm] 54) = W5
        have d0 : W5.cell? ⟨wr.heap.size, 0, none⟩ = some (cN xo) := by rw [← hW5]; exact Lib.cell_of_heap (World.alloc_heap_new wr _) 0
        have d1 : W5.cell? ⟨wr.heap.size, 1, none⟩ = some (cN xm) := by rw [← hW5]; exact Lib.cell_of_heap (World.alloc_heap_new wr _) 1
        have hB5 : Below wr.heap.size wr W5 := by rw [← hW5]; exact (Below.refl _ wr).alloc (Nat.le_refl _) _
        have hL5 := Lib.cell_of_heap ((hB5.block _ (lt_of_block HLr.out)).trans HLr.out) 0
        have HB5 := Lib.hid hB5
        skip
        clear hW5 q0 q1
        refine region_sch (fun w' => w' = W5.drew) [(true, 0), (true, 1), (true, 2), (true, 3), (true, 4), (true, 5), (true, 6), (true, 7), (true, 8), (true, 9), (true, 10), (true, 11), (true, 12), (true, 13)] [14, 15, 16] (by kernel_rfl) (by kernel_rfl) (by rintro ⟨_, _, -, h⟩; rcases h with ⟨h, -⟩ | ⟨h, -⟩ | ⟨_, _, _, h, -⟩ <;> cases h) (fun _ _ d _ _ h => by cases d <;> exact h) rfl ?_
        simp only [pickM, pickT, List.filterMap_cons, List.filterMap_nil, List.getElem?_cons_zero, List.getElem?_cons_succ, Option.map_some]
        repeat (first | (refine m_float ⟨?_, .inl ⟨?_, .inl ?_⟩, fun K' hK => ?_⟩; rotate_left; (first | rfl | (go_simp; done)); (intro w' hS; subst hS; go_simp; try rfl); (simp only [Act.put, List.setIfInBounds_toArray, List.set_cons_succ, List.set_cons_zero]; refine hK _ ?_; clear hK K')) | (refine m_float ⟨undef, .inr ⟨?_, rfl⟩, fun K' hK => ?_⟩; (first | rfl | (go_simp; done)); (simp only [Act.put, List.setIfInBounds_toArray, List.set_cons_succ, List.set_cons_zero]; refine hK _ ?_; clear hK K')))
        refine m_nil ?_
        show wpList Tryz.prog _ _ (List.cons _ _) _ _
        go_wp2
        go_roundw
        case rel => exact ⟨k + 1, by go_num, by rw [HV.out], by omega, (hB.trans (HB5.out.mono hB.size)).drew⟩
        case measure => simp [intOf]; omega
      · have hu2 : xo = UN := by rw [beq_iff_eq] at hu; exact hu
        have hu3 : (at_ m k).1 = UN := by rw [HXX.out]; exact hu2
        have HU := Lib.hid hu3
        clear hu2 hu3
        rcases hspec with ⟨hb1, -⟩ | ⟨b, hb1, hbk, -⟩
        · have HV : Hid (bestK m (k + 1) = k) := Lib.hid (bestK_yes HU.out hb1)
          rw [hb1]
          clear hb1
          go_wp2
          generalize hW5 : wr.alloc (.cells #[cN xo, cN xm] 54) = W5
          have d0 : W5.cell? ⟨wr.heap.size, 0, none⟩ = some (cN xo) := by rw [← hW5]; exact Lib.cell_of_heap (World.alloc_heap_new wr _) 0
          have d1 : W5.cell? ⟨wr.heap.size, 1, none⟩ = some (cN xm) := by rw [← hW5]; exact Lib.cell_of_heap (World.alloc_heap_new wr _) 1
          have hB5 : Below wr.heap.size wr W5 := by rw [← hW5]; exact (Below.refl _ wr).alloc (Nat.le_refl _) _
          have hL5 := Lib.cell_of_heap ((hB5.block _ (lt_of_block HLr.out)).trans HLr.out) 0
          have HB5 := Lib.hid hB5
          skip
          clear hW5 q0 q1
          refine region_sch (fun w' => w' = W5.drew) [(true, 0), (true, 1), (true, 2), (true, 3), (true, 4), (true, 5), (true, 6), (true, 7), (true, 8), (true, 9), (true, 10), (true, 11), (true, 12), (true, 13)] [14, 15, 16] (by kernel_rfl) (by kernel_rfl) (by rintro ⟨_, _, -, h⟩; rcases h with ⟨h, -⟩ | ⟨h, -⟩ | ⟨_, _, _, h, -⟩ <;> cases h) (fun _ _ d _ _ h => by cases d <;> exact h) rfl ?_
          simp only [pickM, pickT, List.filterMap_cons, List.filterMap_nil, List.getElem?_cons_zero, List.getElem?_cons_succ, Option.map_some]
          repeat (first | (refine m_float ⟨?_, .inl ⟨?_, .inl ?_⟩, fun K' hK => ?_⟩; rotate_left; (first | rfl | (go_simp; done)); (intro w' hS; subst hS; go_simp; try rfl); (simp only [Act.put, List.setIfInBounds_toArray, List.set_cons_succ, List.set_cons_zero]; refine hK _ ?_; clear hK K')) | (refine m_float ⟨undef, .inr ⟨?_, rfl⟩, fun K' hK => ?_⟩; (first | rfl | (go_simp; done)); (simp only [Act.put, List.setIfInBounds_toArray, List.set_cons_succ, List.set_cons_zero]; refine hK _ ?_; clear hK K')))
          refine m_nil ?_
          show wpList Tryz.prog _ _ (List.cons _ _) _ _
          go_wp2
          go_roundw
          case rel => exact ⟨k + 1, by go_num, by rw [HV.out], by omega, (hB.trans (HB5.out.mono hB.size)).drew⟩
          case measure => simp [intOf]; omega
        · have hbl : b < m.length := by omega
          obtain ⟨r0, r1⟩ := hOr.row b hbl
          rw [Nat.zero_add] at r0 r1
          obtain ⟨yo, ym, hy⟩ : ∃ yo ym, at_ m b = (yo, ym) := ⟨_, _, rfl⟩
          rw [hy] at r0 r1
          simp only at r0 r1
          have HY := Lib.hid hy
          have HB1 := Lib.hid hb1
          rw [hb1]
          clear hy hb1
          have hblI : (b : Int) < (m.length : Int) := by omega
          by_cases hcmp : xm < ym
          · have HV : Hid (bestK m (k + 1) = k) := Lib.hid (bestK_new HU.out HB1.out (by rw [HXX.out, HY.out]; exact hcmp))
            go_wp2
            generalize hW5 : wr.alloc (.cells #[cN xo, cN xm] 54) = W5
            have d0 : W5.cell? ⟨wr.heap.size, 0, none⟩ = some (cN xo) := by rw [← hW5]; exact Lib.cell_of_heap (World.alloc_heap_new wr _) 0
            have d1 : W5.cell? ⟨wr.heap.size, 1, none⟩ = some (cN xm) := by rw [← hW5]; exact Lib.cell_of_heap (World.alloc_heap_new wr _) 1
            have hB5 : Below wr.heap.size wr W5 := by rw [← hW5]; exact (Below.refl _ wr).alloc (Nat.le_refl _) _
            have hL5 := Lib.cell_of_heap ((hB5.block _ (lt_of_block HLr.out)).trans HLr.out) 0
            have HB5 := Lib.hid hB5
            have r15 : W5.cell? ⟨g, b * 2 + 1, none⟩ = some (cN ym) := (hB5.cell (p := ⟨g, b * 2 + 1, none⟩) hOr.lt).trans r1
            clear hW5 q0 q1
            refine region_sch (fun w' => w' = W5.drew) [(true, 0), (true, 1), (true, 2), (true, 3), (true, 4), (true, 5), (true, 6), (true, 7), (true, 8), (true, 9), (true, 10), (true, 11), (true, 12), (true, 13)] [14, 15, 16] (by kernel_rfl) (by kernel_rfl) (by rintro ⟨_, _, -, h⟩; rcases h with ⟨h, -⟩ | ⟨h, -⟩ | ⟨_, _, _, h, -⟩ <;> cases h) (fun _ _ d _ _ h => by cases d <;> exact h) rfl ?_
            simp only [pickM, pickT, List.filterMap_cons, List.filterMap_nil, List.getElem?_cons_zero, List.getElem?_cons_succ, Option.map_some]
            repeat (first | (refine m_float ⟨?_, .inl ⟨?_, .inl ?_⟩, fun K' hK => ?_⟩; rotate_left; (first | rfl | (go_simp; done)); (intro w' hS; subst hS; go_simp; try rfl); (simp only [Act.put, List.setIfInBounds_toArray, List.set_cons_succ, List.set_cons_zero]; refine hK _ ?_; clear hK K')) | (refine m_float ⟨undef, .inr ⟨?_, rfl⟩, fun K' hK => ?_⟩; (first | rfl | (go_simp; done)); (simp only [Act.put, List.setIfInBounds_toArray, List.set_cons_succ, List.set_cons_zero]; refine hK _ ?_; clear hK K')))
            refine m_nil ?_
            show wpList Tryz.prog _ _ (List.cons _ _) _ _
            go_wp2
            go_roundw
            case rel => exact ⟨k + 1, by go_num, by rw [HV.out], by omega, (hB.trans (HB5.out.mono hB.size)).drew⟩
            case measure => simp [intOf]; omega
          · have HV : Hid (bestK m (k + 1) = bestK m k) := Lib.hid (bestK_old HB1.out (by rw [HXX.out, HY.out]; exact hcmp))
            go_wp2
            generalize hW5 : wr.alloc (.cells #[cN xo, cN xm] 54) = W5
            have d0 : W5.cell? ⟨wr.heap.size, 0, none⟩ = some (cN xo) := by rw [← hW5]; exact Lib.cell_of_heap (World.alloc_heap_new wr _) 0
            have d1 : W5.cell? ⟨wr.heap.size, 1, none⟩ = some (cN xm) := by rw [← hW5]; exact Lib.cell_of_heap (World.alloc_heap_new wr _) 1
            have hB5 : Below wr.heap.size wr W5 := by rw [← hW5]; exact (Below.refl _ wr).alloc (Nat.le_refl _) _
            have hL5 := Lib.cell_of_heap ((hB5.block _ (lt_of_block HLr.out)).trans HLr.out) 0
            have HB5 := Lib.hid hB5
            have r15 : W5.cell? ⟨g, b * 2 + 1, none⟩ = some (cN ym) := (hB5.cell (p := ⟨g, b * 2 + 1, none⟩) hOr.lt).trans r1
            clear hW5 q0 q1
            refine region_sch (fun w' => w' = W5.drew) [(true, 0), (true, 1), (true, 2), (true, 3), (true, 4), (true, 5), (true, 6), (true, 7), (true, 8), (true, 9), (true, 10), (true, 11), (true, 12), (true, 13)] [14, 15, 16] (by kernel_rfl) (by kernel_rfl) (by rintro ⟨_, _, -, h⟩; rcases h with ⟨h, -⟩ | ⟨h, -⟩ | ⟨_, _, _, h, -⟩ <;> cases h) (fun _ _ d _ _ h => by cases d <;> exact h) rfl ?_
            simp only [pickM, pickT, List.filterMap_cons, List.filterMap_nil, List.getElem?_cons_zero, List.getElem?_cons_succ, Option.map_some]
            repeat (first | (refine m_float ⟨?_, .inl ⟨?_, .inl ?_⟩, fun K' hK => ?_⟩; rotate_left; (first | rfl | (go_simp; done)); (intro w' hS; subst hS; go_simp; try rfl); (simp only [Act.put, List.setIfInBounds_toArray, List.set_cons_succ, List.set_cons_zero]; refine hK _ ?_; clear hK K')) | (refine m_float ⟨undef, .inr ⟨?_, rfl⟩, fun K' hK => ?_⟩; (first | rfl | (go_simp; done)); (simp only [Act.put, List.setIfInBounds_toArray, List.set_cons_succ, List.set_cons_zero]; refine hK _ ?_; clear hK K')))
            refine m_nil ?_
            show wpList Tryz.prog _ _ (List.cons _ _) _ _
            go_wp2
            go_roundw
            case rel => exact ⟨k + 1, by go_num, by rw [HV.out, HB1.out], by omega, (hB.trans (HB5.out.mono hB.size)).drew⟩
            case measure => simp [intOf]; omega
    · obtain rfl : k = m.length := by omega
      have p0 := Lib.cell_of_heap K1r.out 0
      have p1 := Lib.cell_of_heap K1r.out 1
      have pf := fun j => Lib.frozen_of_heap K1r.out j
      have pl := Lib.cell_of_heap HLr.out 0
      have ps := Lib.cell_of_heap K0r.out 0
      have pF := Lib.cell_of_heap K2r.out 0
      have h1 := row_set 0 (.int .i64 0) K1r.out
      have h2 := row_set 1 (.slice none 0 0) h1
      have Hq0 := Lib.hid (Lib.cell_of_heap h2 0)
      have Hq1 := Lib.hid (Lib.cell_of_heap h2 1)
      have Hbad : Hid (Below w.heap.size w ((wr.setCell ⟨w.heap.size + 1, 0, none⟩ (.int .i64 0)).setCell ⟨w.heap.size + 1, 1, none⟩ (.slice none 0 0))) := Lib.hid ((HBr.out.setCell (p := ⟨w.heap.size + 1, 0, none⟩) (by simp only; omega) _).setCell (p := ⟨w.heap.size + 1, 1, none⟩) (by simp only; omega) _)
      clear h1 h2
      rcases hspec with ⟨hb1, hno⟩ | ⟨b, hb1, hbk, hbu⟩
      · have HNO := Lib.hid hno
        rw [hb1]
        clear hb1 hno
        go_wp2
        have q0 := Hq0.out
        have q1 := Hq1.out
        refine bodyPost_ret (v := .tuple #[.agg #[cN 0, .slice none 0 0], cN 0, cN 12]) ?_ rfl ⟨Hbad.out, .inl ⟨rfl, HNO.out⟩⟩
        simp [results, Tryz.results11, go_sem, q0, q1]
      · obtain ⟨g, rfl, hgA, hO⟩ := HOL.out b hbk
        have hOr := hO.keep hB
        obtain ⟨r0, r1⟩ := hOr.row b hbk
        rw [Nat.zero_add] at r0 r1
        obtain ⟨yo, ym, hy⟩ : ∃ yo ym, at_ m b = (yo, ym) := ⟨_, _, rfl⟩
        have hyo : yo = UN := by
          have : (at_ m b).1 = UN := hbu
          rw [hy] at this
          exact this
        rw [hy] at r0 r1
        simp only at r0 r1
        have HY := Lib.hid hy
        have HB1 := Lib.hid hb1
        have HYO := Lib.hid hyo
        rw [hb1]
        clear hy hb1 hbu hyo
        have hblI : (b : Int) < (m.length : Int) := by omega
        cases hs : (s == 4294967295)
        · have HS : Hid (s ≠ 4294967295) := Lib.hid (by rw [beq_eq_false_iff_ne] at hs; exact hs)
          have hs2 : IntKind.i64.wrap (s + 1) = s + 1 := by rw [IntKind.wrap_i64]; omega
          have hSET := Lib.hid (hOr.set b (f, ym) hbk)
          have hlen : (m.set b (f, ym)).length = m.length := List.length_set ..
          have c5 : ∀ W, Own W g k4 (m.set b (f, ym)) → W.heap[L]? = some (.cells #[.slice (some ⟨g, 0, none⟩) m.length k4] 22 (0, 0)) → Calls Tryz.prog 30 #[.iface 22 (.slice (some ⟨g, 0, none⟩) m.length k4), .func (.func 31) #[] #[.pointer (some ⟨L, 0, none⟩)]] W (SortPost W g k4 (m.set b (f, ym))) := fun W h1 h2 => by
            have := sort_ok g k4 L (m.set b (f, ym)) W (by omega) h1 (by rw [hlen]; exact h2)
            rwa [hlen] at this
          have fz := hOr.frozen
          have hLS := hSET.out.2 _ _ _ _ (by decide) HLr.out
          have pls := Lib.cell_of_heap hLS 0
          have HO6 := Lib.hid hOr
          have hLg : L ≠ g := fun e => by
            obtain ⟨cur, hg, -⟩ := hOr
            have := HLr.out
            rw [e, hg] at this
            simp only [Option.some.injEq, Obj.cells.injEq] at this
            exact absurd this.2.1 (by decide)
          have hRg : w.heap.size + 1 ≠ g := by omega
          have hwg : w.heap.size ≤ g := by omega
          clear hO hOr
          go_wp2_with (go_at_call 30; (with_reducible refine (c5 _ hSET.out.1 hLS).mono ?_); rintro e w7 ⟨rfl, u, hperm, hsort, hOu, hFr7, hB7⟩; clear p0 p1 pf pl ps pF r0 r1 fz pls hLS; have hFr := hSET.out.2.trans hFr7; have M1 := hFr _ _ _ _ (by decide) K1r.out; have p0 := Lib.cell_of_heap M1 0; have p1 := Lib.cell_of_heap M1 1; have pf := (fun j => Lib.frozen_of_heap M1 j); have pl := Lib.cell_of_heap (hFr _ _ _ _ (by decide) HLr.out) 0; have ps := Lib.cell_of_heap (hFr _ _ _ _ (by decide) K0r.out) 0; have h1 := row_set 0 (.int .i64 (s + 1)) M1; have h2 := row_set 1 (.slice (some ⟨g, 0, none⟩) m.length k4) h1; have Hq0 := Lib.hid (Lib.cell_of_heap h2 0); have Hq1 := Lib.hid (Lib.cell_of_heap h2 1); have HU := Lib.hid (And.intro hperm (And.intro hsort hOu)); have HB7 := Lib.hid (hB7 _ hwg); clear h1 h2 M1 hFr hFr7 hperm hsort hOu hB7)
          have q0 := Hq0.out
          have q1 := Hq1.out
          have hOf := (HU.out.2.2.other (i := 0) (u := .int .i64 (s + 1)) hRg).other (i := 1) (u := .slice (some ⟨g, 0, none⟩) m.length k4) hRg
          have hul : u.length = m.length := by rw [HU.out.1.length_eq, hlen]
          have hsl := hOf.sl
          rw [hul] at hsl
          have hBf : Below w.heap.size w ((w7.setCell ⟨w.heap.size + 1, 0, none⟩ (.int .i64 (s + 1))).setCell ⟨w.heap.size + 1, 1, none⟩ (.slice (some ⟨g, 0, none⟩) m.length k4)) := ((((HBr.out.setCell (p := ⟨g, b * 2, none⟩) hwg _).setCell (p := ⟨g, b * 2 + 1, none⟩) hwg _).trans HB7.out).setCell (p := ⟨w.heap.size + 1, 0, none⟩) (by simp only; omega) _).setCell (p := ⟨w.heap.size + 1, 1, none⟩) (by simp only; omega) _
          have hgd : m.getD b (0, 0) = (UN, ym) := by
            have := HY.out
            rw [HYO.out] at this
            exact this
          have hrep : Rep l f ym u := ⟨by rw [HM.out]; exact ⟨b, HB1.out, hbk, hgd, HU.out.1⟩, HU.out.2.1⟩
          refine bodyPost_ret (v := .tuple #[.agg #[cN (s + 1), .slice (some ⟨g, 0, none⟩) m.length k4], cN ym, cN 0]) ?_ rfl ⟨hBf, .inr (.inr ⟨_, u, ym, rfl, hsl, hrep, HS.out⟩)⟩
          simp [results, Tryz.results11, go_sem, q0, q1]
        · have HS := Lib.hid hs
          go_wp2
          have q0 := Hq0.out
          have q1 := Hq1.out
          refine bodyPost_ret (v := .tuple #[.agg #[cN 0, .slice none 0 0], cN 0, cN 7]) ?_ rfl ⟨Hbad.out, .inr (.inl ⟨rfl, (by have := HS.out; rw [beq_iff_eq] at this; exact this), b, (by omega), (by rw [HY.out]; exact HYO.out)⟩)⟩
          simp [results, Tryz.results11, go_sem, q0, q1]
set_option maxRecDepth 100000 in
set_option maxHeartbeats 1000000 in
theorem replace_bad (s block : Int) (v : Value) (l : List Sp) (w : World) (h : SL w v l) (hv : validB s l = false) :
    Calls Tryz.prog 11 #[.agg #[cN s, v], cN block] w fun e w' => e = .returned (.tuple #[.agg #[cN 0, .slice none 0 0], cN 0, cN 1]) ∧ Below w.heap.size w w' := by
  obtain ⟨a, c, rfl⟩ := h.form
  have c1 := fun (W : World) (k : Below w.heap.size w W) => valid_ok s _ l W (h.below k)
  rw [hv] at c1
  clear h hv
  go_enter Tryz.func11, Tryz.ntmps11
  go_wp2_with (go_at_call 10; (with_reducible refine (c1 _ (bal (bal (Below.refl _ w) _) _)).mono ?_); rintro e w1 ⟨rfl, hB1⟩; have E1 : ((w.alloc (.cells #[cN s, .slice a l.length c] 24)).alloc (.cells #[cN 0, .slice none 0 0] 24)).heap[w.heap.size + 1]? = some (.cells #[cN 0, .slice none 0 0] 24 (0, 0)) := (by { have := World.alloc_heap_new (w.alloc (.cells #[cN s, .slice a l.length c] 24)) (.cells #[.int .i64 0, .slice none 0 0] 24); rwa [World.size_alloc] at this }); have HB1 := Lib.hid (bthen (bal (bal (Below.refl _ w) _) _) hB1); have F1 := (hB1.block _ (lt_of_block E1)).trans E1; clear hB1 E1 c1; have HF1 := Lib.hid F1; have p0 := Lib.cell_of_heap F1 0; have p1 := Lib.cell_of_heap F1 1; have pf := (fun j => Lib.frozen_of_heap F1 j); clear F1)
  have h1 := row_set 0 (.int .i64 0) HF1.out
  have h2 := row_set 1 (.slice none 0 0) h1
  have q0 := Lib.cell_of_heap h2 0
  have q1 := Lib.cell_of_heap h2 1
  refine bodyPost_ret (v := .tuple #[.agg #[cN 0, .slice none 0 0], cN 0, cN 1]) ?_ rfl ⟨rfl, (HB1.out.setCell (p := ⟨w.heap.size + 1, 0, none⟩) (by simp only; omega) _).setCell (p := ⟨w.heap.size + 1, 1, none⟩) (by simp only; omega) _⟩
  simp [results, Tryz.results11, go_sem, q0, q1]
end Go.Proofs.YtocncjimepnlcaaGreatDoor
