/- Sparing tables: the law SparingApart, walked: the loop and the end. -/
import Derived.Test.YtocncjimepnlcaaSpr
namespace Go.Proofs.Ytocncjimepnlcaa.Two
set_option linter.unusedSimpArgs false
set_option linter.unusedVariables false
open Go Go.RowKit
/-- The state of the law in the loop. -/
structure LI (w : World) (ps pc ss sc : Int) (X : Nat) (k : Nat) (s : Int) (a : Option Addr) (c : Nat) (l : List Sp) (W : World) : Prop where
  pw : PW w ps pc ss sc W
  t : W.heap[X]? = some (.cells #[cN s, .slice a l.length c] 29 (0, 0))
  sl : SL W (.slice a l.length c) l
  va : Valid s l
  ar : Area ss (ss + sc) l
  s0 : s ≤ k + 1
theorem LI.below {w : World} {ps pc ss sc : Int} {X : Nat} {k : Nat} {s : Int} {a : Option Addr} {c : Nat} {l : List Sp} {W W' : World} (h : LI w ps pc ss sc X k s a c l W) (b : Below W.heap.size W W') : LI w ps pc ss sc X k s a c l W' :=
  ⟨h.pw.below b, (b.block _ (lt_of_block h.t)).trans h.t, h.sl.below b, h.va, h.ar, h.s0⟩
theorem LI.put {w : World} {ps pc ss sc : Int} {X : Nat} {k : Nat} {s : Int} {a : Option Addr} {c : Nat} {l : List Sp} {W : World} (h : LI w ps pc ss sc X k s a c l W) (hX : w.heap.size + 1 < X) {r m : Int} {u : List Sp} {a' : Option Addr} {c' : Nat} (hr : Rep l (r - r % 8) m u) (hs : SL W (.slice a' u.length c') u) (hk : k ≤ 1000) (r0 : 0 ≤ r) (r1 : r ≤ 65535) :
    LI w ps pc ss sc X (k + 1) (s + 1) a' c' u ((W.setCell ⟨X, 0, none⟩ (.int .i64 (s + 1))).setCell ⟨X, 1, none⟩ (.slice a' u.length c')) := by
  have hs0 := h.s0
  obtain ⟨v1, v2, v3, v4⟩ := rep_valid h.va hr (by omega) (by show r - r % 8 < 4294967295; omega) (by omega) (by omega)
  have t1 := row_set 0 (.int .i64 (s + 1)) h.t
  have t2 := row_set 1 (.slice a' u.length c') t1
  refine ⟨⟨row_other 1 _ (row_other 0 _ h.pw.b0 (by omega)) (by omega), row_other 1 _ (row_other 0 _ h.pw.b1 (by omega)) (by omega), (h.pw.bel.setCell (p := ⟨X, 0, none⟩) (by simp only; omega) _).setCell (p := ⟨X, 1, none⟩) (by simp only; omega) _⟩, t2, (hs.put h.t).put (s := s + 1) (a := a) (n := l.length) (c := c) t1, v1, rep_area h.ar hr, by omega⟩
structure FI (ps pc ss sc i j : Int) : Prop where
  i0 : 0 ≤ i
  i1 : i < pc
  i2 : i < 4294967296
  j0 : 0 ≤ j
  j1 : j < pc
  j2 : j < 4294967296
  pc4 : pc ≤ 4096
  psm : ps < 1152921504606846976
  ap : ss + sc ≤ ps ∨ ps + pc ≤ ss
theorem fin_ok {s ps pc ss sc i j : Int} {l : List Sp} (V : Valid s l) (A : Area ss (ss + sc) l) (h : FI ps pc ss sc i j) :
    (place l ps i == place l ps j) = (i == j) ∧ ((ps ≤ place l ps i ∧ place l ps i < ps + pc) ∨ (place l ps i < ps ∧ ss ≤ place l ps i ∧ place l ps i < ss + sc) ∨ (ps ≤ place l ps i ∧ ps + pc ≤ place l ps i ∧ ss ≤ place l ps i ∧ place l ps i < ss + sc)) := by
  obtain ⟨a1, a2⟩ := apart (i := i) (k := j) (ps := ps) (pc := pc) V A h.ap h.i0 h.i1 h.j0 h.j1 h.pc4
  refine ⟨?_, by omega⟩
  by_cases e : i = j
  · rw [e]
    simp
  · have : place l ps i ≠ place l ps j := fun h => e (a1.1 h)
    rw [beq_eq_false_iff_ne.2 this, beq_eq_false_iff_ne.2 e]
    try rfl
theorem new15 (w1 : World) (v0 v1 : Value) : Below w1.heap.size w1 (w1.alloc (.cells #[v0, v1] 29)) ∧ (w1.alloc (.cells #[v0, v1] 29)).heap[w1.heap.size]? = some (.cells #[v0, v1] 29 (0, 0)) :=
  ⟨(Below.refl _ w1).alloc (Nat.le_refl _) _, World.alloc_heap_new w1 _⟩
set_option maxRecDepth 100000 in
set_option maxHeartbeats 4000000 in
theorem apart_main2 (ps pc ss sc x y : Int) (wa : Option Addr) (wc : Nat) (zs : List Int) (l0 : List Sp) (w : World) (h1 : 0 ≤ ps) (h2 : ps ≤ 4096) (h3 : 1 ≤ pc) (h4 : pc ≤ 4096) (h5 : ¬ (20 : Int) < (zs.length : Int)) (h6 : 0 ≤ ss) (h7 : ss ≤ 4096) (h8 : 0 ≤ sc) (h9 : sc ≤ 64)
    (hx : 0 ≤ x ∧ x ≤ 65535) (hy : 0 ≤ y ∧ y ≤ 65535) (ho1 : ss < ps + pc) (ho2 : ¬ ps < ss + sc)
    (c6g : ∀ W : World, Calls Try.prog 6 #[.agg #[cN ss, cN sc]] W fun e w' => ∃ v, e = .returned (.tuple #[.agg #[cN 1, v], cN 0]) ∧ OW W.heap.size v l0 w' ∧ Below W.heap.size W w') (hL0 : Valid 1 l0 ∧ Area ss (ss + sc) l0)
    (hW : ∀ k, k < zs.length → ∃ b off, wa = some ⟨b, off, none⟩ ∧ zs.length ≤ wc ∧ b < w.heap.size ∧ (∀ i, i < zs.length → w.cell? ⟨b, off + i, none⟩ = some (.int .u16 (zs.getD i 0))) ∧ ∀ z ∈ zs, 0 ≤ z ∧ z ≤ 65535) :
    Calls Try.prog 3 #[.agg #[cN ps, cN pc], .agg #[cN ss, cN sc], .slice wa zs.length wc, .int .u16 x, .int .u16 y] w fun e w' => e = .returned (.bool true) ∧ Below w.heap.size w w' := by
  have e1 : IntKind.i64.wrap (ps + pc) = ps + pc := by rw [IntKind.wrap_i64]; omega
  have e2 : IntKind.i64.wrap (ss + sc) = ss + sc := by rw [IntKind.wrap_i64]; omega
  have HW := Lib.hid hW
  have HL0 := Lib.hid hL0
  obtain ⟨i, hi⟩ : ∃ i, Int.tmod x pc = i := ⟨_, rfl⟩
  obtain ⟨j, hj⟩ : ∃ j, Int.tmod y pc = j := ⟨_, rfl⟩
  have hxw : IntKind.i64.wrap x = x := by rw [IntKind.wrap_i64]; omega
  have hyw : IntKind.i64.wrap y = y := by rw [IntKind.wrap_i64]; omega
  have hpc : pc ≠ 0 := by omega
  have HI : Hid (FI ps pc ss sc i j) := Lib.hid (by
    rw [Int.tmod_eq_emod_of_nonneg hx.1] at hi
    rw [Int.tmod_eq_emod_of_nonneg hy.1] at hj
    have := Int.emod_nonneg x hpc
    have := Int.emod_lt_of_pos x (show 0 < pc by omega)
    have := Int.emod_nonneg y hpc
    have := Int.emod_lt_of_pos y (show 0 < pc by omega)
    exact ⟨by omega, by omega, by omega, by omega, by omega, by omega, by omega, by omega, by omega⟩)
  clear hW hL0
  go_enter Try.func3, Try.ntmps3
  go_wp2_with (first | (go_at_call 5; (with_reducible refine (awake_ok _).mono ?_); rintro e w1 ⟨rfl, hB1⟩; have H := (PW.start w ps pc ss sc).below hB1; clear hB1; have p00 := Lib.cell_of_heap H.b0 0; have p01 := Lib.cell_of_heap H.b0 1; have p10 := Lib.cell_of_heap H.b1 0; have p11 := Lib.cell_of_heap H.b1 1; have HH := Lib.hid H; clear H) | (go_at_call 6; (with_reducible refine (c6g _).mono ?_); rintro e w2 ⟨v2, rfl, ho, hB2⟩; obtain ⟨a2, k2, rfl⟩ := ho.form; have H := (HH.out.below hB2).below ((Below.refl _ _).alloc (Nat.le_refl _) (.cells #[cN 1, .slice a2 l0.length k2] 29)); have HLI : Hid (LI w ps pc ss sc w2.heap.size 0 1 a2 k2 l0 (w2.alloc (.cells #[cN 1, .slice a2 l0.length k2] 29))) := Lib.hid ⟨H, World.alloc_heap_new _ _, ho.sl.below ((Below.refl _ _).alloc (Nat.le_refl _) _), HL0.out.1, HL0.out.2, by decide⟩; have HX : w.heap.size + 1 < w2.heap.size := (Nat.lt_of_lt_of_le (lt_of_block HH.out.b1) hB2.size); clear ho hB2 HH p00 p01 p10 p11; have p00 := Lib.cell_of_heap H.b0 0; have p01 := Lib.cell_of_heap H.b0 1; have p10 := Lib.cell_of_heap H.b1 0; have p11 := Lib.cell_of_heap H.b1 1; clear H))
  generalize w2.heap.size = X at *
  clear p00 p01 p10 p11 c6g
  go_loopw [77] (fun i wr => ∃ (k : Nat) (s : Int) (a : Option Addr) (c : Nat) (l : List Sp), i = cN k ∧ k ≤ zs.length ∧ LI w ps pc ss sc X k s a c l wr) (fun i _ => zs.length - (intOf i).toNat)
  case atStart => exact ⟨0, 1, _, _, l0, rfl, Nat.zero_le _, HLI.out⟩
  case round =>
    obtain ⟨k, s, a, c, l, rfl, hk, H⟩ := hrel
    clear HLI
    have HH := Lib.hid H
    by_cases hlt : (k : Int) < (zs.length : Int)
    · obtain ⟨b, off, rfl, hwc, hb, hcell, hrange⟩ := HW.out k (by omega)
      have qz := (H.pw.bel.cell (p := ⟨b, off + k, none⟩) hb).trans (hcell k (by omega))
      obtain ⟨z, hz⟩ : ∃ z, zs.getD k 0 = z := ⟨_, rfl⟩
      have hzr := hrange z (by rw [← hz, List.getD_eq_getElem?_getD, List.getElem?_eq_getElem (show k < zs.length by omega), Option.getD_some]; exact List.getElem_mem _)
      rw [hz] at qz
      clear hz hcell hrange
      obtain ⟨hz0, hz1⟩ := hzr
      have hzw : IntKind.i64.wrap z = z := by rw [IntKind.wrap_i64]; omega
      obtain ⟨r, hr⟩ : ∃ r, Int.tmod z pc = r := ⟨_, rfl⟩
      have hr0 : 0 ≤ r ∧ r ≤ 65535 := by
        rw [← hr, Int.tmod_eq_emod_of_nonneg hz0]
        have := Int.emod_nonneg z (show pc ≠ 0 by omega)
        have := Int.emod_lt_of_pos z (show 0 < pc by omega)
        omega
      have HR := Lib.hid hr0
      clear hr0
      have hkn : (k : Int) ≤ (zs.length : Int) := by omega
      have hkc : (k : Int) ≤ (wc : Int) := by omega
      have hs0 := H.s0
      have c7 := fun (W : World) (hB : Below wr.heap.size wr W) => rp_ok s r (.slice a l.length c) l W (HH.out.sl.below hB) HH.out.va HR.out.1 HR.out.2 (by omega)
      clear hs0
      have p00 := Lib.cell_of_heap H.pw.b0 0
      have p01 := Lib.cell_of_heap H.pw.b0 1
      have p10 := Lib.cell_of_heap H.pw.b1 0
      have p11 := Lib.cell_of_heap H.pw.b1 1
      have t0 := Lib.cell_of_heap H.t 0
      have t1 := Lib.cell_of_heap H.t 1
      clear H
      go_wp2
      refine region_two (fun W' => Below wr.heap.size wr W') [(true, 0), (true, 1), (true, 2), (true, 3), (true, 4), (true, 5)] [(true, 7), (true, 8), (true, 9), (true, 10), (false, 11), (false, 12), (true, 13)] [(false, 6), (true, 7), (true, 8), (true, 9), (true, 10), (false, 12), (true, 13)] 6 11 [14] (by kernel_rfl) (by kernel_rfl) (by rintro ⟨_, _, h, _⟩; cases h) (fun _ _ d _ _ h => by cases d <;> exact h) ((Below.refl _ wr).drew) ?_
      simp only [pickM, pickT, List.filterMap_cons, List.filterMap_nil, List.getElem?_cons_zero, List.getElem?_cons_succ, Option.map_some]
      repeat (first | (refine m_float ⟨?_, .inl ⟨?_, .inl ?_⟩, fun K' hK => ?_⟩; rotate_left; (first | rfl | (go_simp; done)); (intro w' hS; have p01 := Lib.cell_of_heap (HH.out.below hS).pw.b0 1; have t0 := Lib.cell_of_heap (HH.out.below hS).t 0; have t1 := Lib.cell_of_heap (HH.out.below hS).t 1; clear hS; go_simp; try rfl); (simp only [Act.put, List.setIfInBounds_toArray, List.set_cons_succ, List.set_cons_zero]; refine hK _ ?_; clear hK K')) | (refine m_float ⟨undef, .inr ⟨?_, rfl⟩, fun K' hK => ?_⟩; (first | rfl | (go_simp; done)); (simp only [Act.put, List.setIfInBounds_toArray, List.set_cons_succ, List.set_cons_zero]; refine hK _ ?_; clear hK K')))
      refine m_nil ?_
      refine ⟨?_, ?_⟩
      · refine m_loud ?_ (fun K' hK => ?_)
        · rintro ⟨_, _, h, _⟩; cases h
        go_wp2_with (go_at_call 7; (with_reducible refine (c7 _ (Below.refl _ wr).drew).mono ?_); rintro e w1 ⟨hB1, hh⟩; rcases hh with rfl | ⟨a3, c3, u, m, rfl, hS3, hrep⟩)
        · have hB2 : Below wr.heap.size wr w1 := (Below.refl _ wr).drew.trans hB1
          refine hK _ _ hB2 ?_
          clear hK K'
          repeat (first | (refine m_float ⟨?_, .inl ⟨?_, .inl ?_⟩, fun K' hK => ?_⟩; rotate_left; (first | rfl | (go_simp; done)); (intro w' hS; skip; go_simp; try rfl); (simp only [Act.put, List.setIfInBounds_toArray, List.set_cons_succ, List.set_cons_zero]; refine hK _ ?_; clear hK K')) | (refine m_float ⟨undef, .inr ⟨?_, rfl⟩, fun K' hK => ?_⟩; (first | rfl | (go_simp; done)); (simp only [Act.put, List.setIfInBounds_toArray, List.set_cons_succ, List.set_cons_zero]; refine hK _ ?_; clear hK K')))
          refine m_loud ?_ (fun K' hK => ?_)
          · rintro ⟨_, _, h, _⟩; cases h
          go_wp2
          refine hK _ _ (hB2.alloc hB2.size _) ?_
          clear hK K'
          obtain ⟨hb15, ht5⟩ := new15 w1 (cN 0) (.slice none 0 0)
          have hb5 := hB2.trans (hb15.mono hB2.size)
          refine m_loud ?_ (fun K' hK => ?_)
          · rintro ⟨_, _, h, _⟩; cases h
          go_wp2
          refine hK _ _ hb5 ?_
          clear hK K'
          revert hb5 ht5 hb15
          generalize (w1.alloc (.cells #[(cN 0), (.slice none 0 0)] 29)) = W5
          intro hb15 ht5 hb5
          repeat (first | (refine m_float ⟨?_, .inl ⟨?_, .inl ?_⟩, fun K' hK => ?_⟩; rotate_left; (first | rfl | (go_simp; done)); (intro w' hS; skip; go_simp; try rfl); (simp only [Act.put, List.setIfInBounds_toArray, List.set_cons_succ, List.set_cons_zero]; refine hK _ ?_; clear hK K')) | (refine m_float ⟨undef, .inr ⟨?_, rfl⟩, fun K' hK => ?_⟩; (first | rfl | (go_simp; done)); (simp only [Act.put, List.setIfInBounds_toArray, List.set_cons_succ, List.set_cons_zero]; refine hK _ ?_; clear hK K')))
          refine m_nil ?_
          show wpList Try.prog _ _ (List.cons _ _) _ _
          have H := HH.out.below hb5
          have p00 := Lib.cell_of_heap H.pw.b0 0
          have p01 := Lib.cell_of_heap H.pw.b0 1
          have p10 := Lib.cell_of_heap H.pw.b1 0
          have p11 := Lib.cell_of_heap H.pw.b1 1
          have t0 := Lib.cell_of_heap H.t 0
          have t1 := Lib.cell_of_heap H.t 1
          have HE := Lib.hid H
          clear H
          go_wp2
          refine region_sch (fun w' => w' = World.drew W5) [(true, 0), (true, 1), (true, 2), (true, 3), (true, 4), (true, 5), (true, 6), (true, 7), (true, 8), (true, 9), (true, 10)] [11] (by kernel_rfl) (by kernel_rfl) (by rintro ⟨_, _, h, _⟩; cases h) (fun _ _ d _ _ h => by cases d <;> exact h) rfl ?_
          simp only [pickM, pickT, List.filterMap_cons, List.filterMap_nil, List.getElem?_cons_zero, List.getElem?_cons_succ, Option.map_some]
          repeat (refine m_float ⟨?_, .inl ⟨?_, .inl ?_⟩, fun K' hK => ?_⟩; rotate_left; (first | rfl | (go_simp; done)); (intro w' hS; subst hS; go_simp; try rfl); (simp only [Act.put, List.setIfInBounds_toArray, List.set_cons_succ, List.set_cons_zero]; refine hK _ ?_; clear hK K'))
          refine m_nil ?_
          show wpList Try.prog _ _ (List.cons _ _) _ _
          have G := HE.out.below (Below.refl _ _).drew
          clear HE p00 p01 p10 p11 t0 t1
          have p00 := Lib.cell_of_heap G.pw.b0 0
          have p01 := Lib.cell_of_heap G.pw.b0 1
          have p10 := Lib.cell_of_heap G.pw.b1 0
          have p11 := Lib.cell_of_heap G.pw.b1 1
          have t0 := Lib.cell_of_heap G.t 0
          have t1 := Lib.cell_of_heap G.t 1
          have HE := Lib.hid G
          clear G
          have HF := Lib.hid (fin_ok (ps := ps) (pc := pc) HE.out.va HE.out.ar HI.out)
          go_wp2_with (first | (go_at_call 8; (with_reducible refine (lookup_ok (.slice a l.length c) l ps pc i _ HE.out.sl HI.out.i0 HI.out.i1 HI.out.i2 h1 HI.out.psm HE.out.va.len (fun x hx => (HE.out.va.w x hx).1)).mono ?_); rintro e w6 ⟨rfl, hB6⟩; have G := HE.out.below hB6; clear HE p00 p01 p10 p11 t0 t1; have p00 := Lib.cell_of_heap G.pw.b0 0; have p01 := Lib.cell_of_heap G.pw.b0 1; have p10 := Lib.cell_of_heap G.pw.b1 0; have p11 := Lib.cell_of_heap G.pw.b1 1; have t0 := Lib.cell_of_heap G.t 0; have t1 := Lib.cell_of_heap G.t 1; have HE := Lib.hid G; clear G; clear hB6) | (go_at_call 8; (with_reducible refine (lookup_ok (.slice a l.length c) l ps pc j _ HE.out.sl HI.out.j0 HI.out.j1 HI.out.j2 h1 HI.out.psm HE.out.va.len (fun x hx => (HE.out.va.w x hx).1)).mono ?_); rintro e w6 ⟨rfl, hB6⟩; have G := HE.out.below hB6; clear HE p00 p01 p10 p11 t0 t1; have p00 := Lib.cell_of_heap G.pw.b0 0; have p01 := Lib.cell_of_heap G.pw.b0 1; have p10 := Lib.cell_of_heap G.pw.b1 0; have p11 := Lib.cell_of_heap G.pw.b1 1; have t0 := Lib.cell_of_heap G.t 0; have t1 := Lib.cell_of_heap G.t 1; have HE := Lib.hid G; clear G; clear hB6))
          all_goals
            obtain ⟨f1, f2⟩ := HF.out
            first
              | (go_ret; exact ⟨rfl, HE.out.pw.bel⟩)
              | (exfalso; omega)
              | (exact absurd f1 (by assumption))
              | (have hd := decide_eq_true (show place l ps i < ss + sc by omega); simp only [hd, Bool.or_true]; go_ret; exact ⟨rfl, HE.out.pw.bel⟩)
              | (have hd := decide_eq_true (show place l ps i < ss + sc by omega); go_ret; refine ⟨?_, HE.out.pw.bel⟩; simp [hd]; done)
        · have hB2 : Below wr.heap.size wr w1 := (Below.refl _ wr).drew.trans hB1
          refine hK _ _ hB2 ?_
          clear hK K'
          repeat (first | (refine m_float ⟨?_, .inl ⟨?_, .inl ?_⟩, fun K' hK => ?_⟩; rotate_left; (first | rfl | (go_simp; done)); (intro w' hS; skip; go_simp; try rfl); (simp only [Act.put, List.setIfInBounds_toArray, List.set_cons_succ, List.set_cons_zero]; refine hK _ ?_; clear hK K')) | (refine m_float ⟨undef, .inr ⟨?_, rfl⟩, fun K' hK => ?_⟩; (first | rfl | (go_simp; done)); (simp only [Act.put, List.setIfInBounds_toArray, List.set_cons_succ, List.set_cons_zero]; refine hK _ ?_; clear hK K')))
          refine m_loud ?_ (fun K' hK => ?_)
          · rintro ⟨_, _, h, _⟩; cases h
          go_wp2
          refine hK _ _ (hB2.alloc hB2.size _) ?_
          clear hK K'
          obtain ⟨hb15, ht5⟩ := new15 w1 (cN (s + 1)) (.slice a3 u.length c3)
          have hb5 := hB2.trans (hb15.mono hB2.size)
          refine m_loud ?_ (fun K' hK => ?_)
          · rintro ⟨_, _, h, _⟩; cases h
          go_wp2
          refine hK _ _ hb5 ?_
          clear hK K'
          revert hb5 ht5 hb15
          generalize (w1.alloc (.cells #[(cN (s + 1)), (.slice a3 u.length c3)] 29)) = W5
          intro hb15 ht5 hb5
          repeat (first | (refine m_float ⟨?_, .inl ⟨?_, .inl ?_⟩, fun K' hK => ?_⟩; rotate_left; (first | rfl | (go_simp; done)); (intro w' hS; skip; go_simp; try rfl); (simp only [Act.put, List.setIfInBounds_toArray, List.set_cons_succ, List.set_cons_zero]; refine hK _ ?_; clear hK K')) | (refine m_float ⟨undef, .inr ⟨?_, rfl⟩, fun K' hK => ?_⟩; (first | rfl | (go_simp; done)); (simp only [Act.put, List.setIfInBounds_toArray, List.set_cons_succ, List.set_cons_zero]; refine hK _ ?_; clear hK K')))
          refine m_nil ?_
          show wpList Try.prog _ _ (List.cons _ _) _ _
          have hs5 := hS3.below hb15
          have H := HH.out.below hb5
          have q0 := Lib.cell_of_heap ht5 0
          have q1 := Lib.cell_of_heap ht5 1
          have t0 := Lib.cell_of_heap H.t 0
          have t1 := Lib.cell_of_heap H.t 1
          have tf := fun j => Lib.frozen_of_heap H.t j
          have HP := Lib.hid (H.put HX hrep hs5 (by omega) HR.out.1 HR.out.2)
          clear H ht5 hs5 hrep hb5
          go_wp2
          go_roundw
          case rel => exact ⟨k + 1, _, a3, c3, u, by go_num, by omega, HP.out⟩
          case measure => simp [intOf]; omega
      · refine m_loud ?_ (fun K' hK => ?_)
        · rintro ⟨_, _, h, _⟩; cases h
        go_wp2
        refine hK _ _ ((Below.refl _ wr).alloc (Nat.le_refl _) _).drew ?_
        clear hK K'
        have Zb : (World.drew (wr.alloc (.cells #[cN 0, .slice none 0 0] 29))).heap[wr.heap.size]? = some (.cells #[cN 0, .slice none 0 0] 29 (0, 0)) := World.alloc_heap_new wr _
        refine m_loud ?_ (fun K' hK => ?_)
        · rintro ⟨_, _, h, _⟩; cases h
        go_wp2_with (go_at_call 7; (with_reducible refine (c7 _ ((Below.refl _ wr).alloc (Nat.le_refl _) _).drew).mono ?_); rintro e w1 ⟨hB1, hh⟩; have Z15 := (hB1.block _ (lt_of_block Zb)).trans Zb; have hB2 : Below wr.heap.size wr w1 := Below.trans ((Below.refl _ wr).alloc (Nat.le_refl _) _).drew (hB1.mono (Below.size ((Below.refl _ wr).alloc (Nat.le_refl _) _).drew)); clear hB1 Zb; rcases hh with rfl | ⟨a3, c3, u, m, rfl, hS3, hrep⟩)
        · refine hK _ _ hB2 ?_
          clear hK K'
          repeat (first | (refine m_float ⟨?_, .inl ⟨?_, .inl ?_⟩, fun K' hK => ?_⟩; rotate_left; (first | rfl | (go_simp; done)); (intro w' hS; skip; go_simp; try rfl); (simp only [Act.put, List.setIfInBounds_toArray, List.set_cons_succ, List.set_cons_zero]; refine hK _ ?_; clear hK K')) | (refine m_float ⟨undef, .inr ⟨?_, rfl⟩, fun K' hK => ?_⟩; (first | rfl | (go_simp; done)); (simp only [Act.put, List.setIfInBounds_toArray, List.set_cons_succ, List.set_cons_zero]; refine hK _ ?_; clear hK K')))
          have z0 := Lib.cell_of_heap Z15 0
          have z1 := Lib.cell_of_heap Z15 1
          have zf := fun j => Lib.frozen_of_heap Z15 j
          refine m_loud ?_ (fun K' hK => ?_)
          · rintro ⟨_, _, h, _⟩; cases h
          go_wp2
          have z2 := row_set 0 (cN 0) Z15
          have ht5 := row_set 1 (.slice none 0 0) z2
          have hb5 := (hB2.setCell (p := ⟨wr.heap.size, 0, none⟩) (Nat.le_refl _) (cN 0)).setCell (p := ⟨wr.heap.size, 1, none⟩) (Nat.le_refl _) (.slice none 0 0)
          have hq5 : ∀ (v : Value) (l : List Sp), SL w1 v l → SL ((w1.setCell ⟨wr.heap.size, 0, none⟩ (cN 0)).setCell ⟨wr.heap.size, 1, none⟩ (.slice none 0 0)) v l := fun v l h => (h.put Z15).put (s := (match (cN 0) with | .int _ n => n | _ => 0)) (a := none) (n := 0) (c := 0) z2
          refine hK _ _ hb5 ?_
          clear hK K' z0 z1 zf z2 Z15
          revert ht5 hb5 hq5
          generalize ((w1.setCell ⟨wr.heap.size, 0, none⟩ (cN 0)).setCell ⟨wr.heap.size, 1, none⟩ (.slice none 0 0)) = W5
          intro ht5 hb5 hq5
          repeat (first | (refine m_float ⟨?_, .inl ⟨?_, .inl ?_⟩, fun K' hK => ?_⟩; rotate_left; (first | rfl | (go_simp; done)); (intro w' hS; skip; go_simp; try rfl); (simp only [Act.put, List.setIfInBounds_toArray, List.set_cons_succ, List.set_cons_zero]; refine hK _ ?_; clear hK K')) | (refine m_float ⟨undef, .inr ⟨?_, rfl⟩, fun K' hK => ?_⟩; (first | rfl | (go_simp; done)); (simp only [Act.put, List.setIfInBounds_toArray, List.set_cons_succ, List.set_cons_zero]; refine hK _ ?_; clear hK K')))
          refine m_nil ?_
          show wpList Try.prog _ _ (List.cons _ _) _ _
          clear hq5
          have H := HH.out.below hb5
          have p00 := Lib.cell_of_heap H.pw.b0 0
          have p01 := Lib.cell_of_heap H.pw.b0 1
          have p10 := Lib.cell_of_heap H.pw.b1 0
          have p11 := Lib.cell_of_heap H.pw.b1 1
          have t0 := Lib.cell_of_heap H.t 0
          have t1 := Lib.cell_of_heap H.t 1
          have HE := Lib.hid H
          clear H
          go_wp2
          refine region_sch (fun w' => w' = World.drew W5) [(true, 0), (true, 1), (true, 2), (true, 3), (true, 4), (true, 5), (true, 6), (true, 7), (true, 8), (true, 9), (true, 10)] [11] (by kernel_rfl) (by kernel_rfl) (by rintro ⟨_, _, h, _⟩; cases h) (fun _ _ d _ _ h => by cases d <;> exact h) rfl ?_
          simp only [pickM, pickT, List.filterMap_cons, List.filterMap_nil, List.getElem?_cons_zero, List.getElem?_cons_succ, Option.map_some]
          repeat (refine m_float ⟨?_, .inl ⟨?_, .inl ?_⟩, fun K' hK => ?_⟩; rotate_left; (first | rfl | (go_simp; done)); (intro w' hS; subst hS; go_simp; try rfl); (simp only [Act.put, List.setIfInBounds_toArray, List.set_cons_succ, List.set_cons_zero]; refine hK _ ?_; clear hK K'))
          refine m_nil ?_
          show wpList Try.prog _ _ (List.cons _ _) _ _
          have G := HE.out.below (Below.refl _ _).drew
          clear HE p00 p01 p10 p11 t0 t1
          have p00 := Lib.cell_of_heap G.pw.b0 0
          have p01 := Lib.cell_of_heap G.pw.b0 1
          have p10 := Lib.cell_of_heap G.pw.b1 0
          have p11 := Lib.cell_of_heap G.pw.b1 1
          have t0 := Lib.cell_of_heap G.t 0
          have t1 := Lib.cell_of_heap G.t 1
          have HE := Lib.hid G
          clear G
          have HF := Lib.hid (fin_ok (ps := ps) (pc := pc) HE.out.va HE.out.ar HI.out)
          go_wp2_with (first | (go_at_call 8; (with_reducible refine (lookup_ok (.slice a l.length c) l ps pc i _ HE.out.sl HI.out.i0 HI.out.i1 HI.out.i2 h1 HI.out.psm HE.out.va.len (fun x hx => (HE.out.va.w x hx).1)).mono ?_); rintro e w6 ⟨rfl, hB6⟩; have G := HE.out.below hB6; clear HE p00 p01 p10 p11 t0 t1; have p00 := Lib.cell_of_heap G.pw.b0 0; have p01 := Lib.cell_of_heap G.pw.b0 1; have p10 := Lib.cell_of_heap G.pw.b1 0; have p11 := Lib.cell_of_heap G.pw.b1 1; have t0 := Lib.cell_of_heap G.t 0; have t1 := Lib.cell_of_heap G.t 1; have HE := Lib.hid G; clear G; clear hB6) | (go_at_call 8; (with_reducible refine (lookup_ok (.slice a l.length c) l ps pc j _ HE.out.sl HI.out.j0 HI.out.j1 HI.out.j2 h1 HI.out.psm HE.out.va.len (fun x hx => (HE.out.va.w x hx).1)).mono ?_); rintro e w6 ⟨rfl, hB6⟩; have G := HE.out.below hB6; clear HE p00 p01 p10 p11 t0 t1; have p00 := Lib.cell_of_heap G.pw.b0 0; have p01 := Lib.cell_of_heap G.pw.b0 1; have p10 := Lib.cell_of_heap G.pw.b1 0; have p11 := Lib.cell_of_heap G.pw.b1 1; have t0 := Lib.cell_of_heap G.t 0; have t1 := Lib.cell_of_heap G.t 1; have HE := Lib.hid G; clear G; clear hB6))
          all_goals
            obtain ⟨f1, f2⟩ := HF.out
            first
              | (go_ret; exact ⟨rfl, HE.out.pw.bel⟩)
              | (exfalso; omega)
              | (exact absurd f1 (by assumption))
              | (have hd := decide_eq_true (show place l ps i < ss + sc by omega); simp only [hd, Bool.or_true]; go_ret; exact ⟨rfl, HE.out.pw.bel⟩)
              | (have hd := decide_eq_true (show place l ps i < ss + sc by omega); go_ret; refine ⟨?_, HE.out.pw.bel⟩; simp [hd]; done)
        · refine hK _ _ hB2 ?_
          clear hK K'
          repeat (first | (refine m_float ⟨?_, .inl ⟨?_, .inl ?_⟩, fun K' hK => ?_⟩; rotate_left; (first | rfl | (go_simp; done)); (intro w' hS; skip; go_simp; try rfl); (simp only [Act.put, List.setIfInBounds_toArray, List.set_cons_succ, List.set_cons_zero]; refine hK _ ?_; clear hK K')) | (refine m_float ⟨undef, .inr ⟨?_, rfl⟩, fun K' hK => ?_⟩; (first | rfl | (go_simp; done)); (simp only [Act.put, List.setIfInBounds_toArray, List.set_cons_succ, List.set_cons_zero]; refine hK _ ?_; clear hK K')))
          have z0 := Lib.cell_of_heap Z15 0
          have z1 := Lib.cell_of_heap Z15 1
          have zf := fun j => Lib.frozen_of_heap Z15 j
          refine m_loud ?_ (fun K' hK => ?_)
          · rintro ⟨_, _, h, _⟩; cases h
          go_wp2
          have z2 := row_set 0 (cN (s + 1)) Z15
          have ht5 := row_set 1 (.slice a3 u.length c3) z2
          have hb5 := (hB2.setCell (p := ⟨wr.heap.size, 0, none⟩) (Nat.le_refl _) (cN (s + 1))).setCell (p := ⟨wr.heap.size, 1, none⟩) (Nat.le_refl _) (.slice a3 u.length c3)
          have hq5 : ∀ (v : Value) (l : List Sp), SL w1 v l → SL ((w1.setCell ⟨wr.heap.size, 0, none⟩ (cN (s + 1))).setCell ⟨wr.heap.size, 1, none⟩ (.slice a3 u.length c3)) v l := fun v l h => (h.put Z15).put (s := (match (cN (s + 1)) with | .int _ n => n | _ => 0)) (a := none) (n := 0) (c := 0) z2
          refine hK _ _ hb5 ?_
          clear hK K' z0 z1 zf z2 Z15
          revert ht5 hb5 hq5
          generalize ((w1.setCell ⟨wr.heap.size, 0, none⟩ (cN (s + 1))).setCell ⟨wr.heap.size, 1, none⟩ (.slice a3 u.length c3)) = W5
          intro ht5 hb5 hq5
          repeat (first | (refine m_float ⟨?_, .inl ⟨?_, .inl ?_⟩, fun K' hK => ?_⟩; rotate_left; (first | rfl | (go_simp; done)); (intro w' hS; skip; go_simp; try rfl); (simp only [Act.put, List.setIfInBounds_toArray, List.set_cons_succ, List.set_cons_zero]; refine hK _ ?_; clear hK K')) | (refine m_float ⟨undef, .inr ⟨?_, rfl⟩, fun K' hK => ?_⟩; (first | rfl | (go_simp; done)); (simp only [Act.put, List.setIfInBounds_toArray, List.set_cons_succ, List.set_cons_zero]; refine hK _ ?_; clear hK K')))
          refine m_nil ?_
          show wpList Try.prog _ _ (List.cons _ _) _ _
          have hs5 := hq5 _ _ hS3
          clear hq5
          have H := HH.out.below hb5
          have q0 := Lib.cell_of_heap ht5 0
          have q1 := Lib.cell_of_heap ht5 1
          have t0 := Lib.cell_of_heap H.t 0
          have t1 := Lib.cell_of_heap H.t 1
          have tf := fun j => Lib.frozen_of_heap H.t j
          have HP := Lib.hid (H.put HX hrep hs5 (by omega) HR.out.1 HR.out.2)
          clear H ht5 hs5 hrep hb5
          go_wp2
          go_roundw
          case rel => exact ⟨k + 1, _, a3, c3, u, by go_num, by omega, HP.out⟩
          case measure => simp [intOf]; omega
    · have H := HH.out
      have p00 := Lib.cell_of_heap H.pw.b0 0
      have p01 := Lib.cell_of_heap H.pw.b0 1
      have p10 := Lib.cell_of_heap H.pw.b1 0
      have p11 := Lib.cell_of_heap H.pw.b1 1
      have t0 := Lib.cell_of_heap H.t 0
      have t1 := Lib.cell_of_heap H.t 1
      have HE := Lib.hid H
      clear H
      go_wp2
      refine region_sch (fun w' => w' = World.drew wr) [(true, 0), (true, 1), (true, 2), (true, 3), (true, 4), (true, 5), (true, 6), (true, 7), (true, 8), (true, 9), (true, 10)] [11] (by kernel_rfl) (by kernel_rfl) (by rintro ⟨_, _, h, _⟩; cases h) (fun _ _ d _ _ h => by cases d <;> exact h) rfl ?_
      simp only [pickM, pickT, List.filterMap_cons, List.filterMap_nil, List.getElem?_cons_zero, List.getElem?_cons_succ, Option.map_some]
      repeat (refine m_float ⟨?_, .inl ⟨?_, .inl ?_⟩, fun K' hK => ?_⟩; rotate_left; (first | rfl | (go_simp; done)); (intro w' hS; subst hS; go_simp; try rfl); (simp only [Act.put, List.setIfInBounds_toArray, List.set_cons_succ, List.set_cons_zero]; refine hK _ ?_; clear hK K'))
      refine m_nil ?_
      show wpList Try.prog _ _ (List.cons _ _) _ _
      have G := HE.out.below (Below.refl _ _).drew
      clear HE p00 p01 p10 p11 t0 t1
      have p00 := Lib.cell_of_heap G.pw.b0 0
      have p01 := Lib.cell_of_heap G.pw.b0 1
      have p10 := Lib.cell_of_heap G.pw.b1 0
      have p11 := Lib.cell_of_heap G.pw.b1 1
      have t0 := Lib.cell_of_heap G.t 0
      have t1 := Lib.cell_of_heap G.t 1
      have HE := Lib.hid G
      clear G
      have HF := Lib.hid (fin_ok (ps := ps) (pc := pc) HE.out.va HE.out.ar HI.out)
      go_wp2_with (first | (go_at_call 8; (with_reducible refine (lookup_ok (.slice a l.length c) l ps pc i _ HE.out.sl HI.out.i0 HI.out.i1 HI.out.i2 h1 HI.out.psm HE.out.va.len (fun x hx => (HE.out.va.w x hx).1)).mono ?_); rintro e w6 ⟨rfl, hB6⟩; have G := HE.out.below hB6; clear HE p00 p01 p10 p11 t0 t1; have p00 := Lib.cell_of_heap G.pw.b0 0; have p01 := Lib.cell_of_heap G.pw.b0 1; have p10 := Lib.cell_of_heap G.pw.b1 0; have p11 := Lib.cell_of_heap G.pw.b1 1; have t0 := Lib.cell_of_heap G.t 0; have t1 := Lib.cell_of_heap G.t 1; have HE := Lib.hid G; clear G; clear hB6) | (go_at_call 8; (with_reducible refine (lookup_ok (.slice a l.length c) l ps pc j _ HE.out.sl HI.out.j0 HI.out.j1 HI.out.j2 h1 HI.out.psm HE.out.va.len (fun x hx => (HE.out.va.w x hx).1)).mono ?_); rintro e w6 ⟨rfl, hB6⟩; have G := HE.out.below hB6; clear HE p00 p01 p10 p11 t0 t1; have p00 := Lib.cell_of_heap G.pw.b0 0; have p01 := Lib.cell_of_heap G.pw.b0 1; have p10 := Lib.cell_of_heap G.pw.b1 0; have p11 := Lib.cell_of_heap G.pw.b1 1; have t0 := Lib.cell_of_heap G.t 0; have t1 := Lib.cell_of_heap G.t 1; have HE := Lib.hid G; clear G; clear hB6))
      all_goals
        obtain ⟨f1, f2⟩ := HF.out
        first
          | (go_ret; exact ⟨rfl, HE.out.pw.bel⟩)
          | (exfalso; omega)
          | (exact absurd f1 (by assumption))
          | (have hd := decide_eq_true (show place l ps i < ss + sc by omega); simp only [hd, Bool.or_true]; go_ret; exact ⟨rfl, HE.out.pw.bel⟩)
          | (have hd := decide_eq_true (show place l ps i < ss + sc by omega); go_ret; refine ⟨?_, HE.out.pw.bel⟩; simp [hd]; done)
end Go.Proofs.Ytocncjimepnlcaa.Two
