/- The reference's Replace. -/
import Derived.Test.YtocncjimepnlcaaGreatCne
import Derived.Test.YtocncjimepnlcaaGreatSpi
import Derived.Test.YtocncjimepnlcaaGreatRgn
namespace Go.Proofs.YtocncjimepnlcaaGreat
set_option linter.unusedSimpArgs false
set_option linter.unusedVariables false
open Go Go.RowKit
/-- The blocks of Replace with the table that is built. -/
structure RY (w : World) (s : Int) (v : Value) (x : Nat) (o : Value) (m : List Sp) (W : World) : Prop where
  rx : RX w s v W
  bx : W.heap[x]? = some (.cells #[cN (s + 1), o] 26 (0, 0))
  lt : w.heap.size + 1 < x
  own : OW (x + 1) o m W
theorem RY.below {w : World} {s : Int} {v : Value} {x : Nat} {o : Value} {m : List Sp} {W W' : World} (h : RY w s v x o m W) (k : Below W.heap.size W W') : RY w s v x o m W' :=
  ⟨h.rx.below k, (k.block _ (lt_of_block h.bx)).trans h.bx, h.lt, h.own.keep k⟩
theorem RY.put {w : World} {s : Int} {v : Value} {x : Nat} {o o' : Value} {m m' : List Sp} {W W' : World} (h : RY w s v x o m W) (k : Below W.heap.size W W') (ho : OW W.heap.size o' m' W') : RY w s v x o' m' (W'.setCell ⟨x, 1, none⟩ o') := by
  have hx := lt_of_block h.bx
  have h2 := h.below k
  have hl := h.lt
  exact ⟨⟨row_other 1 o' h2.rx.b0 (by omega), row_other 1 o' h2.rx.b1 (by omega), h2.rx.bel.setCell (p := ⟨x, 1, none⟩) (by simp only; omega) _⟩, row_set 1 o' h2.bx, hl, (ho.base (b' := x + 1) (by omega)).other (by omega)⟩
theorem RY.start {w : World} {s : Int} {v : Value} {W : World} (h : RX w s v W) : RY w s v W.heap.size (.slice none 0 0) [] (W.alloc (.cells #[cN (s + 1), .slice none 0 0] 26)) :=
  ⟨h.below ((Below.refl _ W).alloc (Nat.le_refl _) _), World.alloc_heap_new W _, lt_of_block h.b1, OW.nil _ _⟩
/-- What the last region reads. -/
structure RZ (w : World) (s : Int) (v : Value) (x : Nat) (o : Value) (W : World) : Prop where
  b0 : W.heap[w.heap.size]? = some (.cells #[cN s, v] 26 (0, 0))
  bx : W.heap[x]? = some (.cells #[cN (s + 1), o] 26 (0, 0))
  bel : Below w.heap.size w W
theorem RY.rz {w : World} {s : Int} {v : Value} {x : Nat} {o : Value} {m : List Sp} {W : World} (h : RY w s v x o m W) : RZ w s v x o W := ⟨h.rx.b0, h.bx, h.rx.bel⟩
theorem RY.fin {w : World} {s : Int} {v : Value} {x : Nat} {o : Value} {m : List Sp} {W : World} (h : RY w s v x o m W) : let W2 := (W.setCell ⟨w.heap.size + 1, 0, none⟩ (.int .i64 (s + 1))).setCell ⟨w.heap.size + 1, 1, none⟩ o
    RZ w s v x o W2 ∧ OW w.heap.size o m W2 := by
  obtain ⟨-, -, hq⟩ := h.rx.res (s + 1) o
  have hl := h.lt
  exact ⟨⟨row_other 1 o (row_other 0 _ h.rx.b0 (by omega)) (by omega), row_other 1 o (row_other 0 _ h.bx (by omega)) (by omega), hq⟩, ((h.own.other (i := 0) (u := .int .i64 (s + 1)) (g := w.heap.size + 1) (by omega)).other (i := 1) (u := o) (g := w.heap.size + 1) (by omega)).base (by omega)⟩
theorem RZ.drew {w : World} {s : Int} {v : Value} {x : Nat} {o : Value} {W : World} (h : RZ w s v x o W) : RZ w s v x o W.drew := ⟨h.b0, h.bx, h.bel.drew⟩
set_option maxRecDepth 100000 in
set_option maxHeartbeats 8000000 in
theorem rreplace_walk (s block : Int) (v : Value) (l : List Sp) (w : World) (h : SL w v l) (hv : validB s l = true) (h0 : 0 ≤ block) (h1 : block ≤ 4294967279) :
    Calls Tryz.prog 17 #[.agg #[cN s, v], cN block] w (RRPost s block l w) := by
  obtain ⟨a, c, rfl, hrow⟩ := h.rows
  have V := (valid_iff s l).1 hv
  have hl8 := V.len
  have hs0 := V.s0
  have hs1 := V.s1
  have c1 := fun (W : World) (k : Below w.heap.size w W) => rvalid_ok s _ l W (h.below k)
  rw [hv] at c1
  have HR := Lib.hid hrow
  unfold RRPost
  obtain ⟨f, hf⟩ : ∃ f, block - block % 8 = f := ⟨_, rfl⟩
  rw [hf]
  have hd2 : Int.tdiv block 8 * 8 = f := by rw [Int.tdiv_eq_ediv_of_nonneg h0]; omega
  have hd : IntKind.i64.wrap (Int.tdiv block 8) = Int.tdiv block 8 := by rw [IntKind.wrap_i64, Int.tdiv_eq_ediv_of_nonneg h0]; omega
  have hd3 : IntKind.i64.wrap f = f := by rw [IntKind.wrap_i64]; omega
  have hb1 : ¬ block < 0 := by omega
  have hb2 : ¬ 4294967279 < block := by omega
  clear h hv V hrow hf
  go_enter Tryz.func17, Tryz.ntmps17
  go_wp2_with (go_at_call 13; (with_reducible refine (c1 _ (RX.start w s _).bel).mono ?_); rintro e w1 ⟨rfl, hB1⟩; have HX := Lib.hid ((RX.start w s (.slice a l.length c)).below hB1); clear hB1 c1; have p0 := Lib.cell_of_heap HX.out.b1 0; have p1 := Lib.cell_of_heap HX.out.b1 1; have pf := (fun j => Lib.frozen_of_heap HX.out.b1 j))
  go_loopw [8, 7] (fun i o wr => ∃ k : Nat, i = cN k ∧ k ≤ l.length ∧ o = cN (bestK l k) ∧ RX w s (.slice a l.length c) wr) (fun i _ _ => l.length - (intOf i).toNat)
  case atStart => exact ⟨0, rfl, Nat.zero_le _, rfl, HX.out⟩
  case round =>
    clear HX p0 p1 pf
    obtain ⟨k, rfl, hk, rfl, hX⟩ := hrel
    have HX := Lib.hid hX
    have p2 := Lib.cell_of_heap hX.b0 1
    clear hX
    have hspec := bestK_spec l k hk
    by_cases hlt : (k : Int) < (l.length : Int)
    · have hkl : k < l.length := by omega
      obtain ⟨b, off, rfl, hlc, hb, hc0, hc1⟩ := HR.out k hkl
      have q0 := (HX.out.bel.cell (p := ⟨b, off + k * 2, none⟩) hb).trans hc0
      have q1 := (HX.out.bel.cell (p := ⟨b, off + k * 2 + 1, none⟩) hb).trans hc1
      obtain ⟨xo, xm, hx⟩ : ∃ xo xm, at_ l k = (xo, xm) := ⟨_, _, rfl⟩
      rw [hx] at q0 q1
      have hkc : (k : Int) ≤ (c : Int) := by omega
      simp only at q0 q1
      clear hc0 hc1
      cases hu : (xo == 4294967295)
      · have HE := Lib.hid (bestK_no (m := l) (k := k) (by rw [hx]; rw [beq_eq_false_iff_ne] at hu; exact hu))
        generalize bestK l k = bk at *
        clear hspec hx
        go_wp2
        refine region_sch (fun w' => w' = wr.drew) [(true, 0), (true, 1), (true, 2), (true, 3), (true, 4), (true, 5), (true, 6), (true, 7), (true, 8), (true, 9), (true, 10), (true, 11), (true, 12), (true, 13), (true, 14), (true, 15), (true, 16), (true, 17), (true, 18), (true, 19), (true, 20), (true, 21), (true, 22)] [23, 24, 25] (by kernel_rfl) (by kernel_rfl) (by rintro ⟨_, _, -, h⟩; rcases h with ⟨h, -⟩ | ⟨h, -⟩ | ⟨_, _, h, -⟩ <;> cases h) (fun _ _ d _ _ h => by cases d <;> exact h) rfl ?_
        simp only [pickM, pickT, List.filterMap_cons, List.filterMap_nil, List.getElem?_cons_zero, List.getElem?_cons_succ, Option.map_some]
        repeat (first | (refine m_float ⟨?_, .inl ⟨?_, .inl ?_⟩, fun K' hK => ?_⟩; rotate_left; (first | rfl | (go_simp; done)); (intro w' hS; subst hS; go_simp; try rfl); (simp only [Act.put, List.setIfInBounds_toArray, List.set_cons_succ, List.set_cons_zero]; refine hK _ ?_; clear hK K')) | (refine m_float ⟨undef, .inr ⟨?_, rfl⟩, fun K' hK => ?_⟩; (first | rfl | (go_simp; done)); (simp only [Act.put, List.setIfInBounds_toArray, List.set_cons_succ, List.set_cons_zero]; refine hK _ ?_; clear hK K')))
        refine m_nil ?_
        show wpList Tryz.prog _ _ (List.cons _ _) _ _
        go_wp2
        go_roundw
        case rel => exact ⟨k + 1, by go_num, by omega, by rw [HE.out], HX.out.below (Below.refl _ wr).drew⟩
        case measure => simp [intOf]; omega
      · have hun : (at_ l k).1 = UN := by rw [hx]; rw [beq_iff_eq] at hu; exact hu
        rcases hspec with ⟨hb, -⟩ | ⟨j, hb, hjk, hju⟩
        · have HE := Lib.hid (bestK_yes hun hb)
          rw [hb]
          clear hun hb hx
          go_wp2
          refine region_sch (fun w' => w' = wr.drew) [(true, 0), (true, 1), (true, 2), (true, 3), (true, 4), (true, 5), (true, 6), (true, 7), (true, 8), (true, 9), (true, 10), (true, 11), (true, 12), (true, 13), (true, 14), (true, 15), (true, 16), (true, 17), (true, 18), (true, 19), (true, 20), (true, 21), (true, 22)] [23, 24, 25] (by kernel_rfl) (by kernel_rfl) (by rintro ⟨_, _, -, h⟩; rcases h with ⟨h, -⟩ | ⟨h, -⟩ | ⟨_, _, h, -⟩ <;> cases h) (fun _ _ d _ _ h => by cases d <;> exact h) rfl ?_
          simp only [pickM, pickT, List.filterMap_cons, List.filterMap_nil, List.getElem?_cons_zero, List.getElem?_cons_succ, Option.map_some]
          repeat (first | (refine m_float ⟨?_, .inl ⟨?_, .inl ?_⟩, fun K' hK => ?_⟩; rotate_left; (first | rfl | (go_simp; done)); (intro w' hS; subst hS; go_simp; try rfl); (simp only [Act.put, List.setIfInBounds_toArray, List.set_cons_succ, List.set_cons_zero]; refine hK _ ?_; clear hK K')) | (refine m_float ⟨undef, .inr ⟨?_, rfl⟩, fun K' hK => ?_⟩; (first | rfl | (go_simp; done)); (simp only [Act.put, List.setIfInBounds_toArray, List.set_cons_succ, List.set_cons_zero]; refine hK _ ?_; clear hK K')))
          refine m_nil ?_
          show wpList Tryz.prog _ _ (List.cons _ _) _ _
          go_wp2
          go_roundw
          case rel => exact ⟨k + 1, by go_num, by omega, by rw [HE.out], HX.out.below (Below.refl _ wr).drew⟩
          case measure => simp [intOf]; omega
        · have hjl : j < l.length := by omega
          obtain ⟨b', off', e', -, -, hc0, hc1⟩ := HR.out j hjl
          injection e' with e'
          injection e' with e1 e2 e3
          subst e1 e2
          have r1 := (HX.out.bel.cell (p := ⟨b, off + j * 2 + 1, none⟩) ‹b < w.heap.size›).trans hc1
          obtain ⟨ym, hy⟩ : ∃ ym, (at_ l j).2 = ym := ⟨_, rfl⟩
          rw [hy] at r1
          rw [hb]
          have hj0 : ¬ (j : Int) < 0 := by omega
          have hjI : (j : Int) < (l.length : Int) := by omega
          by_cases hlt2 : xm < ym
          · have HE := Lib.hid (bestK_new hun hb (by rw [hx, hy]; exact hlt2))
            clear hun hb hx hy hc0 hc1 hju
            go_wp2
            refine region_sch (fun w' => w' = wr.drew) [(true, 0), (true, 1), (true, 2), (true, 3), (true, 4), (true, 5), (true, 6), (true, 7), (true, 8), (true, 9), (true, 10), (true, 11), (true, 12), (true, 13), (true, 14), (true, 15), (true, 16), (true, 17), (true, 18), (true, 19), (true, 20), (true, 21), (true, 22)] [23, 24, 25] (by kernel_rfl) (by kernel_rfl) (by rintro ⟨_, _, -, h⟩; rcases h with ⟨h, -⟩ | ⟨h, -⟩ | ⟨_, _, h, -⟩ <;> cases h) (fun _ _ d _ _ h => by cases d <;> exact h) rfl ?_
            simp only [pickM, pickT, List.filterMap_cons, List.filterMap_nil, List.getElem?_cons_zero, List.getElem?_cons_succ, Option.map_some]
            repeat (first | (refine m_float ⟨?_, .inl ⟨?_, .inl ?_⟩, fun K' hK => ?_⟩; rotate_left; (first | rfl | (go_simp; done)); (intro w' hS; subst hS; go_simp; try rfl); (simp only [Act.put, List.setIfInBounds_toArray, List.set_cons_succ, List.set_cons_zero]; refine hK _ ?_; clear hK K')) | (refine m_float ⟨undef, .inr ⟨?_, rfl⟩, fun K' hK => ?_⟩; (first | rfl | (go_simp; done)); (simp only [Act.put, List.setIfInBounds_toArray, List.set_cons_succ, List.set_cons_zero]; refine hK _ ?_; clear hK K')))
            refine m_nil ?_
            show wpList Tryz.prog _ _ (List.cons _ _) _ _
            go_wp2
            go_roundw
            case rel => exact ⟨k + 1, by go_num, by omega, by rw [HE.out], HX.out.below (Below.refl _ wr).drew⟩
            case measure => simp [intOf]; omega
          · have HE : Hid (bestK l (k + 1) = (j : Int)) := Lib.hid ((bestK_old hb (by rw [hx, hy]; exact hlt2)).trans hb)
            clear hun hb hx hy hc0 hc1 hju
            go_wp2
            refine region_sch (fun w' => w' = wr.drew) [(true, 0), (true, 1), (true, 2), (true, 3), (true, 4), (true, 5), (true, 6), (true, 7), (true, 8), (true, 9), (true, 10), (true, 11), (true, 12), (true, 13), (true, 14), (true, 15), (true, 16), (true, 17), (true, 18), (true, 19), (true, 20), (true, 21), (true, 22)] [23, 24, 25] (by kernel_rfl) (by kernel_rfl) (by rintro ⟨_, _, -, h⟩; rcases h with ⟨h, -⟩ | ⟨h, -⟩ | ⟨_, _, h, -⟩ <;> cases h) (fun _ _ d _ _ h => by cases d <;> exact h) rfl ?_
            simp only [pickM, pickT, List.filterMap_cons, List.filterMap_nil, List.getElem?_cons_zero, List.getElem?_cons_succ, Option.map_some]
            repeat (first | (refine m_float ⟨?_, .inl ⟨?_, .inl ?_⟩, fun K' hK => ?_⟩; rotate_left; (first | rfl | (go_simp; done)); (intro w' hS; subst hS; go_simp; try rfl); (simp only [Act.put, List.setIfInBounds_toArray, List.set_cons_succ, List.set_cons_zero]; refine hK _ ?_; clear hK K')) | (refine m_float ⟨undef, .inr ⟨?_, rfl⟩, fun K' hK => ?_⟩; (first | rfl | (go_simp; done)); (simp only [Act.put, List.setIfInBounds_toArray, List.set_cons_succ, List.set_cons_zero]; refine hK _ ?_; clear hK K')))
            refine m_nil ?_
            show wpList Tryz.prog _ _ (List.cons _ _) _ _
            go_wp2
            go_roundw
            case rel => exact ⟨k + 1, by go_num, by omega, by rw [HE.out], HX.out.below (Below.refl _ wr).drew⟩
            case measure => simp [intOf]; omega
    · obtain rfl : k = l.length := by omega
      have p0 := Lib.cell_of_heap HX.out.b1 0
      have p1 := Lib.cell_of_heap HX.out.b1 1
      have pf := fun j => Lib.frozen_of_heap HX.out.b1 j
      have p3 := Lib.cell_of_heap HX.out.b0 0
      rcases hspec with ⟨hb, -⟩ | ⟨b, hb, hbk, hbu⟩
      · have HE := Lib.hid hb
        rw [hb]
        clear hb
        go_wp2
        obtain ⟨q0, q1, hq⟩ := HX.out.res 0 (.slice none 0 0)
        refine bodyPost_ret (v := .tuple #[.agg #[cN 0, .slice none 0 0], cN 0, cN 12]) ?_ rfl ⟨hq, .inl ⟨rfl, HE.out⟩⟩
        simp [results, Tryz.results17, go_sem, q0, q1]
      · have HE := Lib.hid (And.intro hb hbu)
        rw [hb]
        have hb0 : ¬ (b : Int) < 0 := by omega
        clear hb hbu
        cases hs : (s == 4294967295)
        · have HS : Hid (s ≠ 4294967295) := Lib.hid (by rw [beq_eq_false_iff_ne] at hs; exact hs)
          have hs2 : IntKind.i64.wrap (s + 1) = s + 1 := by rw [IntKind.wrap_i64]; omega
          have HY0 := Lib.hid (RY.start HX.out)
          go_wp2
          generalize wr.heap.size = x at *
          clear p0 p1 pf p2 p3
          go_loopw [11] (fun i wq => ∃ (k : Nat) (o : Value), i = cN k ∧ k ≤ l.length ∧ RY w s (.slice a l.length c) x o (outR l b f k) wq) (fun i _ => l.length - (intOf i).toNat)
          case atStart => exact ⟨0, _, rfl, Nat.zero_le _, HY0.out⟩
          case round =>
            clear HY0 HX hk hlt
            obtain ⟨k, o, rfl, hk, hY⟩ := hrel
            obtain ⟨a7, c7, rfl⟩ := hY.own.form
            have HY := Lib.hid hY
            have p2 := Lib.cell_of_heap hY.rx.b0 1
            have hln := outR_len l b f k
            clear hY
            by_cases hlt : (k : Int) < (l.length : Int)
            · have hkl : k < l.length := by omega
              obtain ⟨g, off, rfl, hlc, hg, hc0, hc1⟩ := HR.out k hkl
              have q0 := (HY.out.rx.bel.cell (p := ⟨g, off + k * 2, none⟩) hg).trans hc0
              have q1 := (HY.out.rx.bel.cell (p := ⟨g, off + k * 2 + 1, none⟩) hg).trans hc1
              obtain ⟨xo, xm, hx⟩ : ∃ xo xm, at_ l k = (xo, xm) := ⟨_, _, rfl⟩
              rw [hx] at q0 q1
              have hkc : (k : Int) ≤ (c : Int) := by omega
              simp only at q0 q1
              clear hc0 hc1
              have HB5 : Hid (Below wr.heap.size wr (wr.alloc (.cells #[cN xo, cN xm] 48))) := Lib.hid ((Below.refl _ wr).alloc (Nat.le_refl _) _)
              have HN5 := Lib.hid (World.alloc_heap_new wr (.cells #[cN xo, cN xm] 48))
              have HL := Lib.hid (show (outR l b f k).length ≤ 1000 by omega)
              by_cases hkb : k = b
              · subst hkb
                have HO : Hid (outR l k f (k + 1) = insM (f, xm) (outR l k f k)) := Lib.hid (by rw [outR, if_pos rfl, hx])
                have HN6 := Lib.hid (row_set 0 (cN f) HN5.out)
                have HB6 : Hid (Below wr.heap.size wr ((wr.alloc (.cells #[cN xo, cN xm] 48)).setCell ⟨wr.heap.size, 0, none⟩ (cN f))) := Lib.hid (HB5.out.setCell (p := ⟨wr.heap.size, 0, none⟩) (Nat.le_refl _) _)
                have HY6 := Lib.hid (HY.out.below HB6.out)
                have fz := fun j => Lib.frozen_of_heap HN5.out j
                have g0 := Lib.cell_of_heap HN5.out 0
                have g1 := Lib.cell_of_heap HN5.out 1
                have d0 := Lib.cell_of_heap HN6.out 0
                have d1 := Lib.cell_of_heap HN6.out 1
                have e0 := Lib.cell_of_heap HY6.out.bx 1
                generalize hW5 : wr.alloc (.cells #[cN xo, cN xm] 48) = W5 at *
                generalize hW6 : W5.setCell ⟨wr.heap.size, 0, none⟩ (cN f) = W6 at *
                clear hx
                go_wp2_with fail
                with_reducible refine (insert_ok _ _ f xm _ HY6.out.own.sl HL.out).mono ?_
                rintro e w6 ⟨v6, rfl, hO6, hB6⟩
                have HY7 := Lib.hid (HY6.out.put hB6 hO6)
                obtain ⟨a8, c8, rfl⟩ := hO6.form
                have f7 := Lib.frozen_of_heap (HY6.out.below hB6).bx 1
                have f8 := Lib.cell_of_heap (HY6.out.below hB6).bx 1
                clear hO6 hB6
                go_wp2
                go_roundw
                case rel => exact ⟨k + 1, _, by go_num, by omega, by rw [HO.out]; exact HY7.out⟩
                case measure => simp [intOf]; omega
              · have hkB : ((k : Int) == (b : Int)) = false := by rw [beq_eq_false_iff_ne]; omega
                cases hxf : (xo == f)
                · have HO : Hid (outR l b f (k + 1) = insM (xo, xm) (outR l b f k)) := Lib.hid (by rw [outR, if_neg hkb, hx, if_neg (by rw [beq_eq_false_iff_ne] at hxf; exact hxf)])
                  have HY5 := Lib.hid (HY.out.below HB5.out)
                  have d0 := Lib.cell_of_heap HN5.out 0
                  have d1 := Lib.cell_of_heap HN5.out 1
                  have e0 := Lib.cell_of_heap HY5.out.bx 1
                  generalize hW5 : wr.alloc (.cells #[cN xo, cN xm] 48) = W5 at *
                  clear hx
                  go_wp2_with fail
                  with_reducible refine (insert_ok _ _ xo xm _ HY5.out.own.sl HL.out).mono ?_
                  rintro e w6 ⟨v6, rfl, hO6, hB6⟩
                  have HY7 := Lib.hid (HY5.out.put hB6 hO6)
                  obtain ⟨a8, c8, rfl⟩ := hO6.form
                  have f7 := Lib.frozen_of_heap (HY5.out.below hB6).bx 1
                  have f8 := Lib.cell_of_heap (HY5.out.below hB6).bx 1
                  clear hO6 hB6
                  go_wp2
                  go_roundw
                  case rel => exact ⟨k + 1, _, by go_num, by omega, by rw [HO.out]; exact HY7.out⟩
                  case measure => simp [intOf]; omega
                · have HO : Hid (outR l b f (k + 1) = outR l b f k) := Lib.hid (by rw [outR, if_neg hkb, hx, if_pos (by rw [beq_iff_eq] at hxf; exact hxf)])
                  clear hx
                  go_wp2
                  go_roundw
                  case rel => exact ⟨k + 1, _, by go_num, by omega, by rw [HO.out]; exact HY.out.below HB5.out⟩
                  case measure => simp [intOf]; omega
            · obtain rfl : k = l.length := by omega
              obtain ⟨g, off, rfl, hlc, hg, hc0, hc1⟩ := HR.out b hbk
              obtain ⟨m, hm⟩ : ∃ m, (at_ l b).2 = m := ⟨_, rfl⟩
              rw [hm] at hc1
              have HM := Lib.hid hm
              have hbI : (b : Int) < (l.length : Int) := by omega
              have hbc : (b : Int) ≤ (c : Int) := by omega
              have CX : Hid (∀ W, RZ w s (.slice (some ⟨g, off, none⟩) l.length c) x (.slice a7 (outR l b f l.length).length c7) W → W.cell? ⟨g, off + b * 2 + 1, none⟩ = some (cN m) ∧ W.cell? ⟨w.heap.size, 1, none⟩ = some (.slice (some ⟨g, off, none⟩) l.length c) ∧ W.cell? ⟨x, 0, none⟩ = some (cN (s + 1)) ∧ W.cell? ⟨x, 1, none⟩ = some (.slice a7 (outR l b f l.length).length c7)) := Lib.hid fun W hW => ⟨(hW.bel.cell (p := ⟨g, off + b * 2 + 1, none⟩) hg).trans hc1, Lib.cell_of_heap hW.b0 1, Lib.cell_of_heap hW.bx 0, Lib.cell_of_heap hW.bx 1⟩
              clear hm hc0 hc1
              have HYd := Lib.hid (HY.out.below (Below.refl _ wr).drew)
              have p0 := Lib.cell_of_heap HY.out.rx.b1 0
              have p1 := Lib.cell_of_heap HY.out.rx.b1 1
              have pf := fun j => Lib.frozen_of_heap HY.out.rx.b1 j
              go_wp2
              refine region_sch (fun W => RZ w s (.slice (some ⟨g, off, none⟩) l.length c) x (.slice a7 (outR l b f l.length).length c7) W) [(true, 0), (true, 1), (true, 2), (true, 3), (true, 4), (true, 5), (true, 6), (false, 7)] [8, 9] (by kernel_rfl) (by kernel_rfl) (by rintro ⟨_, _, -, h⟩; rcases h with ⟨h, -⟩ | ⟨h, -⟩ | ⟨_, _, h, -⟩ <;> cases h) (fun _ _ d _ _ h => by cases d <;> exact h) HYd.out.rz ?_
              simp only [pickM, pickT, List.filterMap_cons, List.filterMap_nil, List.getElem?_cons_zero, List.getElem?_cons_succ, Option.map_some]
              repeat (first | (refine m_float ⟨?_, .inl ⟨?_, .inl ?_⟩, fun K' hK => ?_⟩; rotate_left; (first | rfl | (go_simp; done)); (intro w' hS; (obtain ⟨q0, q1, q2, q3⟩ := CX.out _ hS); go_simp; try rfl); (simp only [Act.put, List.setIfInBounds_toArray, List.set_cons_succ, List.set_cons_zero]; refine hK _ ?_; clear hK K')) | (refine m_float ⟨undef, .inr ⟨?_, rfl⟩, fun K' hK => ?_⟩; (first | rfl | (go_simp; done)); (simp only [Act.put, List.setIfInBounds_toArray, List.set_cons_succ, List.set_cons_zero]; refine hK _ ?_; clear hK K')))
              refine m_loud ?_ (fun K' hK => ?_)
              · rintro ⟨_, _, -, h⟩; rcases h with ⟨h, -⟩ | ⟨h, -⟩ | ⟨_, _, h, -⟩ <;> cases h
              go_wp2
              have HZ := Lib.hid HY.out.fin
              have HQ := Lib.hid (HY.out.rx.res (s + 1) (.slice a7 (outR l b f l.length).length c7))
              refine hK _ _ (HZ.out.1.drew) ?_
              clear hK K'
              refine m_nil ?_
              show wpList Tryz.prog _ _ (List.cons _ _) _ _
              go_wp2
              obtain ⟨z0, z1, -⟩ := HQ.out
              refine bodyPost_ret (v := .tuple #[.agg #[cN (s + 1), .slice a7 (outR l b f l.length).length c7], cN m, cN 0]) ?_ rfl ⟨HZ.out.1.bel.drew, .inr (.inr ⟨_, b, by rw [HM.out], ?_, HE.out.1, hbk, HE.out.2, HS.out⟩)⟩
              · simp [results, Tryz.results17, go_sem, z0, z1]
              · exact HZ.out.2.sl.below (Below.refl _ _).drew
        · have HS : Hid (s = 4294967295) := Lib.hid (by rw [beq_iff_eq] at hs; exact hs)
          go_wp2
          obtain ⟨q0, q1, hq⟩ := HX.out.res 0 (.slice none 0 0)
          refine bodyPost_ret (v := .tuple #[.agg #[cN 0, .slice none 0 0], cN 0, cN 7]) ?_ rfl ⟨hq, .inr (.inl ⟨rfl, HS.out, b, HE.out.1⟩)⟩
          simp [results, Tryz.results17, go_sem, q0, q1]
end Go.Proofs.YtocncjimepnlcaaGreat
