/- The reference's insert. -/
import Derived.Test.YtocncjimepnlcaaGreatCnc
namespace Go.Proofs.YtocncjimepnlcaaGreat
set_option linter.unusedSimpArgs false
set_option linter.unusedVariables false
open Go Go.RowKit
set_option maxRecDepth 100000 in
set_option maxHeartbeats 4000000 in
theorem insert_walk (a : Option Addr) (c : Nat) (l : List Sp) (x0 x1 : Int) (w : World) (hl : l.length ≤ 1000) (hrow : ∀ k, k < l.length → ∃ b off, a = some ⟨b, off, none⟩ ∧ l.length ≤ c ∧ b < w.heap.size ∧ w.cell? ⟨b, off + k * 2, none⟩ = some (cN (at_ l k).1) ∧ w.cell? ⟨b, off + k * 2 + 1, none⟩ = some (cN (at_ l k).2)) :
    Calls Tryz.prog 37 #[.slice a l.length c, .agg #[cN x0, cN x1]] w fun e w' => ∃ v, e = .returned v ∧ OW w.heap.size v (insM (x0, x1) l) w' ∧ Below w.heap.size w w' := by
  obtain ⟨i0, hi, hz0, hz1, hz2⟩ := info_parts spInfo
  have HR := Lib.hid hrow
  clear hrow
  go_enter Tryz.func37, Tryz.ntmps37
  go_wp2
  go_loopw [7, 5, 6] (fun i o d wr => ∃ (k : Nat), i = cN k ∧ k ≤ l.length ∧ d = .bool ((l.take k).any (befB (x0, x1))) ∧ IS w x0 x1 o (insK (x0, x1) (l.take k)) wr) (fun i _ _ _ => l.length - (intOf i).toNat)
  case atStart => exact ⟨0, rfl, Nat.zero_le _, rfl, IS.start w x0 x1⟩
  case round =>
    obtain ⟨k, rfl, hk, rfl, hI⟩ := hrel
    obtain ⟨a5, c5, rfl⟩ := hI.own.form
    have HI := Lib.hid hI
    clear hI
    have hln : (insK (x0, x1) (l.take k)).length ≤ k + 1 := by
      have h1 := insK_len (x0, x1) (l.take k)
      rw [List.length_take] at h1
      omega
    by_cases hlt : (k : Int) < (l.length : Int)
    · have hkl : k < l.length := by omega
      obtain ⟨b, off, rfl, hlc, hb, hc0, hc1⟩ := HR.out k hkl
      have hbw : b < wr.heap.size := by have := HI.out.bel.size; omega
      have q0 := (HI.out.bel.cell (p := ⟨b, off + k * 2, none⟩) hb).trans hc0
      have q1 := (HI.out.bel.cell (p := ⟨b, off + k * 2 + 1, none⟩) hb).trans hc1
      have HT := Lib.hid (take_snocS l k hkl)
      obtain ⟨yo, ym, hy⟩ : ∃ yo ym, at_ l k = (yo, ym) := ⟨_, _, rfl⟩
      rw [hy] at q0 q1 HT
      have HQ := Lib.hid (And.intro hc0 hc1)
      have hkc : (k : Int) ≤ (c : Int) := by omega
      have hkk : (k : Int) < (l.length : Int) := hlt
      have p0 := Lib.cell_of_heap HI.out.b0 0
      have p1 := Lib.cell_of_heap HI.out.b0 1
      clear hc0 hc1
      generalize hT : l.take k = t at *
      cases hd : t.any (befB (x0, x1))
      · have cb := fun W => before_ok x0 x1 yo ym W
        cases hy : befB (x0, x1) (yo, ym)
        · rw [hy] at cb
          have HK := Lib.hid (insK_past (x0, x1) (yo, ym) t hd hy)
          have HD : Hid (((t ++ [(yo, ym)]).any (befB (x0, x1))) = false) := Lib.hid (by rw [List.any_append, hd]; simp [hy])
          clear hd hy
          go_wp2
          refine region_sch (fun w' => w' = wr.drew) [(true, 0), (true, 1), (true, 2), (true, 3), (true, 4), (true, 5), (true, 6), (true, 7)] [8, 9] (by kernel_rfl) (by kernel_rfl) (by rintro ⟨_, _, _, h, -⟩; cases h) (fun _ _ d _ _ h => by cases d <;> exact h) rfl ?_
          simp only [pickM, pickT, List.filterMap_cons, List.filterMap_nil, List.getElem?_cons_zero, List.getElem?_cons_succ, Option.map_some]
          repeat (first | (refine m_float ⟨?_, .inl ⟨?_, .inl ?_⟩, fun K' hK => ?_⟩; rotate_left; (first | rfl | (go_simp; done)); (intro w' hS; subst hS; go_simp; try rfl); (simp only [Act.put, List.setIfInBounds_toArray, List.set_cons_succ, List.set_cons_zero]; refine hK _ ?_; clear hK K')) | (refine m_float ⟨undef, .inr ⟨?_, rfl⟩, fun K' hK => ?_⟩; (first | rfl | (go_simp; done)); (simp only [Act.put, List.setIfInBounds_toArray, List.set_cons_succ, List.set_cons_zero]; refine hK _ ?_; clear hK K')))
          refine m_nil ?_
          show wpList Tryz.prog _ _ (List.cons _ _) _ _
          go_wp2_with fail
          with_reducible refine (cb _).mono ?_
          rintro e w5 ⟨rfl, hB5⟩
          have HI6 := Lib.hid (HI.out.below ((Below.refl _ wr).drew.trans (hB5.mono (Nat.le_refl _))))
          have r0 := (HI6.out.bel.cell (p := ⟨b, off + k * 2, none⟩) hb).trans HQ.out.1
          have r1 := (HI6.out.bel.cell (p := ⟨b, off + k * 2 + 1, none⟩) hb).trans HQ.out.2
          have s0 := Lib.cell_of_heap HI6.out.b0 0
          have s1 := Lib.cell_of_heap HI6.out.b0 1
          clear q0 q1 p0 p1
          go_wp2_with (at_builtin; refine wpList_append_own _ rfl _ _ 24 rfl (w.heap.size + 1) 48 i0 (.agg #[.int .i64 0, .int .i64 0]) 2 16 Tryz.underlying24 hi hz0 hz1 hz2 rfl (by decide) _ (List.length (insK (x0, x1) t)) (flat (insK (x0, x1) t)) rfl (HI6.out.own.keep ((Below.refl _ w5).alloc (Nat.le_refl _) _)) ⟨w5.heap.size, 0, none⟩ 1 1 [cN yo, cN ym] rfl rfl ?c1 ?c2 ?c3 ?c4 ?c5 ?_)
          try case c1 => intro j u hj; exact cells2 _ _ _ _ j u hj
          case c2 => first | (intro u hu; simp at hu; rcases hu with rfl | rfl <;> rfl) | exact ⟨rfl, rfl⟩
          case c3 => have := hln; unfold maxLen; omega
          case c4 => have := hln; omega
          case c5 => have h0 := lt_of_block HI6.out.b0; simp; omega
          intro v' w7 hown hgrow _
          have HI7 : Hid (IS w x0 x1 v' ((insK (x0, x1) t) ++ [(yo, ym)]) w7) := Lib.hid (HI6.out.app (by first | exact hown | simpa using hown) (by first | exact hgrow | simpa using hgrow | exact id hgrow))
          clear hown hgrow
          obtain ⟨a7, c7, rfl⟩ := HI7.out.own.form
          go_wp2
          go_roundw
          case rel => exact ⟨k + 1, by go_num, by omega, by rw [HT.out, HD.out], by rw [HT.out, HK.out]; exact HI7.out⟩
          case measure => simp [intOf]; omega
        · rw [hy] at cb
          have HK := Lib.hid (insK_here (x0, x1) (yo, ym) t hd hy)
          have HD : Hid (((t ++ [(yo, ym)]).any (befB (x0, x1))) = true) := Lib.hid (by rw [List.any_append, hd]; simp [hy])
          clear hd hy
          go_wp2
          refine region_sch (fun w' => w' = wr.drew) [(true, 0), (true, 1), (true, 2), (true, 3), (true, 4), (true, 5), (true, 6), (true, 7)] [8, 9] (by kernel_rfl) (by kernel_rfl) (by rintro ⟨_, _, _, h, -⟩; cases h) (fun _ _ d _ _ h => by cases d <;> exact h) rfl ?_
          simp only [pickM, pickT, List.filterMap_cons, List.filterMap_nil, List.getElem?_cons_zero, List.getElem?_cons_succ, Option.map_some]
          repeat (first | (refine m_float ⟨?_, .inl ⟨?_, .inl ?_⟩, fun K' hK => ?_⟩; rotate_left; (first | rfl | (go_simp; done)); (intro w' hS; subst hS; go_simp; try rfl); (simp only [Act.put, List.setIfInBounds_toArray, List.set_cons_succ, List.set_cons_zero]; refine hK _ ?_; clear hK K')) | (refine m_float ⟨undef, .inr ⟨?_, rfl⟩, fun K' hK => ?_⟩; (first | rfl | (go_simp; done)); (simp only [Act.put, List.setIfInBounds_toArray, List.set_cons_succ, List.set_cons_zero]; refine hK _ ?_; clear hK K')))
          refine m_nil ?_
          show wpList Tryz.prog _ _ (List.cons _ _) _ _
          go_wp2_with fail
          with_reducible refine (cb _).mono ?_
          rintro e w5 ⟨rfl, hB5⟩
          have HI6 := Lib.hid (HI.out.below ((Below.refl _ wr).drew.trans (hB5.mono (Nat.le_refl _))))
          have r0 := (HI6.out.bel.cell (p := ⟨b, off + k * 2, none⟩) hb).trans HQ.out.1
          have r1 := (HI6.out.bel.cell (p := ⟨b, off + k * 2 + 1, none⟩) hb).trans HQ.out.2
          have s0 := Lib.cell_of_heap HI6.out.b0 0
          have s1 := Lib.cell_of_heap HI6.out.b0 1
          clear q0 q1 p0 p1
          go_wp2_with (at_builtin; refine wpList_append_own _ rfl _ _ 24 rfl (w.heap.size + 1) 48 i0 (.agg #[.int .i64 0, .int .i64 0]) 2 16 Tryz.underlying24 hi hz0 hz1 hz2 rfl (by decide) _ (List.length (insK (x0, x1) t)) (flat (insK (x0, x1) t)) rfl (HI6.out.own.keep ((Below.refl _ w5).alloc (Nat.le_refl _) _)) ⟨w5.heap.size, 0, none⟩ 1 1 [cN x0, cN x1] rfl rfl ?c1 ?c2 ?c3 ?c4 ?c5 ?_)
          try case c1 => intro j u hj; exact cells2 _ _ _ _ j u hj
          case c2 => first | (intro u hu; simp at hu; rcases hu with rfl | rfl <;> rfl) | exact ⟨rfl, rfl⟩
          case c3 => have := hln; unfold maxLen; omega
          case c4 => have := hln; omega
          case c5 => have h0 := lt_of_block HI6.out.b0; simp; omega
          intro v' w7 hown hgrow _
          have HI7 : Hid (IS w x0 x1 v' ((insK (x0, x1) t) ++ [(x0, x1)]) w7) := Lib.hid (HI6.out.app (by first | exact hown | simpa using hown) (by first | exact hgrow | simpa using hgrow | exact id hgrow))
          clear hown hgrow
          obtain ⟨a7, c7, rfl⟩ := HI7.out.own.form
          clear r0 r1 s0 s1
          have r0 := (HI7.out.bel.cell (p := ⟨b, off + k * 2, none⟩) hb).trans HQ.out.1
          have r1 := (HI7.out.bel.cell (p := ⟨b, off + k * 2 + 1, none⟩) hb).trans HQ.out.2
          have hl7 : (insK (x0, x1) t ++ [(x0, x1)]).length = (insK (x0, x1) t).length + 1 := by simp
          go_wp2_with (at_builtin; refine wpList_append_own _ rfl _ _ 24 rfl (w.heap.size + 1) 48 i0 (.agg #[.int .i64 0, .int .i64 0]) 2 16 Tryz.underlying24 hi hz0 hz1 hz2 rfl (by decide) _ (List.length (insK (x0, x1) t ++ [(x0, x1)])) (flat (insK (x0, x1) t ++ [(x0, x1)])) rfl (HI7.out.own.keep ((Below.refl _ w7).alloc (Nat.le_refl _) _)) ⟨w7.heap.size, 0, none⟩ 1 1 [cN yo, cN ym] rfl rfl ?c1 ?c2 ?c3 ?c4 ?c5 ?_)
          try case c1 => intro j u hj; exact cells2 _ _ _ _ j u hj
          case c2 => first | (intro u hu; simp at hu; rcases hu with rfl | rfl <;> rfl) | exact ⟨rfl, rfl⟩
          case c3 => have := And.intro hln hl7; unfold maxLen; omega
          case c4 => have := And.intro hln hl7; omega
          case c5 => have h0 := lt_of_block HI7.out.b0; simp; omega
          intro v' w8 hown hgrow _
          have HI8 : Hid (IS w x0 x1 v' ((insK (x0, x1) t ++ [(x0, x1)]) ++ [(yo, ym)]) w8) := Lib.hid (HI7.out.app (by first | exact hown | simpa using hown) (by first | exact hgrow | simpa using hgrow | exact id hgrow))
          clear hown hgrow
          obtain ⟨a8, c8, rfl⟩ := HI8.out.own.form
          go_wp2
          go_roundw
          case rel => exact ⟨k + 1, by go_num, by omega, by rw [HT.out, HD.out], by rw [HT.out, HK.out, show insK (x0, x1) t ++ [(x0, x1), (yo, ym)] = insK (x0, x1) t ++ [(x0, x1)] ++ [(yo, ym)] by simp]; exact HI8.out⟩
          case measure => simp [intOf]; omega
      · have HK := Lib.hid (insK_done (x0, x1) (yo, ym) t hd)
        have HD : Hid (((t ++ [(yo, ym)]).any (befB (x0, x1))) = true) := Lib.hid (by rw [List.any_append, hd]; rfl)
        clear hd
        go_wp2
        refine region_sch (fun w' => w' = wr.drew) [(true, 0), (true, 1), (true, 2), (true, 3), (true, 4), (true, 5), (true, 6), (true, 7)] [8, 9] (by kernel_rfl) (by kernel_rfl) (by rintro ⟨_, _, _, h, -⟩; cases h) (fun _ _ d _ _ h => by cases d <;> exact h) rfl ?_
        simp only [pickM, pickT, List.filterMap_cons, List.filterMap_nil, List.getElem?_cons_zero, List.getElem?_cons_succ, Option.map_some]
        repeat (first | (refine m_float ⟨?_, .inl ⟨?_, .inl ?_⟩, fun K' hK => ?_⟩; rotate_left; (first | rfl | (go_simp; done)); (intro w' hS; subst hS; go_simp; try rfl); (simp only [Act.put, List.setIfInBounds_toArray, List.set_cons_succ, List.set_cons_zero]; refine hK _ ?_; clear hK K')) | (refine m_float ⟨undef, .inr ⟨?_, rfl⟩, fun K' hK => ?_⟩; (first | rfl | (go_simp; done)); (simp only [Act.put, List.setIfInBounds_toArray, List.set_cons_succ, List.set_cons_zero]; refine hK _ ?_; clear hK K')))
        refine m_nil ?_
        show wpList Tryz.prog _ _ (List.cons _ _) _ _
        have HI6 := Lib.hid (HI.out.below (Below.refl _ wr).drew)
        generalize wr.drew = w5 at HI6 ⊢
        have r0 := (HI6.out.bel.cell (p := ⟨b, off + k * 2, none⟩) hb).trans HQ.out.1
        have r1 := (HI6.out.bel.cell (p := ⟨b, off + k * 2 + 1, none⟩) hb).trans HQ.out.2
        have s0 := Lib.cell_of_heap HI6.out.b0 0
        have s1 := Lib.cell_of_heap HI6.out.b0 1
        clear q0 q1 p0 p1
        go_wp2_with (at_builtin; refine wpList_append_own _ rfl _ _ 24 rfl (w.heap.size + 1) 48 i0 (.agg #[.int .i64 0, .int .i64 0]) 2 16 Tryz.underlying24 hi hz0 hz1 hz2 rfl (by decide) _ (List.length (insK (x0, x1) t)) (flat (insK (x0, x1) t)) rfl (HI6.out.own.keep ((Below.refl _ w5).alloc (Nat.le_refl _) _)) ⟨w5.heap.size, 0, none⟩ 1 1 [cN yo, cN ym] rfl rfl ?c1 ?c2 ?c3 ?c4 ?c5 ?_)
        try case c1 => intro j u hj; exact cells2 _ _ _ _ j u hj
        case c2 => first | (intro u hu; simp at hu; rcases hu with rfl | rfl <;> rfl) | exact ⟨rfl, rfl⟩
        case c3 => have := hln; unfold maxLen; omega
        case c4 => have := hln; omega
        case c5 => have h0 := lt_of_block HI6.out.b0; simp; omega
        intro v' w7 hown hgrow _
        have HI7 : Hid (IS w x0 x1 v' ((insK (x0, x1) t) ++ [(yo, ym)]) w7) := Lib.hid (HI6.out.app (by first | exact hown | simpa using hown) (by first | exact hgrow | simpa using hgrow | exact id hgrow))
        clear hown hgrow
        obtain ⟨a7, c7, rfl⟩ := HI7.out.own.form
        go_wp2
        go_roundw
        case rel => exact ⟨k + 1, by go_num, by omega, by rw [HT.out, HD.out], by rw [HT.out, HK.out]; exact HI7.out⟩
        case measure => simp [intOf]; omega
    · obtain rfl : k = l.length := by omega
      rw [List.take_length] at hln HI
      try rw [List.take_length]
      have p0 := Lib.cell_of_heap HI.out.b0 0
      have p1 := Lib.cell_of_heap HI.out.b0 1
      cases hd : l.any (befB (x0, x1))
      · have HK := Lib.hid (insM_none (x0, x1) l hd)
        have HK2 : Hid (insK (x0, x1) l = l) := Lib.hid (by unfold insK; rw [hd]; rfl)
        clear hd
        go_wp2_with (at_builtin; refine wpList_append_own _ rfl _ _ 24 rfl (w.heap.size + 1) 48 i0 (.agg #[.int .i64 0, .int .i64 0]) 2 16 Tryz.underlying24 hi hz0 hz1 hz2 rfl (by decide) _ (List.length (insK (x0, x1) l)) (flat (insK (x0, x1) l)) rfl (HI.out.own.keep ((Below.refl _ wr).alloc (Nat.le_refl _) _)) ⟨wr.heap.size, 0, none⟩ 1 1 [cN x0, cN x1] rfl rfl ?c1 ?c2 ?c3 ?c4 ?c5 ?_)
        try case c1 => intro j u hj; exact cells2 _ _ _ _ j u hj
        case c2 => first | (intro u hu; simp at hu; rcases hu with rfl | rfl <;> rfl) | exact ⟨rfl, rfl⟩
        case c3 => have := hln; unfold maxLen; omega
        case c4 => have := hln; omega
        case c5 => have h0 := lt_of_block HI.out.b0; simp; omega
        intro v' w7 hown hgrow _
        have HI7 : Hid (IS w x0 x1 v' ((insK (x0, x1) l) ++ [(x0, x1)]) w7) := Lib.hid (HI.out.app (by first | exact hown | simpa using hown) (by first | exact hgrow | simpa using hgrow | exact id hgrow))
        clear hown hgrow
        obtain ⟨a7, c7, rfl⟩ := HI7.out.own.form
        go_wp2
        go_ret
        refine ⟨_, rfl, ?_, HI7.out.bel⟩
        have := HI7.out.own
        rw [HK2.out] at this
        rw [HK.out]
        rw [HK2.out]
        exact this.base (by omega)
      · have HK2 : Hid (insK (x0, x1) l = insM (x0, x1) l) := Lib.hid (by unfold insK; rw [hd]; rfl)
        clear hd
        go_wp2
        go_ret
        refine ⟨_, rfl, ?_, HI.out.bel⟩
        have := HI.out.own
        rw [HK2.out] at this
        rw [HK2.out]
        exact this.base (by omega)
theorem insert_ok (v : Value) (l : List Sp) (x0 x1 : Int) (w : World) (h : SL w v l) (hl : l.length ≤ 1000) :
    Calls Tryz.prog 37 #[v, .agg #[cN x0, cN x1]] w fun e w' => ∃ v, e = .returned v ∧ OW w.heap.size v (insM (x0, x1) l) w' ∧ Below w.heap.size w w' := by
  obtain ⟨a, c, rfl, hrow⟩ := h.rows
  exact insert_walk a c l x0 x1 w hl hrow
end Go.Proofs.YtocncjimepnlcaaGreat
