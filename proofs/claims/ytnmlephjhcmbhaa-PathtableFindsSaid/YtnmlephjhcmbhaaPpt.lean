/- pathtable.Order, walked where all is well. -/
import Derived.Test.YtnmlephjhcmbhaaPpu
import Derived.Test.YtnmlephjhcmbhaaPpe
namespace Go.Proofs.Ytnmlephjhcmbhaa
set_option linter.unusedSimpArgs false
set_option linter.unusedVariables false
open Go Go.RowKit
set_option maxRecDepth 100000 in
set_option maxHeartbeats 8000000 in
theorem porder_good (b off c : Nat) (l : List PE) (wide : Bool) (w : World) (hh : OrdHyp w b off c l wide) (hfin : OrdFin l wide) :
    Calls Try.prog 33 #[.slice (some ⟨b, off, none⟩) l.length c, .bool wide] w (OrdEnd w l wide) := by
  have HFIN := Lib.hid hfin
  clear hfin
  obtain ⟨i0, hi, hz0, hz1, hz2⟩ := info_parts i64Info
  have HH := Lib.hid hh
  have hl := hh.hl
  have hpos := hh.hpos
  have hlc := hh.hc
  have h1c := hh.h1c
  have g0 : ((l.length : Int) == 0) = false := beq_eq_false_iff_ne.2 (by omega)
  have g1 : ¬ (1024 : Int) < (l.length : Int) := by omega
  have g2 : (0 : Int) < (l.length : Int) := by omega
  have g3 : (1 : Int) ≤ (l.length : Int) := by omega
  have g4 : (l.length : Int) ≤ (c : Int) := by omega
  have g5 : (1 : Int) ≤ (c : Int) := by omega
  obtain ⟨x0, hx0⟩ : ∃ x, l.getD 0 peD = x := ⟨_, rfl⟩
  have c0 := fun W => isroot_ok x0 W
  rw [decide_eq_true (show RootP x0 by rw [← hx0]; exact hh.hroot)] at c0
  have hb0 : Below w.heap.size w ((w.alloc (.cells #[.slice (some ⟨b, off, none⟩) l.length c] 44)).alloc (.cells #[.bool wide] 4)) := bald (bald (Below.refl _ w) _) _
  obtain ⟨b', off', e', hb, hc⟩ := (hh.hrow.below hb0) 0 hpos
  simp only [Option.some.injEq, Addr.mk.injEq] at e'
  obtain ⟨rfl, rfl, -⟩ := e'
  rw [hx0, Nat.zero_mul, Nat.add_zero] at hc
  obtain ⟨q0, q1, q2⟩ := hc
  have hmm := @run_makeMap Try.prog
  have HB0 := Lib.hid hb0
  have hF1 : ((w.alloc (.cells #[.slice (some ⟨b, off, none⟩) l.length c] 44)).alloc (.cells #[.bool wide] 4)).heap[w.heap.size]? = some (.cells #[.slice (some ⟨b, off, none⟩) l.length c] 44 (0, 0)) := (Lib.alloc_old _ _ _ (by simp)).trans (World.alloc_heap_new _ _)
  have hF2 : ((w.alloc (.cells #[.slice (some ⟨b, off, none⟩) l.length c] 44)).alloc (.cells #[.bool wide] 4)).heap[w.heap.size + 1]? = some (.cells #[.bool wide] 4 (0, 0)) := by
    have := World.alloc_heap_new (w.alloc (.cells #[.slice (some ⟨b, off, none⟩) l.length c] 44)) (.cells #[.bool wide] 4)
    rw [World.size_alloc] at this
    exact this
  have HF1 := Lib.hid hF1
  have HF2 := Lib.hid hF2
  have HX0 := Lib.hid hx0
  clear hF1 hF2 hx0 hb hb0 hh
  go_enter Try.func33, Try.ntmps33
  go_wp2_with fail
  with_reducible refine (c0 _).mono ?_
  rintro e w1 ⟨rfl, hB1⟩
  have hf1 := (hB1.block _ (lt_of_block HF1.out)).trans HF1.out
  have hf2 := (hB1.block _ (lt_of_block HF2.out)).trans HF2.out
  have p1 := Lib.cell_of_heap ((Lib.alloc_old w1 (.map #[] 0) _ (lt_of_block hf1)).trans hf1) 0
  have BOX : ∀ W, Below w1.heap.size w1 W → W.heap[w.heap.size]? = some (.cells #[.slice (some ⟨b, off, none⟩) l.length c] 44 (0, 0)) ∧ W.heap[w.heap.size + 1]? = some (.cells #[.bool wide] 4 (0, 0)) ∧ W.cell? ⟨w.heap.size, 0, none⟩ = some (.slice (some ⟨b, off, none⟩) l.length c) ∧ W.cell? ⟨w.heap.size + 1, 0, none⟩ = some (.bool wide) := fun W hW => by
    have k1 := (hW.block _ (lt_of_block hf1)).trans hf1
    have k2 := (hW.block _ (lt_of_block hf2)).trans hf2
    exact ⟨k1, k2, Lib.cell_of_heap k1 0, Lib.cell_of_heap k2 0⟩
  have HBOX := Lib.hid BOX
  have HW1 := Lib.hid (bthen HB0.out hB1)
  have HFF1 := Lib.hid hf1
  have HFF2 := Lib.hid hf2
  have HROW := Lib.hid (HH.out.hrow.below HW1.out)
  clear q0 q1 q2 hB1 hf1 hf2 c0 BOX
  go_wp2
  go_loopw [38, 8, 9] (fun i _ _ wr => ∃ (k : Nat) (D : DataW Value) (vs : Nat → Value), i = cN k ∧ k + 1 ≤ l.length ∧ KS w1 l w1.heap.size D vs k k wr) (fun i _ _ _ => l.length - (intOf i).toNat)
  case atStart => exact ⟨0, _, _, rfl, HH.out.hpos, KS.start l (Below.refl _ w1)⟩
  case round =>
    obtain ⟨k, D, vs, rfl, hk, hK⟩ := hrel
    have HK := Lib.hid hK
    by_cases hlt : (k : Int) < (l.length : Int) - 1
    · have hkl : k + 1 < l.length := by omega
      obtain ⟨b', off', e', hb, hc⟩ := HROW.out (k + 1) hkl
      simp only [Option.some.injEq, Addr.mk.injEq] at e'
      obtain ⟨rfl, rfl, -⟩ := e'
      obtain ⟨x, hx⟩ : ∃ x, l.getD (k + 1) peD = x := ⟨_, rfl⟩
      rw [hx] at hc
      obtain ⟨q0, q1, q2⟩ := hc.below hb hK.bel
      obtain ⟨hnm, hlo, hhi⟩ := HH.out.hgood (k + 1) (by omega) hkl
      rw [hx] at hnm hlo hhi
      have c2 := fun W => isnamed_ok x W
      rw [decide_eq_true hnm] at c2
      obtain ⟨j0, hj0⟩ : ∃ j : Nat, x.par = j := ⟨x.par.toNat, by omega⟩
      rw [hj0] at q2 hlo hhi
      rw [show off + (k + 1) * 3 = off + 3 + k * 3 by omega] at q0 q1 q2
      have HX := Lib.hid hx
      have HJ := Lib.hid hj0
      have hkn : k < l.length - 1 := by omega
      have hlo2 : ¬ (j0 : Int) < 1 := by omega
      have hhi2 : ¬ (l.length : Int) < (j0 : Int) := by omega
      have hjl : j0 ≤ l.length := by omega
      have HXB := Lib.hid (World.alloc_heap_new wr (.cells #[.string x.id, cN x.lba, cN (j0 : Int)] 63))
      have HKA := Lib.hid (hK.other ((Below.refl _ wr).alloc (Nat.le_refl _) (.cells #[.string x.id, cN x.lba, cN (j0 : Int)] 63)))
      have c3 : ∀ W, Calls Try.prog 70 #[.agg #[.string x.id, cN x.lba, cN (j0 : Int)]] W fun e w' => e = .returned (.bool true) ∧ Below W.heap.size W w' := fun W => by
        have := c2 W
        rw [show peA x = #[.string x.id, cN x.lba, cN (j0 : Int)] by simp [peA, hj0]] at this
        exact this
      clear hx hc hnm hj0 c2 hlo hhi hK
      go_wp2_with fail
      with_reducible refine (c3 _).mono ?_
      rintro e w2 ⟨rfl, hB2⟩
      have hxb := (hB2.block _ (lt_of_block HXB.out)).trans HXB.out
      have HX2 := Lib.hid hxb
      have HK2 := Lib.hid (HKA.out.other hB2)
      obtain ⟨-, -, p1, p2⟩ := HBOX.out w2 HK2.out.bel
      have r0 := Lib.cell_of_heap hxb 0
      have r1 := Lib.cell_of_heap hxb 1
      have r2 := Lib.cell_of_heap hxb 2
      clear hB2 hxb c3 q0 q1 q2
      go_wp2
      refine region_sch (fun W => W.heap[wr.heap.size]? = some (.cells #[.string x.id, cN x.lba, cN (j0 : Int)] 63 (0, 0)) ∧ W.ownsMap Try.prog 3 RVm w1.heap.size k D) [(true, 0), (true, 1), (true, 2), (true, 3), (true, 4), (true, 5), (true, 6), (true, 7), (true, 8), (false, 9), (false, 10)] [11] (by kernel_rfl) (by kernel_rfl) (by rintro ⟨_, _, h⟩; obtain ⟨v, u, h, -⟩ := h; cases h) (fun _ _ d _ _ h => by cases d <;> exact h) ⟨HX2.out, HK2.out.own⟩ ?_
      simp only [pickM, pickT, List.filterMap_cons, List.filterMap_nil, List.getElem?_cons_zero, List.getElem?_cons_succ, Option.map_some]
      repeat (first | (refine m_float ⟨?_, .inl ⟨?_, .inl ?_⟩, fun K' hK => ?_⟩; rotate_left; (first | rfl | (go_simp; done)); (intro w' hS; (have r0 := Lib.cell_of_heap hS.1 0; have r1 := Lib.cell_of_heap hS.1 1; have r2 := Lib.cell_of_heap hS.1 2; have hlk := map_look hS.2 HK2.out.at_ j0 hjl (by omega)); go_simp; try rfl); (simp only [Act.put, List.setIfInBounds_toArray, List.set_cons_succ, List.set_cons_zero]; refine hK _ ?_; clear hK K')) | (refine m_float ⟨undef, .inr ⟨?_, rfl⟩, fun K' hK => ?_⟩; (first | rfl | (go_simp; done)); (simp only [Act.put, List.setIfInBounds_toArray, List.set_cons_succ, List.set_cons_zero]; refine hK _ ?_; clear hK K')))
      refine m_loud ?_ (fun K' hK => ?_)
      · rintro ⟨_, _, h⟩; obtain ⟨v, u, h, -⟩ := h; cases h
      go_wp2
      have hk4 : KS w1 l w1.heap.size D vs k k (w2.alloc (.cells #[cN ((k : Int) + 1)] 3)).drew := HK2.out.other ((Below.refl _ w2).alloc (Nat.le_refl _) _).drew
      have hx4 : (w2.alloc (.cells #[cN ((k : Int) + 1)] 3)).drew.heap[wr.heap.size]? = some (.cells #[.string x.id, cN x.lba, cN (j0 : Int)] 63 (0, 0)) := (Lib.alloc_old _ _ _ (lt_of_block HX2.out)).trans HX2.out
      have HK4 := Lib.hid hk4
      have HX4 := Lib.hid hx4
      refine hK _ _ ⟨HX4.out, HK4.out.own⟩ ?_
      clear hK K'
      have ho4 := hk4.row j0 hjl
      have hkl2 := kids_len l (k + 1) j0
      have hs4 := hk4.bel.size
      refine m_loud ?_ (fun K' hK => ?_)
      · rintro ⟨_, _, h⟩; obtain ⟨v, u, h, -⟩ := h; cases h
      go_wp2_with (at_builtin; refine wpList_append_own_at _ rfl _ _ 33 rfl (w1.heap.size + 1) 3 i0 (.int .i64 0) 1 8 Try.underlying33 hi hz0 hz1 hz2 rfl (by decide) _ _ _ rfl ho4 ⟨w2.heap.size, 0, none⟩ 1 1 [cN ((k : Int) + 1)] rfl rfl ?c1 ?c2 ?c3 ?c4 ?c5 ?_)
      try case c1 => intro j u h; exact cell_one_new w2 _ _ j u h
      case c2 => first | rfl | (intro u h; rw [List.mem_singleton.1 h]; rfl)
      case c3 => unfold maxLen; omega
      case c4 => omega
      case c5 =>
        have := HK2.out.own.lt
        simp
        omega
      intro v' w3 ho5 hg5 _ hloc5
      have HK2D : Hid (KS w1 l w1.heap.size D vs k k w2.drew) := Lib.hid (HK2.out.other (Below.refl _ w2).drew)
      have hg5' : (w2.drew.alloc (.cells #[cN ((k : Int) + 1)] 3)).grownBy w3 (vs j0).ownBlock := hg5
      have hm5 := HK2D.out.map1 hjl hg5'
      have hx5 := (hg5.block _ (lt_of_block HX4.out) (xb_ne ho4 HX4.out)).trans HX4.out
      have HO5 := Lib.hid ho5
      have HG5 := Lib.hid hg5'
      have HL5 := Lib.hid hloc5
      have HM5 := Lib.hid hm5
      have HX5 := Lib.hid hx5
      clear ho4 hk4 hx4 ho5 hg5 hg5' hloc5 hm5 hx5
      refine hK _ _ ⟨HX5.out, HM5.out⟩ ?_
      clear hK K'
      refine m_nil ?_
      show wpList Try.prog _ _ (List.cons _ _) _ _
      go_wp2_with (at_mapUpdate; refine wpList_mapUpdate_own _ rfl _ _ _ 93 rfl 3 33 keyLaw Try.underlying93 RVm w1.heap.size k D rfl HM5.out (by unfold maxLen; omega) _ _ _ rfl rfl (keyI j0 (by omega)) (.held v') [] rfl ?_)
      intro w6 hm6 hg6
      have HK6 := Lib.hid (KS.step HK2D.out hjl (by rw [HX.out]; exact HJ.out) HO5.out HG5.out (by rw [World.size_alloc]; exact HL5.out) hm6 hg6)
      clear hm6 hg6
      go_wp2
      go_roundw
      case rel => exact ⟨k + 1, _, _, by go_num, by omega, HK6.out⟩
      case measure => simp [intOf]; omega
    · have hk1 : k + 1 = l.length := by omega
      have hkn : ¬ k < l.length - 1 := by omega
      have hst := OSt.start (wide := wide) hK hk1
      have HST := Lib.hid hst
      have HAT := Lib.hid hK.at_
      have HAP := Lib.hid hK.apart
      have HEND := Lib.hid (show ordF l wide 0 = ([0], false) from rfl)
      clear hK hst
      generalize hwo : wr = wo
      go_wp2
      go_loopw [12, 10, 13, 14, 15, 11] (fun i v _ _ _ x wq => ∃ q, i = cN (q : Nat) ∧ q ≤ (ordF l wide q).1.length ∧ x = .bool (ordF l wide q).2 ∧ OSt w1 l wide w1.heap.size D vs k q v wq) (fun i _ _ _ _ _ _ => l.length - (intOf i).toNat)
      case atStart => exact ⟨0, rfl, Nat.zero_le _, rfl, by rw [← hwo]; exact HST.out⟩
      case round =>
        obtain ⟨q, rfl, hq, rfl, hS⟩ := hrel
        have HS := Lib.hid hS
        have hO := ordF_ok l wide hpos q hq
        have HO := Lib.hid hO
        have hol := ordS_len hO
        obtain ⟨o, ho⟩ : ∃ o, (ordF l wide q).1 = o := ⟨_, rfl⟩
        obtain ⟨ex, hex⟩ : ∃ ex, (ordF l wide q).2 = ex := ⟨_, rfl⟩
        have HOE := Lib.hid ho
        have HEX := Lib.hid hex
        rw [ho] at hq hol
        rw [hex]
        by_cases hlt : (q : Int) < (o.length : Int)
        · have hql : q < o.length := by omega
          have hqo : q < (ordF l wide q).1.length := by rw [ho]; exact hql
          have hord := hS.ord
          rw [ho] at hord
          obtain ⟨gO, cO, rfl, -, p3⟩ := own_ints hord q hql
          obtain ⟨y0, hy0⟩ : ∃ y, o.getD q 0 = y := ⟨_, rfl⟩
          rw [hy0] at p3
          have hy1 : (ordF l wide q).1.getD q 0 = y0 := by rw [ho]; exact hy0
          have hyl : y0 < l.length := by
            refine hO.lt y0 ?_
            rw [ho, ← hy0, List.getD_eq_getElem?_getD, List.getElem?_eq_getElem hql, Option.getD_some]
            exact List.getElem_mem hql
          have hfr := OSt.fresh hO hqo
          rw [hy1] at hfr
          have hrow := hS.row (y0 + 1) (by omega) hfr
          have hlk := map_look hS.own HAT.out (y0 + 1) (by omega) (by omega)
          rw [show (((y0 + 1 : Nat)) : Int) = (y0 : Int) + 1 by omega] at hlk
          have hko := kids_len l l.length (y0 + 1)
          have HINC := Lib.hid (kids_inc l l.length (y0 + 1))
          have HKM := Lib.hid (fun i (hi : i ∈ kidsM l l.length (y0 + 1)) => (kids_mem hi).2.1)
          have HY1 := Lib.hid hy1
          have HQO := Lib.hid hqo
          have hocap : o.length ≤ cO := by
            rcases hord.2 with ⟨e, -⟩ | ⟨g', cap', cur', e, -, -, h1, -⟩
            · simp at e
            · simp at e
              omega
          obtain ⟨zs, hzs⟩ : ∃ zs, kidsM l l.length (y0 + 1) = zs := ⟨_, rfl⟩
          have HZS := Lib.hid hzs
          rw [hzs] at hrow hko HINC HKM
          by_cases hz : zs = []
          · subst hz
            obtain ⟨aB, cB, hvB⟩ := own_formS hrow
            rw [hvB] at hlk
            have hsk := hS.skip hqo (by rw [hy1]; exact hzs)
            have HSK := Lib.hid hsk
            have hap := fun ty W => append_zero gO o.length cO ty aB cB hocap W
            have c1 := fun W => ssint_nil aB cB (.func (.func 75) #[] #[.pointer (some ⟨w.heap.size, 0, none⟩), .pointer (some ⟨w.heap.size + 1, 0, none⟩)]) W
            clear hsk hvB hrow hfr hord hzs hS hO ho hex hy0 hy1
            go_wp2_with fail
            with_reducible refine (c1 _).mono ?_
            rintro e w2 ⟨rfl, rfl⟩
            clear c1
            cases aB with
            | none =>
              go_wp2
              refine wp_loop_rounds 1 ?_
              rw [rounds_succ]
              go_wp2
              try go_frame
              go_roundw
              case rel => exact ⟨q + 1, by go_num, HSK.out.2.2, by rw [HSK.out.2.1, HEX.out], HSK.out.1⟩
              case measure => simp [intOf]; omega
            | some aB =>
              go_wp2
              refine wp_loop_rounds 1 ?_
              rw [rounds_succ]
              go_wp2
              try go_frame
              go_roundw
              case rel => exact ⟨q + 1, by go_num, HSK.out.2.2, by rw [HSK.out.2.1, HEX.out], HSK.out.1⟩
              case measure => simp [intOf]; omega
          · have hzl : 0 < zs.length := List.length_pos_iff.2 hz
            rcases hrow.2 with ⟨hvn, h0⟩ | ⟨g, cap, cur, hvB, hbg, hgg, h1, h2, h3, h4⟩
            · omega
            have hcur : cur = (ints zs ++ cur.toList.drop zs.length).toArray := by
              apply Array.toList_inj.1
              rw [List.toList_toArray]
              conv => lhs; rw [← List.take_append_drop zs.length cur.toList]
              rw [← h4, Nat.mul_one]
            have hSI : SI wr g (cur.toList.drop zs.length) zs wr := SI.start (by rw [← hcur]; exact hgg)
            obtain ⟨bx1, bx2, -, -⟩ := HBOX.out wr hS.bel
            obtain ⟨b2, off2, e2, hb2, -⟩ := HROW.out 0 hpos
            simp only [Option.some.injEq, Addr.mk.injEq] at e2
            obtain ⟨rfl, rfl, -⟩ := e2
            have hw1 := HW1.out.size
            have hws := lt_of_block (HFF2.out)
            have hcmp := cmpI_pe (w := wr) (g := g) (tl := cur.toList.drop zs.length) (wide := wide) (by omega) HH.out.hsz (HROW.out.below hS.bel) (by omega) (by omega) (by omega) bx1 bx2
            have c1 := ssint_ok (cfP l wide) (cfP_ok l wide) (· < l.length) wr g (cur.toList.drop zs.length) w.heap.size (w.heap.size + 1) cap zs hcmp HKM.out HINC.out hz (by omega) wr hSI
            obtain ⟨tl, htl⟩ : ∃ tl, cur.toList.drop zs.length = tl := ⟨_, rfl⟩
            rw [htl] at c1 hcmp
            rw [hvB] at hlk
            have hng : (Value.slice (some ⟨gO, 0, none⟩) o.length cO).ownBlock ≠ some g := fun e => by
              rcases hS.apO (y0 + 1) (by omega) hfr with k | k
              · rw [hvB] at k; simp [Value.ownBlock] at k
              · rw [hvB, e] at k; exact k rfl
            have HNG := Lib.hid hng
            have HVB := Lib.hid hvB
            have HBG := Lib.hid hbg
            have HCMP := Lib.hid hcmp
            have HOC := Lib.hid hocap
            clear hcur hSI bx1 bx2 hgg h1 h2 h3 h4 htl hcmp hvB hng hrow hfr hord hzs hS hO ho hex hy0 hy1 hbg hocap hz
            go_wp2_with fail
            with_reducible refine c1.mono ?_
            rintro e w2 ⟨rfl, m, pm, sm, hS2⟩
            have hS2' : SI wr g tl m w2 := by simpa using hS2
            have hmz := sort_is (cfP_ok l wide) (inc_nodup HINC.out) pm sm
            have hml := pm.length_eq
            have HML : Hid (∀ i ∈ m, i < l.length) := Lib.hid fun i hi => HKM.out i (pm.subset hi)
            have HS2 := Lib.hid hS2'
            have HMZ := Lib.hid hmz
            clear hS2 hS2' hmz sm pm c1
            generalize hwp : wr = wp
            go_wp2
            go_loopw [15, 11] (fun i x wq => ∃ t, i = cN (t : Nat) ∧ 1 ≤ t ∧ t ≤ m.length ∧ x = .bool (ex || dupN (cfP l wide) m t) ∧ Below w2.heap.size w2 wq) (fun i _ _ => m.length - (intOf i).toNat)
            case atStart => exact ⟨1, rfl, Nat.le_refl _, by omega, by rw [dupN_one, Bool.or_false], Below.refl _ w2⟩
            case round =>
              obtain ⟨t, rfl, ht1, htm, rfl, hBq⟩ := hrel
              obtain ⟨t, rfl⟩ : ∃ t', t = t' + 1 := ⟨t - 1, by omega⟩
              have HBQ := Lib.hid hBq
              by_cases htl2 : t + 1 < m.length
              · have hsq := HS2.out.below hBq
                have hg0 : m[t]? = some (m.getD t 0) := by rw [List.getD_eq_getElem?_getD, List.getElem?_eq_getElem (by omega)]; rfl
                have hg1 : m[t + 1]? = some (m.getD (t + 1) 0) := by rw [List.getD_eq_getElem?_getD, List.getElem?_eq_getElem htl2]; rfl
                have q0 := hsq.cell t _ hg0
                have q1 := hsq.cell (t + 1) _ hg1
                have c3 := HCMP.out wr.drew m (m.getD t 0) (m.getD (t + 1) 0) hsq.drew (HML.out _ (List.mem_of_getElem? hg0)) (HML.out _ (List.mem_of_getElem? hg1))
                have hdn := dupN_snoc (cfP l wide) m (t + 1) (by omega)
                rw [Nat.add_sub_cancel] at hdn
                generalize m.getD t 0 = u0 at q0 c3 hdn
                generalize m.getD (t + 1) 0 = u1 at q1 c3 hdn
                obtain ⟨v, hv⟩ : ∃ v, cfP l wide u0 u1 = v := ⟨_, rfl⟩
                rw [hv] at c3 hdn
                obtain ⟨dn, hdnn⟩ : ∃ dn, dupN (cfP l wide) m (t + 1) = dn := ⟨_, rfl⟩
                rw [hdnn] at hdn ⊢
                have HDN := Lib.hid hdn
                have k1 : (t : Int) + 1 < (zs.length : Int) := by omega
                have k2 : (t : Int) < (zs.length : Int) := by omega
                have hwp2 : IntKind.i64.wrap (t : Int) = (t : Int) := by rw [IntKind.wrap_i64]; omega
                clear hsq hg0 hg1 hv hdn hdnn hBq
                by_cases hbx : (ex || dn) = true
                · rw [hbx]
                  have HBX := Lib.hid hbx
                  clear hbx c3
                  go_wp2
                  refine region_sch (fun w' => w' = wr.drew) [(true, 0), (true, 1), (true, 2), (true, 3), (true, 4), (true, 5), (true, 6), (true, 7), (true, 8), (true, 9), (true, 10), (true, 11)] [12, 13, 14, 15] (by kernel_rfl) (by kernel_rfl) (by rintro ⟨_, _, h⟩; obtain ⟨v, u, h, -⟩ := h; cases h) (fun _ _ d _ _ h => by cases d <;> exact h) rfl ?_
                  simp only [pickM, pickT, List.filterMap_cons, List.filterMap_nil, List.getElem?_cons_zero, List.getElem?_cons_succ, Option.map_some]
                  repeat (first | (refine m_float ⟨?_, .inl ⟨?_, .inl ?_⟩, fun K' hK => ?_⟩; rotate_left; (first | rfl | (go_simp; done)); (intro w' hS; subst hS; go_simp; try rfl); (simp only [Act.put, List.setIfInBounds_toArray, List.set_cons_succ, List.set_cons_zero]; refine hK _ ?_; clear hK K')) | (refine m_float ⟨undef, .inr ⟨?_, rfl⟩, fun K' hK => ?_⟩; (first | rfl | (go_simp; done)); (simp only [Act.put, List.setIfInBounds_toArray, List.set_cons_succ, List.set_cons_zero]; refine hK _ ?_; clear hK K')))
                  refine m_nil ?_
                  show wpList Try.prog _ _ (List.cons _ _) _ _
                  go_wp2
                  go_roundw
                  case rel => exact ⟨t + 1 + 1, by go_num, by omega, by omega, by rw [HDN.out, ← Bool.or_assoc, HBX.out]; rfl, HBQ.out.drew⟩
                  case measure => simp [intOf]; omega
                · rw [Bool.not_eq_true] at hbx
                  rw [hbx]
                  have HBX := Lib.hid hbx
                  clear hbx
                  go_wp2
                  refine region_sch (fun w' => w' = wr.drew) [(true, 0), (true, 1), (true, 2), (true, 3), (true, 4), (true, 5), (true, 6), (true, 7), (true, 8), (true, 9), (true, 10), (true, 11)] [12, 13, 14, 15] (by kernel_rfl) (by kernel_rfl) (by rintro ⟨_, _, h⟩; obtain ⟨v, u, h, -⟩ := h; cases h) (fun _ _ d _ _ h => by cases d <;> exact h) rfl ?_
                  simp only [pickM, pickT, List.filterMap_cons, List.filterMap_nil, List.getElem?_cons_zero, List.getElem?_cons_succ, Option.map_some]
                  repeat (first | (refine m_float ⟨?_, .inl ⟨?_, .inl ?_⟩, fun K' hK => ?_⟩; rotate_left; (first | rfl | (go_simp; done)); (intro w' hS; subst hS; go_simp; try rfl); (simp only [Act.put, List.setIfInBounds_toArray, List.set_cons_succ, List.set_cons_zero]; refine hK _ ?_; clear hK K')) | (refine m_float ⟨undef, .inr ⟨?_, rfl⟩, fun K' hK => ?_⟩; (first | rfl | (go_simp; done)); (simp only [Act.put, List.setIfInBounds_toArray, List.set_cons_succ, List.set_cons_zero]; refine hK _ ?_; clear hK K')))
                  refine m_nil ?_
                  show wpList Try.prog _ _ (List.cons _ _) _ _
                  go_wp2_with fail
                  with_reducible refine c3.mono ?_
                  rintro e w6 ⟨rfl, hB6⟩
                  have HB6 := Lib.hid (bthen HBQ.out (drew_left hB6))
                  clear hB6 c3 q0 q1
                  go_wp2
                  go_roundw
                  case rel => exact ⟨t + 1 + 1, by go_num, by omega, by omega, by rw [HDN.out, ← Bool.or_assoc, HBX.out]; rfl, HB6.out⟩
                  case measure => simp [intOf]; omega
              · have hte : t + 1 = m.length := by omega
                have k1 : ¬ (t : Int) + 1 < (zs.length : Int) := by omega
                have hordq := OSt.ordAt HS.out HNG.out HS2.out hBq
                rw [HOE.out] at hordq
                have hSq := HS2.out.below hBq
                have HSQ := Lib.hid hSq
                have HORQ := Lib.hid hordq
                have hbw := HS.out.own.lt
                have hsz2 := HS2.out.size
                have hsz3 := hBq.size
                have hdup : (ordF l wide (q + 1)).2 = (ex || dupN (cfP l wide) m (t + 1)) ∧ q + 1 ≤ (ordF l wide (q + 1)).1.length := by
                  have e := ordF_next HQO.out
                  rw [HY1.out, HZS.out, ← HMZ.out] at e
                  rw [e, HEX.out, dupB_N, hte, HOE.out]
                  exact ⟨rfl, by rw [List.length_append]; omega⟩
                have HDUP := Lib.hid hdup
                have HTE := Lib.hid hte
                clear hSq hdup hte hBq
                go_wp2_with (at_builtin; refine wpList_append_own_at _ rfl _ _ 33 rfl (w1.heap.size + 1) 3 i0 (.int .i64 0) 1 8 Try.underlying33 hi hz0 hz1 hz2 rfl (by decide) _ _ _ rfl HORQ.out ⟨g, 0, none⟩ zs.length cap (ints m) rfl (by rw [ints_len, hml, Nat.mul_one]) ?c1 ?c2 ?c3 ?c4 ?c5 ?_)
                case c1 =>
                  intro j u h
                  have : ∃ x, m[j]? = some x ∧ u = cN (x : Int) := by
                    simp only [ints, List.getElem?_map, Option.map_eq_some_iff] at h
                    obtain ⟨x, hx1, hx2⟩ := h
                    exact ⟨x, hx1, hx2.symm⟩
                  obtain ⟨x, hx1, rfl⟩ := this
                  first | exact HSQ.out.cell j x hx1 | (rw [add_none, Nat.zero_add]; exact HSQ.out.cell j x hx1)
                case c2 =>
                  intro u hu
                  simp only [ints, List.mem_map] at hu
                  obtain ⟨x, -, rfl⟩ := hu
                  rfl
                case c3 => unfold maxLen; omega
                case c4 => omega
                case c5 => omega
                intro v' w7 ho7 hg7 _ hloc7
                have hn7 := OSt.next HS.out HAP.out HO.out HQO.out (by rw [HY1.out, HZS.out]; exact HMZ.out) (by rw [HY1.out, HVB.out]; rfl) HBG.out (by rw [HY1.out]; omega) HS2.out HBQ.out (by rw [HOE.out, hml]; exact ho7) hg7 hloc7
                have HN7 := Lib.hid hn7
                clear hn7 ho7 hg7 hloc7 hordq
                go_wp2
                try go_frame
                go_roundw
                case rel => exact ⟨q + 1, by go_num, HDUP.out.2, by rw [HDUP.out.1], HN7.out⟩
                case measure => simp [intOf]; omega
        · have hord := hS.ord
          rw [ho] at hord
          have hqe : q = o.length := by omega
          have hst := ordF_stable l wide q (by rw [ho]; omega) (l.length - q)
          rw [show q + (l.length - q) = l.length by omega] at hst
          have hoo : ordO l wide = o := by unfold ordO; rw [hst, ho]
          have hol2 : o.length = l.length := by have := HFIN.out.full; rw [hoo] at this; exact this
          have hexf : ex = false := by have := HFIN.out.dup; rw [hst, hex] at this; exact this
          subst hexf
          have hopos : 0 < o.length := by omega
          rcases hord.2 with ⟨e1, h1⟩ | ⟨gO, cap, curO, hvO, hbO, hgO, h1, h2, h3, h4⟩
          · omega
          rw [Nat.mul_one] at h4
          obtain ⟨-, -, p1, p2⟩ := HBOX.out wr hS.bel
          have cB := cfblock_ok (some ⟨b, off, none⟩) c l wr (by omega) (HROW.out.below hS.bel)
          rw [HFIN.out.blk] at cB
          subst hvO
          have HB2 := Lib.hid hS.bel
          have HOO := Lib.hid hoo
          have HT := Lib.hid h4
          have HGO := Lib.hid hgO
          have HBO := Lib.hid hbO
          have hgol := lt_of_block hgO
          have hol3 : ¬ (o.length : Int) < (l.length : Int) := by omega
          have HOL2 := Lib.hid hol2
          have hO2 := hO.lt
          rw [ho] at hO2
          have HOLT := Lib.hid hO2
          clear hord hst hS hO ho hex h1 h2 h3 h4 hoo hgO hqe hO2 HEX hbO
          go_wp2_with fail
          with_reducible refine cB.mono ?_
          rintro e w3 ⟨rfl, hB3⟩
          have HB3 := Lib.hid (bthen HB2.out hB3)
          have hgO3 := (hB3.block _ hgol).trans HGO.out
          have HGO3 := Lib.hid hgO3
          obtain ⟨-, -, p1, p2⟩ := HBOX.out w3 HB3.out
          have hmk1 : ∀ W, (Instr.makeSlice 33 (cN l.length) (cN l.length)).run Try.prog W = .ok (.slice (some ⟨W.heap.size, 0, none⟩) l.length l.length) (W.alloc (.cells (ints (List.replicate l.length 0)).toArray 3)) := fun W => by
            rw [make_ints l.length 0 (by omega) W, half_zero]
          obtain ⟨-, -, p3, -⟩ := HBOX.out (w3.alloc (.cells (ints (List.replicate l.length 0)).toArray 3)) (bald HB3.out _)
          obtain ⟨j0, hj, ky0, ky1, ky2⟩ := info_parts peInfo
          obtain ⟨w4, hmk2, hown4, hgr4⟩ := run_makeSlice_owned (P := Try.prog) (w3.alloc (.cells (ints (List.replicate l.length 0)).toArray 3)) w.heap.size 44 63 j0 _ 3 Try.underlying44 hj ky0 ky1 .i64 .i64 l.length (by omega) (by rw [ky2]; omega) (by unfold maxLen; omega) (by have := (HW1.out).size; have := HB3.out.size; simp; omega)
          rw [World.size_alloc] at hmk2 hown4
          have hnum4 := (hgr4.block w3.heap.size (by simp) (by simp)).trans (World.alloc_heap_new w3 (.cells (ints (List.replicate l.length 0)).toArray 3))
          have hord4 := (hgr4.block gO (by have := lt_of_block hgO3; simp; omega) (by simp)).trans ((Lib.alloc_old w3 _ _ (lt_of_block hgO3)).trans hgO3)
          have hbel4 : Below w1.heap.size w1 w4 := (bald HB3.out (.cells (ints (List.replicate l.length 0)).toArray 3)).grown hgr4 (by have := HB3.out.size; simp; omega) (fun k e => by simp at e)
          have HF0 : Hid (FSt w w1 l o w3.heap.size gO curO 0 (.slice (some ⟨w3.heap.size + 1, 0, none⟩) 0 l.length) w4) := Lib.hid ⟨hnum4, hord4, hown4, hbel4, fun q e => by have := HB3.out.size; simp [Value.ownBlock] at e; omega⟩
          clear hB3 cB hgO3 hown4 hgr4 hnum4 hord4 hbel4
          have hgne := Lib.hid (show gO ≠ w3.heap.size by have := lt_of_block HGO3.out; omega)
          generalize hwq : wr = wq0
          go_wp2
          go_loopw [131, 18, 19, 17, 20] (fun i _ _ v _ wq => ∃ k, i = cN (k : Nat) ∧ k ≤ o.length ∧ FSt w w1 l o w3.heap.size gO curO k v wq) (fun i _ _ _ _ _ => o.length - (intOf i).toNat)
          case atStart => exact ⟨0, rfl, Nat.zero_le _, HF0.out⟩
          case round =>
            obtain ⟨k, rfl, hk, hF⟩ := hrel
            have HF := Lib.hid hF
            by_cases hlt : (k : Int) < (o.length : Int)
            · have hkl : k < o.length := by omega
              have q0 := hF.cellO HT.out k hkl
              obtain ⟨i, hio⟩ : ∃ i, o.getD k 0 = i := ⟨_, rfl⟩
              rw [hio] at q0
              have hil : i < l.length := HOLT.out i (by rw [← hio, List.getD_eq_getElem?_getD, List.getElem?_eq_getElem hkl, Option.getD_some]; exact List.getElem_mem hkl)
              obtain ⟨n1, o1, u1, b1⟩ := hF.set1 HB3.out.size hgne.out i hio
              have q5 := numK_cell hF.num i hil
              have fz : wr.frozen? ⟨w3.heap.size, i, none⟩ = false := Lib.frozen_of_heap hF.num i
              obtain ⟨-, -, p1, -⟩ := HBOX.out _ b1
              obtain ⟨b9, off9, e9, hb9, hc9⟩ := HROW.out i hil
              simp only [Option.some.injEq, Addr.mk.injEq] at e9
              obtain ⟨rfl, rfl, -⟩ := e9
              have hgp : 1 ≤ (l.getD i peD).par ∧ (l.getD i peD).par ≤ l.length := by
                by_cases hi0 : i = 0
                · have := HH.out.hroot.2
                  rw [hi0]
                  omega
                · exact (HH.out.hgood i (by omega) hil).2
              have hent : entK l o l.length k = ⟨(l.getD i peD).id, (l.getD i peD).lba, (((numK o l.length (k + 1)).getD ((l.getD i peD).par.toNat - 1) 0 : Nat) : Int)⟩ := by rw [entK, hio]
              obtain ⟨x, hx⟩ : ∃ x, l.getD i peD = x := ⟨_, rfl⟩
              rw [hx] at hc9 hgp hent
              obtain ⟨r0, r1, r2⟩ := hc9.below hb9 b1
              obtain ⟨pj, hpj⟩ : ∃ pj : Nat, x.par = pj := ⟨x.par.toNat, by omega⟩
              obtain ⟨pm, hpm⟩ : ∃ pm, pm = pj - 1 := ⟨_, rfl⟩
              rw [hpj] at r2 hgp hent
              rw [Int.toNat_natCast, ← hpm] at hent
              have e10 : (pj : Int) - 1 = (pm : Int) := by omega
              have hpml : pm < l.length := by omega
              have hpmi : (pm : Int) < (l.length : Int) := by omega
              have hili : (i : Int) < (l.length : Int) := by omega
              have hwp : IntKind.i64.wrap (pm : Int) = (pm : Int) := by rw [IntKind.wrap_i64]; omega
              obtain ⟨nv, hnv⟩ : ∃ nv, (numK o l.length (k + 1)).getD pm 0 = nv := ⟨_, rfl⟩
              rw [hnv] at hent
              have hx9 : ((wr.setCell ⟨w3.heap.size, i, none⟩ (cN ((k : Int) + 1))).alloc (.cells #[.string x.id, cN x.lba, cN (pj : Int)] 63)).heap[w3.heap.size]? = some (.cells (ints (numK o l.length (k + 1))).toArray 3 (0, 0)) := (Lib.alloc_old _ _ _ (lt_of_block n1)).trans n1
              have q9 := numK_cell hx9 pm hpml
              rw [hnv] at q9
              have q10 := numK_cell n1 pm hpml
              rw [hnv] at q10
              have HENT := Lib.hid hent
              have HN1 := Lib.hid (And.intro n1 (And.intro o1 (And.intro u1 b1)))
              have hszs : (wr.setCell ⟨w3.heap.size, i, none⟩ (cN ((k : Int) + 1))).heap.size = wr.heap.size := by simp
              clear n1 o1 u1 b1 hx hpj hpm hnv hent hio hF hc9 hgp hx9 hb9
              have u2 := (HN1.out.2.2.1.alloc (.cells #[.string x.id, cN x.lba, cN (nv : Int)] 63)).alloc (.cells #[.string x.id, cN x.lba, cN (nv : Int)] 63)
              have HVG := Lib.hid HF.out.vge
              have hws9 := HN1.out.2.2.2.size
              rw [hszs] at hws9
              have hww := HW1.out.size
              go_wp2_with (at_builtin; refine wpList_append_own_at _ rfl _ _ 44 rfl w.heap.size 63 j0 (.agg #[.string ByteArray.empty, .int .i64 0, .int .i64 0]) 3 32 Try.underlying44 hj ky0 ky1 ky2 rfl (by decide) _ _ _ rfl u2 ⟨wr.heap.size + 1, 0, none⟩ 1 1 [.string x.id, cN x.lba, cN (nv : Int)] rfl rfl ?c1 ?c2 ?c3 ?c4 ?c5 ?_)
              case c1 =>
                intro j u hj
                have hxb := World.alloc_heap_new ((wr.setCell ⟨w3.heap.size, i, none⟩ (cN ((k : Int) + 1))).alloc (.cells #[.string x.id, cN x.lba, cN (nv : Int)] 63)) (.cells #[.string x.id, cN x.lba, cN (nv : Int)] 63)
                rw [World.size_alloc, hszs] at hxb
                rw [add_none, Nat.zero_add, Lib.cell_of_heap hxb]
                rw [← hj]
                simp
              case c2 =>
                intro u hu
                simp at hu
                rcases hu with rfl | rfl | rfl <;> rfl
              case c3 => unfold maxLen; omega
              case c4 => omega
              case c5 => simp; omega
              intro v' w6 ho6 hg6 _ hloc6
              have hvb' : ∀ q, v'.ownBlock = some q → w1.heap.size ≤ q := fun q e => by
                rcases hloc6 with k | k
                · exact HVG.out q (by rw [← k]; exact e)
                · rw [k] at e
                  simp at e
                  omega
              have hn6 := FSt.next HENT.out HN1.out hww ho6 hg6 HVG.out hvb'
              have HN6 := Lib.hid hn6
              clear hn6 ho6 hg6 hloc6 hvb' u2
              go_wp2
              try go_frame
              go_roundw
              case rel => exact ⟨k + 1, by go_num, by omega, HN6.out⟩
              case measure => simp [intOf]; omega
            · obtain rfl : k = o.length := by omega
              have HFE : Hid (FSt w w1 l o w3.heap.size gO curO l.length _ wr) := Lib.hid (by rw [← HOL2.out]; exact hF)
              obtain ⟨a7, c7, rfl⟩ := own_formS hF.out
              clear hF
              go_wp2
              go_ret3
              refine ⟨_, _, rfl, ?_, ?_, HW1.out.trans (HFE.out.bel.mono HW1.out.size)⟩
              · have := HFE.out.out
                rw [HOL2.out] at this
                rw [HOO.out]
                exact this
              · rw [HOO.out]
                exact HFE.out.nums (by have := HW1.out.size; have := HB3.out.size; omega) (by omega)
end Go.Proofs.Ytnmlephjhcmbhaa
