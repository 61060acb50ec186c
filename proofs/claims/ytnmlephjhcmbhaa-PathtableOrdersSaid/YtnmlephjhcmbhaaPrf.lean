/- The reference's Order, walked. -/
import Derived.Test.YtnmlephjhcmbhaaPre
namespace Go.Proofs.Ytnmlephjhcmbhaa
set_option linter.unusedSimpArgs false
set_option linter.unusedVariables false
open Go Go.RowKit
theorem gdp {l : List PE} {k : Nat} (h : k < l.length) : l.getD k peD ∈ l := by
  rw [List.getD_eq_getElem?_getD, List.getElem?_eq_getElem h, Option.getD_some]
  exact List.getElem_mem h
theorem any_blk {l : List PE} (h : ∀ i, i < l.length → BlockP (l.getD i peD).lba) : l.any (fun x => !decide (BlockP x.lba)) = false := by
  rw [List.any_eq_false]
  intro x hx
  obtain ⟨i, hi, rfl⟩ := List.getElem_of_mem hx
  have := h i hi
  rw [List.getD_eq_getElem?_getD, List.getElem?_eq_getElem hi, Option.getD_some] at this
  simp [this]
theorem any_blk' {l : List PE} {i : Nat} (hi : i < l.length) (h : ¬ BlockP (l.getD i peD).lba) : l.any (fun x => !decide (BlockP x.lba)) = true := by
  rw [List.any_eq_true]
  exact ⟨_, gdp hi, by rw [decide_eq_false h]; rfl⟩
theorem take_succ_get {l : List PE} {k : Nat} (h : k < l.length) : l.take (k + 1) = l.take k ++ [l.getD k peD] := by
  rw [List.take_add_one, List.getElem?_eq_getElem h, List.getD_eq_getElem?_getD, List.getElem?_eq_getElem h]
  rfl
theorem ints_app (a b : List Nat) : ints (a ++ b) = ints a ++ ints b := by simp [ints]
theorem ints_one (a : List Nat) : ∀ u ∈ ints a, u.oneCell' = true := fun u hu => by
  simp only [ints, List.mem_map] at hu
  obtain ⟨x, -, rfl⟩ := hu
  rfl
theorem ints_get {a : List Nat} {j : Nat} {u : Value} (h : (ints a)[j]? = some u) : ∃ x, a[j]? = some x ∧ u = cN (x : Int) := by
  simp only [ints, List.getElem?_map, Option.map_eq_some_iff] at h
  obtain ⟨x, h1, h2⟩ := h
  exact ⟨x, h1, h2.symm⟩
/-- A row of indices in one block. -/
theorem own_cellI {W : World} {B g n cap : Nat} {m : List Nat} (h : W.ownsRow B 3 1 (.slice (some ⟨g, 0, none⟩) n cap) n (ints m)) (j x : Nat) (hj : m[j]? = some x) : W.cell? ⟨g, j, none⟩ = some (cN (x : Int)) := by
  have := h.cells (g := g) rfl j (cN (x : Int)) (by simp [ints, hj])
  rwa [add_none, Nat.zero_add] at this
structure OrdHypB (w : World) (b off c : Nat) (l : List PE) : Prop where
  hl : l.length ≤ 40
  hpos : 0 < l.length
  hsz : ∀ e ∈ l, e.id.size < 2 ^ 30
  hrow : RowP w (some ⟨b, off, none⟩) l
  hroot : RootP (l.getD 0 peD)
set_option maxRecDepth 100000 in
set_option maxHeartbeats 8000000 in
theorem rporder_all (b off c : Nat) (l : List PE) (wide : Bool) (w : World) (hh : OrdHypB w b off c l) :
    Calls Try.prog 34 #[.slice (some ⟨b, off, none⟩) l.length c, .bool wide] w (OrdAll w l wide) := by
  obtain ⟨i0, hi, hz0, hz1, hz2⟩ := info_parts i64Info
  obtain ⟨j0, hj, ky0, ky1, ky2⟩ := info_parts peInfo
  have HH := Lib.hid hh
  have HH2 := Lib.hid hh.hsz
  have HROW := Lib.hid hh.hrow
  have hl := hh.hl
  have hpos := hh.hpos
  have g0 : ((l.length : Int) == 0) = false := beq_eq_false_iff_ne.2 (by omega)
  have g1 : ¬ (1024 : Int) < (l.length : Int) := by omega
  have g2 : (0 : Int) < (l.length : Int) := by omega
  have CX : Hid (∀ i, i < l.length → ∀ x, l.getD i peD = x → ∀ W, Below w.heap.size w W → CellsP W b (off + i * 3) x) := Lib.hid fun i hi x hx W hW => by
    obtain ⟨b', off', e', hb, hc⟩ := (HROW.out.below hW) i hi
    simp only [Option.some.injEq, Addr.mk.injEq] at e'
    obtain ⟨rfl, rfl, -⟩ := e'
    rw [hx] at hc
    exact hc
  obtain ⟨x0, hx0⟩ : ∃ x, l.getD 0 peD = x := ⟨_, rfl⟩
  have c0 := fun W => rproot_ok x0 W
  rw [decide_eq_true (show RootP x0 by rw [← hx0]; exact hh.hroot)] at c0
  obtain ⟨q0, q1, q2⟩ := CX.out 0 hpos x0 hx0 w (Below.refl _ w)
  rw [Nat.zero_mul, Nat.add_zero] at q0 q1 q2
  clear hx0 hh
  go_enter Try.func34, Try.ntmps34
  go_wp2_with fail
  with_reducible refine (c0 _).mono ?_
  rintro e w1 ⟨rfl, hB1⟩
  have HB1 := Lib.hid hB1
  clear hB1 q0 q1 q2 c0
  go_wp2
  go_loopw [7] (fun i wr => ∃ k, i = cN (k : Nat) ∧ 1 ≤ k ∧ k ≤ l.length ∧ (∀ i, 1 ≤ i → i < k → GoodE l i) ∧ wr = w1) (fun i _ => l.length - (intOf i).toNat)
  case atStart => exact ⟨1, rfl, Nat.le_refl _, HH.out.hpos, fun i h1 h2 => by omega, rfl⟩
  case round =>
    obtain ⟨k, rfl, hk1, hk, hgd, rfl⟩ := hrel
    have HGD := Lib.hid hgd
    clear hgd
    by_cases hlt : (k : Int) < (l.length : Int)
    · have hkl : k < l.length := by omega
      obtain ⟨x, hx⟩ : ∃ x, l.getD k peD = x := ⟨_, rfl⟩
      obtain ⟨q0, q1, q2⟩ := CX.out k hkl x hx _ HB1.out
      have c2 := fun W => rpnamed_ok x W
      by_cases hgk : GoodE l k
      · obtain ⟨hnm, hlo, hhi⟩ := hgk
        have HGN : Hid (∀ i, 1 ≤ i → i < k + 1 → GoodE l i) := Lib.hid fun i h1 h2 => by
          rcases Nat.lt_or_ge i k with h3 | h3
          · exact HGD.out i h1 h3
          · obtain rfl : i = k := by omega
            exact ⟨hnm, hlo, hhi⟩
        rw [hx] at hnm hlo hhi
        rw [decide_eq_true hnm] at c2
        have hlo2 : ¬ x.par < 1 := by omega
        have hhi2 : ¬ (l.length : Int) < x.par := by omega
        clear hx hnm hlo hhi
        go_wp2_with fail
        with_reducible refine (c2 _).mono ?_
        rintro e w2 ⟨rfl, rfl⟩
        go_wp2
        go_roundw
        case rel => exact ⟨k + 1, by go_num, by omega, by omega, HGN.out, by trivial⟩
        case measure => simp [intOf] <;> omega
      · have HBAD : Hid (OrdBad l wide 1) := Lib.hid (.inl ⟨rfl, .inr ⟨k, hk1, hkl, hgk⟩⟩)
        unfold GoodE at hgk
        rw [hx] at hgk
        by_cases hnm : NamedP x
        · rw [decide_eq_true hnm] at c2
          by_cases hlo : x.par < 1
          · clear hgk hx hnm
            go_wp2_with fail
            with_reducible refine (c2 _).mono ?_
            rintro e w2 ⟨rfl, rfl⟩
            go_wp2
            go_ret3
            exact .inr ⟨1, HBAD.out, rfl, HB1.out⟩
          · have hhi : (l.length : Int) < x.par := by
              rcases Int.lt_or_le (l.length : Int) x.par with h | h
              · exact h
              · exact absurd ⟨hnm, by omega, h⟩ hgk
            clear hgk hx hnm
            go_wp2_with fail
            with_reducible refine (c2 _).mono ?_
            rintro e w2 ⟨rfl, rfl⟩
            go_wp2
            go_ret3
            exact .inr ⟨1, HBAD.out, rfl, HB1.out⟩
        · rw [decide_eq_false hnm] at c2
          clear hgk hx hnm
          go_wp2_with fail
          with_reducible refine (c2 _).mono ?_
          rintro e w2 ⟨rfl, rfl⟩
          go_wp2
          go_ret3
          exact .inr ⟨1, HBAD.out, rfl, HB1.out⟩
    · have HALL : Hid (∀ i, 1 ≤ i → i < l.length → GoodE l i) := Lib.hid fun i h1 h2 => HGD.out i h1 (by omega)
      have HOGD : Hid (OGd l) := Lib.hid ⟨HH.out.hpos, HH.out.hroot, HALL.out⟩
      generalize hwa : wr = wa at *
      go_wp2
      go_loopw [8] (fun i wr => ∃ k, i = cN (k : Nat) ∧ k ≤ l.length ∧ (∀ i, i < k → reachB l l.length i = true) ∧ wr = wa) (fun i _ => l.length - (intOf i).toNat)
      case atStart => exact ⟨0, rfl, Nat.zero_le _, fun i h2 => by omega, rfl⟩
      case round =>
        obtain ⟨k2, rfl, hk2, hre, rfl⟩ := hrel
        have HRE := Lib.hid hre
        clear hre
        by_cases hlt2 : (k2 : Int) < (l.length : Int)
        · have hkl2 : k2 < l.length := by omega
          have c3 := level_ok b off c l k2 wr (by omega) (HROW.out.below HB1.out) hkl2 HOGD.out
          go_wp2_with fail
          with_reducible refine c3.mono ?_
          rintro e w2 ⟨v, rfl, hv, rfl⟩
          by_cases hvn : v < 0
          · have HBAD : Hid (OrdBad l wide 13) := Lib.hid (.inr ⟨HH.out.hroot, HALL.out, .inl ⟨rfl, by
              have h1 := HOGD.out.le wide
              have h2 := HOGD.out.full_iff wide
              rcases Nat.lt_or_ge (ordO l wide).length l.length with q | q
              · exact q
              · have := h2.1 (by omega) k2 hkl2
                rw [hv, decide_eq_false (by omega)] at this
                cases this⟩⟩)
            clear hv c3
            go_wp2
            go_ret3
            exact .inr ⟨13, HBAD.out, rfl, HB1.out⟩
          · have HRN : Hid (∀ i, i < k2 + 1 → reachB l l.length i = true) := Lib.hid fun i h2 => by
              rcases Nat.lt_or_ge i k2 with h3 | h3
              · exact HRE.out i h3
              · obtain rfl : i = k2 := by omega
                rw [hv, decide_eq_true (by omega)]
            clear hv c3
            go_wp2
            go_roundw
            case rel => exact ⟨k2 + 1, by go_num, by omega, HRN.out, by trivial⟩
            case measure => simp [intOf] <;> omega
        · have HFULL : Hid ((ordO l wide).length = l.length) := Lib.hid ((HOGD.out.full_iff wide).2 fun i hi => HRE.out i (by omega))
          generalize hwb : wr = wb at *
          go_wp2
          go_loopw [9] (fun i wr => ∃ k, i = cN (k : Nat) ∧ k ≤ l.length ∧ (∀ i, i < k → BlockP (l.getD i peD).lba) ∧ wr = wb) (fun i _ => l.length - (intOf i).toNat)
          case atStart => exact ⟨0, rfl, Nat.zero_le _, fun i h2 => by omega, rfl⟩
          case round =>
            obtain ⟨k3, rfl, hk3, hre, rfl⟩ := hrel
            have HBK := Lib.hid hre
            clear hre
            by_cases hlt3 : (k3 : Int) < (l.length : Int)
            · have hkl3 : k3 < l.length := by omega
              obtain ⟨x, hx⟩ : ∃ x, l.getD k3 peD = x := ⟨_, rfl⟩
              obtain ⟨q0, q1, q2⟩ := CX.out k3 hkl3 x hx _ HB1.out
              have c4 := fun W => rpblock_ok x.lba W
              by_cases hbk : BlockP x.lba
              · have HBN : Hid (∀ i, i < k3 + 1 → BlockP (l.getD i peD).lba) := Lib.hid fun i h2 => by
                  rcases Nat.lt_or_ge i k3 with h3 | h3
                  · exact HBK.out i h3
                  · obtain rfl : i = k3 := by omega
                    rw [hx]
                    exact hbk
                rw [decide_eq_true hbk] at c4
                clear hx hbk
                go_wp2_with fail
                with_reducible refine (c4 _).mono ?_
                rintro e w2 ⟨rfl, rfl⟩
                go_wp2
                go_roundw
                case rel => exact ⟨k3 + 1, by go_num, by omega, HBN.out, by trivial⟩
                case measure => simp [intOf] <;> omega
              · have HBAD : Hid (OrdBad l wide 2) := Lib.hid (.inr ⟨HH.out.hroot, HALL.out, .inr ⟨HFULL.out, .inl ⟨rfl, any_blk' hkl3 (by rw [hx]; exact hbk)⟩⟩⟩)
                rw [decide_eq_false hbk] at c4
                clear hx hbk
                go_wp2_with fail
                with_reducible refine (c4 _).mono ?_
                rintro e w2 ⟨rfl, rfl⟩
                go_wp2
                go_ret3
                exact .inr ⟨2, HBAD.out, rfl, HB1.out⟩
            · have HANY : Hid (l.any (fun x => !decide (BlockP x.lba)) = false) := Lib.hid (any_blk fun i hi => HBK.out i (by omega))
              generalize hwc : wr = wc at *
              go_wp2
              go_loopw [10, 11] (fun i _ wr => ∃ k, i = cN (k : Nat) ∧ 1 ≤ k ∧ k ≤ l.length ∧ (∀ i j, i < k → 1 ≤ j → j < i → ¬ ((l.getD i peD).par = (l.getD j peD).par ∧ cfP l wide i j = 0)) ∧ Below w.heap.size w wr) (fun i _ _ => l.length - (intOf i).toNat)
              case atStart => exact ⟨1, rfl, Nat.le_refl _, HH.out.hpos, fun i j h1 h2 h3 => by omega, HB1.out⟩
              case round =>
                obtain ⟨k4, rfl, hk41, hk4, hre, hB4⟩ := hrel
                have HDU := Lib.hid hre
                have HB4 := Lib.hid hB4
                clear hre hB4
                by_cases hlt4 : (k4 : Int) < (l.length : Int)
                · have hkl4 : k4 < l.length := by omega
                  obtain ⟨x, hx⟩ : ∃ x, l.getD k4 peD = x := ⟨_, rfl⟩
                  have hzx : x.id.size < 2 ^ 30 := by rw [← hx]; exact HH2.out _ (gdp hkl4)
                  have HXX := Lib.hid hx
                  clear hx
                  generalize hwd : wr = wd at *
                  go_wp2
                  go_loopw [11] (fun i wr => ∃ t, i = cN (t : Nat) ∧ 1 ≤ t ∧ t ≤ k4 ∧ (∀ j, 1 ≤ j → j < t → ¬ ((l.getD k4 peD).par = (l.getD j peD).par ∧ cfP l wide k4 j = 0)) ∧ Below w.heap.size w wr) (fun i _ => l.length - (intOf i).toNat)
                  case atStart => exact ⟨1, rfl, Nat.le_refl _, hk41, fun j h1 h2 => by omega, HB4.out⟩
                  case round =>
                    obtain ⟨t, rfl, ht1, htk, hre, hB5⟩ := hrel
                    have HDT := Lib.hid hre
                    have HB5 := Lib.hid hB5
                    clear hre hB5
                    by_cases hlt5 : (t : Int) < (k4 : Int)
                    · have htl : t < l.length := by omega
                      obtain ⟨y, hy⟩ : ∃ y, l.getD t peD = y := ⟨_, rfl⟩
                      have hzy : y.id.size < 2 ^ 30 := by rw [← hy]; exact HH2.out _ (gdp htl)
                      have CQX : Hid (∀ W, Below w.heap.size w W → CellsP W b (off + k4 * 3) x) := Lib.hid fun W hW => CX.out k4 hkl4 x HXX.out W hW
                      have CQY : Hid (∀ W, Below w.heap.size w W → CellsP W b (off + t * 3) y) := Lib.hid fun W hW => CX.out t htl y hy W hW
                      have hti : (t : Int) < (l.length : Int) := by omega
                      by_cases hpar : x.par = y.par
                      · have g1 : (x.par == y.par) = true := beq_iff_eq.2 hpar
                        have c5 := fun W => rcmp_ok x.id y.id wide W hzx hzy
                        have heq := rcmp_eq x.id.data.toList y.id.data.toList wide
                        obtain ⟨v, hv⟩ : ∃ v, rcmpM x.id.data.toList y.id.data.toList wide = v := ⟨_, rfl⟩
                        rw [hv] at c5 heq
                        have hcf : cfP l wide k4 t = cmpM x.id.data.toList y.id.data.toList wide := by unfold cfP; rw [HXX.out, hy]
                        by_cases hv0 : v = 0
                        · have g2 : (v == 0) = true := beq_iff_eq.2 hv0
                          have HBAD : Hid (OrdBad l wide 5) := Lib.hid (.inr ⟨HH.out.hroot, HALL.out, .inr ⟨HFULL.out, .inr ⟨HANY.out, rfl, (HOGD.out.dup_iff wide HFULL.out).2 ⟨k4, t, ht1, by omega, hkl4, by rw [HXX.out, hy]; exact hpar, by rw [hcf]; exact heq.1 hv0⟩⟩⟩⟩)
                          clear hy hpar hv heq hcf hv0
                          go_wp2
                          refine region_sch (fun W => Below w.heap.size w W) [(true, 0), (true, 1), (true, 2), (true, 3), (true, 4), (true, 5), (true, 6), (true, 7), (true, 8), (true, 9), (true, 10), (true, 11), (true, 12), (true, 13), (true, 14), (true, 15), (true, 16), (true, 17), (true, 18), (true, 19), (true, 20), (true, 21), (true, 22)] [23, 24, 25] (by kernel_rfl) (by kernel_rfl) (by rintro ⟨_, _, h⟩; rcases h with ⟨-, -, -, v, u, h, -⟩ | ⟨c, -, h, -⟩ <;> cases h) (fun _ _ d _ _ h => by cases d <;> exact h) HB5.out.drew ?_
                          simp only [pickM, pickT, List.filterMap_cons, List.filterMap_nil, List.getElem?_cons_zero, List.getElem?_cons_succ, Option.map_some]
                          repeat (first | (refine m_float ⟨?_, .inl ⟨?_, .inl ?_⟩, fun K' hK => ?_⟩; rotate_left; (first | rfl | (go_simp; done)); (intro w' hS; (obtain ⟨q0, q1, q2⟩ := CQX.out _ hS; obtain ⟨p0, p1, p2⟩ := CQY.out _ hS; clear hS); go_simp; try rfl); (simp only [Act.put, List.setIfInBounds_toArray, List.set_cons_succ, List.set_cons_zero]; refine hK _ ?_; clear hK K')) | (refine m_float ⟨undef, .inr ⟨?_, rfl⟩, fun K' hK => ?_⟩; (first | rfl | (go_simp; done)); (simp only [Act.put, List.setIfInBounds_toArray, List.set_cons_succ, List.set_cons_zero]; refine hK _ ?_; clear hK K')))
                          refine m_nil ?_
                          show wpList Try.prog _ _ (List.cons _ _) _ _
                          go_wp2_with fail
                          with_reducible refine (c5 _).mono ?_
                          rintro e w6 ⟨rfl, hB6⟩
                          have HB6 := Lib.hid (bthen HB5.out.drew hB6)
                          clear hB6
                          go_wp2
                          go_ret3
                          exact .inr ⟨5, HBAD.out, rfl, HB6.out⟩
                        · have g2 : (v == 0) = false := beq_eq_false_iff_ne.2 hv0
                          have HDN : Hid (∀ j, 1 ≤ j → j < t + 1 → ¬ ((l.getD k4 peD).par = (l.getD j peD).par ∧ cfP l wide k4 j = 0)) := Lib.hid fun j h1 h2 => by
                            rcases Nat.lt_or_ge j t with h3 | h3
                            · exact HDT.out j h1 h3
                            · obtain rfl : j = t := by omega
                              rw [hcf]
                              exact fun h => hv0 (heq.2 h.2)
                          clear hy hpar hv heq hcf hv0
                          go_wp2
                          refine region_sch (fun W => Below w.heap.size w W) [(true, 0), (true, 1), (true, 2), (true, 3), (true, 4), (true, 5), (true, 6), (true, 7), (true, 8), (true, 9), (true, 10), (true, 11), (true, 12), (true, 13), (true, 14), (true, 15), (true, 16), (true, 17), (true, 18), (true, 19), (true, 20), (true, 21), (true, 22)] [23, 24, 25] (by kernel_rfl) (by kernel_rfl) (by rintro ⟨_, _, h⟩; rcases h with ⟨-, -, -, v, u, h, -⟩ | ⟨c, -, h, -⟩ <;> cases h) (fun _ _ d _ _ h => by cases d <;> exact h) HB5.out.drew ?_
                          simp only [pickM, pickT, List.filterMap_cons, List.filterMap_nil, List.getElem?_cons_zero, List.getElem?_cons_succ, Option.map_some]
                          repeat (first | (refine m_float ⟨?_, .inl ⟨?_, .inl ?_⟩, fun K' hK => ?_⟩; rotate_left; (first | rfl | (go_simp; done)); (intro w' hS; (obtain ⟨q0, q1, q2⟩ := CQX.out _ hS; obtain ⟨p0, p1, p2⟩ := CQY.out _ hS; clear hS); go_simp; try rfl); (simp only [Act.put, List.setIfInBounds_toArray, List.set_cons_succ, List.set_cons_zero]; refine hK _ ?_; clear hK K')) | (refine m_float ⟨undef, .inr ⟨?_, rfl⟩, fun K' hK => ?_⟩; (first | rfl | (go_simp; done)); (simp only [Act.put, List.setIfInBounds_toArray, List.set_cons_succ, List.set_cons_zero]; refine hK _ ?_; clear hK K')))
                          refine m_nil ?_
                          show wpList Try.prog _ _ (List.cons _ _) _ _
                          go_wp2_with fail
                          with_reducible refine (c5 _).mono ?_
                          rintro e w6 ⟨rfl, hB6⟩
                          have HB6 := Lib.hid (bthen HB5.out.drew hB6)
                          clear hB6
                          go_wp2
                          go_roundw
                          case rel => exact ⟨t + 1, by go_num, by omega, by omega, HDN.out, HB6.out⟩
                          case measure => simp [intOf] <;> omega
                      · have g1 : (x.par == y.par) = false := beq_eq_false_iff_ne.2 hpar
                        have HDN : Hid (∀ j, 1 ≤ j → j < t + 1 → ¬ ((l.getD k4 peD).par = (l.getD j peD).par ∧ cfP l wide k4 j = 0)) := Lib.hid fun j h1 h2 => by
                          rcases Nat.lt_or_ge j t with h3 | h3
                          · exact HDT.out j h1 h3
                          · obtain rfl : j = t := by omega
                            rw [HXX.out, hy]
                            exact fun h => hpar h.1
                        clear hy hpar
                        go_wp2
                        refine region_sch (fun W => Below w.heap.size w W) [(true, 0), (true, 1), (true, 2), (true, 3), (true, 4), (true, 5), (true, 6), (true, 7), (true, 8), (true, 9), (true, 10), (true, 11), (true, 12), (true, 13), (true, 14), (true, 15), (true, 16), (true, 17), (true, 18), (true, 19), (true, 20), (true, 21), (true, 22)] [23, 24, 25] (by kernel_rfl) (by kernel_rfl) (by rintro ⟨_, _, h⟩; rcases h with ⟨-, -, -, v, u, h, -⟩ | ⟨c, -, h, -⟩ <;> cases h) (fun _ _ d _ _ h => by cases d <;> exact h) HB5.out.drew ?_
                        simp only [pickM, pickT, List.filterMap_cons, List.filterMap_nil, List.getElem?_cons_zero, List.getElem?_cons_succ, Option.map_some]
                        repeat (first | (refine m_float ⟨?_, .inl ⟨?_, .inl ?_⟩, fun K' hK => ?_⟩; rotate_left; (first | rfl | (go_simp; done)); (intro w' hS; (obtain ⟨q0, q1, q2⟩ := CQX.out _ hS; obtain ⟨p0, p1, p2⟩ := CQY.out _ hS; clear hS); go_simp; try rfl); (simp only [Act.put, List.setIfInBounds_toArray, List.set_cons_succ, List.set_cons_zero]; refine hK _ ?_; clear hK K')) | (refine m_float ⟨undef, .inr ⟨?_, rfl⟩, fun K' hK => ?_⟩; (first | rfl | (go_simp; done)); (simp only [Act.put, List.setIfInBounds_toArray, List.set_cons_succ, List.set_cons_zero]; refine hK _ ?_; clear hK K')))
                        refine m_nil ?_
                        show wpList Try.prog _ _ (List.cons _ _) _ _
                        go_wp2
                        go_roundw
                        case rel => exact ⟨t + 1, by go_num, by omega, by omega, HDN.out, HB5.out.drew⟩
                        case measure => simp [intOf] <;> omega
                    · have HDN : Hid (∀ i j, i < k4 + 1 → 1 ≤ j → j < i → ¬ ((l.getD i peD).par = (l.getD j peD).par ∧ cfP l wide i j = 0)) := Lib.hid fun i j h1 h2 h3 => by
                        rcases Nat.lt_or_ge i k4 with h4 | h4
                        · exact HDU.out i j h4 h2 h3
                        · obtain rfl : i = k4 := by omega
                          exact HDT.out j h2 (by omega)
                      go_wp2
                      go_roundw
                      case rel => exact ⟨k4 + 1, by go_num, by omega, by omega, HDN.out, HB5.out⟩
                      case measure => simp [intOf] <;> omega
                · have HFIN : Hid (OrdFin l wide) := Lib.hid ⟨HFULL.out, by
                    cases hd : (ordF l wide l.length).2 with
                    | false => rfl
                    | true =>
                      exfalso
                      obtain ⟨i, j, h1, h2, h3, h4, h5⟩ := (HOGD.out.dup_iff wide HFULL.out).1 hd
                      exact HDU.out i j (by omega) h1 h2 ⟨h4, h5⟩, HANY.out⟩
                  have HOG : Hid (OG l wide) := Lib.hid ⟨HFIN.out, HH.out.hpos, HH.out.hroot, HALL.out⟩
                  generalize hwe : wr = we at *
                  have hwes := HB4.out.size
                  go_wp2
                  go_loopw [13, 12, 14, 15, 16] (fun i v _ _ _ wq => ∃ q, i = cN (q : Nat) ∧ q ≤ (ordF l wide q).1.length ∧ wq.ownsRow w.heap.size 3 1 v (ordF l wide q).1.length (ints (ordF l wide q).1) ∧ Below w.heap.size w wq) (fun i _ _ _ _ _ => l.length - (intOf i).toNat)
                  case atStart => exact ⟨0, rfl, Nat.zero_le _, ⟨rfl, .inr ⟨we.heap.size, 1, _, rfl, hwes, World.alloc_heap_new _ _, Nat.le_refl _, by unfold maxLen; omega, rfl, rfl⟩⟩, bald HB4.out _⟩
                  case round =>
                    obtain ⟨q, rfl, hq, ho, hB⟩ := hrel
                    have HO6 := Lib.hid ho
                    have HB6 := Lib.hid hB
                    have hO := ordF_ok l wide hpos q hq
                    have hol := ordS_len hO
                    have HOF := Lib.hid hO
                    obtain ⟨o, hoe⟩ : ∃ o, (ordF l wide q).1 = o := ⟨_, rfl⟩
                    have HOE := Lib.hid hoe
                    rw [hoe] at hq hol ho
                    by_cases hlt6 : (q : Int) < (o.length : Int)
                    · have hql : q < o.length := by omega
                      have hqo : q < (ordF l wide q).1.length := by rw [hoe]; exact hql
                      obtain ⟨gO, cO, rfl, -, p3⟩ := own_ints ho q hql
                      obtain ⟨y0, hy0⟩ : ∃ y, o.getD q 0 = y := ⟨_, rfl⟩
                      rw [hy0] at p3
                      have hyl : y0 < l.length := by
                        refine hO.lt y0 ?_
                        rw [hoe, ← hy0]
                        exact getD_mem hql
                      have HNEXT : Hid ((ordF l wide (q + 1)).1 = o ++ srtI (cfP l wide) (kidsM l l.length (y0 + 1))) := Lib.hid (by
                        have e := ordF_next hqo
                        rw [hoe, hy0] at e
                        rw [e])
                      have hgl : gO < wr.heap.size := (ho.lt gO rfl).2
                      have HO7 := Lib.hid ho
                      have CO : Hid (∀ W, Below wr.heap.size wr W → W.cell? ⟨gO, q, none⟩ = some (cN (y0 : Int))) := Lib.hid fun W hW => (hW.cell (p := ⟨gO, q, none⟩) hgl).trans p3
                      have hqi : (q : Int) < (o.length : Int) := by omega
                      have hwrs := HB6.out.size
                      clear ho hB hO hoe hy0 hqo p3
                      generalize hwf : wr = wf at *
                      go_wp2
                      go_loopw [15, 14, 16] (fun i v _ wq => ∃ k g cap, i = cN (k : Nat) ∧ 1 ≤ k ∧ k ≤ l.length ∧ v = .slice (some ⟨g, 0, none⟩) (srtI (cfP l wide) (kidsM l k (y0 + 1))).length cap ∧ wq.ownsRow w.heap.size 3 1 v (srtI (cfP l wide) (kidsM l k (y0 + 1))).length (ints (srtI (cfP l wide) (kidsM l k (y0 + 1)))) ∧ wf.heap.size ≤ g ∧ Below wf.heap.size wf wq) (fun i _ _ _ => l.length - (intOf i).toNat)
                      case atStart => exact ⟨1, wf.heap.size, 0, rfl, Nat.le_refl _, HH.out.hpos, rfl, ⟨rfl, .inr ⟨wf.heap.size, 0, _, rfl, hwrs, World.alloc_heap_new _ _, Nat.le_refl _, by unfold maxLen; omega, rfl, rfl⟩⟩, Nat.le_refl _, bald (Below.refl _ wf) _⟩
                      case round =>
                        obtain ⟨k7, g, cap, rfl, hk71, hk7, rfl, ho7, hgw, hB7⟩ := hrel
                        have HK7 := Lib.hid ho7
                        have HB7 := Lib.hid hB7
                        have hml : (srtI (cfP l wide) (kidsM l k7 (y0 + 1))).length ≤ l.length := by
                          rw [(srtI_perm _ _).length_eq]
                          have := kids_len l k7 (y0 + 1)
                          omega
                        have hcapm : (srtI (cfP l wide) (kidsM l k7 (y0 + 1))).length ≤ cap ∧ cap ≤ maxLen := by
                          rcases ho7.2 with ⟨e, -⟩ | ⟨g', cap', cur', e, -, -, h1, h2, -, -⟩
                          · simp at e
                          · simp at e
                            rw [e.2]
                            exact ⟨h1, h2⟩
                        obtain ⟨M, hM⟩ : ∃ M, srtI (cfP l wide) (kidsM l k7 (y0 + 1)) = M := ⟨_, rfl⟩
                        have HM := Lib.hid hM
                        rw [hM] at hml hcapm ho7 ⊢
                        have HKM : Hid (wr.ownsRow w.heap.size 3 1 (.slice (some ⟨g, 0, none⟩) M.length cap) M.length (ints M)) := Lib.hid ho7
                        have hgl2 : g < wr.heap.size := (ho7.lt g rfl).2
                        clear hM ho7 hB7 HK7
                        by_cases hlt7 : (k7 : Int) < (l.length : Int)
                        · have hkl7 : k7 < l.length := by omega
                          obtain ⟨x, hx⟩ : ∃ x, l.getD k7 peD = x := ⟨_, rfl⟩
                          have HXX := Lib.hid hx
                          have hzx : x.id.size < 2 ^ 30 := by rw [← hx]; exact HH2.out _ (gdp hkl7)
                          obtain ⟨pj, hpj⟩ : ∃ pj : Nat, x.par = (pj : Int) + 1 := ⟨x.par.toNat - 1, by have := HOGD.out.par hkl7; rw [hx] at this; omega⟩
                          have CQ7 : Hid (∀ W, Below wf.heap.size wf W → W.cell? ⟨b, off + k7 * 3, none⟩ = some (.string x.id) ∧ W.cell? ⟨b, off + k7 * 3 + 2, none⟩ = some (cN ((pj : Int) + 1))) := Lib.hid fun W hW => by
                            have := CX.out k7 hkl7 x HXX.out W (bthen HB6.out hW)
                            obtain ⟨r0, r1, r2⟩ := this
                            rw [hpj] at r2
                            exact ⟨r0, r2⟩
                          have hpjl : pj < l.length := by have := HOGD.out.par hkl7; rw [hx, hpj] at this; omega
                          have e1 : ((pj : Int) + 1 - 1) = (pj : Int) := by omega
                          have hwp : IntKind.i64.wrap (pj : Int) = (pj : Int) := by rw [IntKind.wrap_i64]; omega
                          have HKS : Hid (kidsM l (k7 + 1) (y0 + 1) = kidsM l k7 (y0 + 1) ++ if pj = y0 then [k7] else []) := Lib.hid (by
                            rw [kids_snoc l k7 (y0 + 1) hk71, hx, hpj]
                            congr 1
                            by_cases e : pj = y0
                            · subst e
                              simp
                            · rw [if_neg e, if_neg (by simp; omega)])
                          clear hx hpj
                          by_cases hpy : pj = y0
                          · have g3 : ((pj : Int) == (y0 : Int)) = true := beq_iff_eq.2 (by omega)
                            have HKN : Hid (kidsM l (k7 + 1) (y0 + 1) = kidsM l k7 (y0 + 1) ++ [k7]) := Lib.hid (by rw [HKS.out, if_pos hpy])
                            subst hpy
                            generalize hwg : wr = wg at *
                            go_wp2
                            refine region_sch (fun W => Below wf.heap.size wf W) [(true, 0), (true, 1), (true, 2), (true, 3), (true, 4), (true, 5), (true, 6), (true, 7), (true, 8), (true, 9)] [10] (by kernel_rfl) (by kernel_rfl) (by rintro ⟨_, _, h⟩; rcases h with ⟨-, -, -, v, u, h, -⟩ | ⟨c, -, h, -⟩ <;> cases h) (fun _ _ d _ _ h => by cases d <;> exact h) HB7.out.drew ?_
                            simp only [pickM, pickT, List.filterMap_cons, List.filterMap_nil, List.getElem?_cons_zero, List.getElem?_cons_succ, Option.map_some]
                            repeat (first | (refine m_float ⟨?_, .inl ⟨?_, .inl ?_⟩, fun K' hK => ?_⟩; rotate_left; (first | rfl | (go_simp; done)); (intro w' hS; (obtain ⟨r0, r2⟩ := CQ7.out _ hS; have r3 := CO.out _ hS; clear hS); go_simp; try rfl); (simp only [Act.put, List.setIfInBounds_toArray, List.set_cons_succ, List.set_cons_zero]; refine hK _ ?_; clear hK K')) | (refine m_float ⟨undef, .inr ⟨?_, rfl⟩, fun K' hK => ?_⟩; (first | rfl | (go_simp; done)); (simp only [Act.put, List.setIfInBounds_toArray, List.set_cons_succ, List.set_cons_zero]; refine hK _ ?_; clear hK K')))
                            refine m_nil ?_
                            show wpList Try.prog _ _ (List.cons _ _) _ _
                            go_wp2
                            go_loopw [16] (fun i wq => ∃ t, i = cN (t : Nat) ∧ t ≤ M.length ∧ (∀ s, t ≤ s → s < M.length → 0 < cfP l wide (M.getD s 0) k7) ∧ Below wg.heap.size wg wq) (fun i _ => (intOf i).toNat)
                            case atStart => exact ⟨M.length, rfl, Nat.le_refl _, fun s h1 h2 => by omega, (Below.refl _ wg).drew⟩
                            case round =>
                              obtain ⟨t, rfl, htm, hall, hB8⟩ := hrel
                              have HT8 := Lib.hid hall
                              have HB8 := Lib.hid hB8
                              clear hall hB8
                              rcases Nat.eq_zero_or_pos t with ht0 | ht0
                              · have HINS : Hid (M.take t ++ k7 :: M.drop t = srtI (cfP l wide) (kidsM l (k7 + 1) (pj + 1))) := Lib.hid (by
                                  rw [HKN.out, ← HM.out]
                                  refine ins_srt (cfP_ok l wide) (kids_inc _ _ _) (fun x hx => (kids_mem hx).2.1) (by rw [HM.out]; exact htm) (.inl ht0) fun s h1 h2 => ?_
                                  rw [HM.out] at h2 ⊢
                                  exact HT8.out s h1 h2)
                                have g4 : ¬ (0 : Int) < (t : Int) := by omega
                                have g4n : ¬ 0 < t := by omega
                                have g4d : decide ((0 : Int) < (t : Int)) = false := decide_eq_false g4
                                have g4m : decide (0 < t) = false := decide_eq_false g4n
                                clear ht0
                                go_wp2
                                refine region_sch (fun W => Below wg.heap.size wg W) [(true, 0), (true, 1), (true, 2), (true, 3), (true, 4), (true, 5), (true, 6), (true, 7), (true, 8), (true, 9), (true, 10), (true, 11), (true, 12), (true, 13), (true, 14), (true, 15), (true, 16), (true, 17)] [18, 19, 20] (by kernel_rfl) (by kernel_rfl) (by rintro ⟨_, _, h⟩; rcases h with ⟨-, -, -, v, u, h, -⟩ | ⟨c, -, h, -⟩ <;> cases h) (fun _ _ d _ _ h => by cases d <;> exact h) HB8.out.drew ?_
                                simp only [pickM, pickT, List.filterMap_cons, List.filterMap_nil, List.getElem?_cons_zero, List.getElem?_cons_succ, Option.map_some]
                                repeat (first | (refine m_float ⟨?_, .inl ⟨?_, .inl ?_⟩, fun K' hK => ?_⟩; rotate_left; (first | rfl | (go_simp; done)); (intro w' hS; clear hS; go_simp; try rfl); (simp only [Act.put, List.setIfInBounds_toArray, List.set_cons_succ, List.set_cons_zero]; refine hK _ ?_; clear hK K')) | (refine m_float ⟨undef, .inr ⟨?_, rfl⟩, fun K' hK => ?_⟩; (first | rfl | (go_simp; done)); (simp only [Act.put, List.setIfInBounds_toArray, List.set_cons_succ, List.set_cons_zero]; refine hK _ ?_; clear hK K')))
                                refine m_nil ?_
                                show wpList Try.prog _ _ (List.cons _ _) _ _
                                go_wp2
                                clear g4 g4n g4d g4m
                                have HBW : Hid (Below wg.heap.size wg (World.drew wr)) := Lib.hid HB8.out.drew
                                have HKW : Hid (World.ownsRow (World.drew wr) w.heap.size 3 1 (.slice (some ⟨g, 0, none⟩) M.length cap) M.length (ints M)) := Lib.hid (own_keep HKM.out HBW.out)
                                have hgW : g < ((World.drew wr)).heap.size := (HKW.out.lt g rfl).2
                                have hwW : w.heap.size ≤ ((World.drew wr)).heap.size := by
                                  have h1 := HBW.out.size
                                  have h2 := HB7.out.size
                                  omega
                                generalize hW0 : (World.drew wr) = W0 at *
                                clear hW0
                                have hMi : (M.length : Int) ≤ (cap : Int) := by omega
                                have hti : (t : Int) ≤ (M.length : Int) := by omega
                                have htc : (t : Int) ≤ (cap : Int) := by omega
                                have htc2 : t ≤ cap := by omega
                                by_cases hct : cap = t
                                · have hMt : M.length = t := by omega
                                  have hdr : M.drop t = [] := List.drop_eq_nil_of_le (by omega)
                                  have hcell : ∀ W, Below W0.heap.size W0 W → ∀ j u, (ints (M.drop t))[j]? = some u → W.cell? ((⟨g, 0, none⟩ : Addr).add j) = some u := fun W hW j u h => by
                                    rw [hdr] at h
                                    simp [ints] at h
                                  have HCELL := Lib.hid hcell
                                  have hnlt : ¬ t < cap := by omega
                                  have hnlti : ¬ (t : Int) < (cap : Int) := by omega
                                  have HMT := Lib.hid hMt
                                  clear hdr hcell hMt
                                  have htake : ∀ W, Below W0.heap.size W0 W → ∀ j u, (ints (M.take t))[j]? = some u → W.cell? ((⟨g, 0, none⟩ : Addr).add j) = some u := fun W hW j u h => by
                                    obtain ⟨x9, hx9, rfl⟩ := ints_get h
                                    have hjt : j < t := by
                                      have := (List.getElem?_eq_some_iff.1 hx9).1
                                      rw [List.length_take] at this
                                      omega
                                    rw [List.getElem?_take_of_lt hjt] at hx9
                                    rw [add_none, Nat.zero_add]
                                    exact (hW.cell (p := ⟨g, j, none⟩) hgW).trans (own_cellI HKW.out j x9 hx9)
                                  have HTAKE := Lib.hid htake
                                  have hnw : (W0.alloc (.cells #[cN (k7 : Int)] 3)).drew.ownsRow w.heap.size 3 1 (.slice (some ⟨W0.heap.size, 0, none⟩) 1 1) 1 [cN (k7 : Int)] := ⟨rfl, .inr ⟨W0.heap.size, 1, _, rfl, hwW, World.alloc_heap_new W0 _, Nat.le_refl _, by unfold maxLen; omega, rfl, rfl⟩⟩
                                  have HNW := Lib.hid hnw
                                  have hb8 : Below W0.heap.size W0 (W0.alloc (.cells #[cN (k7 : Int)] 3)).drew := bald (Below.refl _ W0).drew _
                                  have HB8b := Lib.hid hb8
                                  clear htake hnw hb8
                                  refine region_sch (fun W' => Below W0.heap.size W0 W') [(true, 0), (true, 1), (true, 2), (true, 3), (true, 4), (true, 6), (true, 7), (true, 8), (false, 5), (false, 9)] [10, 11] (by kernel_rfl) (by kernel_rfl) (by rintro ⟨_, _, h⟩; rcases h with ⟨-, -, -, v, u, h, -⟩ | ⟨c, -, h, -⟩ <;> cases h) (fun _ _ d _ _ h => by cases d <;> exact h) (Below.refl _ W0).drew ?_
                                  simp only [pickM, pickT, List.filterMap_cons, List.filterMap_nil, List.getElem?_cons_zero, List.getElem?_cons_succ, Option.map_some]
                                  repeat (first | (refine m_float ⟨?_, .inl ⟨?_, .inl ?_⟩, fun K' hK => ?_⟩; rotate_left; (first | rfl | (go_simp; done)); (intro w' hS; clear hS; go_simp; try rfl); (simp only [Act.put, List.setIfInBounds_toArray, List.set_cons_succ, List.set_cons_zero]; refine hK _ ?_; clear hK K')) | (refine m_float ⟨undef, .inr ⟨?_, rfl⟩, fun K' hK => ?_⟩; (first | rfl | (go_simp; done)); (simp only [Act.put, List.setIfInBounds_toArray, List.set_cons_succ, List.set_cons_zero]; refine hK _ ?_; clear hK K')))
                                  refine m_loud ?_ (fun K' hK => ?_)
                                  · rintro ⟨_, _, h⟩; rcases h with ⟨-, -, -, v, u, h, -⟩ | ⟨c, -, h, -⟩ <;> cases h
                                  go_wp2
                                  refine hK _ _ HB8b.out ?_
                                  clear hK K'
                                  repeat (first | (refine m_float ⟨?_, .inl ⟨?_, .inl ?_⟩, fun K' hK => ?_⟩; rotate_left; (first | rfl | (go_simp; done)); (intro w' hS; skip; go_simp; try rfl); (simp only [Act.put, List.setIfInBounds_toArray, List.set_cons_succ, List.set_cons_zero]; refine hK _ ?_; clear hK K')) | (refine m_float ⟨undef, .inr ⟨?_, rfl⟩, fun K' hK => ?_⟩; (first | rfl | (go_simp; done)); (simp only [Act.put, List.setIfInBounds_toArray, List.set_cons_succ, List.set_cons_zero]; refine hK _ ?_; clear hK K')))
                                  refine m_loud ?_ (fun K' hK => ?_)
                                  · rintro ⟨_, _, h⟩; rcases h with ⟨-, -, -, v, u, h, -⟩ | ⟨c, -, h, -⟩ <;> cases h
                                  go_wp2_with (at_builtin; refine wpList_append_own_at _ rfl _ _ 33 rfl w.heap.size 3 i0 (.int .i64 0) 1 8 Try.underlying33 hi hz0 hz1 hz2 rfl (by decide) _ _ _ rfl HNW.out ⟨g, 0, none⟩ (M.length - t) _ (ints (M.drop t)) rfl (by rw [ints_len, List.length_drop, Nat.mul_one]) ?c1 ?c2 ?c3 ?c4 ?c5 ?_)
                                  case c1 => first | exact HCELL.out _ HB8b.out | (intro j u h; have hh := HCELL.out _ HB8b.out j u h; rw [add_none] at hh; first | exact hh | (rw [add_none]; exact hh) | (rw [Nat.zero_add] at hh; exact hh))
                                  case c2 => exact ints_one _
                                  case c3 => unfold maxLen; omega
                                  case c4 => omega
                                  case c5 => first | omega | (simp; omega)
                                  intro v11 w11 ho11 hg11 hnn11 _
                                  have hb11 : Below W0.heap.size W0 w11 := HB8b.out.grown hg11 HB8b.out.size (fun k e => by simp [Value.ownBlock] at e; omega)
                                  rcases ho11.2 with ⟨-, h0⟩ | ⟨g11, cap11, cur11, hv11, -⟩
                                  · omega
                                  have hc11 := ho11.cells (g := g11) (by rw [hv11]; rfl)
                                  subst hv11
                                  have HC11 := Lib.hid hc11
                                  have HB11 := Lib.hid hb11
                                  clear ho11 hg11 hnn11 hb11 hc11
                                  go_wp2
                                  refine hK _ _ HB11.out ?_
                                  clear hK K'
                                  repeat (first | (refine m_float ⟨?_, .inl ⟨?_, .inl ?_⟩, fun K' hK => ?_⟩; rotate_left; (first | rfl | (go_simp; done)); (intro w' hS; skip; go_simp; try rfl); (simp only [Act.put, List.setIfInBounds_toArray, List.set_cons_succ, List.set_cons_zero]; refine hK _ ?_; clear hK K')) | (refine m_float ⟨undef, .inr ⟨?_, rfl⟩, fun K' hK => ?_⟩; (first | rfl | (go_simp; done)); (simp only [Act.put, List.setIfInBounds_toArray, List.set_cons_succ, List.set_cons_zero]; refine hK _ ?_; clear hK K')))
                                  refine m_nil ?_
                                  show wpList Try.prog _ _ (List.cons _ _) _ _
                                  go_wp2_with (at_builtin; refine wpList_append_cut rfl _ _ 33 rfl w.heap.size 3 i0 (.int .i64 0) 1 8 Try.underlying33 hi hz0 hz1 hz2 rfl (by decide) ⟨g, 0, none⟩ t t (ints (M.take t)) rfl (by rw [ints_len, List.length_take, Nat.mul_one]; omega) (HTAKE.out _ HB11.out) ⟨g11, 0, none⟩ (1 + (M.length - t)) cap11 ([cN (k7 : Int)] ++ ints (M.drop t)) rfl (by rw [List.length_append, ints_len, List.length_drop, Nat.mul_one]; rfl) HC11.out (by omega) (by unfold maxLen; omega) (by omega) (by have := HB11.out.size; omega) ?_)
                                  intro cap12 w12 ho12 hB12
                                  have HLEN : Hid (t + (1 + (M.length - t)) = (srtI (cfP l wide) (kidsM l (k7 + 1) (pj + 1))).length) := Lib.hid (by rw [← HINS.out]; simp; omega)
                                  have HINTS : Hid (ints (M.take t) ++ ([cN (k7 : Int)] ++ ints (M.drop t)) = ints (srtI (cfP l wide) (kidsM l (k7 + 1) (pj + 1)))) := Lib.hid (by rw [← HINS.out]; simp [ints])
                                  have HO12 := Lib.hid ho12
                                  have HB12 : Hid (Below wf.heap.size wf w12) := Lib.hid (bthen HB7.out (bthen HBW.out (bthen HB11.out hB12)))
                                  have hgw12 : wf.heap.size ≤ w11.heap.size := by
                                    have h1 := HB11.out.size
                                    have h2 := HBW.out.size
                                    have h3 := HB7.out.size
                                    omega
                                  clear ho12 hB12
                                  go_wp2
                                  go_roundw
                                  case rel => exact ⟨k7 + 1, w11.heap.size, cap12, by go_num, by omega, by omega, by rw [← HLEN.out], by rw [← HLEN.out, ← HINTS.out]; exact HO12.out, hgw12, HB12.out⟩
                                  case measure => simp [intOf] <;> omega
                                · have hlt9 : t < cap := by omega
                                  have hlt9i : (t : Int) < (cap : Int) := by omega
                                  have hcell : ∀ W, Below W0.heap.size W0 W → ∀ j u, (ints (M.drop t))[j]? = some u → W.cell? ((⟨g, t, none⟩ : Addr).add j) = some u := fun W hW j u h => by
                                    obtain ⟨x9, hx9, rfl⟩ := ints_get h
                                    rw [List.getElem?_drop] at hx9
                                    rw [show ((⟨g, t, none⟩ : Addr).add j) = ⟨g, t + j, none⟩ by unfold Addr.add; split <;> simp_all]
                                    exact (hW.cell (p := ⟨g, t + j, none⟩) hgW).trans (own_cellI HKW.out (t + j) x9 hx9)
                                  have HCELL := Lib.hid hcell
                                  clear hcell
                                  have htake : ∀ W, Below W0.heap.size W0 W → ∀ j u, (ints (M.take t))[j]? = some u → W.cell? ((⟨g, 0, none⟩ : Addr).add j) = some u := fun W hW j u h => by
                                    obtain ⟨x9, hx9, rfl⟩ := ints_get h
                                    have hjt : j < t := by
                                      have := (List.getElem?_eq_some_iff.1 hx9).1
                                      rw [List.length_take] at this
                                      omega
                                    rw [List.getElem?_take_of_lt hjt] at hx9
                                    rw [add_none, Nat.zero_add]
                                    exact (hW.cell (p := ⟨g, j, none⟩) hgW).trans (own_cellI HKW.out j x9 hx9)
                                  have HTAKE := Lib.hid htake
                                  have hnw : (W0.alloc (.cells #[cN (k7 : Int)] 3)).drew.ownsRow w.heap.size 3 1 (.slice (some ⟨W0.heap.size, 0, none⟩) 1 1) 1 [cN (k7 : Int)] := ⟨rfl, .inr ⟨W0.heap.size, 1, _, rfl, hwW, World.alloc_heap_new W0 _, Nat.le_refl _, by unfold maxLen; omega, rfl, rfl⟩⟩
                                  have HNW := Lib.hid hnw
                                  have hb8 : Below W0.heap.size W0 (W0.alloc (.cells #[cN (k7 : Int)] 3)).drew := bald (Below.refl _ W0).drew _
                                  have HB8b := Lib.hid hb8
                                  clear htake hnw hb8
                                  refine region_sch (fun W' => Below W0.heap.size W0 W') [(true, 0), (true, 1), (true, 2), (true, 3), (true, 4), (true, 6), (true, 7), (true, 8), (false, 5), (false, 9)] [10, 11] (by kernel_rfl) (by kernel_rfl) (by rintro ⟨_, _, h⟩; rcases h with ⟨-, -, -, v, u, h, -⟩ | ⟨c, -, h, -⟩ <;> cases h) (fun _ _ d _ _ h => by cases d <;> exact h) (Below.refl _ W0).drew ?_
                                  simp only [pickM, pickT, List.filterMap_cons, List.filterMap_nil, List.getElem?_cons_zero, List.getElem?_cons_succ, Option.map_some]
                                  repeat (first | (refine m_float ⟨?_, .inl ⟨?_, .inl ?_⟩, fun K' hK => ?_⟩; rotate_left; (first | rfl | (go_simp; done)); (intro w' hS; clear hS; go_simp; try rfl); (simp only [Act.put, List.setIfInBounds_toArray, List.set_cons_succ, List.set_cons_zero]; refine hK _ ?_; clear hK K')) | (refine m_float ⟨undef, .inr ⟨?_, rfl⟩, fun K' hK => ?_⟩; (first | rfl | (go_simp; done)); (simp only [Act.put, List.setIfInBounds_toArray, List.set_cons_succ, List.set_cons_zero]; refine hK _ ?_; clear hK K')))
                                  refine m_loud ?_ (fun K' hK => ?_)
                                  · rintro ⟨_, _, h⟩; rcases h with ⟨-, -, -, v, u, h, -⟩ | ⟨c, -, h, -⟩ <;> cases h
                                  go_wp2
                                  refine hK _ _ HB8b.out ?_
                                  clear hK K'
                                  repeat (first | (refine m_float ⟨?_, .inl ⟨?_, .inl ?_⟩, fun K' hK => ?_⟩; rotate_left; (first | rfl | (go_simp; done)); (intro w' hS; skip; go_simp; try rfl); (simp only [Act.put, List.setIfInBounds_toArray, List.set_cons_succ, List.set_cons_zero]; refine hK _ ?_; clear hK K')) | (refine m_float ⟨undef, .inr ⟨?_, rfl⟩, fun K' hK => ?_⟩; (first | rfl | (go_simp; done)); (simp only [Act.put, List.setIfInBounds_toArray, List.set_cons_succ, List.set_cons_zero]; refine hK _ ?_; clear hK K')))
                                  refine m_loud ?_ (fun K' hK => ?_)
                                  · rintro ⟨_, _, h⟩; rcases h with ⟨-, -, -, v, u, h, -⟩ | ⟨c, -, h, -⟩ <;> cases h
                                  go_wp2_with (at_builtin; refine wpList_append_own_at _ rfl _ _ 33 rfl w.heap.size 3 i0 (.int .i64 0) 1 8 Try.underlying33 hi hz0 hz1 hz2 rfl (by decide) _ _ _ rfl HNW.out ⟨g, t, none⟩ (M.length - t) _ (ints (M.drop t)) rfl (by rw [ints_len, List.length_drop, Nat.mul_one]) ?c1 ?c2 ?c3 ?c4 ?c5 ?_)
                                  case c1 => first | exact HCELL.out _ HB8b.out | (intro j u h; have hh := HCELL.out _ HB8b.out j u h; rw [add_none] at hh; first | exact hh | (rw [add_none]; exact hh) | (rw [Nat.zero_add] at hh; exact hh))
                                  case c2 => exact ints_one _
                                  case c3 => unfold maxLen; omega
                                  case c4 => omega
                                  case c5 => first | omega | (simp; omega)
                                  intro v11 w11 ho11 hg11 hnn11 _
                                  have hb11 : Below W0.heap.size W0 w11 := HB8b.out.grown hg11 HB8b.out.size (fun k e => by simp [Value.ownBlock] at e; omega)
                                  rcases ho11.2 with ⟨-, h0⟩ | ⟨g11, cap11, cur11, hv11, -⟩
                                  · omega
                                  have hc11 := ho11.cells (g := g11) (by rw [hv11]; rfl)
                                  subst hv11
                                  have HC11 := Lib.hid hc11
                                  have HB11 := Lib.hid hb11
                                  clear ho11 hg11 hnn11 hb11 hc11
                                  go_wp2
                                  refine hK _ _ HB11.out ?_
                                  clear hK K'
                                  repeat (first | (refine m_float ⟨?_, .inl ⟨?_, .inl ?_⟩, fun K' hK => ?_⟩; rotate_left; (first | rfl | (go_simp; done)); (intro w' hS; skip; go_simp; try rfl); (simp only [Act.put, List.setIfInBounds_toArray, List.set_cons_succ, List.set_cons_zero]; refine hK _ ?_; clear hK K')) | (refine m_float ⟨undef, .inr ⟨?_, rfl⟩, fun K' hK => ?_⟩; (first | rfl | (go_simp; done)); (simp only [Act.put, List.setIfInBounds_toArray, List.set_cons_succ, List.set_cons_zero]; refine hK _ ?_; clear hK K')))
                                  refine m_nil ?_
                                  show wpList Try.prog _ _ (List.cons _ _) _ _
                                  go_wp2_with (at_builtin; refine wpList_append_cut rfl _ _ 33 rfl w.heap.size 3 i0 (.int .i64 0) 1 8 Try.underlying33 hi hz0 hz1 hz2 rfl (by decide) ⟨g, 0, none⟩ t t (ints (M.take t)) rfl (by rw [ints_len, List.length_take, Nat.mul_one]; omega) (HTAKE.out _ HB11.out) ⟨g11, 0, none⟩ (1 + (M.length - t)) cap11 ([cN (k7 : Int)] ++ ints (M.drop t)) rfl (by rw [List.length_append, ints_len, List.length_drop, Nat.mul_one]; rfl) HC11.out (by omega) (by unfold maxLen; omega) (by omega) (by have := HB11.out.size; omega) ?_)
                                  intro cap12 w12 ho12 hB12
                                  have HLEN : Hid (t + (1 + (M.length - t)) = (srtI (cfP l wide) (kidsM l (k7 + 1) (pj + 1))).length) := Lib.hid (by rw [← HINS.out]; simp; omega)
                                  have HINTS : Hid (ints (M.take t) ++ ([cN (k7 : Int)] ++ ints (M.drop t)) = ints (srtI (cfP l wide) (kidsM l (k7 + 1) (pj + 1)))) := Lib.hid (by rw [← HINS.out]; simp [ints])
                                  have HO12 := Lib.hid ho12
                                  have HB12 : Hid (Below wf.heap.size wf w12) := Lib.hid (bthen HB7.out (bthen HBW.out (bthen HB11.out hB12)))
                                  have hgw12 : wf.heap.size ≤ w11.heap.size := by
                                    have h1 := HB11.out.size
                                    have h2 := HBW.out.size
                                    have h3 := HB7.out.size
                                    omega
                                  clear ho12 hB12
                                  go_wp2
                                  go_roundw
                                  case rel => exact ⟨k7 + 1, w11.heap.size, cap12, by go_num, by omega, by omega, by rw [← HLEN.out], by rw [← HLEN.out, ← HINTS.out]; exact HO12.out, hgw12, HB12.out⟩
                                  case measure => simp [intOf] <;> omega
                              · obtain ⟨s, hs⟩ : ∃ s, t = s + 1 := ⟨t - 1, by omega⟩
                                have g4 : (0 : Int) < (t : Int) := by omega
                                have g4d : decide ((0 : Int) < (t : Int)) = true := decide_eq_true g4
                                have g4m : decide (0 < t) = true := decide_eq_true ht0
                                have hy7 : M.getD s 0 < l.length := by
                                  have hm := (srtI_perm (cfP l wide) (kidsM l k7 (pj + 1))).mem_iff.1 (by rw [HM.out]; exact getD_mem (j := s) (by omega))
                                  have := (kids_mem hm).2.1
                                  omega
                                obtain ⟨u, hu⟩ : ∃ u, M.getD s 0 = u := ⟨_, rfl⟩
                                rw [hu] at hy7
                                have hmu : M[s]? = some u := by rw [← hu, List.getD_eq_getElem?_getD, List.getElem?_eq_getElem (by omega)]; rfl
                                have hcu := own_cellI HKM.out s u hmu
                                obtain ⟨y, hy⟩ : ∃ y, l.getD u peD = y := ⟨_, rfl⟩
                                have hzy : y.id.size < 2 ^ 30 := by rw [← hy]; exact HH2.out _ (gdp hy7)
                                have CY8 : Hid (∀ W, Below wg.heap.size wg W → W.cell? ⟨g, s, none⟩ = some (cN (u : Int)) ∧ W.cell? ⟨b, off + u * 3, none⟩ = some (.string y.id) ∧ W.cell? ⟨b, off + k7 * 3, none⟩ = some (.string x.id)) := Lib.hid fun W hW =>
                                  ⟨(hW.cell (p := ⟨g, s, none⟩) hgl2).trans hcu, (CX.out u hy7 y hy W (bthen HB6.out (bthen HB7.out hW))).1, (CQ7.out W (bthen HB7.out hW)).1⟩
                                have c5 := fun W => rcmp_ok y.id x.id wide W hzy hzx
                                have hgt := rcmp_gt y.id.data.toList x.id.data.toList wide
                                obtain ⟨v, hv⟩ : ∃ v, rcmpM y.id.data.toList x.id.data.toList wide = v := ⟨_, rfl⟩
                                rw [hv] at c5 hgt
                                have hcf : cfP l wide u k7 = cmpM y.id.data.toList x.id.data.toList wide := by unfold cfP; rw [hy, HXX.out]
                                rw [← hcf] at hgt
                                have hul : (u : Int) < (l.length : Int) := by omega
                                have hsM : (s : Int) < (M.length : Int) := by omega
                                have e2 : ((t : Int) - 1) = (s : Int) := by omega
                                have hwp2 : IntKind.i64.wrap (s : Int) = (s : Int) := by rw [IntKind.wrap_i64]; omega
                                have HU := Lib.hid hu
                                have HGT := Lib.hid hgt
                                have HTS := Lib.hid hs
                                clear hu hmu hcu hy hv hcf hgt hs
                                by_cases hvp : 0 < v
                                · have g5 : decide (0 < v) = true := decide_eq_true hvp
                                  have HTN : Hid (∀ s', s ≤ s' → s' < M.length → 0 < cfP l wide (M.getD s' 0) k7) := Lib.hid fun s' h1 h2 => by
                                    have := HTS.out
                                    rcases Nat.lt_or_ge s s' with h3 | h3
                                    · exact HT8.out s' (by omega) h2
                                    · obtain rfl : s' = s := by omega
                                      rw [HU.out]
                                      exact HGT.out.1 hvp
                                  go_wp2
                                  refine region_sch (fun W => Below wg.heap.size wg W) [(true, 0), (true, 1), (true, 2), (true, 3), (true, 4), (true, 5), (true, 6), (true, 7), (true, 8), (true, 9), (true, 10), (true, 11), (true, 12), (true, 13), (true, 14), (true, 15), (true, 16), (true, 17)] [18, 19, 20] (by kernel_rfl) (by kernel_rfl) (by rintro ⟨_, _, h⟩; rcases h with ⟨-, -, -, v, u, h, -⟩ | ⟨c, -, h, -⟩ <;> cases h) (fun _ _ d _ _ h => by cases d <;> exact h) HB8.out.drew ?_
                                  simp only [pickM, pickT, List.filterMap_cons, List.filterMap_nil, List.getElem?_cons_zero, List.getElem?_cons_succ, Option.map_some]
                                  repeat (first | (refine m_float ⟨?_, .inl ⟨?_, .inl ?_⟩, fun K' hK => ?_⟩; rotate_left; (first | rfl | (go_simp; done)); (intro w' hS; (obtain ⟨r0, r1, r2⟩ := CY8.out _ hS; clear hS); go_simp; try rfl); (simp only [Act.put, List.setIfInBounds_toArray, List.set_cons_succ, List.set_cons_zero]; refine hK _ ?_; clear hK K')) | (refine m_float ⟨undef, .inr ⟨?_, rfl⟩, fun K' hK => ?_⟩; (first | rfl | (go_simp; done)); (simp only [Act.put, List.setIfInBounds_toArray, List.set_cons_succ, List.set_cons_zero]; refine hK _ ?_; clear hK K')))
                                  refine m_nil ?_
                                  show wpList Try.prog _ _ (List.cons _ _) _ _
                                  go_wp2_with fail
                                  with_reducible refine (c5 _).mono ?_
                                  rintro e w9 ⟨rfl, hB9⟩
                                  have HB9 := Lib.hid (bthen HB8.out.drew hB9)
                                  clear hB9
                                  go_wp2
                                  go_roundw
                                  case rel => exact ⟨s, by go_num, by omega, HTN.out, HB9.out⟩
                                  case measure =>
                                    have := HTS.out
                                    simp [intOf] <;> omega
                                · have g5 : decide (0 < v) = false := decide_eq_false hvp
                                  have HINS : Hid (M.take t ++ k7 :: M.drop t = srtI (cfP l wide) (kidsM l (k7 + 1) (pj + 1))) := Lib.hid (by
                                    have hts := HTS.out
                                    rw [HKN.out, ← HM.out]
                                    refine ins_srt (cfP_ok l wide) (kids_inc _ _ _) (fun x hx => (kids_mem hx).2.1) (by rw [HM.out]; exact htm) (.inr ?_) fun s' h1 h2 => ?_
                                    · rw [HM.out, hts, Nat.add_sub_cancel, HU.out]
                                      have := HGT.out
                                      omega
                                    · rw [HM.out] at h2 ⊢
                                      exact HT8.out s' h1 h2)
                                  go_wp2
                                  refine region_sch (fun W => Below wg.heap.size wg W) [(true, 0), (true, 1), (true, 2), (true, 3), (true, 4), (true, 5), (true, 6), (true, 7), (true, 8), (true, 9), (true, 10), (true, 11), (true, 12), (true, 13), (true, 14), (true, 15), (true, 16), (true, 17)] [18, 19, 20] (by kernel_rfl) (by kernel_rfl) (by rintro ⟨_, _, h⟩; rcases h with ⟨-, -, -, v, u, h, -⟩ | ⟨c, -, h, -⟩ <;> cases h) (fun _ _ d _ _ h => by cases d <;> exact h) HB8.out.drew ?_
                                  simp only [pickM, pickT, List.filterMap_cons, List.filterMap_nil, List.getElem?_cons_zero, List.getElem?_cons_succ, Option.map_some]
                                  repeat (first | (refine m_float ⟨?_, .inl ⟨?_, .inl ?_⟩, fun K' hK => ?_⟩; rotate_left; (first | rfl | (go_simp; done)); (intro w' hS; (obtain ⟨r0, r1, r2⟩ := CY8.out _ hS; clear hS); go_simp; try rfl); (simp only [Act.put, List.setIfInBounds_toArray, List.set_cons_succ, List.set_cons_zero]; refine hK _ ?_; clear hK K')) | (refine m_float ⟨undef, .inr ⟨?_, rfl⟩, fun K' hK => ?_⟩; (first | rfl | (go_simp; done)); (simp only [Act.put, List.setIfInBounds_toArray, List.set_cons_succ, List.set_cons_zero]; refine hK _ ?_; clear hK K')))
                                  refine m_nil ?_
                                  show wpList Try.prog _ _ (List.cons _ _) _ _
                                  go_wp2_with fail
                                  with_reducible refine (c5 _).mono ?_
                                  rintro e w9 ⟨rfl, hB9⟩
                                  have HB9 := Lib.hid (bthen HB8.out.drew hB9)
                                  clear hB9 c5 g4 g4d g4m g5 e2 hwp2
                                  go_wp2
                                  have HBW : Hid (Below wg.heap.size wg w9) := Lib.hid HB9.out
                                  have HKW : Hid (World.ownsRow w9 w.heap.size 3 1 (.slice (some ⟨g, 0, none⟩) M.length cap) M.length (ints M)) := Lib.hid (own_keep HKM.out HBW.out)
                                  have hgW : g < (w9).heap.size := (HKW.out.lt g rfl).2
                                  have hwW : w.heap.size ≤ (w9).heap.size := by
                                    have h1 := HBW.out.size
                                    have h2 := HB7.out.size
                                    omega
                                  generalize hW0 : w9 = W0 at *
                                  clear hW0
                                  have hMi : (M.length : Int) ≤ (cap : Int) := by omega
                                  have hti : (t : Int) ≤ (M.length : Int) := by omega
                                  have htc : (t : Int) ≤ (cap : Int) := by omega
                                  have htc2 : t ≤ cap := by omega
                                  by_cases hct : cap = t
                                  · have hMt : M.length = t := by omega
                                    have hdr : M.drop t = [] := List.drop_eq_nil_of_le (by omega)
                                    have hcell : ∀ W, Below W0.heap.size W0 W → ∀ j u, (ints (M.drop t))[j]? = some u → W.cell? ((⟨g, 0, none⟩ : Addr).add j) = some u := fun W hW j u h => by
                                      rw [hdr] at h
                                      simp [ints] at h
                                    have HCELL := Lib.hid hcell
                                    have hnlt : ¬ t < cap := by omega
                                    have hnlti : ¬ (t : Int) < (cap : Int) := by omega
                                    have HMT := Lib.hid hMt
                                    clear hdr hcell hMt
                                    have htake : ∀ W, Below W0.heap.size W0 W → ∀ j u, (ints (M.take t))[j]? = some u → W.cell? ((⟨g, 0, none⟩ : Addr).add j) = some u := fun W hW j u h => by
                                      obtain ⟨x9, hx9, rfl⟩ := ints_get h
                                      have hjt : j < t := by
                                        have := (List.getElem?_eq_some_iff.1 hx9).1
                                        rw [List.length_take] at this
                                        omega
                                      rw [List.getElem?_take_of_lt hjt] at hx9
                                      rw [add_none, Nat.zero_add]
                                      exact (hW.cell (p := ⟨g, j, none⟩) hgW).trans (own_cellI HKW.out j x9 hx9)
                                    have HTAKE := Lib.hid htake
                                    have hnw : (W0.alloc (.cells #[cN (k7 : Int)] 3)).drew.ownsRow w.heap.size 3 1 (.slice (some ⟨W0.heap.size, 0, none⟩) 1 1) 1 [cN (k7 : Int)] := ⟨rfl, .inr ⟨W0.heap.size, 1, _, rfl, hwW, World.alloc_heap_new W0 _, Nat.le_refl _, by unfold maxLen; omega, rfl, rfl⟩⟩
                                    have HNW := Lib.hid hnw
                                    have hb8 : Below W0.heap.size W0 (W0.alloc (.cells #[cN (k7 : Int)] 3)).drew := bald (Below.refl _ W0).drew _
                                    have HB8b := Lib.hid hb8
                                    clear htake hnw hb8
                                    refine region_sch (fun W' => Below W0.heap.size W0 W') [(true, 0), (true, 1), (true, 2), (true, 3), (true, 4), (true, 6), (true, 7), (true, 8), (false, 5), (false, 9)] [10, 11] (by kernel_rfl) (by kernel_rfl) (by rintro ⟨_, _, h⟩; rcases h with ⟨-, -, -, v, u, h, -⟩ | ⟨c, -, h, -⟩ <;> cases h) (fun _ _ d _ _ h => by cases d <;> exact h) (Below.refl _ W0).drew ?_
                                    simp only [pickM, pickT, List.filterMap_cons, List.filterMap_nil, List.getElem?_cons_zero, List.getElem?_cons_succ, Option.map_some]
                                    repeat (first | (refine m_float ⟨?_, .inl ⟨?_, .inl ?_⟩, fun K' hK => ?_⟩; rotate_left; (first | rfl | (go_simp; done)); (intro w' hS; clear hS; go_simp; try rfl); (simp only [Act.put, List.setIfInBounds_toArray, List.set_cons_succ, List.set_cons_zero]; refine hK _ ?_; clear hK K')) | (refine m_float ⟨undef, .inr ⟨?_, rfl⟩, fun K' hK => ?_⟩; (first | rfl | (go_simp; done)); (simp only [Act.put, List.setIfInBounds_toArray, List.set_cons_succ, List.set_cons_zero]; refine hK _ ?_; clear hK K')))
                                    refine m_loud ?_ (fun K' hK => ?_)
                                    · rintro ⟨_, _, h⟩; rcases h with ⟨-, -, -, v, u, h, -⟩ | ⟨c, -, h, -⟩ <;> cases h
                                    go_wp2
                                    refine hK _ _ HB8b.out ?_
                                    clear hK K'
                                    repeat (first | (refine m_float ⟨?_, .inl ⟨?_, .inl ?_⟩, fun K' hK => ?_⟩; rotate_left; (first | rfl | (go_simp; done)); (intro w' hS; skip; go_simp; try rfl); (simp only [Act.put, List.setIfInBounds_toArray, List.set_cons_succ, List.set_cons_zero]; refine hK _ ?_; clear hK K')) | (refine m_float ⟨undef, .inr ⟨?_, rfl⟩, fun K' hK => ?_⟩; (first | rfl | (go_simp; done)); (simp only [Act.put, List.setIfInBounds_toArray, List.set_cons_succ, List.set_cons_zero]; refine hK _ ?_; clear hK K')))
                                    refine m_loud ?_ (fun K' hK => ?_)
                                    · rintro ⟨_, _, h⟩; rcases h with ⟨-, -, -, v, u, h, -⟩ | ⟨c, -, h, -⟩ <;> cases h
                                    go_wp2_with (at_builtin; refine wpList_append_own_at _ rfl _ _ 33 rfl w.heap.size 3 i0 (.int .i64 0) 1 8 Try.underlying33 hi hz0 hz1 hz2 rfl (by decide) _ _ _ rfl HNW.out ⟨g, 0, none⟩ (M.length - t) _ (ints (M.drop t)) rfl (by rw [ints_len, List.length_drop, Nat.mul_one]) ?c1 ?c2 ?c3 ?c4 ?c5 ?_)
                                    case c1 => first | exact HCELL.out _ HB8b.out | (intro j u h; have hh := HCELL.out _ HB8b.out j u h; rw [add_none] at hh; first | exact hh | (rw [add_none]; exact hh) | (rw [Nat.zero_add] at hh; exact hh))
                                    case c2 => exact ints_one _
                                    case c3 => unfold maxLen; omega
                                    case c4 => omega
                                    case c5 => first | omega | (simp; omega)
                                    intro v11 w11 ho11 hg11 hnn11 _
                                    have hb11 : Below W0.heap.size W0 w11 := HB8b.out.grown hg11 HB8b.out.size (fun k e => by simp [Value.ownBlock] at e; omega)
                                    rcases ho11.2 with ⟨-, h0⟩ | ⟨g11, cap11, cur11, hv11, -⟩
                                    · omega
                                    have hc11 := ho11.cells (g := g11) (by rw [hv11]; rfl)
                                    subst hv11
                                    have HC11 := Lib.hid hc11
                                    have HB11 := Lib.hid hb11
                                    clear ho11 hg11 hnn11 hb11 hc11
                                    go_wp2
                                    refine hK _ _ HB11.out ?_
                                    clear hK K'
                                    repeat (first | (refine m_float ⟨?_, .inl ⟨?_, .inl ?_⟩, fun K' hK => ?_⟩; rotate_left; (first | rfl | (go_simp; done)); (intro w' hS; skip; go_simp; try rfl); (simp only [Act.put, List.setIfInBounds_toArray, List.set_cons_succ, List.set_cons_zero]; refine hK _ ?_; clear hK K')) | (refine m_float ⟨undef, .inr ⟨?_, rfl⟩, fun K' hK => ?_⟩; (first | rfl | (go_simp; done)); (simp only [Act.put, List.setIfInBounds_toArray, List.set_cons_succ, List.set_cons_zero]; refine hK _ ?_; clear hK K')))
                                    refine m_nil ?_
                                    show wpList Try.prog _ _ (List.cons _ _) _ _
                                    go_wp2_with (at_builtin; refine wpList_append_cut rfl _ _ 33 rfl w.heap.size 3 i0 (.int .i64 0) 1 8 Try.underlying33 hi hz0 hz1 hz2 rfl (by decide) ⟨g, 0, none⟩ t t (ints (M.take t)) rfl (by rw [ints_len, List.length_take, Nat.mul_one]; omega) (HTAKE.out _ HB11.out) ⟨g11, 0, none⟩ (1 + (M.length - t)) cap11 ([cN (k7 : Int)] ++ ints (M.drop t)) rfl (by rw [List.length_append, ints_len, List.length_drop, Nat.mul_one]; rfl) HC11.out (by omega) (by unfold maxLen; omega) (by omega) (by have := HB11.out.size; omega) ?_)
                                    intro cap12 w12 ho12 hB12
                                    have HLEN : Hid (t + (1 + (M.length - t)) = (srtI (cfP l wide) (kidsM l (k7 + 1) (pj + 1))).length) := Lib.hid (by rw [← HINS.out]; simp; omega)
                                    have HINTS : Hid (ints (M.take t) ++ ([cN (k7 : Int)] ++ ints (M.drop t)) = ints (srtI (cfP l wide) (kidsM l (k7 + 1) (pj + 1)))) := Lib.hid (by rw [← HINS.out]; simp [ints])
                                    have HO12 := Lib.hid ho12
                                    have HB12 : Hid (Below wf.heap.size wf w12) := Lib.hid (bthen HB7.out (bthen HBW.out (bthen HB11.out hB12)))
                                    have hgw12 : wf.heap.size ≤ w11.heap.size := by
                                      have h1 := HB11.out.size
                                      have h2 := HBW.out.size
                                      have h3 := HB7.out.size
                                      omega
                                    clear ho12 hB12
                                    go_wp2
                                    go_roundw
                                    case rel => exact ⟨k7 + 1, w11.heap.size, cap12, by go_num, by omega, by omega, by rw [← HLEN.out], by rw [← HLEN.out, ← HINTS.out]; exact HO12.out, hgw12, HB12.out⟩
                                    case measure => simp [intOf] <;> omega
                                  · have hlt9 : t < cap := by omega
                                    have hlt9i : (t : Int) < (cap : Int) := by omega
                                    have hcell : ∀ W, Below W0.heap.size W0 W → ∀ j u, (ints (M.drop t))[j]? = some u → W.cell? ((⟨g, t, none⟩ : Addr).add j) = some u := fun W hW j u h => by
                                      obtain ⟨x9, hx9, rfl⟩ := ints_get h
                                      rw [List.getElem?_drop] at hx9
                                      rw [show ((⟨g, t, none⟩ : Addr).add j) = ⟨g, t + j, none⟩ by unfold Addr.add; split <;> simp_all]
                                      exact (hW.cell (p := ⟨g, t + j, none⟩) hgW).trans (own_cellI HKW.out (t + j) x9 hx9)
                                    have HCELL := Lib.hid hcell
                                    clear hcell
                                    have htake : ∀ W, Below W0.heap.size W0 W → ∀ j u, (ints (M.take t))[j]? = some u → W.cell? ((⟨g, 0, none⟩ : Addr).add j) = some u := fun W hW j u h => by
                                      obtain ⟨x9, hx9, rfl⟩ := ints_get h
                                      have hjt : j < t := by
                                        have := (List.getElem?_eq_some_iff.1 hx9).1
                                        rw [List.length_take] at this
                                        omega
                                      rw [List.getElem?_take_of_lt hjt] at hx9
                                      rw [add_none, Nat.zero_add]
                                      exact (hW.cell (p := ⟨g, j, none⟩) hgW).trans (own_cellI HKW.out j x9 hx9)
                                    have HTAKE := Lib.hid htake
                                    have hnw : (W0.alloc (.cells #[cN (k7 : Int)] 3)).drew.ownsRow w.heap.size 3 1 (.slice (some ⟨W0.heap.size, 0, none⟩) 1 1) 1 [cN (k7 : Int)] := ⟨rfl, .inr ⟨W0.heap.size, 1, _, rfl, hwW, World.alloc_heap_new W0 _, Nat.le_refl _, by unfold maxLen; omega, rfl, rfl⟩⟩
                                    have HNW := Lib.hid hnw
                                    have hb8 : Below W0.heap.size W0 (W0.alloc (.cells #[cN (k7 : Int)] 3)).drew := bald (Below.refl _ W0).drew _
                                    have HB8b := Lib.hid hb8
                                    clear htake hnw hb8
                                    refine region_sch (fun W' => Below W0.heap.size W0 W') [(true, 0), (true, 1), (true, 2), (true, 3), (true, 4), (true, 6), (true, 7), (true, 8), (false, 5), (false, 9)] [10, 11] (by kernel_rfl) (by kernel_rfl) (by rintro ⟨_, _, h⟩; rcases h with ⟨-, -, -, v, u, h, -⟩ | ⟨c, -, h, -⟩ <;> cases h) (fun _ _ d _ _ h => by cases d <;> exact h) (Below.refl _ W0).drew ?_
                                    simp only [pickM, pickT, List.filterMap_cons, List.filterMap_nil, List.getElem?_cons_zero, List.getElem?_cons_succ, Option.map_some]
                                    repeat (first | (refine m_float ⟨?_, .inl ⟨?_, .inl ?_⟩, fun K' hK => ?_⟩; rotate_left; (first | rfl | (go_simp; done)); (intro w' hS; clear hS; go_simp; try rfl); (simp only [Act.put, List.setIfInBounds_toArray, List.set_cons_succ, List.set_cons_zero]; refine hK _ ?_; clear hK K')) | (refine m_float ⟨undef, .inr ⟨?_, rfl⟩, fun K' hK => ?_⟩; (first | rfl | (go_simp; done)); (simp only [Act.put, List.setIfInBounds_toArray, List.set_cons_succ, List.set_cons_zero]; refine hK _ ?_; clear hK K')))
                                    refine m_loud ?_ (fun K' hK => ?_)
                                    · rintro ⟨_, _, h⟩; rcases h with ⟨-, -, -, v, u, h, -⟩ | ⟨c, -, h, -⟩ <;> cases h
                                    go_wp2
                                    refine hK _ _ HB8b.out ?_
                                    clear hK K'
                                    repeat (first | (refine m_float ⟨?_, .inl ⟨?_, .inl ?_⟩, fun K' hK => ?_⟩; rotate_left; (first | rfl | (go_simp; done)); (intro w' hS; skip; go_simp; try rfl); (simp only [Act.put, List.setIfInBounds_toArray, List.set_cons_succ, List.set_cons_zero]; refine hK _ ?_; clear hK K')) | (refine m_float ⟨undef, .inr ⟨?_, rfl⟩, fun K' hK => ?_⟩; (first | rfl | (go_simp; done)); (simp only [Act.put, List.setIfInBounds_toArray, List.set_cons_succ, List.set_cons_zero]; refine hK _ ?_; clear hK K')))
                                    refine m_loud ?_ (fun K' hK => ?_)
                                    · rintro ⟨_, _, h⟩; rcases h with ⟨-, -, -, v, u, h, -⟩ | ⟨c, -, h, -⟩ <;> cases h
                                    go_wp2_with (at_builtin; refine wpList_append_own_at _ rfl _ _ 33 rfl w.heap.size 3 i0 (.int .i64 0) 1 8 Try.underlying33 hi hz0 hz1 hz2 rfl (by decide) _ _ _ rfl HNW.out ⟨g, t, none⟩ (M.length - t) _ (ints (M.drop t)) rfl (by rw [ints_len, List.length_drop, Nat.mul_one]) ?c1 ?c2 ?c3 ?c4 ?c5 ?_)
                                    case c1 => first | exact HCELL.out _ HB8b.out | (intro j u h; have hh := HCELL.out _ HB8b.out j u h; rw [add_none] at hh; first | exact hh | (rw [add_none]; exact hh) | (rw [Nat.zero_add] at hh; exact hh))
                                    case c2 => exact ints_one _
                                    case c3 => unfold maxLen; omega
                                    case c4 => omega
                                    case c5 => first | omega | (simp; omega)
                                    intro v11 w11 ho11 hg11 hnn11 _
                                    have hb11 : Below W0.heap.size W0 w11 := HB8b.out.grown hg11 HB8b.out.size (fun k e => by simp [Value.ownBlock] at e; omega)
                                    rcases ho11.2 with ⟨-, h0⟩ | ⟨g11, cap11, cur11, hv11, -⟩
                                    · omega
                                    have hc11 := ho11.cells (g := g11) (by rw [hv11]; rfl)
                                    subst hv11
                                    have HC11 := Lib.hid hc11
                                    have HB11 := Lib.hid hb11
                                    clear ho11 hg11 hnn11 hb11 hc11
                                    go_wp2
                                    refine hK _ _ HB11.out ?_
                                    clear hK K'
                                    repeat (first | (refine m_float ⟨?_, .inl ⟨?_, .inl ?_⟩, fun K' hK => ?_⟩; rotate_left; (first | rfl | (go_simp; done)); (intro w' hS; skip; go_simp; try rfl); (simp only [Act.put, List.setIfInBounds_toArray, List.set_cons_succ, List.set_cons_zero]; refine hK _ ?_; clear hK K')) | (refine m_float ⟨undef, .inr ⟨?_, rfl⟩, fun K' hK => ?_⟩; (first | rfl | (go_simp; done)); (simp only [Act.put, List.setIfInBounds_toArray, List.set_cons_succ, List.set_cons_zero]; refine hK _ ?_; clear hK K')))
                                    refine m_nil ?_
                                    show wpList Try.prog _ _ (List.cons _ _) _ _
                                    go_wp2_with (at_builtin; refine wpList_append_cut rfl _ _ 33 rfl w.heap.size 3 i0 (.int .i64 0) 1 8 Try.underlying33 hi hz0 hz1 hz2 rfl (by decide) ⟨g, 0, none⟩ t t (ints (M.take t)) rfl (by rw [ints_len, List.length_take, Nat.mul_one]; omega) (HTAKE.out _ HB11.out) ⟨g11, 0, none⟩ (1 + (M.length - t)) cap11 ([cN (k7 : Int)] ++ ints (M.drop t)) rfl (by rw [List.length_append, ints_len, List.length_drop, Nat.mul_one]; rfl) HC11.out (by omega) (by unfold maxLen; omega) (by omega) (by have := HB11.out.size; omega) ?_)
                                    intro cap12 w12 ho12 hB12
                                    have HLEN : Hid (t + (1 + (M.length - t)) = (srtI (cfP l wide) (kidsM l (k7 + 1) (pj + 1))).length) := Lib.hid (by rw [← HINS.out]; simp; omega)
                                    have HINTS : Hid (ints (M.take t) ++ ([cN (k7 : Int)] ++ ints (M.drop t)) = ints (srtI (cfP l wide) (kidsM l (k7 + 1) (pj + 1)))) := Lib.hid (by rw [← HINS.out]; simp [ints])
                                    have HO12 := Lib.hid ho12
                                    have HB12 : Hid (Below wf.heap.size wf w12) := Lib.hid (bthen HB7.out (bthen HBW.out (bthen HB11.out hB12)))
                                    have hgw12 : wf.heap.size ≤ w11.heap.size := by
                                      have h1 := HB11.out.size
                                      have h2 := HBW.out.size
                                      have h3 := HB7.out.size
                                      omega
                                    clear ho12 hB12
                                    go_wp2
                                    go_roundw
                                    case rel => exact ⟨k7 + 1, w11.heap.size, cap12, by go_num, by omega, by omega, by rw [← HLEN.out], by rw [← HLEN.out, ← HINTS.out]; exact HO12.out, hgw12, HB12.out⟩
                                    case measure => simp [intOf] <;> omega
                          · have g3 : ((pj : Int) == (y0 : Int)) = false := beq_eq_false_iff_ne.2 (by omega)
                            have HKN : Hid (kidsM l (k7 + 1) (y0 + 1) = kidsM l k7 (y0 + 1)) := Lib.hid (by rw [HKS.out, if_neg hpy, List.append_nil])
                            go_wp2
                            refine region_sch (fun W => Below wf.heap.size wf W) [(true, 0), (true, 1), (true, 2), (true, 3), (true, 4), (true, 5), (true, 6), (true, 7), (true, 8), (true, 9)] [10] (by kernel_rfl) (by kernel_rfl) (by rintro ⟨_, _, h⟩; rcases h with ⟨-, -, -, v, u, h, -⟩ | ⟨c, -, h, -⟩ <;> cases h) (fun _ _ d _ _ h => by cases d <;> exact h) HB7.out.drew ?_
                            simp only [pickM, pickT, List.filterMap_cons, List.filterMap_nil, List.getElem?_cons_zero, List.getElem?_cons_succ, Option.map_some]
                            repeat (first | (refine m_float ⟨?_, .inl ⟨?_, .inl ?_⟩, fun K' hK => ?_⟩; rotate_left; (first | rfl | (go_simp; done)); (intro w' hS; (obtain ⟨r0, r2⟩ := CQ7.out _ hS; have r3 := CO.out _ hS; clear hS); go_simp; try rfl); (simp only [Act.put, List.setIfInBounds_toArray, List.set_cons_succ, List.set_cons_zero]; refine hK _ ?_; clear hK K')) | (refine m_float ⟨undef, .inr ⟨?_, rfl⟩, fun K' hK => ?_⟩; (first | rfl | (go_simp; done)); (simp only [Act.put, List.setIfInBounds_toArray, List.set_cons_succ, List.set_cons_zero]; refine hK _ ?_; clear hK K')))
                            refine m_nil ?_
                            show wpList Try.prog _ _ (List.cons _ _) _ _
                            go_wp2
                            go_roundw
                            case rel => exact ⟨k7 + 1, g, cap, by go_num, by omega, by omega, by rw [HKN.out, HM.out], by rw [HKN.out, HM.out]; exact own_keep HKM.out (Below.refl _ wr).drew, hgw, HB7.out.drew⟩
                            case measure => simp [intOf] <;> omega
                        · obtain rfl : k7 = l.length := by omega
                          have ho13 := own_keep HO7.out HB7.out
                          have hKc := fun j u h => (HKM.out.cells (g := g) rfl) j u h
                          have HKC := Lib.hid hKc
                          have HO13 := Lib.hid ho13
                          clear ho13 hKc
                          go_wp2_with (at_builtin; refine wpList_append_own_at _ rfl _ _ 33 rfl w.heap.size 3 i0 (.int .i64 0) 1 8 Try.underlying33 hi hz0 hz1 hz2 rfl (by decide) _ _ _ rfl HO13.out ⟨g, 0, none⟩ M.length cap (ints M) rfl (by rw [ints_len, Nat.mul_one]) ?c1 ?c2 ?c3 ?c4 ?c5 ?_)
                          case c1 => first | exact HKC.out | (intro j u h; have hh := HKC.out j u h; rw [add_none, Nat.zero_add] at hh; exact hh)
                          case c2 => exact ints_one _
                          case c3 => unfold maxLen; omega
                          case c4 => omega
                          case c5 =>
                            have h1 := HB7.out.size
                            omega
                          intro v14 w14 ho14 hg14 _ _
                          have HB14 : Hid (Below w.heap.size w w14) := Lib.hid ((bthen HB6.out HB7.out).grown hg14 (by have h1 := HB7.out.size; omega) (fun k e => (HO13.out.lt k e).1))
                          have HN14 : Hid ((ordF l wide (q + 1)).1 = o ++ M) := Lib.hid (by rw [HNEXT.out, HM.out])
                          have HO14 : Hid (w14.ownsRow w.heap.size 3 1 v14 (o ++ M).length (ints (o ++ M))) := Lib.hid (by rw [List.length_append, ints_app]; exact ho14)
                          clear ho14 hg14
                          go_wp2
                          go_roundw
                          case rel => exact ⟨q + 1, by go_num, by rw [HN14.out, List.length_append]; omega, by rw [HN14.out]; exact HO14.out, HB14.out⟩
                          case measure => simp [intOf] <;> omega
                    · have hqe : q = o.length := by omega
                      have hst := ordF_stable l wide q (by rw [hoe]; omega) (l.length - q)
                      rw [show q + (l.length - q) = l.length by omega] at hst
                      have hoo : ordO l wide = o := by unfold ordO; rw [hst, hoe]
                      have hol2 : o.length = l.length := by have := HFULL.out; rw [hoo] at this; exact this
                      have HOO := Lib.hid hoo
                      obtain ⟨gO, cO, rfl, -, -⟩ := own_ints ho 0 (by omega)
                      have hgl : gO < wr.heap.size := (ho.lt gO rfl).2
                      have HO9 := Lib.hid ho
                      have CO9 : Hid (∀ j, j < o.length → ∀ W, Below wr.heap.size wr W → W.cell? ⟨gO, j, none⟩ = some (cN ((o.getD j 0 : Nat) : Int))) := Lib.hid fun j hj W hW => by
                        obtain ⟨g', c', e2, -, h2⟩ := own_ints HO9.out j hj
                        simp only [Value.slice.injEq, Option.some.injEq, Addr.mk.injEq, and_true] at e2
                        rw [← e2.1] at h2
                        exact (hW.cell (p := ⟨gO, j, none⟩) hgl).trans h2
                      have HOLT : Hid (∀ j, j < o.length → o.getD j 0 < l.length) := Lib.hid fun j hj => by rw [← HOO.out]; exact HOG.out.lt (by omega)
                      have HOL2 := Lib.hid hol2
                      have hwrs := HB6.out.size
                      have hmk1 : ∀ W, (Instr.makeSlice 33 (cN l.length) (cN l.length)).run Try.prog W = .ok (.slice (some ⟨W.heap.size, 0, none⟩) l.length l.length) (W.alloc (.cells (ints (List.replicate l.length 0)).toArray 3)) := fun W => by
                        rw [make_ints l.length 0 (by omega) W, half_zero]
                      clear ho hB hO hoe hst hoo hqe hol2 HO6 HOF HOE
                      generalize hwh : wr = wh at *
                      clear hwh
                      go_wp2
                      go_loopw [18] (fun i wq => ∃ k, i = cN (k : Nat) ∧ k ≤ o.length ∧ wq.heap[wh.heap.size]? = some (.cells (ints (numK o l.length k)).toArray 3 (0, 0)) ∧ Below wh.heap.size wh wq) (fun i _ => o.length - (intOf i).toNat)
                      case atStart => exact ⟨0, rfl, Nat.zero_le _, World.alloc_heap_new wh _, bald (Below.refl _ wh) _⟩
                      case round =>
                        obtain ⟨k9, rfl, hk9, hnum, hB9⟩ := hrel
                        have HNUM := Lib.hid hnum
                        have HB9 := Lib.hid hB9
                        by_cases hlt9 : (k9 : Int) < (o.length : Int)
                        · have hkl9 : k9 < o.length := by omega
                          have q0 := CO9.out k9 hkl9 _ hB9
                          have hil := HOLT.out k9 hkl9
                          obtain ⟨i, hio⟩ : ∃ i, o.getD k9 0 = i := ⟨_, rfl⟩
                          rw [hio] at q0 hil
                          have q5 := numK_cell hnum i hil
                          have fz : wr.frozen? ⟨wh.heap.size, i, none⟩ = false := Lib.frozen_of_heap hnum i
                          have n1 : (wr.setCell ⟨wh.heap.size, i, none⟩ (cN ((k9 : Int) + 1))).heap[wh.heap.size]? = some (.cells (ints (numK o l.length (k9 + 1))).toArray 3 (0, 0)) := by
                            have := row_set i (cN ((k9 : Int) + 1)) hnum
                            rw [show cN ((k9 : Int) + 1) = cN ((k9 + 1 : Nat) : Int) from rfl, ints_set, ← hio] at this
                            rw [← hio]
                            exact this
                          have HN1 := Lib.hid n1
                          have HB10 : Hid (Below wh.heap.size wh (wr.setCell ⟨wh.heap.size, i, none⟩ (cN ((k9 : Int) + 1)))) := Lib.hid (hB9.setCell (p := ⟨wh.heap.size, i, none⟩) (Nat.le_refl _) _)
                          have hili : (i : Int) < (l.length : Int) := by omega
                          clear hnum hB9 n1 hio
                          go_wp2
                          go_roundw
                          case rel => exact ⟨k9 + 1, by go_num, by omega, HN1.out, HB10.out⟩
                          case measure => simp [intOf] <;> omega
                        · obtain rfl : k9 = o.length := by omega
                          have HNF : Hid (wr.heap[wh.heap.size]? = some (.cells (ints (numK o l.length l.length)).toArray 3 (0, 0))) := Lib.hid (by rw [HOL2.out] at hnum; exact hnum)
                          have hwi := hB9.size
                          clear hnum hB9 HNUM hmk1
                          generalize hwi' : wr = wi at *
                          clear hwi'
                          go_wp2
                          go_loopw [20, 19, 21] (fun i v _ wq => ∃ k, i = cN (k : Nat) ∧ k ≤ o.length ∧ wq.ownsRow w.heap.size 63 3 v k (flatE ((outO l wide).take k)) ∧ (∀ q, v.ownBlock = some q → wi.heap.size ≤ q) ∧ Below wi.heap.size wi wq) (fun i _ _ _ => o.length - (intOf i).toNat)
                          case atStart => exact ⟨0, rfl, Nat.zero_le _, ⟨rfl, .inr ⟨wi.heap.size, 0, _, rfl, by omega, World.alloc_heap_new wi _, Nat.le_refl _, by unfold maxLen; omega, rfl, rfl⟩⟩, fun q e => by simp [Value.ownBlock] at e; omega, bald (Below.refl _ wi) _⟩
                          case round =>
                            obtain ⟨k10, rfl, hk10, hown, hvge, hB11⟩ := hrel
                            have HVGE := Lib.hid hvge
                            clear hvge
                            have HOWN := Lib.hid hown
                            have HB11 := Lib.hid hB11
                            by_cases hlt10 : (k10 : Int) < (o.length : Int)
                            · have hkl10 : k10 < o.length := by omega
                              have hk10l : k10 < l.length := by rw [← HOL2.out]; exact hkl10
                              have q0 := CO9.out k10 hkl10 _ (bthen HB9.out hB11)
                              have hil := HOLT.out k10 hkl10
                              obtain ⟨i, hio⟩ : ∃ i, o.getD k10 0 = i := ⟨_, rfl⟩
                              rw [hio] at q0 hil
                              obtain ⟨hl1, hl2, hmv⟩ := HOG.out.moved hil hk10l (by rw [HOO.out]; exact hio)
                              rw [HOO.out] at hmv
                              obtain ⟨x, hx⟩ : ∃ x, l.getD i peD = x := ⟨_, rfl⟩
                              obtain ⟨r0, r1, r2⟩ := CX.out i hil x hx _ (bthen HB6.out (bthen HB9.out hB11))
                              rw [hx] at hmv hl1 hl2
                              obtain ⟨pj, hpj⟩ : ∃ pj : Nat, x.par = pj := ⟨x.par.toNat, by omega⟩
                              obtain ⟨pm, hpm⟩ : ∃ pm, pm = pj - 1 := ⟨_, rfl⟩
                              rw [hpj] at r2 hmv hl1 hl2
                              rw [Int.toNat_natCast, ← hpm] at hmv
                              have e10 : (pj : Int) - 1 = (pm : Int) := by omega
                              have hpml : pm < l.length := by omega
                              have hpmi : (pm : Int) < (l.length : Int) := by omega
                              have hili : (i : Int) < (l.length : Int) := by omega
                              have hwp : IntKind.i64.wrap (pm : Int) = (pm : Int) := by rw [IntKind.wrap_i64]; omega
                              obtain ⟨nv, hnv⟩ : ∃ nv, (numK o l.length l.length).getD pm 0 = nv := ⟨_, rfl⟩
                              rw [hnv] at hmv
                              have hnf := (hB11.block _ (lt_of_block HNF.out)).trans HNF.out
                              have hx9 : (wr.alloc (.cells #[.string x.id, cN x.lba, cN (pj : Int)] 63)).heap[wh.heap.size]? = some (.cells (ints (numK o l.length l.length)).toArray 3 (0, 0)) := (Lib.alloc_old _ _ _ (lt_of_block hnf)).trans hnf
                              have q9 := numK_cell hx9 pm hpml
                              rw [hnv] at q9
                              have HMV := Lib.hid hmv
                              have u2 := (hown.alloc (.cells #[.string x.id, cN x.lba, cN (nv : Int)] 63)).alloc (.cells #[.string x.id, cN x.lba, cN (nv : Int)] 63)
                              have HU2 := Lib.hid u2
                              have hws9 := hB11.size
                              have HB12 : Hid (Below wi.heap.size wi ((wr.alloc (.cells #[.string x.id, cN x.lba, cN (nv : Int)] 63)).alloc (.cells #[.string x.id, cN x.lba, cN (nv : Int)] 63))) := Lib.hid (bald (bald hB11 _) _)
                              clear hx hpj hpm hnv hio hl1 hl2 hmv hnf hx9 u2 hown hB11
                              go_wp2_with (at_builtin; refine wpList_append_own_at _ rfl _ _ 44 rfl w.heap.size 63 j0 (.agg #[.string ByteArray.empty, .int .i64 0, .int .i64 0]) 3 32 Try.underlying44 hj ky0 ky1 ky2 rfl (by decide) _ _ _ rfl HU2.out ⟨wr.heap.size + 1, 0, none⟩ 1 1 [.string x.id, cN x.lba, cN (nv : Int)] rfl rfl ?c1 ?c2 ?c3 ?c4 ?c5 ?_)
                              case c1 =>
                                intro j u hj
                                have hxb := World.alloc_heap_new (wr.alloc (.cells #[.string x.id, cN x.lba, cN (nv : Int)] 63)) (.cells #[.string x.id, cN x.lba, cN (nv : Int)] 63)
                                rw [World.size_alloc] at hxb
                                rw [add_none, Nat.zero_add, Lib.cell_of_heap hxb]
                                rw [← hj]
                                simp
                              case c2 =>
                                intro u hu
                                simp at hu
                                rcases hu with rfl | rfl | rfl <;> rfl
                              case c3 => unfold maxLen; omega
                              case c4 => omega
                              case c5 => simp; omega
                              intro v' w16 ho16 hg16 _ hloc16
                              have HB16 : Hid (Below wi.heap.size wi w16) := Lib.hid (HB12.out.grown hg16 HB12.out.size (fun q e => HVGE.out q e))
                              have HVG2 : Hid (∀ q, v'.ownBlock = some q → wi.heap.size ≤ q) := Lib.hid fun q e => by
                                rcases hloc16 with h | h
                                · exact HVGE.out q (by rw [← h]; exact e)
                                · rw [h] at e
                                  simp at e
                                  omega
                              have HO16 : Hid (w16.ownsRow w.heap.size 63 3 v' (k10 + 1) (flatE ((outO l wide).take (k10 + 1)))) := Lib.hid (by
                                rw [take_succ_get (by rw [outO_len]; omega), HMV.out, flatE_append, flatE_one]
                                exact ho16)
                              clear ho16 hg16 hloc16
                              go_wp2
                              go_roundw
                              case rel => exact ⟨k10 + 1, by go_num, by omega, HO16.out, HVG2.out, HB16.out⟩
                              case measure => simp [intOf] <;> omega
                            · obtain rfl : k10 = o.length := by omega
                              have hnf := (hB11.block _ (lt_of_block HNF.out)).trans HNF.out
                              have HNE := Lib.hid hnf
                              have HOUT : Hid (wr.ownsRow w.heap.size 63 3 _ l.length (flatE (outK l (ordO l wide) l.length l.length))) := Lib.hid (by
                                have e : (outO l wide).take o.length = outO l wide := List.take_of_length_le (by rw [outO_len, HOL2.out]; exact Nat.le_refl _)
                                have := hown
                                rw [e, HOL2.out] at this
                                exact this)
                              obtain ⟨a7, c7, rfl⟩ := own_formS hown
                              clear hown hnf
                              go_wp2
                              go_ret3
                              refine .inl ⟨HH.out.hroot, HALL.out, HFIN.out, _, _, rfl, ?_, ?_, bthen HB6.out (bthen HB9.out HB11.out)⟩
                              · exact HOUT.out
                              · have hn := numK_len o l.length l.length
                                rw [HOO.out]
                                refine ⟨by rw [ints_len, hn, Nat.mul_one], .inr ⟨wh.heap.size, l.length, _, rfl, hwrs, HNE.out, Nat.le_refl _, by unfold maxLen; omega, by simp [ints, hn], ?_⟩⟩
                                rw [List.toList_toArray]
                                exact List.take_of_length_le (by rw [ints_len, hn]; omega)
end Go.Proofs.Ytnmlephjhcmbhaa
