/- The reference's Find. -/
import Derived.Test.YtnmlephjhcmbhaaPpf
namespace Go.Proofs.Ytnmlephjhcmbhaa
set_option linter.unusedSimpArgs false
set_option linter.unusedVariables false
open Go Go.RowKit
set_option maxRecDepth 100000 in
set_option maxHeartbeats 4000000 in
theorem rpfind_ok (a : Option Addr) (c : Nat) (l : List PE) (pa : Option Addr) (pc : Nat) (p : List ByteArray) (w : World) (hl : l.length ≤ 2000) (hp : p.length ≤ 2000) (hrow : RowP w a l) (hrp : RowB w pa p) :
    Calls Try.prog 39 #[.slice a l.length c, .slice pa p.length pc] w fun e w' => e = .returned (.tuple #[cN (findR l p).1, cN (findR l p).2]) ∧ Below w.heap.size w w' := by
  by_cases h0 : l.length = 0
  · rw [show findR l p = (0, 6) by rw [findR, if_pos h0]]
    have g0 : ((l.length : Int) == 0) = true := by rw [h0]; rfl
    clear h0 hrow hrp
    go_enter Try.func39, Try.ntmps39
    go_wp2
    go_ret2
    exact ⟨rfl, Below.refl _ w⟩
  · have g0 : ((l.length : Int) == 0) = false := beq_eq_false_iff_ne.2 (by omega)
    have HX := Lib.hid (show findR l p = findM l p 1 by rw [findR, if_neg h0])
    obtain ⟨b, off, rfl, hb, hc⟩ := hrow.addr (by omega)
    have HC := Lib.hid hc
    have HBB := Lib.hid hb
    have HRP := Lib.hid hrp
    have HL0 := Lib.hid h0
    clear hrow hrp hb hc h0
    go_enter Try.func39, Try.ntmps39
    go_wp2
    go_loopw [7, 6, 8, 9] (fun i v _ _ wr => ∃ k n : Nat, i = cN k ∧ v = cN n ∧ k ≤ p.length ∧ 1 ≤ n ∧ n ≤ l.length ∧ findM l p 1 = findM l (p.drop k) n ∧ Below w.heap.size w wr) (fun i _ _ _ _ => p.length - (intOf i).toNat)
    case atStart => exact ⟨0, 1, rfl, rfl, Nat.zero_le _, Nat.le_refl _, by have := HL0.out; omega, rfl, Below.refl _ w⟩
    case round =>
      obtain ⟨k, n, rfl, rfl, hk, hn1, hn, hE, hB⟩ := hrel
      have HE := Lib.hid hE
      have HB := Lib.hid hB
      clear hE
      by_cases hlt : (k : Int) < (p.length : Int)
      · have hkl : k < p.length := by omega
        obtain ⟨pb, po, hpa, hpb, hpc⟩ := HRP.out k hkl
        subst hpa
        obtain ⟨id, hid⟩ : ∃ x, p.getD k ByteArray.empty = x := ⟨_, rfl⟩
        rw [hid] at hpc
        have CPA : Hid (∀ W, Below w.heap.size w W → W.cell? ⟨pb, po + k, none⟩ = some (.string id)) := Lib.hid fun W hW => (hW.cell (p := ⟨pb, po + k, none⟩) hpb).trans hpc
        have hstep : findM l (p.drop k) n = if nextF l n id < 0 then (0, 6) else findM l (p.drop (k + 1)) (n + (nextF l n id).toNat + 1) := by
          rw [List.drop_eq_getElem_cons hkl, findM]
          rw [List.getD_eq_getElem?_getD, List.getElem?_eq_getElem hkl, Option.getD_some] at hid
          rw [hid]
        have HS := Lib.hid hstep
        have hget : ∀ i, (l.drop n).getD i peD = l.getD (n + i) peD := fun i => by
          simp [List.getD_eq_getElem?_getD, List.getElem?_drop]
        have HG := Lib.hid hget
        have hld : (l.drop n).length = l.length - n := List.length_drop
        have HLD := Lib.hid hld
        obtain ⟨F, hF⟩ : ∃ F, (l.drop n).findIdx (fun x => x.par == (n : Int) && x.id.toList == id.toList) = F := ⟨_, rfl⟩
        have HF := Lib.hid hF
        clear hid hstep hpc hpb hget hld hB hF
        generalize hwo : wr = wo
        have HWO := Lib.hid hwo
        clear hwo
        go_wp2
        go_loopw [9, 8] (fun kv nv wq => ∃ e : Nat, n ≤ e ∧ ((kv = cN ((e : Int) + 1) ∧ nv = cN 0 ∧ e ≤ l.length ∧ e - n ≤ F) ∨ (kv = cN ((e : Int) + 1 + 1) ∧ nv = cN ((e : Int) + 1) ∧ e < l.length ∧ nextF l n id = ((e - n : Nat) : Int))) ∧ Below w.heap.size w wq) (fun kv _ _ => l.length + 3 - (intOf kv).toNat)
        case atStart => exact ⟨n, Nat.le_refl _, .inl ⟨by go_num, rfl, hn, by omega⟩, by rw [← HWO.out]; exact HB.out⟩
        case round =>
          obtain ⟨e, hne, hcase, hB1⟩ := hrel
          have HB1 := Lib.hid hB1
          rcases hcase with ⟨rfl, rfl, hel, heF⟩ | ⟨rfl, rfl, hel, heF⟩
          · by_cases hlt2 : (e : Int) + 1 ≤ (l.length : Int)
            · have hel2 : e < l.length := by omega
              obtain ⟨x, hx⟩ : ∃ x, l.getD e peD = x := ⟨_, rfl⟩
              have CX : Hid (∀ W, Below w.heap.size w W → CellsP W b (off + e * 3) x) := Lib.hid fun W hW => by
                have := (HC.out e hel2).below HBB.out hW
                rw [hx] at this
                exact this
              have HGX : Hid ((l.drop n).getD (e - n) peD = x) := Lib.hid (by rw [HG.out, show n + (e - n) = e by omega]; exact hx)
              have e1 : ((e : Int) + 1 - 1) = (e : Int) := by omega
              have hwp : IntKind.i64.wrap (e : Int) = (e : Int) := by rw [IntKind.wrap_i64]; omega
              have hei : (e : Int) < (l.length : Int) := by omega
              clear hx
              by_cases hpar : x.par = (n : Int)
              · have g1 : (x.par == (n : Int)) = true := beq_iff_eq.2 hpar
                by_cases hid2 : (x.id.toList == id.toList) = true
                · have HNX : Hid (nextF l n id = ((e - n : Nat) : Int)) := Lib.hid (fidx_yes (by rw [HF.out]; exact heF) (by rw [HLD.out]; omega) HGX.out (by rw [g1, hid2]; rfl))
                  clear hB1 hpar
                  go_wp2
                  refine region_sch (fun W => Below w.heap.size w W) [(true, 0), (true, 1), (true, 2), (true, 3), (true, 4), (true, 5), (true, 6), (true, 7), (true, 8), (true, 9), (true, 10), (true, 11), (true, 12), (true, 13), (true, 14), (true, 15), (true, 16), (true, 17), (true, 18)] [19, 20] (by kernel_rfl) (by kernel_rfl) (by rintro ⟨_, _, h⟩; cases h.1) (fun _ _ d _ _ h => by cases d <;> exact h) HB1.out.drew ?_
                  simp only [pickM, pickT, List.filterMap_cons, List.filterMap_nil, List.getElem?_cons_zero, List.getElem?_cons_succ, Option.map_some]
                  repeat (first | (refine m_float ⟨?_, .inl ⟨?_, .inl ?_⟩, fun K' hK => ?_⟩; rotate_left; (first | rfl | (go_simp; done)); (intro w' hS; (obtain ⟨q0, q1, q2⟩ := CX.out _ hS; have q3 := CPA.out _ hS; clear hS); go_simp; try rfl); (simp only [Act.put, List.setIfInBounds_toArray, List.set_cons_succ, List.set_cons_zero]; refine hK _ ?_; clear hK K')) | (refine m_float ⟨undef, .inr ⟨?_, rfl⟩, fun K' hK => ?_⟩; (first | rfl | (go_simp; done)); (simp only [Act.put, List.setIfInBounds_toArray, List.set_cons_succ, List.set_cons_zero]; refine hK _ ?_; clear hK K')))
                  refine m_nil ?_
                  show wpList Try.prog _ _ (List.cons _ _) _ _
                  go_wp2
                  go_roundw
                  case rel => exact ⟨e, hne, .inr ⟨by go_num, by go_num, hel2, HNX.out⟩, HB1.out.drew⟩
                  case measure => simp [intOf]; omega
                · rw [Bool.not_eq_true] at hid2
                  have HNX : Hid (e + 1 - n ≤ F) := Lib.hid (by
                    have := fidx_no (P := fun x => x.par == (n : Int) && x.id.toList == id.toList) (l := l.drop n) (k := e - n) (x := x) (by rw [HF.out]; exact heF) (by rw [HLD.out]; omega) HGX.out (by rw [g1, hid2]; rfl)
                    rw [HF.out] at this
                    omega)
                  clear hB1 hpar
                  go_wp2
                  refine region_sch (fun W => Below w.heap.size w W) [(true, 0), (true, 1), (true, 2), (true, 3), (true, 4), (true, 5), (true, 6), (true, 7), (true, 8), (true, 9), (true, 10), (true, 11), (true, 12), (true, 13), (true, 14), (true, 15), (true, 16), (true, 17), (true, 18)] [19, 20] (by kernel_rfl) (by kernel_rfl) (by rintro ⟨_, _, h⟩; cases h.1) (fun _ _ d _ _ h => by cases d <;> exact h) HB1.out.drew ?_
                  simp only [pickM, pickT, List.filterMap_cons, List.filterMap_nil, List.getElem?_cons_zero, List.getElem?_cons_succ, Option.map_some]
                  repeat (first | (refine m_float ⟨?_, .inl ⟨?_, .inl ?_⟩, fun K' hK => ?_⟩; rotate_left; (first | rfl | (go_simp; done)); (intro w' hS; (obtain ⟨q0, q1, q2⟩ := CX.out _ hS; have q3 := CPA.out _ hS; clear hS); go_simp; try rfl); (simp only [Act.put, List.setIfInBounds_toArray, List.set_cons_succ, List.set_cons_zero]; refine hK _ ?_; clear hK K')) | (refine m_float ⟨undef, .inr ⟨?_, rfl⟩, fun K' hK => ?_⟩; (first | rfl | (go_simp; done)); (simp only [Act.put, List.setIfInBounds_toArray, List.set_cons_succ, List.set_cons_zero]; refine hK _ ?_; clear hK K')))
                  refine m_nil ?_
                  show wpList Try.prog _ _ (List.cons _ _) _ _
                  go_wp2
                  go_roundw
                  case rel => exact ⟨e + 1, by omega, .inl ⟨by go_num, rfl, by omega, HNX.out⟩, HB1.out.drew⟩
                  case measure => simp [intOf]; omega
              · have g1 : (x.par == (n : Int)) = false := beq_eq_false_iff_ne.2 hpar
                have HNX : Hid (e + 1 - n ≤ F) := Lib.hid (by
                  have := fidx_no (P := fun x => x.par == (n : Int) && x.id.toList == id.toList) (l := l.drop n) (k := e - n) (x := x) (by rw [HF.out]; exact heF) (by rw [HLD.out]; omega) HGX.out (by rw [g1]; rfl)
                  rw [HF.out] at this
                  omega)
                clear hB1 hpar
                go_wp2
                refine region_sch (fun W => Below w.heap.size w W) [(true, 0), (true, 1), (true, 2), (true, 3), (true, 4), (true, 5), (true, 6), (true, 7), (true, 8), (true, 9), (true, 10), (true, 11), (true, 12), (true, 13), (true, 14), (true, 15), (true, 16), (true, 17), (true, 18)] [19, 20] (by kernel_rfl) (by kernel_rfl) (by rintro ⟨_, _, h⟩; cases h.1) (fun _ _ d _ _ h => by cases d <;> exact h) HB1.out.drew ?_
                simp only [pickM, pickT, List.filterMap_cons, List.filterMap_nil, List.getElem?_cons_zero, List.getElem?_cons_succ, Option.map_some]
                repeat (first | (refine m_float ⟨?_, .inl ⟨?_, .inl ?_⟩, fun K' hK => ?_⟩; rotate_left; (first | rfl | (go_simp; done)); (intro w' hS; (obtain ⟨q0, q1, q2⟩ := CX.out _ hS; have q3 := CPA.out _ hS; clear hS); go_simp; try rfl); (simp only [Act.put, List.setIfInBounds_toArray, List.set_cons_succ, List.set_cons_zero]; refine hK _ ?_; clear hK K')) | (refine m_float ⟨undef, .inr ⟨?_, rfl⟩, fun K' hK => ?_⟩; (first | rfl | (go_simp; done)); (simp only [Act.put, List.setIfInBounds_toArray, List.set_cons_succ, List.set_cons_zero]; refine hK _ ?_; clear hK K')))
                refine m_nil ?_
                show wpList Try.prog _ _ (List.cons _ _) _ _
                go_wp2
                go_roundw
                case rel => exact ⟨e + 1, by omega, .inl ⟨by go_num, rfl, by omega, HNX.out⟩, HB1.out.drew⟩
                case measure => simp [intOf]; omega
            · have hel2 : e = l.length := by omega
              have HN : Hid (findR l p = (0, 6)) := Lib.hid (by
                have : nextF l n id = -1 := fidx_end (by rw [HF.out, HLD.out, ← hel2]; exact heF)
                rw [HX.out, HE.out, HS.out, this]
                rfl)
              clear hB1 hel2
              go_wp2
              go_ret2
              exact ⟨by rw [HN.out]; rfl, HB1.out⟩
          · have g2 : (((e : Int) + 1) == 0) = false := beq_eq_false_iff_ne.2 (by omega)
            have HNX : Hid (findM l p 1 = findM l (p.drop (k + 1)) (e + 1)) := Lib.hid (by
              rw [HE.out, HS.out, heF, if_neg (by omega), Int.toNat_natCast, show n + (e - n) + 1 = e + 1 by omega])
            clear hB1 heF
            by_cases hlt2 : (e : Int) + 1 + 1 ≤ (l.length : Int)
            · go_wp2
              go_roundw
              case rel => exact ⟨k + 1, e + 1, by go_num, by go_num, by omega, by omega, by omega, HNX.out, HB1.out⟩
              case measure => simp [intOf]; omega
            · go_wp2
              go_roundw
              case rel => exact ⟨k + 1, e + 1, by go_num, by go_num, by omega, by omega, by omega, HNX.out, HB1.out⟩
              case measure => simp [intOf]; omega
      · obtain rfl : k = p.length := by omega
        have HN := Lib.hid (show findR l p = ((n : Int), 0) by rw [HX.out, HE.out, List.drop_length]; rfl)
        go_wp2
        go_ret2
        exact ⟨by rw [HN.out]; rfl, HB.out⟩
end Go.Proofs.Ytnmlephjhcmbhaa
