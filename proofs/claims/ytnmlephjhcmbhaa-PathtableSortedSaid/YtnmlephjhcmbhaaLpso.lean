/- PathtableSorted: for every input the law returns true and leaves its arguments as they were. No condition. -/
import Derived.Test.YtnmlephjhcmbhaaRows
import Derived.Test.YtnmlephjhcmbhaaCl16
import Derived.Test.YtnmlephjhcmbhaaPqa
import Derived.Test.YtnmlephjhcmbhaaPrg
import Derived.Test.YtnmlephjhcmbhaaPrd
import Derived.WalkKit
import Derived.ProofKit
import Derived.OpenShut
import Derived.ShutString
import Derived.ChangeOld
import Derived.Below
namespace Go.Proofs.Ytnmlephjhcmbhaa.pathtableSorted
set_option linter.unusedSimpArgs false
set_option linter.unusedVariables false
open Go Go.ChangeShapes Go.WideShapes Go.ChangeAt Go.RowKit
theorem og_of {l : List PE} {wide : Bool} (h0 : 0 < l.length) (h1 : RootP (l.getD 0 peD)) (h2 : ∀ i, 1 ≤ i → i < l.length → GoodE l i) (h3 : OrdFin l wide) : OG l wide := ⟨h3, h0, h1, h2⟩
theorem early_pv {l : List PE} {wide : Bool} (h : earlyP l) : pvB wide l = false := by
  cases hv : pvB wide l with
  | false => rfl
  | true =>
    exfalso
    have k := vt_iff.1 hv
    have k1 := k.le
    have k2 := k.ne
    have k3 := k.root
    rcases h with h | h | h
    · omega
    · omega
    · exact h k3
theorem bad_pv {l : List PE} {wide : Bool} {c : Int} (h : OrdBad l wide c) : pvB wide l = false := by
  cases hv : pvB wide l with
  | false => rfl
  | true =>
    exfalso
    have k := vt_iff.1 hv
    have g := k.og
    exact h.notfin g.hroot g.hgood g.fin
theorem bad_ne {l : List PE} {wide : Bool} {c : Int} (h : OrdBad l wide c) : c ≠ 0 := by
  rcases h with ⟨rfl, -⟩ | ⟨-, -, ⟨rfl, -⟩ | ⟨-, ⟨rfl, -⟩ | ⟨-, rfl, -⟩⟩⟩ <;> decide
theorem early_ne (l : List PE) : earlyC l ≠ 0 := by unfold earlyC; split <;> decide
/-- The numbers seen so far. -/
def seenB (m : List Nat) (k j : Nat) : Bool := (m.take k).contains j
theorem seen_succ {m : List Nat} {k j : Nat} (hk : k < m.length) : seenB m (k + 1) j = (seenB m k j || (m.getD k 0 == j)) := by
  unfold seenB
  rw [List.take_add_one, List.getElem?_eq_getElem hk, List.getD_eq_getElem?_getD, List.getElem?_eq_getElem hk]
  rw [Bool.eq_iff_iff]
  simp only [Option.toList_some, List.contains_iff_mem, List.mem_append, List.mem_singleton, Option.getD_some, Bool.or_eq_true, beq_iff_eq]
  constructor
  · rintro (h | h)
    · exact .inl h
    · exact .inr h.symm
  · rintro (h | h)
    · exact .inl h
    · exact .inr h.symm
theorem zeroB (w : World) : (zeroValue 4).run Try.prog w = .ok (.bool false) w := by kernel_rfl
structure SN (m : List Nat) (N b n k : Nat) (D : DataW Value) (W : World) : Prop where
  own : W.ownsMap Try.prog 3 RVm b n D
  at_ : ∀ j, j ≤ N → D.atKey (.int .i64 (j : Int)) (.held (.bool false)) = .held (.bool (seenB m k j))
theorem SN.start (m : List Nat) (N : Nat) (W : World) : SN m N W.heap.size 0 0 (.map []) (W.alloc (.map #[] 0)) :=
  ⟨World.ownsMap_made _ _ _ _, fun j _ => rfl⟩
theorem SN.look {m : List Nat} {N b n k : Nat} {D : DataW Value} {W : World} (h : SN m N b n k D W) (j : Nat) (hj : j ≤ N) (hN : N ≤ 2000) : (Instr.lookup 65 (.map (some b)) (.int .i64 (j : Int)) false).run Try.prog W = .ok (.bool (seenB m k j)) W := by
  obtain ⟨v, ps, hrun, hv⟩ := h.own.lookup keyLaw Try.underlying65 (zeroB W) (zd := .held (.bool false)) (zp := []) rfl (keyI j (by omega))
  rw [h.at_ j hj] at hv
  simp only [RVm, Option.some.injEq, Prod.mk.injEq, DataW.held.injEq] at hv
  rw [hrun, hv.1]
theorem SN.other {m : List Nat} {N b n k : Nat} {D : DataW Value} {W W' : World} (h : SN m N b n k D W) (B : Below W.heap.size W W') : SN m N b n k D W' :=
  ⟨map_below h.own B, h.at_⟩
theorem SN.put {m : List Nat} {N b n k : Nat} {D : DataW Value} {W W2 : World} (h : SN m N b n k D W) (hk : k < m.length) (hm : W2.ownsMap Try.prog 3 RVm b (n + 1) (D.put (.int .i64 ((m.getD k 0 : Nat) : Int)) (.held (.bool true)))) :
    SN m N b (n + 1) (k + 1) (D.put (.int .i64 ((m.getD k 0 : Nat) : Int)) (.held (.bool true))) W2 := by
  refine ⟨hm, fun j hj => ?_⟩
  rw [seen_succ hk]
  by_cases e : m.getD k 0 = j
  · subst e
    rw [Maps.atKey_put_same h.own.isMap (show WideAt.IsKeyLit (.int .i64 ((m.getD k 0 : Nat) : Int)) from trivial)]
    simp
  · rw [Maps.atKey_put_other (by intro q; simp only [Lit.int.injEq, true_and] at q; omega), h.at_ j hj, show (m.getD k 0 == j) = false from beq_eq_false_iff_ne.2 e, Bool.or_false]
set_option maxRecDepth 100000 in
set_option maxHeartbeats 8000000 in
theorem walk (a : Option Addr) (c : Nat) (l : List PE) (wide : Bool) (w : World) (hr : RowP w a l ∧ l.length ≤ c ∧ ∀ r ∈ l, r.id.size ≤ maxLen) : Calls Try.prog 16 #[.slice a l.length c, .bool wide] w fun e w' => e = .returned (.bool true) ∧ Below w.heap.size w w' := by
  obtain ⟨hrow, hlc, hsz⟩ := hr
  have HR := Lib.hid hrow
  have HZ := Lib.hid hsz
  have c1 := fun (W : World) (hW : Below w.heap.size w W) => psmall_ok a c l W (hrow.below hW) hsz
  clear hrow hsz
  cases hs : smallPL l
  · rw [hs] at c1
    clear hs
    go_enter Try.func16, Try.ntmps16
    go_wp2_with fail
    with_reducible refine (awake22_ok _).mono ?_
    rintro e w1 ⟨rfl, hB1⟩
    have c2 := c1 _ hB1
    go_wp2_with fail
    with_reducible refine c2.mono ?_
    rintro e w2 ⟨rfl, rfl⟩
    go_wp2
    go_ret
    exact ⟨rfl, hB1⟩
  · rw [hs] at c1
    obtain ⟨hl40, hsz3⟩ := smallPL_spec hs
    have c3 := fun (W : World) (hW : Below w.heap.size w W) => pvalid_ok a c l wide W (HR.out.below hW) (fun x hx => by have := hsz3 x hx; omega)
    have HC3 := Lib.hid hsz3
    clear hs hsz3
    by_cases he : earlyP l
    · have c4 := fun (W : World) (hW : Below w.heap.size w W) => porder_early a c l wide W (HR.out.below hW) he
      rw [early_pv he] at c3
      have hne : (earlyC l == 0) = false := beq_eq_false_iff_ne.2 (early_ne l)
      have hne2 : (earlyC l != 0) = true := by simp [early_ne l]
      unfold EarlyE at c4
      generalize earlyC l = z at c4 hne hne2
      clear he
      go_enter Try.func16, Try.ntmps16
      go_wp2_with fail
      with_reducible refine (awake22_ok _).mono ?_
      rintro e w1 ⟨rfl, hB1⟩
      have c2 := c1 _ hB1
      have c5 := c4 _ hB1
      go_wp2_with fail
      with_reducible refine c2.mono ?_
      rintro e w2 ⟨rfl, rfl⟩
      go_wp2_with fail
      with_reducible refine c5.mono ?_
      rintro e w3 ⟨rfl, hB3⟩
      have hB4 := bthen hB1 hB3
      have c6 := c3 _ hB4
      go_wp2_with fail
      with_reducible refine c6.mono ?_
      rintro e w4 ⟨rfl, hB5⟩
      go_wp2
      go_ret
      exact ⟨rfl, bthen hB4 hB5⟩
    · have hpos : 0 < l.length := Nat.pos_of_ne_zero fun h => he (.inr (.inl h))
      have hroot : RootP (l.getD 0 peD) := Classical.byContradiction fun h => he (.inr (.inr h))
      have c4 := fun (b off : Nat) (W : World) (hrw : RowP W (some ⟨b, off, none⟩) l) => porder_all b off c l wide W ⟨hl40, hpos, hlc, fun x hx => by have := HC3.out x hx; omega, hrw, hroot⟩
      obtain ⟨b, off, rfl, -, -⟩ := HR.out 0 hpos
      have HROOT := Lib.hid hroot
      clear he hroot
      go_enter Try.func16, Try.ntmps16
      go_wp2_with fail
      with_reducible refine (awake22_ok _).mono ?_
      rintro e w1 ⟨rfl, hB1⟩
      have c2 := c1 _ hB1
      have c5 := c4 b off _ (HR.out.below hB1)
      have HB1 := Lib.hid hB1
      clear c1 hB1
      go_wp2_with fail
      with_reducible refine c2.mono ?_
      rintro e w2 ⟨rfl, rfl⟩
      go_wp2_with fail
      with_reducible refine c5.mono ?_
      rintro e w3 hall
      rcases hall with ⟨-, hgood, hfin, v, u, rfl, hov, hou, hB3⟩ | ⟨z, hbad, rfl, hB3⟩
      · have HOG := Lib.hid (og_of hpos HROOT.out hgood hfin)
        have hB4 := bthen HB1.out hB3
        have HB4 := Lib.hid hB4
        have HVT := Lib.hid (HOG.out.vt (by omega))
        have hlo := outO_len l wide
        have HLO := Lib.hid hlo
        have HOV : Hid (w3.ownsRow _ 63 3 v (outO l wide).length (flatE (outO l wide))) := Lib.hid (by rw [hlo]; exact hov)
        obtain ⟨av, cv, hve, hrv⟩ := RowP_own (outO l wide) HOV.out
        rw [hlo] at hve
        subst hve
        obtain ⟨N, hN⟩ : ∃ N, numK (ordO l wide) l.length l.length = N := ⟨_, rfl⟩
        have hNl : N.length = l.length := by rw [← hN]; exact numK_len _ _ _
        rw [hN] at hou
        have HN := Lib.hid hN
        have HOU : Hid (w3.ownsRow _ 3 1 u N.length (ints N)) := Lib.hid (by rw [hNl]; exact hou)
        obtain ⟨gN, cN', hue, -, -⟩ := own_ints HOU.out 0 (by omega)
        rw [hNl] at hue
        subst hue
        have HSZ : Hid (∀ x ∈ outO l wide, x.id.size ≤ 300) := Lib.hid (by
          intro x hx
          obtain ⟨i, hi, rfl⟩ := List.getElem_of_mem hx
          have hil : i < l.length := by rw [← hlo]; exact hi
          have e2 := outO_get l wide hil
          rw [List.getD_eq_getElem?_getD, List.getElem?_eq_getElem hi, Option.getD_some] at e2
          rw [e2]
          show (l.getD ((ordO l wide).getD i 0) peD).id.size ≤ 300
          have hlt := HOG.out.lt hil
          exact HC3.out (l.getD ((ordO l wide).getD i 0) peD) (by rw [List.getD_eq_getElem?_getD, List.getElem?_eq_getElem hlt, Option.getD_some]; exact List.getElem_mem hlt))
        have hcv : l.length ≤ cv := by
          rcases hov.2 with ⟨e2, -⟩ | ⟨g', cap', cur', e2, -, -, h1, -, -, -⟩
          · injection e2 with e3 e4 e5
            omega
          · injection e2 with e3 e4 e5
            omega
        obtain ⟨bo, oo, hav, -, -⟩ := hrv 0 (by rw [hlo]; exact hpos)
        subst hav
        have c6 := pvalid_ok (some ⟨bo, oo, none⟩) cv (outO l wide) wide w3 hrv (fun x hx => by have := HSZ.out x hx; omega)
        rw [vt_iff.2 HVT.out, hlo] at c6
        have HRV := Lib.hid hrv
        have hNi : ((l.length : Int) != (l.length : Int)) = false := by simp
        have hmm := @run_makeMap Try.prog
        clear hov hou hB3 hB4 hfin hgood c5 c3 c2 hrv hN
        go_wp2_with fail
        with_reducible refine c6.mono ?_
        rintro e w4 ⟨rfl, hB5⟩
        have HB5 := Lib.hid (bthen HB4.out hB5)
        have HRV4 := Lib.hid (HRV.out.below hB5)
        have HOU4 : Hid (w4.ownsRow _ 3 1 (.slice (some ⟨gN, 0, none⟩) l.length cN') N.length (ints N)) := Lib.hid (own_keep HOU.out hB5)
        have hgN : gN < w4.heap.size := (HOU4.out.lt gN rfl).2
        have CN4 : Hid (∀ k, k < l.length → ∀ W, Below w4.heap.size w4 W → W.cell? ⟨gN, k, none⟩ = some (cN ((N.getD k 0 : Nat) : Int))) := Lib.hid fun k hk W hW => by
          obtain ⟨g', c', e2, -, h2⟩ := own_ints HOU4.out k (by omega)
          simp only [Value.slice.injEq, Option.some.injEq, Addr.mk.injEq, and_true] at e2
          rw [← e2.1] at h2
          exact (hW.cell (p := ⟨gN, k, none⟩) hgN).trans h2
        have CL4 : Hid (∀ k, k < l.length → ∀ W, Below w4.heap.size w4 W → CellsP W b (off + k * 3) (l.getD k peD)) := Lib.hid fun k hk W hW => by
          obtain ⟨b', off', e2, h1, h2⟩ := (HR.out.below (bthen HB5.out hW)) k hk
          simp only [Option.some.injEq, Addr.mk.injEq, and_true] at e2
          rw [e2.1, e2.2]
          exact h2
        have CO4 : Hid (∀ k, k < l.length → ∀ W, Below w4.heap.size w4 W → CellsP W bo (oo + k * 3) ((outO l wide).getD k peD)) := Lib.hid fun k hk W hW => by
          obtain ⟨b', off', e2, h1, h2⟩ := (HRV4.out.below hW) k (by rw [HLO.out]; exact hk)
          simp only [Option.some.injEq, Addr.mk.injEq, and_true] at e2
          rw [e2.1, e2.2]
          exact h2
        clear hB5 c6
        go_wp2
        go_loopw [64, 9, 10, 11] (fun i _ _ _ wr => ∃ (k : Nat) (D : DataW Value), i = cN k ∧ k ≤ l.length ∧ SN N l.length w4.heap.size k k D wr ∧ Below w4.heap.size w4 wr) (fun i _ _ _ _ => l.length - (intOf i).toNat)
        case atStart => exact ⟨0, _, rfl, Nat.zero_le _, SN.start N l.length w4, bald (Below.refl _ w4) _⟩
        case round =>
          obtain ⟨k, D, rfl, hk, hS, hB⟩ := hrel
          have HS := Lib.hid hS
          have HB := Lib.hid hB
          clear hS hB
          by_cases hlt : (k : Int) < (l.length : Int)
          · have hkl : k < l.length := by omega
            obtain ⟨p, hp, hpo, hpn⟩ := HOG.out.at_ hkl
            obtain ⟨hl1, hl2, hmv⟩ := HOG.out.moved hkl hp hpo
            rw [HN.out] at hpn hmv
            obtain ⟨P1, hP1⟩ : ∃ P1, N.getD k 0 = P1 := ⟨_, rfl⟩
            have hseen : seenB N k P1 = false := by
              unfold seenB
              rw [Bool.eq_false_iff]
              intro hc
              rw [List.contains_iff_mem] at hc
              obtain ⟨t, ht, e2⟩ := List.getElem_of_mem hc
              rw [List.length_take] at ht
              rw [List.getElem_take] at e2
              have htl : t < l.length := by omega
              obtain ⟨p2, hp2, hpo2, hpn2⟩ := HOG.out.at_ htl
              rw [HN.out, List.getD_eq_getElem?_getD, List.getElem?_eq_getElem (by omega), Option.getD_some] at hpn2
              have : p2 = p := by omega
              rw [this, hpo] at hpo2
              omega
            have hlk := HS.out.look P1 (by omega) (by omega)
            rw [hseen] at hlk
            have r0 := CN4.out k hkl _ HB.out
            rw [hP1] at r0
            have hp1 : P1 = p + 1 := by omega
            have g1 : ¬ (P1 : Int) < 1 := by omega
            have g2 : ¬ (l.length : Int) < (P1 : Int) := by omega
            have e1 : (P1 : Int) - 1 = (p : Int) := by omega
            have hwp : IntKind.i64.wrap (p : Int) = (p : Int) := by rw [IntKind.wrap_i64]; omega
            have hpi : (p : Int) < (l.length : Int) := by omega
            have HP1 := Lib.hid hP1
            have HMV := Lib.hid hmv
            have HL12 := Lib.hid (And.intro hl1 hl2)
            clear hseen hP1 hmv hpn hpo hl1 hl2 hp1
            go_wp2_with (at_mapUpdate; refine wpList_mapUpdate_own _ rfl _ _ _ 65 rfl 3 4 keyLaw Try.underlying65 RVm w4.heap.size k D rfl HS.out.own (by unfold maxLen; omega) _ _ _ rfl rfl (keyI P1 (by omega)) (.held (.bool true)) [] rfl ?_)
            intro w6 hm6 hg6
            have HS6 := Lib.hid (HS.out.put (by omega) (by rw [HP1.out]; exact hm6))
            have HB6 : Hid (Below w4.heap.size w4 w6) := Lib.hid (HB.out.grown hg6 HB.out.size (fun q e => by simp only [Option.some.injEq] at e; omega))
            obtain ⟨x0, hx0⟩ : ∃ x, l.getD k peD = x := ⟨_, rfl⟩
            have hq := CL4.out k hkl
            have ho := CO4.out p hp
            have hmv := HMV.out
            have hl12 := HL12.out
            rw [hmv] at ho
            rw [hx0] at hq ho hl12
            obtain ⟨pj, hpj⟩ : ∃ pj : Nat, x0.par = ((pj + 1 : Nat) : Int) := ⟨x0.par.toNat - 1, by omega⟩
            rw [hpj, Int.toNat_natCast, Nat.add_sub_cancel] at ho
            have hpjl : pj < l.length := by omega
            obtain ⟨nv, hnv⟩ : ∃ nv, N.getD pj 0 = nv := ⟨_, rfl⟩
            rw [hnv] at ho
            obtain ⟨o0, o1, o2⟩ := ho _ HB6.out
            simp only at o0 o1 o2
            have CA : Hid (∀ W, Below (w6.alloc (.cells #[.string x0.id, cN x0.lba, cN (nv : Int)] 63)).heap.size (w6.alloc (.cells #[.string x0.id, cN x0.lba, cN (nv : Int)] 63)) W → W.cell? ⟨b, off + k * 3, none⟩ = some (.string x0.id) ∧ W.cell? ⟨b, off + k * 3 + 1, none⟩ = some (cN x0.lba) ∧ W.cell? ⟨b, off + k * 3 + 2, none⟩ = some (cN ((pj : Int) + 1)) ∧ W.cell? ⟨gN, pj, none⟩ = some (cN (nv : Int)) ∧ W.cell? ⟨w6.heap.size, 0, none⟩ = some (.string x0.id) ∧ W.cell? ⟨w6.heap.size, 1, none⟩ = some (cN x0.lba) ∧ W.cell? ⟨w6.heap.size, 2, none⟩ = some (cN (nv : Int))) := Lib.hid fun W hW => by
              have hbw : Below w4.heap.size w4 W := bthen (bald HB6.out _) hW
              obtain ⟨q0, q1, q2⟩ := hq W hbw
              rw [hpj] at q2
              have hn := CN4.out pj hpjl W hbw
              rw [hnv] at hn
              have hx := (hW.block w6.heap.size (by simp)).trans (World.alloc_heap_new w6 (.cells #[.string x0.id, cN x0.lba, cN (nv : Int)] 63))
              exact ⟨q0, q1, q2, hn, by rw [Lib.cell_of_heap hx]; rfl, by rw [Lib.cell_of_heap hx]; rfl, by rw [Lib.cell_of_heap hx]; rfl⟩
            have hlo3 : ¬ (pj : Int) + 1 < 1 := by omega
            have hhi3 : ¬ (l.length : Int) < (pj : Int) + 1 := by omega
            have hlo3d : decide ((pj : Int) + 1 < 1) = false := decide_eq_false hlo3
            have hhi3d : decide ((l.length : Int) < (pj : Int) + 1) = false := decide_eq_false hhi3
            have e3 : ((pj : Int) + 1 - 1) = (pj : Int) := by omega
            have hwp3 : IntKind.i64.wrap (pj : Int) = (pj : Int) := by rw [IntKind.wrap_i64]; omega
            have hki : (k : Int) < (l.length : Int) := by omega
            have hpji : (pj : Int) < (l.length : Int) := by omega
            have HB7 : Hid (Below w4.heap.size w4 (w6.alloc (.cells #[.string x0.id, cN x0.lba, cN (nv : Int)] 63))) := Lib.hid (bald HB6.out _)
            have HS7 : Hid (SN N l.length w4.heap.size (k + 1) (k + 1) _ (w6.alloc (.cells #[.string x0.id, cN x0.lba, cN (nv : Int)] 63)).drew) := Lib.hid (HS6.out.other (bald (Below.refl _ w6) _).drew)
            clear hm6 hg6 hx0 hq ho hmv hl12 hpj hnv hlk r0
            go_wp2
            refine region_sch (fun W => Below (w6.alloc (.cells #[.string x0.id, cN x0.lba, cN (nv : Int)] 63)).heap.size (w6.alloc (.cells #[.string x0.id, cN x0.lba, cN (nv : Int)] 63)) W) [(true, 0), (true, 1), (true, 2), (true, 3), (true, 4), (true, 5), (true, 6), (true, 7), (true, 8), (true, 9), (true, 10), (true, 11), (true, 12), (true, 13), (true, 14), (true, 15), (true, 16), (true, 17), (true, 18), (true, 19), (true, 20), (true, 21), (true, 22), (true, 23), (true, 24), (true, 25), (true, 26), (true, 27), (true, 28), (true, 29), (true, 30), (true, 31), (true, 32), (true, 33), (true, 34), (true, 35), (true, 36), (true, 37), (true, 38), (true, 39), (true, 40), (true, 41), (true, 42), (true, 43), (true, 44), (true, 45), (true, 46), (true, 47)] [48, 49] (by kernel_rfl) (by kernel_rfl) (by rintro ⟨_, _, h, _⟩; cases h) (fun _ _ d _ _ h => by cases d <;> exact h) (Below.refl _ _).drew ?_
            simp only [pickM, pickT, List.filterMap_cons, List.filterMap_nil, List.getElem?_cons_zero, List.getElem?_cons_succ, Option.map_some]
            repeat (first | (refine m_float ⟨?_, .inl ⟨?_, .inl ?_⟩, fun K' hK => ?_⟩; rotate_left; (first | rfl | (go_simp; done)); (intro w' hS; (obtain ⟨z0, z1, z2, z3, z4, z5, z6⟩ := CA.out _ hS; clear hS); go_simp; try rfl); (simp only [Act.put, List.setIfInBounds_toArray, List.set_cons_succ, List.set_cons_zero]; refine hK _ ?_; clear hK K')) | (refine m_float ⟨undef, .inr ⟨?_, rfl⟩, fun K' hK => ?_⟩; (first | rfl | (go_simp; done)); (simp only [Act.put, List.setIfInBounds_toArray, List.set_cons_succ, List.set_cons_zero]; refine hK _ ?_; clear hK K')))
            refine m_nil ?_
            show wpList Try.prog _ _ (List.cons _ _) _ _
            go_wp2
            go_roundw
            case rel => exact ⟨k + 1, _, by go_num, by omega, HS7.out, HB7.out.drew⟩
            case measure => simp [intOf]; omega
          · obtain rfl : k = l.length := by omega
            have HRVw := HRV4.out.below HB.out
            have HVG := HVT.out.og
            have c7 := porder_all bo oo cv (outO l wide) wide wr ⟨by rw [HLO.out]; exact hl40, by rw [HLO.out]; exact hpos, by rw [HLO.out]; exact hcv, fun x hx => by have := HSZ.out x hx; omega, HRVw, HVT.out.root⟩
            rw [HLO.out] at c7
            have HBW := Lib.hid (bthen HB5.out HB.out)
            have HRVW := Lib.hid HRVw
            clear HRVw
            go_wp2_with fail
            with_reducible refine c7.mono ?_
            rintro e w8 hall
            rcases hall with ⟨-, -, -, v2, u2, rfl, hov2, hou2, hB8⟩ | ⟨z, hbad, rfl, hB8⟩
            · have hout : outK (outO l wide) (ordO (outO l wide) wide) (outO l wide).length (outO l wide).length = outO l wide := HVT.out.out
              rw [hout] at hov2
              obtain ⟨a2, c2', hv2e, hr2⟩ := RowP_own (outO l wide) hov2
              have c8 := psame_ok a2 c2' (outO l wide) (some ⟨bo, oo, none⟩) cv (outO l wide) w8 (by rw [HLO.out]; omega) hr2 (HRVW.out.below hB8)
              rw [(pesEq_iff _ _).2 rfl, HLO.out] at c8
              rw [HLO.out] at hv2e
              subst hv2e
              obtain ⟨N2, hN2⟩ : ∃ N2, numK (ordO (outO l wide) wide) (outO l wide).length (outO l wide).length = N2 := ⟨_, rfl⟩
              have hN2l : N2.length = l.length := by rw [← hN2, numK_len, HLO.out]
              have hN2g : ∀ j, j < l.length → N2.getD j 0 = j + 1 := fun j hj => by rw [← hN2]; exact HVT.out.numI (by rw [HLO.out]; exact hj)
              rw [hN2] at hou2
              have HOU2 : Hid (w8.ownsRow _ 3 1 u2 N2.length (ints N2)) := Lib.hid (by rw [hN2l, ← HLO.out]; exact hou2)
              have hB9 := bthen HBW.out hB8
              have HB9 := Lib.hid hB9
              have HN2 := Lib.hid hN2g
              clear hov2 hou2 hB8 hB9 hr2 hN2 hN2g hout c7
              go_wp2_with fail
              with_reducible refine c8.mono ?_
              rintro e w9 ⟨rfl, hB10⟩
              have c9 := issorted_ok N2 (own_keep HOU2.out hB10) (by omega) (fun j hj => by rw [HN2.out j (by omega), HN2.out (j + 1) (by omega)]; omega)
              have HB10 := Lib.hid (bthen HB9.out hB10)
              clear c8 hB10
              go_wp2_with fail
              with_reducible refine c9.mono ?_
              rintro e w10 ⟨rfl, hB11⟩
              go_wp2
              go_ret
              exact ⟨rfl, bthen HB10.out hB11⟩
            · exact (hbad.notfin HVT.out.root (fun i h1 h2 => HVG.hgood i h1 h2) HVG.fin).elim
      · have hz := bad_ne hbad
        have hz1 : (z == 0) = false := beq_eq_false_iff_ne.2 hz
        have hz2 : (z != 0) = true := by simp [hz]
        rw [bad_pv hbad] at c3
        have hB4 := bthen HB1.out hB3
        have c6 := c3 _ hB4
        clear hbad hz
        go_wp2_with fail
        with_reducible refine c6.mono ?_
        rintro e w4 ⟨rfl, hB5⟩
        go_wp2
        go_ret
        exact ⟨rfl, bthen hB4 hB5⟩
theorem own : ownKnob Try.prog.godebug = none := by kernel_rfl
theorem laidOut : laidOutB Try.prog = true := by kernel_rfl
set_option maxRecDepth 100000 in
theorem lifted (os : Os) (started : os.Started) (H : Type) (enc : TypeId × Value → H) :
    ReturnsInHanded {} Try.checked os 16 .any (Rows.pathtableSortedSpec.pre6 enc Try.prog Try.f16 Rows.pathtableSortedRow.domain false) (Rows.pathtableSortedSpec.post enc Try.prog Try.f16 false true false false) := by
  refine returnsInHanded_of_change (C := Try.checked) own started (by kernel_rfl) Try.func16
    (ChangeSpec.witness6 (enc := enc) (C := Try.checked) false ⟨#[], #[.slice none 0 0, .bool false], []⟩ 8 (by kernel_rfl) (by kernel_rfl) (by kernel_rfl) (by kernel_rfl)) ?_
  intro W base args ds gs before hval0 hW hcnd _
  have hval : ∀ (j : Nat) t v, Try.f16.params[j]? = some t → args[j]? = some v → Value.okWide Try.prog W .any base t v := hval0
  have hW' := hW
  obtain ⟨p, q, hA0, hV, rfl, hfz, hnd⟩ := hW
  have hA : DataW.TrodAll enc Try.prog W 0 (fun _ => true) true Try.f16.params.toList args.toList ds p := hA0
  rw [Try.params16] at hA hval
  obtain ⟨v0, vs0, d0, ds0, p0, q0, hargs, rfl, rfl, h0, r0⟩ := trodAll_cons hA
  obtain ⟨v1, vs1, d1, ds1, p1, q1, rfl, rfl, rfl, h1, r1⟩ := trodAll_cons r0
  obtain ⟨rfl, rfl, rfl⟩ := trodAll_nil r1
  obtain rfl : args = #[v0, v1] := by cases args; simp_all
  obtain ⟨rfl, rfl⟩ := trodVars_none hV
  have k0 := h0
  have lt0 : ∀ x ∈ p0, x.block < W.heap.size := by obtain ⟨m, hm⟩ := k0; exact DataW.trod_lt m _ _ _ hm
  obtain ⟨a0, n0, c0, rfl⟩ := okWide_slice Try.underlying44 (hval 0 44 v0 rfl rfl)
  obtain ⟨l0, rfl, w0⟩ := open_pes h0
  obtain ⟨a1, rfl, rfl, rfl⟩ := open_bool Try.underlying4 (hval 1 4 v1 rfl rfl) h1
  clear hA0 hval0
  refine (walk a0 c0 l0 a1 W w0).mono fun e W' ⟨he, bel⟩ => ?_
  subst he
  exact ⟨_, rfl, _, _, _, [], _, [], hW', trodAll_mk1 (shut_bool Try.underlying4 _), (trodAll_cons_mk (Below.trod laidOut (by kernel_rfl) (of_decide_eq_true (by kernel_rfl)) k0 bel lt0) (trodAll_cons_mk (shut_bool Try.underlying4 _) trodAll_mk0)), rfl, bel.frame _, fun h => by cases h⟩
theorem over : Rows.pathtableSortedRow.holds Try.pinned (OpenSpec.ofChange Rows.pathtableSortedSpec) :=
  OpenClaim.holds_of_wide 16 Try.f16 rfl rfl rfl rfl rfl rfl rfl ⟨rfl, rfl, rfl, rfl, rfl⟩ rfl rfl rfl rfl rfl (by as_aux_lemma => kernel_rfl) Try.func16 closed
    (of_decide_eq_true (by as_aux_lemma => kernel_rfl)) (by as_aux_lemma => (unfold Func.isWrapper; first | (rw [if_pos (by decide +kernel)]; kernel_rfl) | (rw [if_neg (by decide +kernel)]; exact ⟨rfl, rfl⟩)))
    (fun os started H enc _ => lifted os started H enc)
theorem proved : Rows.PathtableSortedSaid := over
#print axioms proved
end Go.Proofs.Ytnmlephjhcmbhaa.pathtableSorted
