/- pathtable.Valid. -/
import Derived.Test.YtnmlephjhcmbhaaPpa
namespace Go.Proofs.Ytnmlephjhcmbhaa
set_option linter.unusedSimpArgs false
set_option linter.unusedVariables false
open Go Go.RowKit
/-- What Valid asks of an entry and the one in front of it. -/
def VAt (wide : Bool) (i : Nat) (p x : PE) : Prop :=
  BlockP x.lba ∧ (i = 0 ∨ (NamedP x ∧ 1 ≤ x.par ∧ p.par ≤ x.par ∧ x.par ≤ i ∧ ¬ (1 < i ∧ x.par = p.par ∧ 0 ≤ cmpM p.id.data.toList x.id.data.toList wide)))
instance (wide : Bool) (i : Nat) (p x : PE) : Decidable (VAt wide i p x) := by unfold VAt; infer_instance
def vatB (wide : Bool) (l : List PE) (i : Nat) : Bool := decide (VAt wide i (l.getD (i - 1) peD) (l.getD i peD))
def pvB (wide : Bool) (l : List PE) : Bool := decide (l.length ≠ 0 ∧ l.length ≤ 1024 ∧ RootP (l.getD 0 peD)) && (List.range l.length).all (vatB wide l)
theorem all_snoc (f : Nat → Bool) (k : Nat) : (List.range (k + 1)).all f = ((List.range k).all f && f k) := by rw [List.range_succ, List.all_append]; simp
theorem all_bad {f : Nat → Bool} {k n : Nat} (hk : k < n) (h : f k = false) : (List.range n).all f = false := by
  rw [List.all_eq_false]
  exact ⟨k, List.mem_range.2 hk, by simp [h]⟩
/-- What stays while an entry is looked at. -/
structure PVS (w : World) (B : Nat) (x : PE) (W : World) : Prop where
  bel : Below w.heap.size w W
  lt : B < W.heap.size
  own : CellsP W B 0 x
theorem PVS.drew {w W : World} {B : Nat} {x : PE} (h : PVS w B x W) : PVS w B x W.drew := ⟨h.bel.drew, h.lt, h.own⟩
theorem PVS.below {w W W' : World} {B : Nat} {x : PE} (h : PVS w B x W) (k : Below W.heap.size W W') : PVS w B x W' := ⟨bthen h.bel k, Nat.lt_of_lt_of_le h.lt k.size, h.own.below h.lt k⟩
theorem PVS.new {w W : World} (h : Below w.heap.size w W) (x : PE) : PVS w W.heap.size x (W.alloc (.cells (peA x) 63)) :=
  ⟨bald h _, by simp, CellsP_of fun i _ => by rw [Lib.cell_of_heap (World.alloc_heap_new _ _), Nat.zero_add]; simp⟩
set_option maxRecDepth 100000 in
set_option maxHeartbeats 8000000 in
theorem pvalid_ok (a : Option Addr) (c : Nat) (l : List PE) (wide : Bool) (w : World) (hrow : RowP w a l) (hsz : ∀ x ∈ l, x.id.size < 2 ^ 31) :
    Calls Try.prog 31 #[.slice a l.length c, .bool wide] w fun e w' => e = .returned (.bool (pvB wide l)) ∧ Below w.heap.size w w' := by
  by_cases h0 : l.length = 0
  · have hv : pvB wide l = false := by unfold pvB; rw [decide_eq_false (fun h => h.1 h0)]; rfl
    rw [hv]
    have g0 : ((l.length : Int) == 0) = true := by rw [h0]; rfl
    clear h0 hv hrow hsz
    go_enter Try.func31, Try.ntmps31
    go_wp2
    go_ret
    exact ⟨rfl, Below.refl _ w⟩
  · have g0 : ((l.length : Int) == 0) = false := beq_eq_false_iff_ne.2 (by omega)
    by_cases h1 : 1024 < l.length
    · have hv : pvB wide l = false := by unfold pvB; rw [decide_eq_false (fun h => by have h2 := h.2.1; omega)]; rfl
      rw [hv]
      have g1 : (1024 : Int) < (l.length : Int) := by omega
      clear h0 hv hrow hsz h1
      go_enter Try.func31, Try.ntmps31
      go_wp2
      go_ret
      exact ⟨rfl, Below.refl _ w⟩
    · have g1 : ¬ (1024 : Int) < (l.length : Int) := by omega
      have hpos : 0 < l.length := by omega
      have gp : (0 : Int) < (l.length : Int) := by omega
      obtain ⟨b, off, rfl, hb, hc⟩ := hrow.addr hpos
      have hc0 := hc 0 hpos
      obtain ⟨x0, hx0⟩ : ∃ x, l.getD 0 peD = x := ⟨_, rfl⟩
      rw [hx0, Nat.zero_mul, Nat.add_zero] at hc0
      obtain ⟨q0, q1, q2⟩ := hc0
      have c0 := fun W => isroot_ok x0 W
      have HC := Lib.hid hc
      have HZ := Lib.hid hsz
      have HBB := Lib.hid hb
      have HX0 := Lib.hid hx0
      have HL0 := Lib.hid h0
      have HL1 := Lib.hid h1
      clear hc hsz hrow hx0 h0 h1 hb
      by_cases hr : RootP x0
      · rw [decide_eq_true hr] at c0
        have HR := Lib.hid hr
        clear hr
        have HVV : Hid (pvB wide l = (List.range l.length).all (vatB wide l)) := Lib.hid (by
          unfold pvB
          rw [decide_eq_true (show l.length ≠ 0 ∧ l.length ≤ 1024 ∧ RootP (l.getD 0 peD) from ⟨HL0.out, by have := HL1.out; omega, by rw [HX0.out]; exact HR.out⟩), Bool.true_and])
        go_enter Try.func31, Try.ntmps31
        go_wp2_with fail
        with_reducible refine (c0 _).mono ?_
        rintro e w0 ⟨rfl, hB0⟩
        have HB0 := Lib.hid hB0
        clear hB0 q0 q1 q2 c0
        go_wp2
        go_loopw [24, 5, 6, 29, 34, 37, 59] (fun i _ _ _ _ _ _ wr => ∃ k : Nat, i = cN k ∧ k ≤ l.length ∧ (List.range k).all (vatB wide l) = true ∧ Below w.heap.size w wr) (fun i _ _ _ _ _ _ _ => l.length - (intOf i).toNat)
        case atStart => exact ⟨0, rfl, Nat.zero_le _, rfl, HB0.out⟩
        case round =>
          obtain ⟨k, rfl, hk, hall, hB⟩ := hrel
          have HALL := Lib.hid hall
          have HB := Lib.hid hB
          clear hall
          by_cases hlt : (k : Int) < (l.length : Int)
          · have hkl : k < l.length := by omega
            have hck := HC.out k hkl
            obtain ⟨x, hx⟩ : ∃ x, l.getD k peD = x := ⟨_, rfl⟩
            rw [hx] at hck
            have hmx : x ∈ l := by rw [← hx, List.getD_eq_getElem?_getD, List.getElem?_eq_getElem hkl, Option.getD_some]; exact List.getElem_mem hkl
            obtain ⟨q0, q1, q2⟩ := hck.below HBB.out hB
            have c1 := fun W => isblock_ok x.lba W
            have c2 := fun W => isnamed_ok x W
            have HV0 := Lib.hid (PVS.new (w := w) hB x)
            have HX := Lib.hid hx
            have BAD : vatB wide l k = false → pvB wide l = false := fun h => by rw [HVV.out]; exact all_bad hkl h
            have HBAD := Lib.hid BAD
            have HZX := Lib.hid (HZ.out x hmx)
            clear hx hck hmx hB BAD
            by_cases hblk : BlockP x.lba
            · rw [decide_eq_true hblk] at c1
              have HBLK := Lib.hid hblk
              clear hblk
              by_cases hk0 : k = 0
              · subst hk0
                rw [Nat.zero_mul, Nat.add_zero] at q0 q1 q2
                have g2 : (((0 : Nat) : Int) == 0) = true := rfl
                go_wp2_with fail
                with_reducible refine (c1 _).mono ?_
                rintro e w1 ⟨rfl, hB1⟩
                have HV1 := Lib.hid (HV0.out.below hB1)
                clear hB1
                go_wp2
                go_roundw
                case rel => exact ⟨1, rfl, by omega, by rw [all_snoc, HALL.out, vatB, HX.out, decide_eq_true (show VAt wide 0 _ x from ⟨HBLK.out, .inl rfl⟩)]; rfl, HV1.out.bel⟩
                case measure => simp [intOf]; omega
              · have g2 : ((k : Int) == 0) = false := by simp; omega
                obtain ⟨j, rfl⟩ : ∃ j, k = j + 1 := ⟨k - 1, by omega⟩
                have hjl : j < l.length := by omega
                obtain ⟨p, hp⟩ : ∃ p, l.getD j peD = p := ⟨_, rfl⟩
                have hcp : ∀ W, PVS w wr.heap.size x W → CellsP W b (off + j * 3) p := fun W hW => by
                  have := (HC.out j hjl).below HBB.out hW.bel
                  rw [hp] at this
                  exact this
                have hmp : p ∈ l := by rw [← hp, List.getD_eq_getElem?_getD, List.getElem?_eq_getElem hjl, Option.getD_some]; exact List.getElem_mem hjl
                have HZP := Lib.hid (HZ.out p hmp)
                have HP := Lib.hid hp
                have CP := Lib.hid hcp
                have hwp : IntKind.i64.wrap (j : Int) = (j : Int) := by rw [IntKind.wrap_i64]; omega
                have hj1 : (j : Int) < (l.length : Int) := by omega
                have VIFF : Hid (vatB wide l (j + 1) = decide (VAt wide (j + 1) p x)) := Lib.hid (by rw [vatB, Nat.add_sub_cancel, HX.out, HP.out])
                clear hp hcp hmp hk0
                by_cases hnm : NamedP x
                · rw [decide_eq_true hnm] at c2
                  have HNM := Lib.hid hnm
                  clear hnm
                  obtain ⟨M, hM⟩ : ∃ M, max 1 p.par = M := ⟨_, rfl⟩
                  by_cases hlow : x.par < M
                  · have g4 : decide (x.par < M) = true := decide_eq_true hlow
                    have HN := Lib.hid (HBAD.out (by rw [VIFF.out]; exact decide_eq_false fun h => by rcases h.2 with h | h <;> omega))
                    go_wp2_with fail
                    with_reducible refine (c1 _).mono ?_
                    rintro e w1 ⟨rfl, hB1⟩
                    have HV1 := Lib.hid (HV0.out.below hB1)
                    clear hB1
                    go_wp2
                    refine region_sch (PVS w wr.heap.size x) [(true, 0), (false, 1), (true, 2), (true, 3), (true, 4), (true, 5), (true, 6), (true, 7), (true, 8), (true, 9), (true, 10), (true, 11), (true, 12), (true, 13), (true, 14), (true, 15), (true, 16), (true, 17), (true, 18)] [19, 20, 21] (by kernel_rfl) (by kernel_rfl) (by rintro ⟨_, _, h⟩; cases h.1) (fun _ _ d _ _ h => by cases d <;> exact h) HV1.out.drew ?_
                    simp only [pickM, pickT, List.filterMap_cons, List.filterMap_nil, List.getElem?_cons_zero, List.getElem?_cons_succ, Option.map_some]
                    repeat (first | (refine m_float ⟨?_, .inl ⟨?_, .inl ?_⟩, fun K' hK => ?_⟩; rotate_left; (first | rfl | (go_simp; done)); (intro w' hS; (obtain ⟨p0, p1, p2⟩ := hS.own); go_simp; try rfl); (simp only [Act.put, List.setIfInBounds_toArray, List.set_cons_succ, List.set_cons_zero]; refine hK _ ?_; clear hK K')) | (refine m_float ⟨undef, .inr ⟨?_, rfl⟩, fun K' hK => ?_⟩; (first | rfl | (go_simp; done)); (simp only [Act.put, List.setIfInBounds_toArray, List.set_cons_succ, List.set_cons_zero]; refine hK _ ?_; clear hK K')))
                    refine m_loud ?_ (fun K' hK => ?_)
                    · rintro ⟨_, _, h, _⟩; cases h
                    go_wp2_with (go_at_call 70; (with_reducible refine (c2 _).mono ?_); rintro e w5 ⟨rfl, hB5⟩)
                    refine hK _ _ (HV1.out.drew.below hB5) ?_
                    clear hK K'
                    repeat (first | (refine m_float ⟨?_, .inl ⟨?_, .inl ?_⟩, fun K' hK => ?_⟩; rotate_left; (first | rfl | (go_simp; done)); (intro w' hS; (obtain ⟨p0, p1, p2⟩ := hS.own; obtain ⟨q0, q1, q2⟩ := CP.out _ hS); go_simp; try rfl); (simp only [Act.put, List.setIfInBounds_toArray, List.set_cons_succ, List.set_cons_zero]; refine hK _ ?_; clear hK K')) | (refine m_float ⟨undef, .inr ⟨?_, rfl⟩, fun K' hK => ?_⟩; (first | rfl | (go_simp; done)); (simp only [Act.put, List.setIfInBounds_toArray, List.set_cons_succ, List.set_cons_zero]; refine hK _ ?_; clear hK K')))
                    refine m_nil ?_
                    show wpList Try.prog _ _ (List.cons _ _) _ _
                    go_wp2
                    go_ret
                    exact ⟨by rw [HN.out]; rfl, (HV1.out.drew.below hB5).bel⟩
                  · have g4 : decide (x.par < M) = false := decide_eq_false hlow
                    by_cases hup : ((j : Int) + 1) < x.par
                    · have HN := Lib.hid (HBAD.out (by rw [VIFF.out]; exact decide_eq_false fun h => by rcases h.2 with h | h <;> omega))
                      go_wp2_with fail
                      with_reducible refine (c1 _).mono ?_
                      rintro e w1 ⟨rfl, hB1⟩
                      have HV1 := Lib.hid (HV0.out.below hB1)
                      clear hB1
                      go_wp2
                      refine region_sch (PVS w wr.heap.size x) [(true, 0), (false, 1), (true, 2), (true, 3), (true, 4), (true, 5), (true, 6), (true, 7), (true, 8), (true, 9), (true, 10), (true, 11), (true, 12), (true, 13), (true, 14), (true, 15), (true, 16), (true, 17), (true, 18)] [19, 20, 21] (by kernel_rfl) (by kernel_rfl) (by rintro ⟨_, _, h⟩; cases h.1) (fun _ _ d _ _ h => by cases d <;> exact h) HV1.out.drew ?_
                      simp only [pickM, pickT, List.filterMap_cons, List.filterMap_nil, List.getElem?_cons_zero, List.getElem?_cons_succ, Option.map_some]
                      repeat (first | (refine m_float ⟨?_, .inl ⟨?_, .inl ?_⟩, fun K' hK => ?_⟩; rotate_left; (first | rfl | (go_simp; done)); (intro w' hS; (obtain ⟨p0, p1, p2⟩ := hS.own); go_simp; try rfl); (simp only [Act.put, List.setIfInBounds_toArray, List.set_cons_succ, List.set_cons_zero]; refine hK _ ?_; clear hK K')) | (refine m_float ⟨undef, .inr ⟨?_, rfl⟩, fun K' hK => ?_⟩; (first | rfl | (go_simp; done)); (simp only [Act.put, List.setIfInBounds_toArray, List.set_cons_succ, List.set_cons_zero]; refine hK _ ?_; clear hK K')))
                      refine m_loud ?_ (fun K' hK => ?_)
                      · rintro ⟨_, _, h, _⟩; cases h
                      go_wp2_with (go_at_call 70; (with_reducible refine (c2 _).mono ?_); rintro e w5 ⟨rfl, hB5⟩)
                      refine hK _ _ (HV1.out.drew.below hB5) ?_
                      clear hK K'
                      repeat (first | (refine m_float ⟨?_, .inl ⟨?_, .inl ?_⟩, fun K' hK => ?_⟩; rotate_left; (first | rfl | (go_simp; done)); (intro w' hS; (obtain ⟨p0, p1, p2⟩ := hS.own; obtain ⟨q0, q1, q2⟩ := CP.out _ hS); go_simp; try rfl); (simp only [Act.put, List.setIfInBounds_toArray, List.set_cons_succ, List.set_cons_zero]; refine hK _ ?_; clear hK K')) | (refine m_float ⟨undef, .inr ⟨?_, rfl⟩, fun K' hK => ?_⟩; (first | rfl | (go_simp; done)); (simp only [Act.put, List.setIfInBounds_toArray, List.set_cons_succ, List.set_cons_zero]; refine hK _ ?_; clear hK K')))
                      refine m_nil ?_
                      show wpList Try.prog _ _ (List.cons _ _) _ _
                      go_wp2
                      go_ret
                      exact ⟨by rw [HN.out]; rfl, (HV1.out.drew.below hB5).bel⟩
                    · have g5 : decide ((j : Int) + 1 < x.par) = false := decide_eq_false hup
                      have hup2 : x.par ≤ (j : Int) + 1 := by omega
                      by_cases hk2 : j = 0
                      · have g6 : ¬ (1 : Int) < (j : Int) + 1 := by omega
                        have g7 : decide ((1 : Int) < (j : Int) + 1) = false := decide_eq_false g6
                        have HG := Lib.hid (show vatB wide l (j + 1) = true by rw [VIFF.out]; exact decide_eq_true ⟨HBLK.out, .inr ⟨HNM.out, by omega, by omega, by omega, fun h => by omega⟩⟩)
                        clear hk2 hup
                        go_wp2_with fail
                        with_reducible refine (c1 _).mono ?_
                        rintro e w1 ⟨rfl, hB1⟩
                        have HV1 := Lib.hid (HV0.out.below hB1)
                        clear hB1
                        go_wp2
                        refine region_sch (PVS w wr.heap.size x) [(true, 0), (false, 1), (true, 2), (true, 3), (true, 4), (true, 5), (true, 6), (true, 7), (true, 8), (true, 9), (true, 10), (true, 11), (true, 12), (true, 13), (true, 14), (true, 15), (true, 16), (true, 17), (true, 18)] [19, 20, 21] (by kernel_rfl) (by kernel_rfl) (by rintro ⟨_, _, h⟩; cases h.1) (fun _ _ d _ _ h => by cases d <;> exact h) HV1.out.drew ?_
                        simp only [pickM, pickT, List.filterMap_cons, List.filterMap_nil, List.getElem?_cons_zero, List.getElem?_cons_succ, Option.map_some]
                        repeat (first | (refine m_float ⟨?_, .inl ⟨?_, .inl ?_⟩, fun K' hK => ?_⟩; rotate_left; (first | rfl | (go_simp; done)); (intro w' hS; (obtain ⟨p0, p1, p2⟩ := hS.own); go_simp; try rfl); (simp only [Act.put, List.setIfInBounds_toArray, List.set_cons_succ, List.set_cons_zero]; refine hK _ ?_; clear hK K')) | (refine m_float ⟨undef, .inr ⟨?_, rfl⟩, fun K' hK => ?_⟩; (first | rfl | (go_simp; done)); (simp only [Act.put, List.setIfInBounds_toArray, List.set_cons_succ, List.set_cons_zero]; refine hK _ ?_; clear hK K')))
                        refine m_loud ?_ (fun K' hK => ?_)
                        · rintro ⟨_, _, h, _⟩; cases h
                        go_wp2_with (go_at_call 70; (with_reducible refine (c2 _).mono ?_); rintro e w5 ⟨rfl, hB5⟩)
                        refine hK _ _ (HV1.out.drew.below hB5) ?_
                        clear hK K'
                        repeat (first | (refine m_float ⟨?_, .inl ⟨?_, .inl ?_⟩, fun K' hK => ?_⟩; rotate_left; (first | rfl | (go_simp; done)); (intro w' hS; (obtain ⟨p0, p1, p2⟩ := hS.own; obtain ⟨q0, q1, q2⟩ := CP.out _ hS); go_simp; try rfl); (simp only [Act.put, List.setIfInBounds_toArray, List.set_cons_succ, List.set_cons_zero]; refine hK _ ?_; clear hK K')) | (refine m_float ⟨undef, .inr ⟨?_, rfl⟩, fun K' hK => ?_⟩; (first | rfl | (go_simp; done)); (simp only [Act.put, List.setIfInBounds_toArray, List.set_cons_succ, List.set_cons_zero]; refine hK _ ?_; clear hK K')))
                        refine m_nil ?_
                        show wpList Try.prog _ _ (List.cons _ _) _ _
                        go_wp2
                        refine region_sch (PVS w wr.heap.size x) [(true, 0), (true, 1), (true, 2), (true, 3), (true, 4), (true, 5), (true, 6), (true, 7), (true, 8), (true, 9), (true, 10), (true, 11), (true, 12), (true, 13), (true, 14), (true, 15), (true, 16), (true, 17), (true, 18), (true, 19), (true, 20), (true, 21), (true, 22)] [23, 24, 25, 26] (by kernel_rfl) (by kernel_rfl) (by rintro ⟨_, _, h⟩; cases h.1) (fun _ _ d _ _ h => by cases d <;> exact h) (HV1.out.drew.below hB5).drew ?_
                        simp only [pickM, pickT, List.filterMap_cons, List.filterMap_nil, List.getElem?_cons_zero, List.getElem?_cons_succ, Option.map_some]
                        repeat (first | (refine m_float ⟨?_, .inl ⟨?_, .inl ?_⟩, fun K' hK => ?_⟩; rotate_left; (first | rfl | (go_simp; done)); (intro w' hS; (obtain ⟨p0, p1, p2⟩ := hS.own; obtain ⟨q0, q1, q2⟩ := CP.out _ hS); go_simp; try rfl); (simp only [Act.put, List.setIfInBounds_toArray, List.set_cons_succ, List.set_cons_zero]; refine hK _ ?_; clear hK K')) | (refine m_float ⟨undef, .inr ⟨?_, rfl⟩, fun K' hK => ?_⟩; (first | rfl | (go_simp; done)); (simp only [Act.put, List.setIfInBounds_toArray, List.set_cons_succ, List.set_cons_zero]; refine hK _ ?_; clear hK K')))
                        refine m_nil ?_
                        show wpList Try.prog _ _ (List.cons _ _) _ _
                        go_wp2
                        go_roundw
                        case rel => exact ⟨j + 1 + 1, by go_num, by omega, by rw [all_snoc, HALL.out, HG.out]; rfl, (HV1.out.drew.below hB5).drew.bel⟩
                        case measure => simp [intOf]; omega
                      · have g6 : (1 : Int) < (j : Int) + 1 := by omega
                        have g7 : decide ((1 : Int) < (j : Int) + 1) = true := decide_eq_true g6
                        clear hk2 hup
                        by_cases heq : x.par = p.par
                        · have g8 : (x.par == p.par) = true := beq_iff_eq.2 heq
                          have c3 := fun W => cmp_ok p.id x.id wide W HZP.out HZX.out
                          obtain ⟨v, hv⟩ : ∃ v, cmpM p.id.data.toList x.id.data.toList wide = v := ⟨_, rfl⟩
                          rw [hv] at c3
                          by_cases hneg : v < 0
                          · have hneg2 : ¬ 0 ≤ v := by omega
                            have HG := Lib.hid (show vatB wide l (j + 1) = true by rw [VIFF.out]; exact decide_eq_true ⟨HBLK.out, .inr ⟨HNM.out, by omega, by omega, by omega, fun h => by rw [hv] at h; exact hneg2 h.2.2⟩⟩)
                            have HEQ := Lib.hid heq
                            clear heq hv
                            go_wp2_with fail
                            with_reducible refine (c1 _).mono ?_
                            rintro e w1 ⟨rfl, hB1⟩
                            have HV1 := Lib.hid (HV0.out.below hB1)
                            clear hB1
                            go_wp2
                            refine region_sch (PVS w wr.heap.size x) [(true, 0), (false, 1), (true, 2), (true, 3), (true, 4), (true, 5), (true, 6), (true, 7), (true, 8), (true, 9), (true, 10), (true, 11), (true, 12), (true, 13), (true, 14), (true, 15), (true, 16), (true, 17), (true, 18)] [19, 20, 21] (by kernel_rfl) (by kernel_rfl) (by rintro ⟨_, _, h⟩; cases h.1) (fun _ _ d _ _ h => by cases d <;> exact h) HV1.out.drew ?_
                            simp only [pickM, pickT, List.filterMap_cons, List.filterMap_nil, List.getElem?_cons_zero, List.getElem?_cons_succ, Option.map_some]
                            repeat (first | (refine m_float ⟨?_, .inl ⟨?_, .inl ?_⟩, fun K' hK => ?_⟩; rotate_left; (first | rfl | (go_simp; done)); (intro w' hS; (obtain ⟨p0, p1, p2⟩ := hS.own); go_simp; try rfl); (simp only [Act.put, List.setIfInBounds_toArray, List.set_cons_succ, List.set_cons_zero]; refine hK _ ?_; clear hK K')) | (refine m_float ⟨undef, .inr ⟨?_, rfl⟩, fun K' hK => ?_⟩; (first | rfl | (go_simp; done)); (simp only [Act.put, List.setIfInBounds_toArray, List.set_cons_succ, List.set_cons_zero]; refine hK _ ?_; clear hK K')))
                            refine m_loud ?_ (fun K' hK => ?_)
                            · rintro ⟨_, _, h, _⟩; cases h
                            go_wp2_with (go_at_call 70; (with_reducible refine (c2 _).mono ?_); rintro e w5 ⟨rfl, hB5⟩)
                            refine hK _ _ (HV1.out.drew.below hB5) ?_
                            clear hK K'
                            repeat (first | (refine m_float ⟨?_, .inl ⟨?_, .inl ?_⟩, fun K' hK => ?_⟩; rotate_left; (first | rfl | (go_simp; done)); (intro w' hS; (obtain ⟨p0, p1, p2⟩ := hS.own; obtain ⟨q0, q1, q2⟩ := CP.out _ hS); go_simp; try rfl); (simp only [Act.put, List.setIfInBounds_toArray, List.set_cons_succ, List.set_cons_zero]; refine hK _ ?_; clear hK K')) | (refine m_float ⟨undef, .inr ⟨?_, rfl⟩, fun K' hK => ?_⟩; (first | rfl | (go_simp; done)); (simp only [Act.put, List.setIfInBounds_toArray, List.set_cons_succ, List.set_cons_zero]; refine hK _ ?_; clear hK K')))
                            refine m_nil ?_
                            show wpList Try.prog _ _ (List.cons _ _) _ _
                            go_wp2
                            refine region_sch (PVS w wr.heap.size x) [(true, 0), (true, 1), (true, 2), (true, 3), (true, 4), (true, 5), (true, 6), (true, 7), (true, 8), (true, 9), (true, 10), (true, 11), (true, 12), (true, 13), (true, 14), (true, 15), (true, 16), (true, 17), (true, 18), (true, 19), (true, 20), (true, 21), (true, 22)] [23, 24, 25, 26] (by kernel_rfl) (by kernel_rfl) (by rintro ⟨_, _, h⟩; cases h.1) (fun _ _ d _ _ h => by cases d <;> exact h) (HV1.out.drew.below hB5).drew ?_
                            simp only [pickM, pickT, List.filterMap_cons, List.filterMap_nil, List.getElem?_cons_zero, List.getElem?_cons_succ, Option.map_some]
                            repeat (first | (refine m_float ⟨?_, .inl ⟨?_, .inl ?_⟩, fun K' hK => ?_⟩; rotate_left; (first | rfl | (go_simp; done)); (intro w' hS; (obtain ⟨p0, p1, p2⟩ := hS.own; obtain ⟨q0, q1, q2⟩ := CP.out _ hS); go_simp; try rfl); (simp only [Act.put, List.setIfInBounds_toArray, List.set_cons_succ, List.set_cons_zero]; refine hK _ ?_; clear hK K')) | (refine m_float ⟨undef, .inr ⟨?_, rfl⟩, fun K' hK => ?_⟩; (first | rfl | (go_simp; done)); (simp only [Act.put, List.setIfInBounds_toArray, List.set_cons_succ, List.set_cons_zero]; refine hK _ ?_; clear hK K')))
                            refine m_nil ?_
                            show wpList Try.prog _ _ (List.cons _ _) _ _
                            go_wp2_with fail
                            with_reducible refine (c3 _).mono ?_
                            rintro e w6 ⟨rfl, hB6⟩
                            go_wp2
                            go_roundw
                            case rel => exact ⟨j + 1 + 1, by go_num, by omega, by rw [all_snoc, HALL.out, HG.out]; rfl, ((HV1.out.drew.below hB5).drew.below hB6).bel⟩
                            case measure => simp [intOf]; omega
                          · have hneg2 : 0 ≤ v := by omega
                            have hbad : ¬ VAt wide (j + 1) p x := fun h => by
                              rcases h.2 with h | h
                              · omega
                              · exact h.2.2.2.2 ⟨by omega, heq, by rw [hv]; exact hneg2⟩
                            have HN := Lib.hid (HBAD.out (by rw [VIFF.out]; exact decide_eq_false hbad))
                            clear hbad
                            have HEQ := Lib.hid heq
                            clear heq hv
                            go_wp2_with fail
                            with_reducible refine (c1 _).mono ?_
                            rintro e w1 ⟨rfl, hB1⟩
                            have HV1 := Lib.hid (HV0.out.below hB1)
                            clear hB1
                            go_wp2
                            refine region_sch (PVS w wr.heap.size x) [(true, 0), (false, 1), (true, 2), (true, 3), (true, 4), (true, 5), (true, 6), (true, 7), (true, 8), (true, 9), (true, 10), (true, 11), (true, 12), (true, 13), (true, 14), (true, 15), (true, 16), (true, 17), (true, 18)] [19, 20, 21] (by kernel_rfl) (by kernel_rfl) (by rintro ⟨_, _, h⟩; cases h.1) (fun _ _ d _ _ h => by cases d <;> exact h) HV1.out.drew ?_
                            simp only [pickM, pickT, List.filterMap_cons, List.filterMap_nil, List.getElem?_cons_zero, List.getElem?_cons_succ, Option.map_some]
                            repeat (first | (refine m_float ⟨?_, .inl ⟨?_, .inl ?_⟩, fun K' hK => ?_⟩; rotate_left; (first | rfl | (go_simp; done)); (intro w' hS; (obtain ⟨p0, p1, p2⟩ := hS.own); go_simp; try rfl); (simp only [Act.put, List.setIfInBounds_toArray, List.set_cons_succ, List.set_cons_zero]; refine hK _ ?_; clear hK K')) | (refine m_float ⟨undef, .inr ⟨?_, rfl⟩, fun K' hK => ?_⟩; (first | rfl | (go_simp; done)); (simp only [Act.put, List.setIfInBounds_toArray, List.set_cons_succ, List.set_cons_zero]; refine hK _ ?_; clear hK K')))
                            refine m_loud ?_ (fun K' hK => ?_)
                            · rintro ⟨_, _, h, _⟩; cases h
                            go_wp2_with (go_at_call 70; (with_reducible refine (c2 _).mono ?_); rintro e w5 ⟨rfl, hB5⟩)
                            refine hK _ _ (HV1.out.drew.below hB5) ?_
                            clear hK K'
                            repeat (first | (refine m_float ⟨?_, .inl ⟨?_, .inl ?_⟩, fun K' hK => ?_⟩; rotate_left; (first | rfl | (go_simp; done)); (intro w' hS; (obtain ⟨p0, p1, p2⟩ := hS.own; obtain ⟨q0, q1, q2⟩ := CP.out _ hS); go_simp; try rfl); (simp only [Act.put, List.setIfInBounds_toArray, List.set_cons_succ, List.set_cons_zero]; refine hK _ ?_; clear hK K')) | (refine m_float ⟨undef, .inr ⟨?_, rfl⟩, fun K' hK => ?_⟩; (first | rfl | (go_simp; done)); (simp only [Act.put, List.setIfInBounds_toArray, List.set_cons_succ, List.set_cons_zero]; refine hK _ ?_; clear hK K')))
                            refine m_nil ?_
                            show wpList Try.prog _ _ (List.cons _ _) _ _
                            go_wp2
                            refine region_sch (PVS w wr.heap.size x) [(true, 0), (true, 1), (true, 2), (true, 3), (true, 4), (true, 5), (true, 6), (true, 7), (true, 8), (true, 9), (true, 10), (true, 11), (true, 12), (true, 13), (true, 14), (true, 15), (true, 16), (true, 17), (true, 18), (true, 19), (true, 20), (true, 21), (true, 22)] [23, 24, 25, 26] (by kernel_rfl) (by kernel_rfl) (by rintro ⟨_, _, h⟩; cases h.1) (fun _ _ d _ _ h => by cases d <;> exact h) (HV1.out.drew.below hB5).drew ?_
                            simp only [pickM, pickT, List.filterMap_cons, List.filterMap_nil, List.getElem?_cons_zero, List.getElem?_cons_succ, Option.map_some]
                            repeat (first | (refine m_float ⟨?_, .inl ⟨?_, .inl ?_⟩, fun K' hK => ?_⟩; rotate_left; (first | rfl | (go_simp; done)); (intro w' hS; (obtain ⟨p0, p1, p2⟩ := hS.own; obtain ⟨q0, q1, q2⟩ := CP.out _ hS); go_simp; try rfl); (simp only [Act.put, List.setIfInBounds_toArray, List.set_cons_succ, List.set_cons_zero]; refine hK _ ?_; clear hK K')) | (refine m_float ⟨undef, .inr ⟨?_, rfl⟩, fun K' hK => ?_⟩; (first | rfl | (go_simp; done)); (simp only [Act.put, List.setIfInBounds_toArray, List.set_cons_succ, List.set_cons_zero]; refine hK _ ?_; clear hK K')))
                            refine m_nil ?_
                            show wpList Try.prog _ _ (List.cons _ _) _ _
                            go_wp2_with fail
                            with_reducible refine (c3 _).mono ?_
                            rintro e w6 ⟨rfl, hB6⟩
                            go_wp2
                            go_ret
                            exact ⟨by rw [HN.out]; rfl, ((HV1.out.drew.below hB5).drew.below hB6).bel⟩
                        · have g8 : (x.par == p.par) = false := beq_eq_false_iff_ne.2 heq
                          have HG := Lib.hid (show vatB wide l (j + 1) = true by rw [VIFF.out]; exact decide_eq_true ⟨HBLK.out, .inr ⟨HNM.out, by omega, by omega, by omega, fun h => heq h.2.1⟩⟩)
                          clear heq
                          go_wp2_with fail
                          with_reducible refine (c1 _).mono ?_
                          rintro e w1 ⟨rfl, hB1⟩
                          have HV1 := Lib.hid (HV0.out.below hB1)
                          clear hB1
                          go_wp2
                          refine region_sch (PVS w wr.heap.size x) [(true, 0), (false, 1), (true, 2), (true, 3), (true, 4), (true, 5), (true, 6), (true, 7), (true, 8), (true, 9), (true, 10), (true, 11), (true, 12), (true, 13), (true, 14), (true, 15), (true, 16), (true, 17), (true, 18)] [19, 20, 21] (by kernel_rfl) (by kernel_rfl) (by rintro ⟨_, _, h⟩; cases h.1) (fun _ _ d _ _ h => by cases d <;> exact h) HV1.out.drew ?_
                          simp only [pickM, pickT, List.filterMap_cons, List.filterMap_nil, List.getElem?_cons_zero, List.getElem?_cons_succ, Option.map_some]
                          repeat (first | (refine m_float ⟨?_, .inl ⟨?_, .inl ?_⟩, fun K' hK => ?_⟩; rotate_left; (first | rfl | (go_simp; done)); (intro w' hS; (obtain ⟨p0, p1, p2⟩ := hS.own); go_simp; try rfl); (simp only [Act.put, List.setIfInBounds_toArray, List.set_cons_succ, List.set_cons_zero]; refine hK _ ?_; clear hK K')) | (refine m_float ⟨undef, .inr ⟨?_, rfl⟩, fun K' hK => ?_⟩; (first | rfl | (go_simp; done)); (simp only [Act.put, List.setIfInBounds_toArray, List.set_cons_succ, List.set_cons_zero]; refine hK _ ?_; clear hK K')))
                          refine m_loud ?_ (fun K' hK => ?_)
                          · rintro ⟨_, _, h, _⟩; cases h
                          go_wp2_with (go_at_call 70; (with_reducible refine (c2 _).mono ?_); rintro e w5 ⟨rfl, hB5⟩)
                          refine hK _ _ (HV1.out.drew.below hB5) ?_
                          clear hK K'
                          repeat (first | (refine m_float ⟨?_, .inl ⟨?_, .inl ?_⟩, fun K' hK => ?_⟩; rotate_left; (first | rfl | (go_simp; done)); (intro w' hS; (obtain ⟨p0, p1, p2⟩ := hS.own; obtain ⟨q0, q1, q2⟩ := CP.out _ hS); go_simp; try rfl); (simp only [Act.put, List.setIfInBounds_toArray, List.set_cons_succ, List.set_cons_zero]; refine hK _ ?_; clear hK K')) | (refine m_float ⟨undef, .inr ⟨?_, rfl⟩, fun K' hK => ?_⟩; (first | rfl | (go_simp; done)); (simp only [Act.put, List.setIfInBounds_toArray, List.set_cons_succ, List.set_cons_zero]; refine hK _ ?_; clear hK K')))
                          refine m_nil ?_
                          show wpList Try.prog _ _ (List.cons _ _) _ _
                          go_wp2
                          refine region_sch (PVS w wr.heap.size x) [(true, 0), (true, 1), (true, 2), (true, 3), (true, 4), (true, 5), (true, 6), (true, 7), (true, 8), (true, 9), (true, 10), (true, 11), (true, 12), (true, 13), (true, 14), (true, 15), (true, 16), (true, 17), (true, 18), (true, 19), (true, 20), (true, 21), (true, 22)] [23, 24, 25, 26] (by kernel_rfl) (by kernel_rfl) (by rintro ⟨_, _, h⟩; cases h.1) (fun _ _ d _ _ h => by cases d <;> exact h) (HV1.out.drew.below hB5).drew ?_
                          simp only [pickM, pickT, List.filterMap_cons, List.filterMap_nil, List.getElem?_cons_zero, List.getElem?_cons_succ, Option.map_some]
                          repeat (first | (refine m_float ⟨?_, .inl ⟨?_, .inl ?_⟩, fun K' hK => ?_⟩; rotate_left; (first | rfl | (go_simp; done)); (intro w' hS; (obtain ⟨p0, p1, p2⟩ := hS.own; obtain ⟨q0, q1, q2⟩ := CP.out _ hS); go_simp; try rfl); (simp only [Act.put, List.setIfInBounds_toArray, List.set_cons_succ, List.set_cons_zero]; refine hK _ ?_; clear hK K')) | (refine m_float ⟨undef, .inr ⟨?_, rfl⟩, fun K' hK => ?_⟩; (first | rfl | (go_simp; done)); (simp only [Act.put, List.setIfInBounds_toArray, List.set_cons_succ, List.set_cons_zero]; refine hK _ ?_; clear hK K')))
                          refine m_nil ?_
                          show wpList Try.prog _ _ (List.cons _ _) _ _
                          go_wp2
                          go_roundw
                          case rel => exact ⟨j + 1 + 1, by go_num, by omega, by rw [all_snoc, HALL.out, HG.out]; rfl, (HV1.out.drew.below hB5).drew.bel⟩
                          case measure => simp [intOf]; omega
                · rw [decide_eq_false hnm] at c2
                  have hbad : ¬ VAt wide (j + 1) p x := fun h => by
                    rcases h.2 with h | h
                    · omega
                    · exact hnm h.1
                  have HN := Lib.hid (HBAD.out (by rw [VIFF.out]; exact decide_eq_false hbad))
                  clear hbad
                  clear hnm
                  go_wp2_with fail
                  with_reducible refine (c1 _).mono ?_
                  rintro e w1 ⟨rfl, hB1⟩
                  have HV1 := Lib.hid (HV0.out.below hB1)
                  clear hB1
                  go_wp2
                  refine region_sch (PVS w wr.heap.size x) [(true, 0), (false, 1), (true, 2), (true, 3), (true, 4), (true, 5), (true, 6), (true, 7), (true, 8), (true, 9), (true, 10), (true, 11), (true, 12), (true, 13), (true, 14), (true, 15), (true, 16), (true, 17), (true, 18)] [19, 20, 21] (by kernel_rfl) (by kernel_rfl) (by rintro ⟨_, _, h⟩; cases h.1) (fun _ _ d _ _ h => by cases d <;> exact h) HV1.out.drew ?_
                  simp only [pickM, pickT, List.filterMap_cons, List.filterMap_nil, List.getElem?_cons_zero, List.getElem?_cons_succ, Option.map_some]
                  repeat (first | (refine m_float ⟨?_, .inl ⟨?_, .inl ?_⟩, fun K' hK => ?_⟩; rotate_left; (first | rfl | (go_simp; done)); (intro w' hS; (obtain ⟨p0, p1, p2⟩ := hS.own); go_simp; try rfl); (simp only [Act.put, List.setIfInBounds_toArray, List.set_cons_succ, List.set_cons_zero]; refine hK _ ?_; clear hK K')) | (refine m_float ⟨undef, .inr ⟨?_, rfl⟩, fun K' hK => ?_⟩; (first | rfl | (go_simp; done)); (simp only [Act.put, List.setIfInBounds_toArray, List.set_cons_succ, List.set_cons_zero]; refine hK _ ?_; clear hK K')))
                  refine m_loud ?_ (fun K' hK => ?_)
                  · rintro ⟨_, _, h, _⟩; cases h
                  go_wp2_with (go_at_call 70; (with_reducible refine (c2 _).mono ?_); rintro e w5 ⟨rfl, hB5⟩)
                  refine hK _ _ (HV1.out.drew.below hB5) ?_
                  clear hK K'
                  repeat (first | (refine m_float ⟨?_, .inl ⟨?_, .inl ?_⟩, fun K' hK => ?_⟩; rotate_left; (first | rfl | (go_simp; done)); (intro w' hS; (obtain ⟨p0, p1, p2⟩ := hS.own; obtain ⟨q0, q1, q2⟩ := CP.out _ hS); go_simp; try rfl); (simp only [Act.put, List.setIfInBounds_toArray, List.set_cons_succ, List.set_cons_zero]; refine hK _ ?_; clear hK K')) | (refine m_float ⟨undef, .inr ⟨?_, rfl⟩, fun K' hK => ?_⟩; (first | rfl | (go_simp; done)); (simp only [Act.put, List.setIfInBounds_toArray, List.set_cons_succ, List.set_cons_zero]; refine hK _ ?_; clear hK K')))
                  refine m_nil ?_
                  show wpList Try.prog _ _ (List.cons _ _) _ _
                  go_wp2
                  go_ret
                  exact ⟨by rw [HN.out]; rfl, (HV1.out.drew.below hB5).bel⟩
            · rw [decide_eq_false hblk] at c1
              have HN := Lib.hid (HBAD.out (by rw [vatB, HX.out]; exact decide_eq_false fun h => hblk h.1))
              clear hblk
              go_wp2_with fail
              with_reducible refine (c1 _).mono ?_
              rintro e w1 ⟨rfl, hB1⟩
              have HV1 := Lib.hid (HV0.out.below hB1)
              clear hB1
              go_wp2
              go_ret
              exact ⟨by rw [HN.out]; rfl, HV1.out.bel⟩
          · obtain rfl : k = l.length := by omega
            go_wp2
            go_ret
            exact ⟨by rw [HVV.out, HALL.out]; rfl, HB.out⟩
      · rw [decide_eq_false hr] at c0
        have hv : pvB wide l = false := by unfold pvB; rw [decide_eq_false (fun h => hr (by rw [← HX0.out]; exact h.2.2))]; rfl
        rw [hv]
        clear hr hv
        go_enter Try.func31, Try.ntmps31
        go_wp2_with fail
        with_reducible refine (c0 _).mono ?_
        rintro e w0 ⟨rfl, hB0⟩
        go_wp2
        go_ret
        exact ⟨rfl, hB0⟩
end Go.Proofs.Ytnmlephjhcmbhaa
