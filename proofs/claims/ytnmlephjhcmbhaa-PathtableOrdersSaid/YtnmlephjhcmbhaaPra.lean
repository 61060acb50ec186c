/- The reference's Valid. -/
import Derived.Test.YtnmlephjhcmbhaaPpb
import Derived.Test.YtnmlephjhcmbhaaDlc
namespace Go.Proofs.Ytnmlephjhcmbhaa
set_option linter.unusedSimpArgs false
set_option linter.unusedVariables false
open Go Go.RowKit
set_option maxRecDepth 100000 in
set_option maxHeartbeats 400000 in
theorem rproot_ok (x : PE) (w : World) : Calls Try.prog 71 #[.agg (peA x)] w fun e w' => e = .returned (.bool (decide (RootP x))) ∧ Below w.heap.size w w' := by
  by_cases h0 : x.id.data.toList = [0]
  · have g0 : x.id.toList = [0] := by rw [Lib.toList_data]; exact h0
    by_cases h1 : x.par = 1
    · rw [decide_eq_true (show RootP x from ⟨h0, h1⟩)]
      clear h0
      go_enter Try.func71, Try.ntmps71
      go_wp2
      go_ret
      exact ⟨rfl, bald (Below.refl _ w) _⟩
    · rw [decide_eq_false (show ¬ RootP x from fun h => h1 h.2)]
      have g1 : (x.par == 1) = false := by simpa using h1
      clear h0 h1
      go_enter Try.func71, Try.ntmps71
      go_wp2
      go_ret
      exact ⟨rfl, bald (Below.refl _ w) _⟩
  · rw [decide_eq_false (show ¬ RootP x from fun h => h0 h.1)]
    have g0 : (x.id.toList == [0]) = false := by rw [Lib.toList_data]; exact beq_eq_false_iff_ne.2 h0
    clear h0
    go_enter Try.func71, Try.ntmps71
    go_wp2
    go_ret
    exact ⟨rfl, bald (Below.refl _ w) _⟩
set_option maxRecDepth 100000 in
set_option maxHeartbeats 400000 in
theorem rpblock_ok (n : Int) (w : World) : Calls Try.prog 72 #[cN n] w fun e w' => e = .returned (.bool (decide (BlockP n))) ∧ w = w' := by
  by_cases h0 : 0 ≤ n
  · by_cases h1 : n ≤ 4294967295
    · rw [decide_eq_true (show BlockP n from ⟨h0, by omega⟩)]
      go_enter Try.func72, Try.ntmps72
      go_wp2
      go_ret
      exact ⟨rfl, by trivial⟩
    · rw [decide_eq_false (show ¬ BlockP n from fun h => h1 (by have := h.2; omega))]
      go_enter Try.func72, Try.ntmps72
      go_wp2
      go_ret
      exact ⟨rfl, by trivial⟩
  · rw [decide_eq_false (show ¬ BlockP n from fun h => h0 h.1)]
    go_enter Try.func72, Try.ntmps72
    go_wp2
    go_ret
    exact ⟨rfl, by trivial⟩
set_option maxRecDepth 100000 in
set_option maxHeartbeats 400000 in
theorem rpnamed_ok (x : PE) (w : World) : Calls Try.prog 73 #[.string x.id] w fun e w' => e = .returned (.bool (decide (NamedP x))) ∧ w = w' := by
  by_cases h0 : x.id.size = 0
  · rw [decide_eq_false (show ¬ NamedP x from fun h => h.1 h0)]
    have g0 : ¬ (1 : Int) ≤ (x.id.size : Int) := by omega
    clear h0
    go_enter Try.func73, Try.ntmps73
    go_wp2
    go_ret
    exact ⟨rfl, by trivial⟩
  · have g0 : (1 : Int) ≤ (x.id.size : Int) := by omega
    by_cases h1 : (x.id.size : Int) ≤ 255
    · by_cases h2 : x.id.data.toList = [0]
      · rw [decide_eq_false (show ¬ NamedP x from fun h => h.2.2.1 h2)]
        have g2 : (x.id.toList == [0]) = true := by rw [Lib.toList_data]; exact beq_iff_eq.2 h2
        clear h0 h2
        go_enter Try.func73, Try.ntmps73
        go_wp2
        go_ret
        exact ⟨rfl, by trivial⟩
      · have g2 : (x.id.toList == [0]) = false := by rw [Lib.toList_data]; exact beq_eq_false_iff_ne.2 h2
        by_cases h3 : x.id.data.toList = [1]
        · rw [decide_eq_false (show ¬ NamedP x from fun h => h.2.2.2 h3)]
          have g3 : (x.id.toList == [1]) = true := by rw [Lib.toList_data]; exact beq_iff_eq.2 h3
          clear h0 h2 h3
          go_enter Try.func73, Try.ntmps73
          go_wp2
          go_ret
          exact ⟨rfl, by trivial⟩
        · rw [decide_eq_true (show NamedP x from ⟨h0, by omega, h2, h3⟩)]
          have g3 : (x.id.toList == [1]) = false := by rw [Lib.toList_data]; exact beq_eq_false_iff_ne.2 h3
          clear h0 h2 h3
          go_enter Try.func73, Try.ntmps73
          go_wp2
          go_ret
          exact ⟨rfl, by trivial⟩
    · rw [decide_eq_false (show ¬ NamedP x from fun h => h1 (by have := h.2.1; omega))]
      clear h0
      go_enter Try.func73, Try.ntmps73
      go_wp2
      go_ret
      exact ⟨rfl, by trivial⟩
theorem rcmp_ge (a b : List UInt8) (wide : Bool) : 0 ≤ rcmpM a b wide ↔ 0 ≤ cmpM a b wide := by
  have h := rcmp_sgn a b wide
  unfold sgn at h
  split at h <;> split at h <;> omega
theorem rcmp_gt (a b : List UInt8) (wide : Bool) : 0 < rcmpM a b wide ↔ 0 < cmpM a b wide := by
  have h := rcmp_sgn a b wide
  unfold sgn at h
  split at h <;> split at h <;> omega
theorem rcmp_eq (a b : List UInt8) (wide : Bool) : rcmpM a b wide = 0 ↔ cmpM a b wide = 0 := by
  have h1 := rcmp_ge a b wide
  have h2 := rcmp_gt a b wide
  omega
set_option maxRecDepth 100000 in
set_option maxHeartbeats 8000000 in
theorem rpvalid_ok (a : Option Addr) (c : Nat) (l : List PE) (wide : Bool) (w : World) (hrow : RowP w a l) (hsz : l.length ≤ 1024 → ∀ x ∈ l, x.id.size < 2 ^ 30) :
    Calls Try.prog 32 #[.slice a l.length c, .bool wide] w fun e w' => e = .returned (.bool (pvB wide l)) ∧ Below w.heap.size w w' := by
  by_cases h0 : l.length = 0
  · have hv : pvB wide l = false := by unfold pvB; rw [decide_eq_false (fun h => h.1 h0)]; rfl
    rw [hv]
    have g0 : (l.length : Int) < 1 := by omega
    clear h0 hv hrow hsz
    go_enter Try.func32, Try.ntmps32
    go_wp2
    go_ret
    exact ⟨rfl, Below.refl _ w⟩
  · have g0 : ¬ (l.length : Int) < 1 := by omega
    by_cases h1 : 1024 < l.length
    · have hv : pvB wide l = false := by unfold pvB; rw [decide_eq_false (fun h => by have h2 := h.2.1; omega)]; rfl
      rw [hv]
      have g1 : (1024 : Int) < (l.length : Int) := by omega
      clear h0 hv hrow hsz h1
      go_enter Try.func32, Try.ntmps32
      go_wp2
      go_ret
      exact ⟨rfl, Below.refl _ w⟩
    · have g1 : ¬ (1024 : Int) < (l.length : Int) := by omega
      have hpos : 0 < l.length := by omega
      have gp : (0 : Int) < (l.length : Int) := by omega
      have hsz2 := hsz (by omega)
      obtain ⟨b, off, rfl, hb, hc⟩ := hrow.addr hpos
      have hc0 := hc 0 hpos
      obtain ⟨x0, hx0⟩ : ∃ x, l.getD 0 peD = x := ⟨_, rfl⟩
      rw [hx0, Nat.zero_mul, Nat.add_zero] at hc0
      obtain ⟨q0, q1, q2⟩ := hc0
      have c0 := fun W => rproot_ok x0 W
      have HC := Lib.hid hc
      have HZ := Lib.hid hsz2
      have HBB := Lib.hid hb
      have HX0 := Lib.hid hx0
      have HL0 := Lib.hid h0
      have HL1 := Lib.hid h1
      clear hc hsz hsz2 hrow hx0 h0 h1 hb
      by_cases hr : RootP x0
      · rw [decide_eq_true hr] at c0
        have HR := Lib.hid hr
        clear hr
        have HVV : Hid (pvB wide l = (List.range l.length).all (vatB wide l)) := Lib.hid (by
          unfold pvB
          rw [decide_eq_true (show l.length ≠ 0 ∧ l.length ≤ 1024 ∧ RootP (l.getD 0 peD) from ⟨HL0.out, by have := HL1.out; omega, by rw [HX0.out]; exact HR.out⟩), Bool.true_and])
        go_enter Try.func32, Try.ntmps32
        go_wp2_with fail
        with_reducible refine (c0 _).mono ?_
        rintro e w0 ⟨rfl, hB0⟩
        have HB0 := Lib.hid hB0
        clear hB0 q0 q1 q2 c0
        go_wp2
        go_loopw [5] (fun i wr => ∃ k : Nat, i = cN k ∧ k ≤ l.length ∧ (List.range k).all (vatB wide l) = true ∧ Below w.heap.size w wr) (fun i _ => l.length - (intOf i).toNat)
        case atStart => exact ⟨0, rfl, Nat.zero_le _, rfl, HB0.out⟩
        case round =>
          obtain ⟨k, rfl, hk, hall, hB⟩ := hrel
          have HALL := Lib.hid hall
          have HB := Lib.hid hB
          clear hall
          by_cases hlt : (k : Int) < (l.length : Int)
          · have hkl : k < l.length := by omega
            obtain ⟨x, hx⟩ : ∃ x, l.getD k peD = x := ⟨_, rfl⟩
            have hmx : x ∈ l := by rw [← hx, List.getD_eq_getElem?_getD, List.getElem?_eq_getElem hkl, Option.getD_some]; exact List.getElem_mem hkl
            have hcx : ∀ W, Below w.heap.size w W → CellsP W b (off + k * 3) x := fun W hW => by
              have := (HC.out k hkl).below HBB.out hW
              rw [hx] at this
              exact this
            obtain ⟨q0, q1, q2⟩ := hcx _ hB
            have CX := Lib.hid hcx
            have c1 := fun W => rpblock_ok x.lba W
            have c2 := fun W => rpnamed_ok x W
            have HX := Lib.hid hx
            have BAD : vatB wide l k = false → pvB wide l = false := fun h => by rw [HVV.out]; exact all_bad hkl h
            have HBAD := Lib.hid BAD
            have HZX := Lib.hid (HZ.out x hmx)
            clear hx hcx hmx hB BAD
            by_cases hblk : BlockP x.lba
            · rw [decide_eq_true hblk] at c1
              have HBLK := Lib.hid hblk
              clear hblk
              by_cases hk0 : k = 0
              · subst hk0
                rw [Nat.zero_mul, Nat.add_zero] at q0 q1 q2
                have g2 : (((0 : Nat) : Int) == 0) = true := rfl
                go_wp2_with fail
                with_reducible refine (c1 _).mono ?_
                rintro e w1 ⟨rfl, rfl⟩
                go_wp2
                go_roundw
                case rel => exact ⟨1, rfl, by omega, by rw [all_snoc, HALL.out, vatB, HX.out, decide_eq_true (show VAt wide 0 _ x from ⟨HBLK.out, .inl rfl⟩)]; rfl, HB.out⟩
                case measure => simp [intOf]; omega
              · have g2 : ((k : Int) == 0) = false := by simp; omega
                obtain ⟨j, rfl⟩ : ∃ j, k = j + 1 := ⟨k - 1, by omega⟩
                have hjl : j < l.length := by omega
                obtain ⟨p, hp⟩ : ∃ p, l.getD j peD = p := ⟨_, rfl⟩
                have hcp : ∀ W, Below w.heap.size w W → CellsP W b (off + j * 3) p := fun W hW => by
                  have := (HC.out j hjl).below HBB.out hW
                  rw [hp] at this
                  exact this
                have hmp : p ∈ l := by rw [← hp, List.getD_eq_getElem?_getD, List.getElem?_eq_getElem hjl, Option.getD_some]; exact List.getElem_mem hjl
                have HZP := Lib.hid (HZ.out p hmp)
                have HP := Lib.hid hp
                have CP := Lib.hid hcp
                have hwp : IntKind.i64.wrap (j : Int) = (j : Int) := by rw [IntKind.wrap_i64]; omega
                have hj1 : (j : Int) < (l.length : Int) := by omega
                have VIFF : Hid (vatB wide l (j + 1) = decide (VAt wide (j + 1) p x)) := Lib.hid (by rw [vatB, Nat.add_sub_cancel, HX.out, HP.out])
                clear hp hcp hmp hk0
                by_cases hnm : NamedP x
                · rw [decide_eq_true hnm] at c2
                  have HNM := Lib.hid hnm
                  clear hnm
                  by_cases hlow : x.par < 1
                  · have g4 : decide (x.par < 1) = true := decide_eq_true hlow
                    have HN := Lib.hid (HBAD.out (by rw [VIFF.out]; exact decide_eq_false fun h => by rcases h.2 with h | h <;> omega))
                    go_wp2_with fail
                    with_reducible refine (c1 _).mono ?_
                    rintro e w1 ⟨rfl, rfl⟩
                    go_wp2
                    refine region_sch (fun W => Below w.heap.size w W) [(true, 0), (true, 1), (true, 2), (true, 3), (true, 4), (false, 5), (true, 6), (true, 7), (true, 8), (true, 9), (true, 10), (true, 11), (true, 12), (true, 13), (true, 14), (true, 15), (true, 16), (true, 17), (true, 18), (true, 19), (true, 20), (true, 21), (true, 22), (true, 23), (true, 24), (true, 25), (true, 26), (true, 27), (true, 28), (true, 29), (true, 30), (true, 31), (true, 32), (true, 33), (true, 34), (true, 35)] [36, 37] (by kernel_rfl) (by kernel_rfl) (by rintro ⟨_, _, h⟩; cases h.1) (fun _ _ d _ _ h => by cases d <;> exact h) HB.out.drew ?_
                    simp only [pickM, pickT, List.filterMap_cons, List.filterMap_nil, List.getElem?_cons_zero, List.getElem?_cons_succ, Option.map_some]
                    repeat (first | (refine m_float ⟨?_, .inl ⟨?_, .inl ?_⟩, fun K' hK => ?_⟩; rotate_left; (first | rfl | (go_simp; done)); (intro w' hS; (obtain ⟨q0, q1, q2⟩ := CX.out _ hS; obtain ⟨p0, p1, p2⟩ := CP.out _ hS; clear hS); go_simp; try rfl); (simp only [Act.put, List.setIfInBounds_toArray, List.set_cons_succ, List.set_cons_zero]; refine hK _ ?_; clear hK K')) | (refine m_float ⟨undef, .inr ⟨?_, rfl⟩, fun K' hK => ?_⟩; (first | rfl | (go_simp; done)); (simp only [Act.put, List.setIfInBounds_toArray, List.set_cons_succ, List.set_cons_zero]; refine hK _ ?_; clear hK K')))
                    refine m_loud ?_ (fun K' hK => ?_)
                    · rintro ⟨_, _, h, _⟩; cases h
                    go_wp2_with (go_at_call 73; (with_reducible refine (c2 _).mono ?_); rintro e w5 ⟨rfl, rfl⟩)
                    refine hK _ _ (HB.out.drew) ?_
                    clear hK K'
                    repeat (first | (refine m_float ⟨?_, .inl ⟨?_, .inl ?_⟩, fun K' hK => ?_⟩; rotate_left; (first | rfl | (go_simp; done)); (intro w' hS; (obtain ⟨q0, q1, q2⟩ := CX.out _ hS; obtain ⟨p0, p1, p2⟩ := CP.out _ hS; clear hS); go_simp; try rfl); (simp only [Act.put, List.setIfInBounds_toArray, List.set_cons_succ, List.set_cons_zero]; refine hK _ ?_; clear hK K')) | (refine m_float ⟨undef, .inr ⟨?_, rfl⟩, fun K' hK => ?_⟩; (first | rfl | (go_simp; done)); (simp only [Act.put, List.setIfInBounds_toArray, List.set_cons_succ, List.set_cons_zero]; refine hK _ ?_; clear hK K')))
                    refine m_nil ?_
                    show wpList Try.prog _ _ (List.cons _ _) _ _
                    go_wp2
                    go_ret
                    exact ⟨by rw [HN.out]; rfl, HB.out.drew⟩
                  · have g4 : decide (x.par < 1) = false := decide_eq_false hlow
                    by_cases hup : ((j : Int) + 1) < x.par
                    · have g5 : decide ((j : Int) + 1 < x.par) = true := decide_eq_true hup
                      have HN := Lib.hid (HBAD.out (by rw [VIFF.out]; exact decide_eq_false fun h => by rcases h.2 with h | h <;> omega))
                      go_wp2_with fail
                      with_reducible refine (c1 _).mono ?_
                      rintro e w1 ⟨rfl, rfl⟩
                      go_wp2
                      refine region_sch (fun W => Below w.heap.size w W) [(true, 0), (true, 1), (true, 2), (true, 3), (true, 4), (false, 5), (true, 6), (true, 7), (true, 8), (true, 9), (true, 10), (true, 11), (true, 12), (true, 13), (true, 14), (true, 15), (true, 16), (true, 17), (true, 18), (true, 19), (true, 20), (true, 21), (true, 22), (true, 23), (true, 24), (true, 25), (true, 26), (true, 27), (true, 28), (true, 29), (true, 30), (true, 31), (true, 32), (true, 33), (true, 34), (true, 35)] [36, 37] (by kernel_rfl) (by kernel_rfl) (by rintro ⟨_, _, h⟩; cases h.1) (fun _ _ d _ _ h => by cases d <;> exact h) HB.out.drew ?_
                      simp only [pickM, pickT, List.filterMap_cons, List.filterMap_nil, List.getElem?_cons_zero, List.getElem?_cons_succ, Option.map_some]
                      repeat (first | (refine m_float ⟨?_, .inl ⟨?_, .inl ?_⟩, fun K' hK => ?_⟩; rotate_left; (first | rfl | (go_simp; done)); (intro w' hS; (obtain ⟨q0, q1, q2⟩ := CX.out _ hS; obtain ⟨p0, p1, p2⟩ := CP.out _ hS; clear hS); go_simp; try rfl); (simp only [Act.put, List.setIfInBounds_toArray, List.set_cons_succ, List.set_cons_zero]; refine hK _ ?_; clear hK K')) | (refine m_float ⟨undef, .inr ⟨?_, rfl⟩, fun K' hK => ?_⟩; (first | rfl | (go_simp; done)); (simp only [Act.put, List.setIfInBounds_toArray, List.set_cons_succ, List.set_cons_zero]; refine hK _ ?_; clear hK K')))
                      refine m_loud ?_ (fun K' hK => ?_)
                      · rintro ⟨_, _, h, _⟩; cases h
                      go_wp2_with (go_at_call 73; (with_reducible refine (c2 _).mono ?_); rintro e w5 ⟨rfl, rfl⟩)
                      refine hK _ _ (HB.out.drew) ?_
                      clear hK K'
                      repeat (first | (refine m_float ⟨?_, .inl ⟨?_, .inl ?_⟩, fun K' hK => ?_⟩; rotate_left; (first | rfl | (go_simp; done)); (intro w' hS; (obtain ⟨q0, q1, q2⟩ := CX.out _ hS; obtain ⟨p0, p1, p2⟩ := CP.out _ hS; clear hS); go_simp; try rfl); (simp only [Act.put, List.setIfInBounds_toArray, List.set_cons_succ, List.set_cons_zero]; refine hK _ ?_; clear hK K')) | (refine m_float ⟨undef, .inr ⟨?_, rfl⟩, fun K' hK => ?_⟩; (first | rfl | (go_simp; done)); (simp only [Act.put, List.setIfInBounds_toArray, List.set_cons_succ, List.set_cons_zero]; refine hK _ ?_; clear hK K')))
                      refine m_nil ?_
                      show wpList Try.prog _ _ (List.cons _ _) _ _
                      go_wp2
                      go_ret
                      exact ⟨by rw [HN.out]; rfl, HB.out.drew⟩
                    · have g5 : decide ((j : Int) + 1 < x.par) = false := decide_eq_false hup
                      by_cases hmo : x.par < p.par
                      · have g5b : decide (x.par < p.par) = true := decide_eq_true hmo
                        have HN := Lib.hid (HBAD.out (by rw [VIFF.out]; exact decide_eq_false fun h => by rcases h.2 with h | h <;> omega))
                        go_wp2_with fail
                        with_reducible refine (c1 _).mono ?_
                        rintro e w1 ⟨rfl, rfl⟩
                        go_wp2
                        refine region_sch (fun W => Below w.heap.size w W) [(true, 0), (true, 1), (true, 2), (true, 3), (true, 4), (false, 5), (true, 6), (true, 7), (true, 8), (true, 9), (true, 10), (true, 11), (true, 12), (true, 13), (true, 14), (true, 15), (true, 16), (true, 17), (true, 18), (true, 19), (true, 20), (true, 21), (true, 22), (true, 23), (true, 24), (true, 25), (true, 26), (true, 27), (true, 28), (true, 29), (true, 30), (true, 31), (true, 32), (true, 33), (true, 34), (true, 35)] [36, 37] (by kernel_rfl) (by kernel_rfl) (by rintro ⟨_, _, h⟩; cases h.1) (fun _ _ d _ _ h => by cases d <;> exact h) HB.out.drew ?_
                        simp only [pickM, pickT, List.filterMap_cons, List.filterMap_nil, List.getElem?_cons_zero, List.getElem?_cons_succ, Option.map_some]
                        repeat (first | (refine m_float ⟨?_, .inl ⟨?_, .inl ?_⟩, fun K' hK => ?_⟩; rotate_left; (first | rfl | (go_simp; done)); (intro w' hS; (obtain ⟨q0, q1, q2⟩ := CX.out _ hS; obtain ⟨p0, p1, p2⟩ := CP.out _ hS; clear hS); go_simp; try rfl); (simp only [Act.put, List.setIfInBounds_toArray, List.set_cons_succ, List.set_cons_zero]; refine hK _ ?_; clear hK K')) | (refine m_float ⟨undef, .inr ⟨?_, rfl⟩, fun K' hK => ?_⟩; (first | rfl | (go_simp; done)); (simp only [Act.put, List.setIfInBounds_toArray, List.set_cons_succ, List.set_cons_zero]; refine hK _ ?_; clear hK K')))
                        refine m_loud ?_ (fun K' hK => ?_)
                        · rintro ⟨_, _, h, _⟩; cases h
                        go_wp2_with (go_at_call 73; (with_reducible refine (c2 _).mono ?_); rintro e w5 ⟨rfl, rfl⟩)
                        refine hK _ _ (HB.out.drew) ?_
                        clear hK K'
                        repeat (first | (refine m_float ⟨?_, .inl ⟨?_, .inl ?_⟩, fun K' hK => ?_⟩; rotate_left; (first | rfl | (go_simp; done)); (intro w' hS; (obtain ⟨q0, q1, q2⟩ := CX.out _ hS; obtain ⟨p0, p1, p2⟩ := CP.out _ hS; clear hS); go_simp; try rfl); (simp only [Act.put, List.setIfInBounds_toArray, List.set_cons_succ, List.set_cons_zero]; refine hK _ ?_; clear hK K')) | (refine m_float ⟨undef, .inr ⟨?_, rfl⟩, fun K' hK => ?_⟩; (first | rfl | (go_simp; done)); (simp only [Act.put, List.setIfInBounds_toArray, List.set_cons_succ, List.set_cons_zero]; refine hK _ ?_; clear hK K')))
                        refine m_nil ?_
                        show wpList Try.prog _ _ (List.cons _ _) _ _
                        go_wp2
                        go_ret
                        exact ⟨by rw [HN.out]; rfl, HB.out.drew⟩
                      · have g5b : decide (x.par < p.par) = false := decide_eq_false hmo
                        by_cases hk2 : j = 0
                        · have g6 : ¬ (1 : Int) < (j : Int) + 1 := by omega
                          have g7 : decide ((1 : Int) < (j : Int) + 1) = false := decide_eq_false g6
                          have HG := Lib.hid (show vatB wide l (j + 1) = true by rw [VIFF.out]; exact decide_eq_true ⟨HBLK.out, .inr ⟨HNM.out, by omega, by omega, by omega, fun h => by omega⟩⟩)
                          clear hk2
                          go_wp2_with fail
                          with_reducible refine (c1 _).mono ?_
                          rintro e w1 ⟨rfl, rfl⟩
                          go_wp2
                          refine region_sch (fun W => Below w.heap.size w W) [(true, 0), (true, 1), (true, 2), (true, 3), (true, 4), (false, 5), (true, 6), (true, 7), (true, 8), (true, 9), (true, 10), (true, 11), (true, 12), (true, 13), (true, 14), (true, 15), (true, 16), (true, 17), (true, 18), (true, 19), (true, 20), (true, 21), (true, 22), (true, 23), (true, 24), (true, 25), (true, 26), (true, 27), (true, 28), (true, 29), (true, 30), (true, 31), (true, 32), (true, 33), (true, 34), (true, 35)] [36, 37] (by kernel_rfl) (by kernel_rfl) (by rintro ⟨_, _, h⟩; cases h.1) (fun _ _ d _ _ h => by cases d <;> exact h) HB.out.drew ?_
                          simp only [pickM, pickT, List.filterMap_cons, List.filterMap_nil, List.getElem?_cons_zero, List.getElem?_cons_succ, Option.map_some]
                          repeat (first | (refine m_float ⟨?_, .inl ⟨?_, .inl ?_⟩, fun K' hK => ?_⟩; rotate_left; (first | rfl | (go_simp; done)); (intro w' hS; (obtain ⟨q0, q1, q2⟩ := CX.out _ hS; obtain ⟨p0, p1, p2⟩ := CP.out _ hS; clear hS); go_simp; try rfl); (simp only [Act.put, List.setIfInBounds_toArray, List.set_cons_succ, List.set_cons_zero]; refine hK _ ?_; clear hK K')) | (refine m_float ⟨undef, .inr ⟨?_, rfl⟩, fun K' hK => ?_⟩; (first | rfl | (go_simp; done)); (simp only [Act.put, List.setIfInBounds_toArray, List.set_cons_succ, List.set_cons_zero]; refine hK _ ?_; clear hK K')))
                          refine m_loud ?_ (fun K' hK => ?_)
                          · rintro ⟨_, _, h, _⟩; cases h
                          go_wp2_with (go_at_call 73; (with_reducible refine (c2 _).mono ?_); rintro e w5 ⟨rfl, rfl⟩)
                          refine hK _ _ (HB.out.drew) ?_
                          clear hK K'
                          repeat (first | (refine m_float ⟨?_, .inl ⟨?_, .inl ?_⟩, fun K' hK => ?_⟩; rotate_left; (first | rfl | (go_simp; done)); (intro w' hS; (obtain ⟨q0, q1, q2⟩ := CX.out _ hS; obtain ⟨p0, p1, p2⟩ := CP.out _ hS; clear hS); go_simp; try rfl); (simp only [Act.put, List.setIfInBounds_toArray, List.set_cons_succ, List.set_cons_zero]; refine hK _ ?_; clear hK K')) | (refine m_float ⟨undef, .inr ⟨?_, rfl⟩, fun K' hK => ?_⟩; (first | rfl | (go_simp; done)); (simp only [Act.put, List.setIfInBounds_toArray, List.set_cons_succ, List.set_cons_zero]; refine hK _ ?_; clear hK K')))
                          refine m_nil ?_
                          show wpList Try.prog _ _ (List.cons _ _) _ _
                          go_wp2
                          refine region_sch (fun W => Below w.heap.size w W) [(true, 0), (true, 1), (true, 2), (true, 3), (true, 4), (true, 5), (true, 6), (true, 7), (true, 8), (true, 9), (true, 10), (true, 11), (true, 12), (true, 13), (true, 14), (true, 15), (true, 16), (true, 17), (true, 18), (true, 19), (true, 20), (true, 21), (true, 22), (true, 23), (true, 24), (true, 25), (true, 26), (true, 27), (true, 28)] [29, 30, 31] (by kernel_rfl) (by kernel_rfl) (by rintro ⟨_, _, h⟩; cases h.1) (fun _ _ d _ _ h => by cases d <;> exact h) HB.out.drew.drew ?_
                          simp only [pickM, pickT, List.filterMap_cons, List.filterMap_nil, List.getElem?_cons_zero, List.getElem?_cons_succ, Option.map_some]
                          repeat (first | (refine m_float ⟨?_, .inl ⟨?_, .inl ?_⟩, fun K' hK => ?_⟩; rotate_left; (first | rfl | (go_simp; done)); (intro w' hS; (obtain ⟨q0, q1, q2⟩ := CX.out _ hS; obtain ⟨p0, p1, p2⟩ := CP.out _ hS; clear hS); go_simp; try rfl); (simp only [Act.put, List.setIfInBounds_toArray, List.set_cons_succ, List.set_cons_zero]; refine hK _ ?_; clear hK K')) | (refine m_float ⟨undef, .inr ⟨?_, rfl⟩, fun K' hK => ?_⟩; (first | rfl | (go_simp; done)); (simp only [Act.put, List.setIfInBounds_toArray, List.set_cons_succ, List.set_cons_zero]; refine hK _ ?_; clear hK K')))
                          refine m_nil ?_
                          show wpList Try.prog _ _ (List.cons _ _) _ _
                          go_wp2
                          go_roundw
                          case rel => exact ⟨j + 1 + 1, by go_num, by omega, by rw [all_snoc, HALL.out, HG.out]; rfl, HB.out.drew.drew⟩
                          case measure => simp [intOf]; omega
                        · have g6 : (1 : Int) < (j : Int) + 1 := by omega
                          have g7 : decide ((1 : Int) < (j : Int) + 1) = true := decide_eq_true g6
                          clear hk2
                          by_cases heq : x.par = p.par
                          · have g8 : (x.par == p.par) = true := beq_iff_eq.2 heq
                            have c3 := fun W => rcmp_ok p.id x.id wide W HZP.out HZX.out
                            have hge := rcmp_ge p.id.data.toList x.id.data.toList wide
                            obtain ⟨v, hv⟩ : ∃ v, rcmpM p.id.data.toList x.id.data.toList wide = v := ⟨_, rfl⟩
                            rw [hv] at c3 hge
                            by_cases hneg : 0 ≤ v
                            · have hbad : ¬ VAt wide (j + 1) p x := fun h => by
                                rcases h.2 with h | h
                                · omega
                                · exact h.2.2.2.2 ⟨by omega, heq, hge.1 hneg⟩
                              have HN := Lib.hid (HBAD.out (by rw [VIFF.out]; exact decide_eq_false hbad))
                              clear hbad
                              have HEQ := Lib.hid heq
                              clear heq hv hge
                              go_wp2_with fail
                              with_reducible refine (c1 _).mono ?_
                              rintro e w1 ⟨rfl, rfl⟩
                              go_wp2
                              refine region_sch (fun W => Below w.heap.size w W) [(true, 0), (true, 1), (true, 2), (true, 3), (true, 4), (false, 5), (true, 6), (true, 7), (true, 8), (true, 9), (true, 10), (true, 11), (true, 12), (true, 13), (true, 14), (true, 15), (true, 16), (true, 17), (true, 18), (true, 19), (true, 20), (true, 21), (true, 22), (true, 23), (true, 24), (true, 25), (true, 26), (true, 27), (true, 28), (true, 29), (true, 30), (true, 31), (true, 32), (true, 33), (true, 34), (true, 35)] [36, 37] (by kernel_rfl) (by kernel_rfl) (by rintro ⟨_, _, h⟩; cases h.1) (fun _ _ d _ _ h => by cases d <;> exact h) HB.out.drew ?_
                              simp only [pickM, pickT, List.filterMap_cons, List.filterMap_nil, List.getElem?_cons_zero, List.getElem?_cons_succ, Option.map_some]
                              repeat (first | (refine m_float ⟨?_, .inl ⟨?_, .inl ?_⟩, fun K' hK => ?_⟩; rotate_left; (first | rfl | (go_simp; done)); (intro w' hS; (obtain ⟨q0, q1, q2⟩ := CX.out _ hS; obtain ⟨p0, p1, p2⟩ := CP.out _ hS; clear hS); go_simp; try rfl); (simp only [Act.put, List.setIfInBounds_toArray, List.set_cons_succ, List.set_cons_zero]; refine hK _ ?_; clear hK K')) | (refine m_float ⟨undef, .inr ⟨?_, rfl⟩, fun K' hK => ?_⟩; (first | rfl | (go_simp; done)); (simp only [Act.put, List.setIfInBounds_toArray, List.set_cons_succ, List.set_cons_zero]; refine hK _ ?_; clear hK K')))
                              refine m_loud ?_ (fun K' hK => ?_)
                              · rintro ⟨_, _, h, _⟩; cases h
                              go_wp2_with (go_at_call 73; (with_reducible refine (c2 _).mono ?_); rintro e w5 ⟨rfl, rfl⟩)
                              refine hK _ _ (HB.out.drew) ?_
                              clear hK K'
                              repeat (first | (refine m_float ⟨?_, .inl ⟨?_, .inl ?_⟩, fun K' hK => ?_⟩; rotate_left; (first | rfl | (go_simp; done)); (intro w' hS; (obtain ⟨q0, q1, q2⟩ := CX.out _ hS; obtain ⟨p0, p1, p2⟩ := CP.out _ hS; clear hS); go_simp; try rfl); (simp only [Act.put, List.setIfInBounds_toArray, List.set_cons_succ, List.set_cons_zero]; refine hK _ ?_; clear hK K')) | (refine m_float ⟨undef, .inr ⟨?_, rfl⟩, fun K' hK => ?_⟩; (first | rfl | (go_simp; done)); (simp only [Act.put, List.setIfInBounds_toArray, List.set_cons_succ, List.set_cons_zero]; refine hK _ ?_; clear hK K')))
                              refine m_nil ?_
                              show wpList Try.prog _ _ (List.cons _ _) _ _
                              go_wp2
                              refine region_sch (fun W => Below w.heap.size w W) [(true, 0), (true, 1), (true, 2), (true, 3), (true, 4), (true, 5), (true, 6), (true, 7), (true, 8), (true, 9), (true, 10), (true, 11), (true, 12), (true, 13), (true, 14), (true, 15), (true, 16), (true, 17), (true, 18), (true, 19), (true, 20), (true, 21), (true, 22), (true, 23), (true, 24), (true, 25), (true, 26), (true, 27), (true, 28)] [29, 30, 31] (by kernel_rfl) (by kernel_rfl) (by rintro ⟨_, _, h⟩; cases h.1) (fun _ _ d _ _ h => by cases d <;> exact h) HB.out.drew.drew ?_
                              simp only [pickM, pickT, List.filterMap_cons, List.filterMap_nil, List.getElem?_cons_zero, List.getElem?_cons_succ, Option.map_some]
                              repeat (first | (refine m_float ⟨?_, .inl ⟨?_, .inl ?_⟩, fun K' hK => ?_⟩; rotate_left; (first | rfl | (go_simp; done)); (intro w' hS; (obtain ⟨q0, q1, q2⟩ := CX.out _ hS; obtain ⟨p0, p1, p2⟩ := CP.out _ hS; clear hS); go_simp; try rfl); (simp only [Act.put, List.setIfInBounds_toArray, List.set_cons_succ, List.set_cons_zero]; refine hK _ ?_; clear hK K')) | (refine m_float ⟨undef, .inr ⟨?_, rfl⟩, fun K' hK => ?_⟩; (first | rfl | (go_simp; done)); (simp only [Act.put, List.setIfInBounds_toArray, List.set_cons_succ, List.set_cons_zero]; refine hK _ ?_; clear hK K')))
                              refine m_nil ?_
                              show wpList Try.prog _ _ (List.cons _ _) _ _
                              go_wp2_with fail
                              with_reducible refine (c3 _).mono ?_
                              rintro e w6 ⟨rfl, hB6⟩
                              go_wp2
                              go_ret
                              exact ⟨by rw [HN.out]; rfl, bthen HB.out.drew.drew hB6⟩
                            · have HG := Lib.hid (show vatB wide l (j + 1) = true by rw [VIFF.out]; exact decide_eq_true ⟨HBLK.out, .inr ⟨HNM.out, by omega, by omega, by omega, fun h => hneg (hge.2 h.2.2)⟩⟩)
                              have HEQ := Lib.hid heq
                              clear heq hv hge
                              go_wp2_with fail
                              with_reducible refine (c1 _).mono ?_
                              rintro e w1 ⟨rfl, rfl⟩
                              go_wp2
                              refine region_sch (fun W => Below w.heap.size w W) [(true, 0), (true, 1), (true, 2), (true, 3), (true, 4), (false, 5), (true, 6), (true, 7), (true, 8), (true, 9), (true, 10), (true, 11), (true, 12), (true, 13), (true, 14), (true, 15), (true, 16), (true, 17), (true, 18), (true, 19), (true, 20), (true, 21), (true, 22), (true, 23), (true, 24), (true, 25), (true, 26), (true, 27), (true, 28), (true, 29), (true, 30), (true, 31), (true, 32), (true, 33), (true, 34), (true, 35)] [36, 37] (by kernel_rfl) (by kernel_rfl) (by rintro ⟨_, _, h⟩; cases h.1) (fun _ _ d _ _ h => by cases d <;> exact h) HB.out.drew ?_
                              simp only [pickM, pickT, List.filterMap_cons, List.filterMap_nil, List.getElem?_cons_zero, List.getElem?_cons_succ, Option.map_some]
                              repeat (first | (refine m_float ⟨?_, .inl ⟨?_, .inl ?_⟩, fun K' hK => ?_⟩; rotate_left; (first | rfl | (go_simp; done)); (intro w' hS; (obtain ⟨q0, q1, q2⟩ := CX.out _ hS; obtain ⟨p0, p1, p2⟩ := CP.out _ hS; clear hS); go_simp; try rfl); (simp only [Act.put, List.setIfInBounds_toArray, List.set_cons_succ, List.set_cons_zero]; refine hK _ ?_; clear hK K')) | (refine m_float ⟨undef, .inr ⟨?_, rfl⟩, fun K' hK => ?_⟩; (first | rfl | (go_simp; done)); (simp only [Act.put, List.setIfInBounds_toArray, List.set_cons_succ, List.set_cons_zero]; refine hK _ ?_; clear hK K')))
                              refine m_loud ?_ (fun K' hK => ?_)
                              · rintro ⟨_, _, h, _⟩; cases h
                              go_wp2_with (go_at_call 73; (with_reducible refine (c2 _).mono ?_); rintro e w5 ⟨rfl, rfl⟩)
                              refine hK _ _ (HB.out.drew) ?_
                              clear hK K'
                              repeat (first | (refine m_float ⟨?_, .inl ⟨?_, .inl ?_⟩, fun K' hK => ?_⟩; rotate_left; (first | rfl | (go_simp; done)); (intro w' hS; (obtain ⟨q0, q1, q2⟩ := CX.out _ hS; obtain ⟨p0, p1, p2⟩ := CP.out _ hS; clear hS); go_simp; try rfl); (simp only [Act.put, List.setIfInBounds_toArray, List.set_cons_succ, List.set_cons_zero]; refine hK _ ?_; clear hK K')) | (refine m_float ⟨undef, .inr ⟨?_, rfl⟩, fun K' hK => ?_⟩; (first | rfl | (go_simp; done)); (simp only [Act.put, List.setIfInBounds_toArray, List.set_cons_succ, List.set_cons_zero]; refine hK _ ?_; clear hK K')))
                              refine m_nil ?_
                              show wpList Try.prog _ _ (List.cons _ _) _ _
                              go_wp2
                              refine region_sch (fun W => Below w.heap.size w W) [(true, 0), (true, 1), (true, 2), (true, 3), (true, 4), (true, 5), (true, 6), (true, 7), (true, 8), (true, 9), (true, 10), (true, 11), (true, 12), (true, 13), (true, 14), (true, 15), (true, 16), (true, 17), (true, 18), (true, 19), (true, 20), (true, 21), (true, 22), (true, 23), (true, 24), (true, 25), (true, 26), (true, 27), (true, 28)] [29, 30, 31] (by kernel_rfl) (by kernel_rfl) (by rintro ⟨_, _, h⟩; cases h.1) (fun _ _ d _ _ h => by cases d <;> exact h) HB.out.drew.drew ?_
                              simp only [pickM, pickT, List.filterMap_cons, List.filterMap_nil, List.getElem?_cons_zero, List.getElem?_cons_succ, Option.map_some]
                              repeat (first | (refine m_float ⟨?_, .inl ⟨?_, .inl ?_⟩, fun K' hK => ?_⟩; rotate_left; (first | rfl | (go_simp; done)); (intro w' hS; (obtain ⟨q0, q1, q2⟩ := CX.out _ hS; obtain ⟨p0, p1, p2⟩ := CP.out _ hS; clear hS); go_simp; try rfl); (simp only [Act.put, List.setIfInBounds_toArray, List.set_cons_succ, List.set_cons_zero]; refine hK _ ?_; clear hK K')) | (refine m_float ⟨undef, .inr ⟨?_, rfl⟩, fun K' hK => ?_⟩; (first | rfl | (go_simp; done)); (simp only [Act.put, List.setIfInBounds_toArray, List.set_cons_succ, List.set_cons_zero]; refine hK _ ?_; clear hK K')))
                              refine m_nil ?_
                              show wpList Try.prog _ _ (List.cons _ _) _ _
                              go_wp2_with fail
                              with_reducible refine (c3 _).mono ?_
                              rintro e w6 ⟨rfl, hB6⟩
                              have HB6 := Lib.hid (bthen HB.out.drew.drew hB6)
                              clear hB6
                              go_wp2
                              go_roundw
                              case rel => exact ⟨j + 1 + 1, by go_num, by omega, by rw [all_snoc, HALL.out, HG.out]; rfl, HB6.out⟩
                              case measure => simp [intOf]; omega
                          · have g8 : (x.par == p.par) = false := beq_eq_false_iff_ne.2 heq
                            have HG := Lib.hid (show vatB wide l (j + 1) = true by rw [VIFF.out]; exact decide_eq_true ⟨HBLK.out, .inr ⟨HNM.out, by omega, by omega, by omega, fun h => heq h.2.1⟩⟩)
                            clear heq
                            go_wp2_with fail
                            with_reducible refine (c1 _).mono ?_
                            rintro e w1 ⟨rfl, rfl⟩
                            go_wp2
                            refine region_sch (fun W => Below w.heap.size w W) [(true, 0), (true, 1), (true, 2), (true, 3), (true, 4), (false, 5), (true, 6), (true, 7), (true, 8), (true, 9), (true, 10), (true, 11), (true, 12), (true, 13), (true, 14), (true, 15), (true, 16), (true, 17), (true, 18), (true, 19), (true, 20), (true, 21), (true, 22), (true, 23), (true, 24), (true, 25), (true, 26), (true, 27), (true, 28), (true, 29), (true, 30), (true, 31), (true, 32), (true, 33), (true, 34), (true, 35)] [36, 37] (by kernel_rfl) (by kernel_rfl) (by rintro ⟨_, _, h⟩; cases h.1) (fun _ _ d _ _ h => by cases d <;> exact h) HB.out.drew ?_
                            simp only [pickM, pickT, List.filterMap_cons, List.filterMap_nil, List.getElem?_cons_zero, List.getElem?_cons_succ, Option.map_some]
                            repeat (first | (refine m_float ⟨?_, .inl ⟨?_, .inl ?_⟩, fun K' hK => ?_⟩; rotate_left; (first | rfl | (go_simp; done)); (intro w' hS; (obtain ⟨q0, q1, q2⟩ := CX.out _ hS; obtain ⟨p0, p1, p2⟩ := CP.out _ hS; clear hS); go_simp; try rfl); (simp only [Act.put, List.setIfInBounds_toArray, List.set_cons_succ, List.set_cons_zero]; refine hK _ ?_; clear hK K')) | (refine m_float ⟨undef, .inr ⟨?_, rfl⟩, fun K' hK => ?_⟩; (first | rfl | (go_simp; done)); (simp only [Act.put, List.setIfInBounds_toArray, List.set_cons_succ, List.set_cons_zero]; refine hK _ ?_; clear hK K')))
                            refine m_loud ?_ (fun K' hK => ?_)
                            · rintro ⟨_, _, h, _⟩; cases h
                            go_wp2_with (go_at_call 73; (with_reducible refine (c2 _).mono ?_); rintro e w5 ⟨rfl, rfl⟩)
                            refine hK _ _ (HB.out.drew) ?_
                            clear hK K'
                            repeat (first | (refine m_float ⟨?_, .inl ⟨?_, .inl ?_⟩, fun K' hK => ?_⟩; rotate_left; (first | rfl | (go_simp; done)); (intro w' hS; (obtain ⟨q0, q1, q2⟩ := CX.out _ hS; obtain ⟨p0, p1, p2⟩ := CP.out _ hS; clear hS); go_simp; try rfl); (simp only [Act.put, List.setIfInBounds_toArray, List.set_cons_succ, List.set_cons_zero]; refine hK _ ?_; clear hK K')) | (refine m_float ⟨undef, .inr ⟨?_, rfl⟩, fun K' hK => ?_⟩; (first | rfl | (go_simp; done)); (simp only [Act.put, List.setIfInBounds_toArray, List.set_cons_succ, List.set_cons_zero]; refine hK _ ?_; clear hK K')))
                            refine m_nil ?_
                            show wpList Try.prog _ _ (List.cons _ _) _ _
                            go_wp2
                            refine region_sch (fun W => Below w.heap.size w W) [(true, 0), (true, 1), (true, 2), (true, 3), (true, 4), (true, 5), (true, 6), (true, 7), (true, 8), (true, 9), (true, 10), (true, 11), (true, 12), (true, 13), (true, 14), (true, 15), (true, 16), (true, 17), (true, 18), (true, 19), (true, 20), (true, 21), (true, 22), (true, 23), (true, 24), (true, 25), (true, 26), (true, 27), (true, 28)] [29, 30, 31] (by kernel_rfl) (by kernel_rfl) (by rintro ⟨_, _, h⟩; cases h.1) (fun _ _ d _ _ h => by cases d <;> exact h) HB.out.drew.drew ?_
                            simp only [pickM, pickT, List.filterMap_cons, List.filterMap_nil, List.getElem?_cons_zero, List.getElem?_cons_succ, Option.map_some]
                            repeat (first | (refine m_float ⟨?_, .inl ⟨?_, .inl ?_⟩, fun K' hK => ?_⟩; rotate_left; (first | rfl | (go_simp; done)); (intro w' hS; (obtain ⟨q0, q1, q2⟩ := CX.out _ hS; obtain ⟨p0, p1, p2⟩ := CP.out _ hS; clear hS); go_simp; try rfl); (simp only [Act.put, List.setIfInBounds_toArray, List.set_cons_succ, List.set_cons_zero]; refine hK _ ?_; clear hK K')) | (refine m_float ⟨undef, .inr ⟨?_, rfl⟩, fun K' hK => ?_⟩; (first | rfl | (go_simp; done)); (simp only [Act.put, List.setIfInBounds_toArray, List.set_cons_succ, List.set_cons_zero]; refine hK _ ?_; clear hK K')))
                            refine m_nil ?_
                            show wpList Try.prog _ _ (List.cons _ _) _ _
                            go_wp2
                            go_roundw
                            case rel => exact ⟨j + 1 + 1, by go_num, by omega, by rw [all_snoc, HALL.out, HG.out]; rfl, HB.out.drew.drew⟩
                            case measure => simp [intOf]; omega
                · rw [decide_eq_false hnm] at c2
                  have hbad : ¬ VAt wide (j + 1) p x := fun h => by
                    rcases h.2 with h | h
                    · omega
                    · exact hnm h.1
                  have HN := Lib.hid (HBAD.out (by rw [VIFF.out]; exact decide_eq_false hbad))
                  clear hbad
                  clear hnm
                  go_wp2_with fail
                  with_reducible refine (c1 _).mono ?_
                  rintro e w1 ⟨rfl, rfl⟩
                  go_wp2
                  refine region_sch (fun W => Below w.heap.size w W) [(true, 0), (true, 1), (true, 2), (true, 3), (true, 4), (false, 5), (true, 6), (true, 7), (true, 8), (true, 9), (true, 10), (true, 11), (true, 12), (true, 13), (true, 14), (true, 15), (true, 16), (true, 17), (true, 18), (true, 19), (true, 20), (true, 21), (true, 22), (true, 23), (true, 24), (true, 25), (true, 26), (true, 27), (true, 28), (true, 29), (true, 30), (true, 31), (true, 32), (true, 33), (true, 34), (true, 35)] [36, 37] (by kernel_rfl) (by kernel_rfl) (by rintro ⟨_, _, h⟩; cases h.1) (fun _ _ d _ _ h => by cases d <;> exact h) HB.out.drew ?_
                  simp only [pickM, pickT, List.filterMap_cons, List.filterMap_nil, List.getElem?_cons_zero, List.getElem?_cons_succ, Option.map_some]
                  repeat (first | (refine m_float ⟨?_, .inl ⟨?_, .inl ?_⟩, fun K' hK => ?_⟩; rotate_left; (first | rfl | (go_simp; done)); (intro w' hS; (obtain ⟨q0, q1, q2⟩ := CX.out _ hS; obtain ⟨p0, p1, p2⟩ := CP.out _ hS; clear hS); go_simp; try rfl); (simp only [Act.put, List.setIfInBounds_toArray, List.set_cons_succ, List.set_cons_zero]; refine hK _ ?_; clear hK K')) | (refine m_float ⟨undef, .inr ⟨?_, rfl⟩, fun K' hK => ?_⟩; (first | rfl | (go_simp; done)); (simp only [Act.put, List.setIfInBounds_toArray, List.set_cons_succ, List.set_cons_zero]; refine hK _ ?_; clear hK K')))
                  refine m_loud ?_ (fun K' hK => ?_)
                  · rintro ⟨_, _, h, _⟩; cases h
                  go_wp2_with (go_at_call 73; (with_reducible refine (c2 _).mono ?_); rintro e w5 ⟨rfl, rfl⟩)
                  refine hK _ _ (HB.out.drew) ?_
                  clear hK K'
                  repeat (first | (refine m_float ⟨?_, .inl ⟨?_, .inl ?_⟩, fun K' hK => ?_⟩; rotate_left; (first | rfl | (go_simp; done)); (intro w' hS; (obtain ⟨q0, q1, q2⟩ := CX.out _ hS; obtain ⟨p0, p1, p2⟩ := CP.out _ hS; clear hS); go_simp; try rfl); (simp only [Act.put, List.setIfInBounds_toArray, List.set_cons_succ, List.set_cons_zero]; refine hK _ ?_; clear hK K')) | (refine m_float ⟨undef, .inr ⟨?_, rfl⟩, fun K' hK => ?_⟩; (first | rfl | (go_simp; done)); (simp only [Act.put, List.setIfInBounds_toArray, List.set_cons_succ, List.set_cons_zero]; refine hK _ ?_; clear hK K')))
                  refine m_nil ?_
                  show wpList Try.prog _ _ (List.cons _ _) _ _
                  go_wp2
                  go_ret
                  exact ⟨by rw [HN.out]; rfl, HB.out.drew⟩
            · rw [decide_eq_false hblk] at c1
              have HN := Lib.hid (HBAD.out (by rw [vatB, HX.out]; exact decide_eq_false fun h => hblk h.1))
              clear hblk
              go_wp2_with fail
              with_reducible refine (c1 _).mono ?_
              rintro e w1 ⟨rfl, rfl⟩
              go_wp2
              go_ret
              exact ⟨by rw [HN.out]; rfl, HB.out⟩
          · obtain rfl : k = l.length := by omega
            go_wp2
            go_ret
            exact ⟨by rw [HVV.out, HALL.out]; rfl, HB.out⟩
      · rw [decide_eq_false hr] at c0
        have hv : pvB wide l = false := by unfold pvB; rw [decide_eq_false (fun h => hr (by rw [← HX0.out]; exact h.2.2))]; rfl
        rw [hv]
        clear hr hv
        go_enter Try.func32, Try.ntmps32
        go_wp2_with fail
        with_reducible refine (c0 _).mono ?_
        rintro e w0 ⟨rfl, hB0⟩
        go_wp2
        go_ret
        exact ⟨rfl, hB0⟩
end Go.Proofs.Ytnmlephjhcmbhaa
