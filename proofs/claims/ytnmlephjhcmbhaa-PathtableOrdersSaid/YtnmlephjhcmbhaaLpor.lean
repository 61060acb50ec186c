/- PathtableOrders: for every input the law returns true and leaves its arguments as they were. No condition. -/
import Derived.Test.YtnmlephjhcmbhaaRows
import Derived.Test.YtnmlephjhcmbhaaCl11
import Derived.Test.YtnmlephjhcmbhaaPqa
import Derived.Test.YtnmlephjhcmbhaaPrg
import Derived.Test.YtnmlephjhcmbhaaPrf
import Derived.WalkKit
import Derived.ProofKit
import Derived.OpenShut
import Derived.ShutString
import Derived.ChangeOld
import Derived.Below
namespace Go.Proofs.Ytnmlephjhcmbhaa.pathtableOrders
set_option linter.unusedSimpArgs false
set_option linter.unusedVariables false
open Go Go.ChangeShapes Go.WideShapes Go.ChangeAt Go.RowKit
theorem same_nil (W : World) : Calls Try.prog 35 #[.slice none 0 0, .slice none 0 0] W fun e w' => e = .returned (.bool true) ∧ Below W.heap.size W w' := by
  have := psame_ok none 0 [] none 0 [] W (by simp) (fun k hk => absurd hk (Nat.not_lt_zero _)) (fun k hk => absurd hk (Nat.not_lt_zero _))
  rw [(pesEq_iff _ _).2 rfl] at this
  exact this
theorem equal_nil (W : World) : Calls Try.prog 25 #[.slice none 0 0, .slice none 0 0] W fun e w' => e = .returned (.bool true) ∧ Below W.heap.size W w' :=
  equal_own (b1 := 0) (b2 := 0) (l := []) (m := []) (W := W) (World.ownsRow_nil W 0 3 1) (World.ownsRow_nil W 0 3 1) (Nat.zero_le _) (Nat.zero_le _)
set_option maxRecDepth 100000 in
set_option maxHeartbeats 8000000 in
theorem walk (a : Option Addr) (c : Nat) (l : List PE) (wide : Bool) (w : World) (hr : RowP w a l ∧ l.length ≤ c ∧ ∀ r ∈ l, r.id.size ≤ maxLen) : Calls Try.prog 11 #[.slice a l.length c, .bool wide] w fun e w' => e = .returned (.bool true) ∧ Below w.heap.size w w' := by
  obtain ⟨hrow, hlc, hsz⟩ := hr
  have HR := Lib.hid hrow
  have HZ := Lib.hid hsz
  have c1 := fun (W : World) (hW : Below w.heap.size w W) => psmall_ok a c l W (hrow.below hW) hsz
  clear hrow hsz
  by_cases hl : 1024 < l.length
  · have hs : smallPL l = false := by unfold smallPL; rw [decide_eq_false (by omega), Bool.false_and]
    rw [hs] at c1
    have g1 : ¬ (l.length : Int) ≤ 1024 := by omega
    have he : earlyP l := .inl hl
    clear hs hl
    have c4 := fun (W : World) (hW : Below w.heap.size w W) => porder_early a c l wide W (HR.out.below hW) he
    have c5 := fun (W : World) (hW : Below w.heap.size w W) => rporder_early a c l wide W (HR.out.below hW) he
    unfold EarlyE at c4 c5
    generalize earlyC l = z at c4 c5
    clear he
    go_enter Try.func11, Try.ntmps11
    go_wp2_with fail
    with_reducible refine (awake22_ok _).mono ?_
    rintro e w1 ⟨rfl, hB1⟩
    have c2 := c1 _ hB1
    have c6 := c4 _ hB1
    have HB1 := Lib.hid hB1
    clear hB1 c1 c4
    go_wp2_with fail
    with_reducible refine c2.mono ?_
    rintro e w2 ⟨rfl, rfl⟩
    go_wp2_with fail
    with_reducible refine c6.mono ?_
    rintro e w3 ⟨rfl, hB3⟩
    have HB6 := Lib.hid (bthen HB1.out hB3)
    have c7 := c5 _ HB6.out
    clear hB3 c5 c6 c2
    go_wp2_with fail
    with_reducible refine c7.mono ?_
    rintro e w4 ⟨rfl, hB4⟩
    have HB7 := Lib.hid (bthen HB6.out hB4)
    clear hB4 c7
    go_wp2_with fail
    with_reducible refine (same_nil _).mono ?_
    rintro e w8 ⟨rfl, hB8⟩
    have HB8 := Lib.hid (bthen HB7.out hB8)
    clear hB8
    go_wp2_with fail
    with_reducible refine (equal_nil _).mono ?_
    rintro e w9 ⟨rfl, hB9⟩
    have HB9 := Lib.hid (bthen HB8.out hB9)
    clear hB9
    go_wp2
    go_ret
    exact ⟨rfl, HB9.out⟩
  · have g1 : (l.length : Int) ≤ 1024 := by omega
    cases hs : smallPL l
    · rw [hs] at c1
      clear hs
      go_enter Try.func11, Try.ntmps11
      go_wp2_with fail
      with_reducible refine (awake22_ok _).mono ?_
      rintro e w1 ⟨rfl, hB1⟩
      have c2 := c1 _ hB1
      go_wp2_with fail
      with_reducible refine c2.mono ?_
      rintro e w2 ⟨rfl, rfl⟩
      go_wp2
      go_ret
      exact ⟨rfl, hB1⟩
    · rw [hs] at c1
      obtain ⟨hl40, hsz3⟩ := smallPL_spec hs
      have HC3 := Lib.hid hsz3
      clear hs hsz3
      by_cases he : earlyP l
      · have c4 := fun (W : World) (hW : Below w.heap.size w W) => porder_early a c l wide W (HR.out.below hW) he
        have c5 := fun (W : World) (hW : Below w.heap.size w W) => rporder_early a c l wide W (HR.out.below hW) he
        unfold EarlyE at c4 c5
        generalize earlyC l = z at c4 c5
        clear he
        go_enter Try.func11, Try.ntmps11
        go_wp2_with fail
        with_reducible refine (awake22_ok _).mono ?_
        rintro e w1 ⟨rfl, hB1⟩
        have c2 := c1 _ hB1
        have c6 := c4 _ hB1
        have HB1 := Lib.hid hB1
        clear hB1 c1 c4
        go_wp2_with fail
        with_reducible refine c2.mono ?_
        rintro e w2 ⟨rfl, rfl⟩
        go_wp2_with fail
        with_reducible refine c6.mono ?_
        rintro e w3 ⟨rfl, hB3⟩
        have HB6 := Lib.hid (bthen HB1.out hB3)
        have c7 := c5 _ HB6.out
        clear hB3 c5 c6 c2
        go_wp2_with fail
        with_reducible refine c7.mono ?_
        rintro e w4 ⟨rfl, hB4⟩
        have HB7 := Lib.hid (bthen HB6.out hB4)
        clear hB4 c7
        go_wp2_with fail
        with_reducible refine (same_nil _).mono ?_
        rintro e w8 ⟨rfl, hB8⟩
        have HB8 := Lib.hid (bthen HB7.out hB8)
        clear hB8
        go_wp2_with fail
        with_reducible refine (equal_nil _).mono ?_
        rintro e w9 ⟨rfl, hB9⟩
        have HB9 := Lib.hid (bthen HB8.out hB9)
        clear hB9
        go_wp2
        go_ret
        exact ⟨rfl, HB9.out⟩
      · have hpos : 0 < l.length := Nat.pos_of_ne_zero fun h => he (.inr (.inl h))
        have hroot : RootP (l.getD 0 peD) := Classical.byContradiction fun h => he (.inr (.inr h))
        have c4 := fun (b off : Nat) (W : World) (hrw : RowP W (some ⟨b, off, none⟩) l) => porder_all b off c l wide W ⟨hl40, hpos, hlc, fun x hx => by have := HC3.out x hx; omega, hrw, hroot⟩
        have c5 := fun (b off : Nat) (W : World) (hrw : RowP W (some ⟨b, off, none⟩) l) => rporder_all b off c l wide W ⟨hl40, hpos, fun x hx => by have := HC3.out x hx; omega, hrw, hroot⟩
        obtain ⟨b, off, rfl, -, -⟩ := HR.out 0 hpos
        clear he hroot
        go_enter Try.func11, Try.ntmps11
        go_wp2_with fail
        with_reducible refine (awake22_ok _).mono ?_
        rintro e w1 ⟨rfl, hB1⟩
        have c2 := c1 _ hB1
        have c6 := c4 b off _ (HR.out.below hB1)
        have HB1 := Lib.hid hB1
        clear c1 hB1 c4
        go_wp2_with fail
        with_reducible refine c2.mono ?_
        rintro e w2 ⟨rfl, rfl⟩
        go_wp2_with fail
        with_reducible refine c6.mono ?_
        rintro e w3 hall
        rcases hall with ⟨hroot, hgood, hfin, v, u, rfl, hov, hou, hB3⟩ | ⟨z, hbad, rfl, hB3⟩
        · have HB3 := Lib.hid (bthen HB1.out hB3)
          have c7 := c5 b off _ (HR.out.below HB3.out)
          have HF := Lib.hid (And.intro hroot (And.intro hgood hfin))
          have HOV := Lib.hid hov
          have HOU := Lib.hid hou
          clear hov hou hB3 hroot hgood hfin c5 c2 c6
          go_wp2_with fail
          with_reducible refine c7.mono ?_
          rintro e w4 hall
          rcases hall with ⟨-, -, -, v2, u2, rfl, hov2, hou2, hB4⟩ | ⟨z, hbad, rfl, hB4⟩
          · have hO1 := own_keepS HOV.out hB4
            have hO2 := own_keep HOU.out hB4
            obtain ⟨L, hL⟩ : ∃ L, outK l (ordO l wide) l.length l.length = L := ⟨_, rfl⟩
            obtain ⟨N, hN⟩ : ∃ N, numK (ordO l wide) l.length l.length = N := ⟨_, rfl⟩
            have hLl : L.length = l.length := by rw [← hL]; exact outK_len _ _ _ _
            have hNl : N.length = l.length := by rw [← hN]; exact numK_len _ _ _
            rw [hL, ← hLl] at hO1 hov2
            rw [hN, ← hNl] at hO2 hou2
            obtain ⟨a1, d1, rfl, hr1⟩ := RowP_own L hO1
            obtain ⟨a2, d2, rfl, hr2⟩ := RowP_own L hov2
            have c8 := psame_ok a1 d1 L a2 d2 L w4 (by omega) hr1 hr2
            rw [(pesEq_iff _ _).2 rfl, hLl] at c8
            have HB7 := Lib.hid (bthen HB3.out hB4)
            have HO2 := Lib.hid hO2
            have HO3 := Lib.hid hou2
            clear hO1 hO2 hov2 hou2 hr1 hr2 hB4 c7 hL hN
            go_wp2_with fail
            with_reducible refine c8.mono ?_
            rintro e w8 ⟨rfl, hB8⟩
            have c9 := equal_own (own_keep HO2.out hB8) (own_keep HO3.out hB8) (by unfold maxLen; omega) (by unfold maxLen; omega)
            rw [show (N == N) = true from beq_self_eq_true N] at c9
            have HB8 := Lib.hid (bthen HB7.out hB8)
            clear hB8 c8
            go_wp2_with fail
            with_reducible refine c9.mono ?_
            rintro e w9 ⟨rfl, hB9⟩
            have HB9 := Lib.hid (bthen HB8.out hB9)
            clear hB9
            go_wp2
            go_ret
            exact ⟨rfl, HB9.out⟩
          · exact (hbad.notfin HF.out.1 HF.out.2.1 HF.out.2.2).elim
        · have HB3 := Lib.hid (bthen HB1.out hB3)
          have c7 := c5 b off _ (HR.out.below HB3.out)
          have HBAD := Lib.hid hbad
          clear hbad hB3 c5 c2 c6
          go_wp2_with fail
          with_reducible refine c7.mono ?_
          rintro e w4 hall
          rcases hall with ⟨hroot, hgood, hfin, v2, u2, rfl, hov2, hou2, hB4⟩ | ⟨z2, hbad2, rfl, hB4⟩
          · exact (HBAD.out.notfin hroot hgood hfin).elim
          · obtain rfl : z = z2 := HBAD.out.unique hbad2
            have HB7 := Lib.hid (bthen HB3.out hB4)
            clear hB4 hbad2 c7
            go_wp2_with fail
            with_reducible refine (same_nil _).mono ?_
            rintro e w8 ⟨rfl, hB8⟩
            have HB8 := Lib.hid (bthen HB7.out hB8)
            clear hB8
            go_wp2_with fail
            with_reducible refine (equal_nil _).mono ?_
            rintro e w9 ⟨rfl, hB9⟩
            have HB9 := Lib.hid (bthen HB8.out hB9)
            clear hB9
            go_wp2
            go_ret
            exact ⟨rfl, HB9.out⟩
theorem own : ownKnob Try.prog.godebug = none := by kernel_rfl
theorem laidOut : laidOutB Try.prog = true := by kernel_rfl
set_option maxRecDepth 100000 in
theorem lifted (os : Os) (started : os.Started) (H : Type) (enc : TypeId × Value → H) :
    ReturnsInHanded {} Try.checked os 11 .any (Rows.pathtableOrdersSpec.pre6 enc Try.prog Try.f11 Rows.pathtableOrdersRow.domain false) (Rows.pathtableOrdersSpec.post enc Try.prog Try.f11 false true false false) := by
  refine returnsInHanded_of_change (C := Try.checked) own started (by kernel_rfl) Try.func11
    (ChangeSpec.witness6 (enc := enc) (C := Try.checked) false ⟨#[], #[.slice none 0 0, .bool false], []⟩ 8 (by kernel_rfl) (by kernel_rfl) (by kernel_rfl) (by kernel_rfl)) ?_
  intro W base args ds gs before hval0 hW hcnd _
  have hval : ∀ (j : Nat) t v, Try.f11.params[j]? = some t → args[j]? = some v → Value.okWide Try.prog W .any base t v := hval0
  have hW' := hW
  obtain ⟨p, q, hA0, hV, rfl, hfz, hnd⟩ := hW
  have hA : DataW.TrodAll enc Try.prog W 0 (fun _ => true) true Try.f11.params.toList args.toList ds p := hA0
  rw [Try.params11] at hA hval
  obtain ⟨v0, vs0, d0, ds0, p0, q0, hargs, rfl, rfl, h0, r0⟩ := trodAll_cons hA
  obtain ⟨v1, vs1, d1, ds1, p1, q1, rfl, rfl, rfl, h1, r1⟩ := trodAll_cons r0
  obtain ⟨rfl, rfl, rfl⟩ := trodAll_nil r1
  obtain rfl : args = #[v0, v1] := by cases args; simp_all
  obtain ⟨rfl, rfl⟩ := trodVars_none hV
  have k0 := h0
  have lt0 : ∀ x ∈ p0, x.block < W.heap.size := by obtain ⟨m, hm⟩ := k0; exact DataW.trod_lt m _ _ _ hm
  obtain ⟨a0, n0, c0, rfl⟩ := okWide_slice Try.underlying44 (hval 0 44 v0 rfl rfl)
  obtain ⟨l0, rfl, w0⟩ := open_pes h0
  obtain ⟨a1, rfl, rfl, rfl⟩ := open_bool Try.underlying4 (hval 1 4 v1 rfl rfl) h1
  clear hA0 hval0
  refine (walk a0 c0 l0 a1 W w0).mono fun e W' ⟨he, bel⟩ => ?_
  subst he
  exact ⟨_, rfl, _, _, _, [], _, [], hW', trodAll_mk1 (shut_bool Try.underlying4 _), (trodAll_cons_mk (Below.trod laidOut (by kernel_rfl) (of_decide_eq_true (by kernel_rfl)) k0 bel lt0) (trodAll_cons_mk (shut_bool Try.underlying4 _) trodAll_mk0)), rfl, bel.frame _, fun h => by cases h⟩
theorem over : Rows.pathtableOrdersRow.holds Try.pinned (OpenSpec.ofChange Rows.pathtableOrdersSpec) :=
  OpenClaim.holds_of_wide 11 Try.f11 rfl rfl rfl rfl rfl rfl rfl ⟨rfl, rfl, rfl, rfl, rfl⟩ rfl rfl rfl rfl rfl (by as_aux_lemma => kernel_rfl) Try.func11 closed
    (of_decide_eq_true (by as_aux_lemma => kernel_rfl)) (by as_aux_lemma => (unfold Func.isWrapper; first | (rw [if_pos (by decide +kernel)]; kernel_rfl) | (rw [if_neg (by decide +kernel)]; exact ⟨rfl, rfl⟩)))
    (fun os started H enc _ => lifted os started H enc)
theorem proved : Rows.PathtableOrdersSaid := over
#print axioms proved
end Go.Proofs.Ytnmlephjhcmbhaa.pathtableOrders
