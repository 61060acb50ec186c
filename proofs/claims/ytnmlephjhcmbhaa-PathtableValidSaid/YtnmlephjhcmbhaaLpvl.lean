/- PathtableValid: for every input the law returns true and leaves its arguments as they were. No condition. -/
import Derived.Test.YtnmlephjhcmbhaaRows
import Derived.Test.YtnmlephjhcmbhaaCl10
import Derived.Test.YtnmlephjhcmbhaaPqa
import Derived.Test.YtnmlephjhcmbhaaPra
import Derived.WalkKit
import Derived.ProofKit
import Derived.OpenShut
import Derived.ShutString
import Derived.ChangeOld
import Derived.Below
namespace Go.Proofs.Ytnmlephjhcmbhaa.pathtableValid
set_option linter.unusedSimpArgs false
set_option linter.unusedVariables false
open Go Go.ChangeShapes Go.WideShapes Go.ChangeAt Go.RowKit
set_option maxRecDepth 100000 in
set_option maxHeartbeats 400000 in
theorem pvalid_big (a : Option Addr) (c : Nat) (l : List PE) (wide : Bool) (w : World) (h : 1024 < l.length) : Calls Try.prog 31 #[.slice a l.length c, .bool wide] w fun e w' => e = .returned (.bool false) ∧ w' = w := by
  have g0 : ((l.length : Int) == 0) = false := beq_eq_false_iff_ne.2 (by omega)
  have g1 : (1024 : Int) < (l.length : Int) := by omega
  clear h
  go_enter Try.func31, Try.ntmps31
  go_wp2
  go_ret
  exact ⟨rfl, by trivial⟩
set_option maxRecDepth 100000 in
set_option maxHeartbeats 4000000 in
theorem walk (a : Option Addr) (c : Nat) (l : List PE) (wide : Bool) (w : World) (hr : RowP w a l ∧ l.length ≤ c ∧ ∀ r ∈ l, r.id.size ≤ maxLen) : Calls Try.prog 10 #[.slice a l.length c, .bool wide] w fun e w' => e = .returned (.bool true) ∧ Below w.heap.size w w' := by
  obtain ⟨hrow, hlc, hsz⟩ := hr
  have HR := Lib.hid hrow
  have HZ := Lib.hid hsz
  have c1 := fun (W : World) (hW : Below w.heap.size w W) => psmall_ok a c l W (hrow.below hW) hsz
  clear hrow hsz
  by_cases hl : 1024 < l.length
  · have hs : smallPL l = false := by unfold smallPL; rw [decide_eq_false (by omega), Bool.false_and]
    rw [hs] at c1
    have hv : pvB wide l = false := by unfold pvB; rw [decide_eq_false (fun h => by have h2 := h.2.1; omega)]; rfl
    have c3 := fun (W : World) => pvalid_big a c l wide W hl
    have c4 := fun (W : World) (hW : Below w.heap.size w W) => rpvalid_ok a c l wide W (HR.out.below hW) (fun h => by omega)
    rw [hv] at c4
    have g1 : ¬ (l.length : Int) ≤ 1024 := by omega
    clear hs hv hl
    go_enter Try.func10, Try.ntmps10
    go_wp2_with fail
    with_reducible refine (awake22_ok _).mono ?_
    rintro e w1 ⟨rfl, hB1⟩
    have c2 := c1 _ hB1
    go_wp2_with fail
    with_reducible refine c2.mono ?_
    rintro e w2 ⟨rfl, rfl⟩
    go_wp2_with fail
    with_reducible refine (c3 _).mono ?_
    rintro e w3 ⟨rfl, rfl⟩
    have c5 := c4 _ hB1
    go_wp2_with fail
    with_reducible refine c5.mono ?_
    rintro e w4 ⟨rfl, hB4⟩
    go_wp2
    go_ret
    exact ⟨rfl, bthen hB1 hB4⟩
  · have g1 : (l.length : Int) ≤ 1024 := by omega
    cases hs : smallPL l
    · rw [hs] at c1
      clear hs hl
      go_enter Try.func10, Try.ntmps10
      go_wp2_with fail
      with_reducible refine (awake22_ok _).mono ?_
      rintro e w1 ⟨rfl, hB1⟩
      have c2 := c1 _ hB1
      go_wp2_with fail
      with_reducible refine c2.mono ?_
      rintro e w2 ⟨rfl, rfl⟩
      go_wp2
      go_ret
      exact ⟨rfl, hB1⟩
    · rw [hs] at c1
      obtain ⟨hl40, hsz3⟩ := smallPL_spec hs
      have c3 := fun (W : World) (hW : Below w.heap.size w W) => pvalid_ok a c l wide W (HR.out.below hW) (fun x hx => by have := hsz3 x hx; omega)
      have c4 := fun (W : World) (hW : Below w.heap.size w W) => rpvalid_ok a c l wide W (HR.out.below hW) (fun h x hx => by have := hsz3 x hx; omega)
      obtain ⟨v, hv⟩ : ∃ v, pvB wide l = v := ⟨_, rfl⟩
      rw [hv] at c4
      simp only [hv] at c3
      clear hs hsz3 hv hl
      go_enter Try.func10, Try.ntmps10
      go_wp2_with fail
      with_reducible refine (awake22_ok _).mono ?_
      rintro e w1 ⟨rfl, hB1⟩
      have c2 := c1 _ hB1
      have c5 := c3 _ hB1
      go_wp2_with fail
      with_reducible refine c2.mono ?_
      rintro e w2 ⟨rfl, rfl⟩
      go_wp2_with fail
      with_reducible refine c5.mono ?_
      rintro e w3 ⟨rfl, hB3⟩
      have hB4 := bthen hB1 hB3
      have c6 := c4 _ hB4
      go_wp2_with fail
      with_reducible refine c6.mono ?_
      rintro e w4 ⟨rfl, hB5⟩
      go_wp2
      go_ret
      exact ⟨by cases v <;> rfl, bthen hB4 hB5⟩
theorem own : ownKnob Try.prog.godebug = none := by kernel_rfl
theorem laidOut : laidOutB Try.prog = true := by kernel_rfl
set_option maxRecDepth 100000 in
theorem lifted (os : Os) (started : os.Started) (H : Type) (enc : TypeId × Value → H) :
    ReturnsInHanded {} Try.checked os 10 .any (Rows.pathtableValidSpec.pre6 enc Try.prog Try.f10 Rows.pathtableValidRow.domain false) (Rows.pathtableValidSpec.post enc Try.prog Try.f10 false true false false) := by
  refine returnsInHanded_of_change (C := Try.checked) own started (by kernel_rfl) Try.func10
    (ChangeSpec.witness6 (enc := enc) (C := Try.checked) false ⟨#[], #[.slice none 0 0, .bool false], []⟩ 8 (by kernel_rfl) (by kernel_rfl) (by kernel_rfl) (by kernel_rfl)) ?_
  intro W base args ds gs before hval0 hW hcnd _
  have hval : ∀ (j : Nat) t v, Try.f10.params[j]? = some t → args[j]? = some v → Value.okWide Try.prog W .any base t v := hval0
  have hW' := hW
  obtain ⟨p, q, hA0, hV, rfl, hfz, hnd⟩ := hW
  have hA : DataW.TrodAll enc Try.prog W 0 (fun _ => true) true Try.f10.params.toList args.toList ds p := hA0
  rw [Try.params10] at hA hval
  obtain ⟨v0, vs0, d0, ds0, p0, q0, hargs, rfl, rfl, h0, r0⟩ := trodAll_cons hA
  obtain ⟨v1, vs1, d1, ds1, p1, q1, rfl, rfl, rfl, h1, r1⟩ := trodAll_cons r0
  obtain ⟨rfl, rfl, rfl⟩ := trodAll_nil r1
  obtain rfl : args = #[v0, v1] := by cases args; simp_all
  obtain ⟨rfl, rfl⟩ := trodVars_none hV
  have k0 := h0
  have lt0 : ∀ x ∈ p0, x.block < W.heap.size := by obtain ⟨m, hm⟩ := k0; exact DataW.trod_lt m _ _ _ hm
  obtain ⟨a0, n0, c0, rfl⟩ := okWide_slice Try.underlying44 (hval 0 44 v0 rfl rfl)
  obtain ⟨l0, rfl, w0⟩ := open_pes h0
  obtain ⟨a1, rfl, rfl, rfl⟩ := open_bool Try.underlying4 (hval 1 4 v1 rfl rfl) h1
  clear hA0 hval0
  refine (walk a0 c0 l0 a1 W w0).mono fun e W' ⟨he, bel⟩ => ?_
  subst he
  exact ⟨_, rfl, _, _, _, [], _, [], hW', trodAll_mk1 (shut_bool Try.underlying4 _), (trodAll_cons_mk (Below.trod laidOut (by kernel_rfl) (of_decide_eq_true (by kernel_rfl)) k0 bel lt0) (trodAll_cons_mk (shut_bool Try.underlying4 _) trodAll_mk0)), rfl, bel.frame _, fun h => by cases h⟩
theorem over : Rows.pathtableValidRow.holds Try.pinned (OpenSpec.ofChange Rows.pathtableValidSpec) :=
  OpenClaim.holds_of_wide 10 Try.f10 rfl rfl rfl rfl rfl rfl rfl ⟨rfl, rfl, rfl, rfl, rfl⟩ rfl rfl rfl rfl rfl (by as_aux_lemma => kernel_rfl) Try.func10 closed
    (of_decide_eq_true (by as_aux_lemma => kernel_rfl)) (by as_aux_lemma => (unfold Func.isWrapper; first | (rw [if_pos (by decide +kernel)]; kernel_rfl) | (rw [if_neg (by decide +kernel)]; exact ⟨rfl, rfl⟩)))
    (fun os started H enc _ => lifted os started H enc)
theorem proved : Rows.PathtableValidSaid := over
#print axioms proved
end Go.Proofs.Ytnmlephjhcmbhaa.pathtableValid
