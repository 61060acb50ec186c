/- DirectoryEncodes: for every input the law returns true and leaves its argument as it was. No condition. -/
import Derived.Test.YtnmlephjhcmbhaaGreatRows
import Derived.Test.YtnmlephjhcmbhaaGreatCl6
import Derived.Test.YtnmlephjhcmbhaaGreatDku
import Derived.Test.YtnmlephjhcmbhaaGreatDlf
import Derived.Test.YtnmlephjhcmbhaaGreatDlg
import Derived.WalkKit
import Derived.ProofKit
import Derived.OpenShut
import Derived.ShutString
import Derived.ChangeOld
import Derived.Below
namespace Go.Proofs.YtnmlephjhcmbhaaGreat.directoryEncodes
set_option linter.unusedSimpArgs false
set_option linter.unusedVariables false
open Go Go.ChangeShapes Go.WideShapes Go.ChangeAt Go.RowKit
set_option maxRecDepth 100000 in
set_option maxHeartbeats 1000000 in
theorem walk (a : Option Addr) (c : Nat) (l : List Rec) (w : World) (hr : RowR w a l ∧ ∀ r ∈ l, r.id.size ≤ maxLen ∧ r.use.size ≤ maxLen) : Calls Tryz.prog 6 #[.slice a l.length c] w fun e w' => e = .returned (.bool true) ∧ Below w.heap.size w w' := by
  obtain ⟨hrow, hsz⟩ := hr
  have c1 := fun (W : World) (hW : Below w.heap.size w W) => small_ok a c l 60 W (by decide) (hrow.below hW) hsz
  have c2 := fun (W : World) (hW : Below w.heap.size w W) => denc_ok a c l W (hrow.below hW) hsz
  have c3 := fun (W : World) (hW : Below w.heap.size w W) => rdenc_ok a c l W (hrow.below hW) hsz
  unfold EnE at c3
  obtain ⟨S, hS⟩ : ∃ S, encDS l = S := ⟨_, rfl⟩
  obtain ⟨E, hE⟩ : ∃ E, encDE l = E := ⟨_, rfl⟩
  rw [hS, hE] at c2 c3
  rw [show ((60 : Nat) : Int) = 60 from rfl] at c1
  clear hrow hsz hS hE
  cases hs : smallL l 60
  · rw [hs] at c1
    clear hs
    by_cases h0 : (l.length : Int) ≤ 1024
    · skip
      go_enter Tryz.func6, Tryz.ntmps6
      go_wp2_with fail
      with_reducible refine (awake21_ok _).mono ?_
      rintro e w1 ⟨rfl, hB1⟩
      go_wp2_with fail
      with_reducible refine (c1 _ hB1).mono ?_
      rintro e w2 ⟨rfl, rfl⟩
      go_wp2
      go_ret
      exact ⟨rfl, hB1⟩
    · have h1 : ¬ l.length ≤ 1024 := by omega
      go_enter Tryz.func6, Tryz.ntmps6
      go_wp2_with fail
      with_reducible refine (awake21_ok _).mono ?_
      rintro e w1 ⟨rfl, hB1⟩
      go_wp2_with fail
      with_reducible refine (c1 _ hB1).mono ?_
      rintro e w2 ⟨rfl, rfl⟩
      go_wp2_with fail
      with_reducible refine (c2 _ hB1).mono ?_
      rintro e w3 ⟨rfl, hB3⟩
      have hb3 := bthen hB1 hB3
      go_wp2_with fail
      with_reducible refine (c3 _ hb3).mono ?_
      rintro e w4 ⟨rfl, hB4⟩
      go_wp2
      go_ret
      exact ⟨by simp, bthen hb3 hB4⟩
  · rw [hs] at c1
    clear hs
    go_enter Tryz.func6, Tryz.ntmps6
    go_wp2_with fail
    with_reducible refine (awake21_ok _).mono ?_
    rintro e w1 ⟨rfl, hB1⟩
    go_wp2_with fail
    with_reducible refine (c1 _ hB1).mono ?_
    rintro e w2 ⟨rfl, rfl⟩
    go_wp2_with fail
    with_reducible refine (c2 _ hB1).mono ?_
    rintro e w3 ⟨rfl, hB3⟩
    have hb3 := bthen hB1 hB3
    go_wp2_with fail
    with_reducible refine (c3 _ hb3).mono ?_
    rintro e w4 ⟨rfl, hB4⟩
    go_wp2
    go_ret
    exact ⟨by simp, bthen hb3 hB4⟩
theorem own : ownKnob Tryz.prog.godebug = none := by kernel_rfl
theorem laidOut : laidOutB Tryz.prog = true := by kernel_rfl
set_option maxRecDepth 100000 in
theorem lifted (os : Os) (started : os.Started) (H : Type) (enc : TypeId × Value → H) :
    ReturnsInHanded {} Tryz.checked os 6 .any (Rows.directoryEncodesSpec.pre6 enc Tryz.prog Tryz.f6 Rows.directoryEncodesRow.domain false) (Rows.directoryEncodesSpec.post enc Tryz.prog Tryz.f6 false true false false) := by
  refine returnsInHanded_of_change (C := Tryz.checked) own started (by kernel_rfl) Tryz.func6
    (ChangeSpec.witness6 (enc := enc) (C := Tryz.checked) false ⟨#[], #[.slice none 0 0], []⟩ 8 (by kernel_rfl) (by kernel_rfl) (by kernel_rfl) (by kernel_rfl)) ?_
  intro W base args ds gs before hval0 hW hcnd _
  have hval : ∀ (j : Nat) t v, Tryz.f6.params[j]? = some t → args[j]? = some v → Value.okWide Tryz.prog W .any base t v := hval0
  have hW' := hW
  obtain ⟨p, q, hA0, hV, rfl, hfz, hnd⟩ := hW
  have hA : DataW.TrodAll enc Tryz.prog W 0 (fun _ => true) true Tryz.f6.params.toList args.toList ds p := hA0
  rw [Tryz.params6] at hA hval
  obtain ⟨v0, vs0, d0, ds0, p0, q0, hargs, rfl, rfl, h0, r0⟩ := trodAll_cons hA
  obtain ⟨rfl, rfl, rfl⟩ := trodAll_nil r0
  obtain rfl : args = #[v0] := by cases args; simp_all
  obtain ⟨rfl, rfl⟩ := trodVars_none hV
  have k0 := h0
  have lt0 : ∀ x ∈ p0, x.block < W.heap.size := by obtain ⟨m, hm⟩ := k0; exact DataW.trod_lt m _ _ _ hm
  obtain ⟨a0, n0, c0, rfl⟩ := okWide_slice Tryz.underlying26 (hval 0 26 v0 rfl rfl)
  obtain ⟨l0, rfl, w0⟩ := open_recs h0
  clear hA0 hval0
  refine (walk a0 c0 l0 W w0).mono fun e W' ⟨he, bel⟩ => ?_
  subst he
  exact ⟨_, rfl, _, _, _, [], _, [], hW', trodAll_mk1 (shut_bool Tryz.underlying4 _), (trodAll_cons_mk (Below.trod laidOut (by kernel_rfl) (of_decide_eq_true (by kernel_rfl)) k0 bel lt0) trodAll_mk0), rfl, bel.frame _, fun h => by cases h⟩
theorem over : Rows.directoryEncodesRow.holds Tryz.pinned (OpenSpec.ofChange Rows.directoryEncodesSpec) :=
  OpenClaim.holds_of_wide 6 Tryz.f6 rfl rfl rfl rfl rfl rfl rfl ⟨rfl, rfl, rfl, rfl, rfl⟩ rfl rfl rfl rfl rfl (by as_aux_lemma => kernel_rfl) Tryz.func6 closed
    (of_decide_eq_true (by as_aux_lemma => kernel_rfl)) (by as_aux_lemma => (unfold Func.isWrapper; first | (rw [if_pos (by decide +kernel)]; kernel_rfl) | (rw [if_neg (by decide +kernel)]; exact ⟨rfl, rfl⟩)))
    (fun os started H enc _ => lifted os started H enc)
theorem proved : Rows.DirectoryEncodesSaid := over
#print axioms proved
end Go.Proofs.YtnmlephjhcmbhaaGreat.directoryEncodes
