/- DirectoryCompares: for every input the law returns true and leaves its arguments as they were. No condition. -/
import Derived.Test.YtnmlephjhcmbhaaGreatRows
import Derived.Test.YtnmlephjhcmbhaaGreatCl3
import Derived.Test.YtnmlephjhcmbhaaGreatDku
import Derived.Test.YtnmlephjhcmbhaaGreatDlc
import Derived.WalkKit
import Derived.ProofKit
import Derived.OpenShut
import Derived.ShutString
import Derived.ChangeOld
import Derived.Below
namespace Go.Proofs.YtnmlephjhcmbhaaGreat.directoryCompares
set_option linter.unusedSimpArgs false
set_option linter.unusedVariables false
open Go Go.ChangeShapes Go.WideShapes Go.ChangeAt Go.RowKit
open Go.ChangeMaps (open_string shut_string)
set_option maxRecDepth 100000 in
set_option maxHeartbeats 400000 in
theorem walk_big1 (a b : ByteArray) (wide : Bool) (w : World) (h : (300 : Int) < a.size) : Calls Tryz.prog 3 #[.string a, .string b, .bool wide] w fun e w' => e = .returned (.bool true) ∧ Below w.heap.size w w' := by
  go_enter Tryz.func3, Tryz.ntmps3
  go_wp2_with (go_at_call 9; (with_reducible refine (awake21_ok _).mono ?_); rintro e w1 ⟨rfl, hB1⟩)
  go_ret
  exact ⟨rfl, hB1⟩
set_option maxRecDepth 100000 in
set_option maxHeartbeats 400000 in
theorem walk_big2 (a b : ByteArray) (wide : Bool) (w : World) (h0 : ¬ (300 : Int) < a.size) (h : (300 : Int) < b.size) : Calls Tryz.prog 3 #[.string a, .string b, .bool wide] w fun e w' => e = .returned (.bool true) ∧ Below w.heap.size w w' := by
  go_enter Tryz.func3, Tryz.ntmps3
  go_wp2_with (go_at_call 9; (with_reducible refine (awake21_ok _).mono ?_); rintro e w1 ⟨rfl, hB1⟩)
  go_ret
  exact ⟨rfl, hB1⟩
set_option maxRecDepth 100000 in
set_option maxHeartbeats 1000000 in
theorem walk_small (a b : ByteArray) (wide : Bool) (w : World) (h0 : ¬ (300 : Int) < a.size) (h : ¬ (300 : Int) < b.size) : Calls Tryz.prog 3 #[.string a, .string b, .bool wide] w fun e w' => e = .returned (.bool true) ∧ Below w.heap.size w w' := by
  have c1 := fun W => cmp_ok a b wide W (by omega) (by omega)
  have c2 := fun W => rcmp_ok a b wide W (by omega) (by omega)
  have hs := rcmp_sgn a.data.toList b.data.toList wide
  obtain ⟨x, hx⟩ : ∃ x, cmpM a.data.toList b.data.toList wide = x := ⟨_, rfl⟩
  obtain ⟨y, hy⟩ : ∃ y, rcmpM a.data.toList b.data.toList wide = y := ⟨_, rfl⟩
  rw [hx] at c1 hs
  rw [hy] at c2 hs
  have c3 := fun W => sign_ok x W
  have c4 := fun W => sign_ok y W
  rw [hs] at c3
  obtain ⟨z, hz⟩ : ∃ z, sgn y = z := ⟨_, rfl⟩
  rw [hz] at c3 c4
  clear hx hy hs hz
  go_enter Tryz.func3, Tryz.ntmps3
  go_wp2_with fail
  with_reducible refine (awake21_ok _).mono ?_
  rintro e w1 ⟨rfl, hB1⟩
  go_wp2_with fail
  with_reducible refine (c1 _).mono ?_
  rintro e w2 ⟨rfl, hB2⟩
  go_wp2_with fail
  with_reducible refine (c3 _).mono ?_
  rintro e w3 ⟨rfl, rfl⟩
  go_wp2_with fail
  with_reducible refine (c2 _).mono ?_
  rintro e w4 ⟨rfl, hB4⟩
  go_wp2_with fail
  with_reducible refine (c4 _).mono ?_
  rintro e w5 ⟨rfl, rfl⟩
  go_wp2
  go_ret
  exact ⟨by simp, bthen (bthen hB1 hB2) hB4⟩
theorem walk (a b : ByteArray) (wide : Bool) (_ : a.size ≤ maxLen) (_ : b.size ≤ maxLen) (w : World) : Calls Tryz.prog 3 #[.string a, .string b, .bool wide] w fun e w' => e = .returned (.bool true) ∧ Below w.heap.size w w' := by
  by_cases h0 : (300 : Int) < a.size
  · exact walk_big1 a b wide w h0
  · by_cases h : (300 : Int) < b.size
    · exact walk_big2 a b wide w h0 h
    · exact walk_small a b wide w h0 h
theorem own : ownKnob Tryz.prog.godebug = none := by kernel_rfl
theorem laidOut : laidOutB Tryz.prog = true := by kernel_rfl
set_option maxRecDepth 100000 in
theorem lifted (os : Os) (started : os.Started) (H : Type) (enc : TypeId × Value → H) :
    ReturnsInHanded {} Tryz.checked os 3 .any (Rows.directoryComparesSpec.pre6 enc Tryz.prog Tryz.f3 Rows.directoryComparesRow.domain false) (Rows.directoryComparesSpec.post enc Tryz.prog Tryz.f3 false true false false) := by
  refine returnsInHanded_of_change (C := Tryz.checked) own started (by kernel_rfl) Tryz.func3
    (ChangeSpec.witness6 (enc := enc) (C := Tryz.checked) false ⟨#[], #[.string ByteArray.empty, .string ByteArray.empty, .bool false], []⟩ 8 (by kernel_rfl) (by kernel_rfl) (by kernel_rfl) (by kernel_rfl)) ?_
  intro W base args ds gs before hval0 hW hcnd _
  have hval : ∀ (j : Nat) t v, Tryz.f3.params[j]? = some t → args[j]? = some v → Value.okWide Tryz.prog W .any base t v := hval0
  have hW' := hW
  obtain ⟨p, q, hA0, hV, rfl, hfz, hnd⟩ := hW
  have hA : DataW.TrodAll enc Tryz.prog W 0 (fun _ => true) true Tryz.f3.params.toList args.toList ds p := hA0
  rw [Tryz.params3] at hA hval
  obtain ⟨v0, vs0, d0, ds0, p0, q0, hargs, rfl, rfl, h0, r0⟩ := trodAll_cons hA
  obtain ⟨v1, vs1, d1, ds1, p1, q1, rfl, rfl, rfl, h1, r1⟩ := trodAll_cons r0
  obtain ⟨v2, vs2, d2, ds2, p2, q2, rfl, rfl, rfl, h2, r2⟩ := trodAll_cons r1
  obtain ⟨rfl, rfl, rfl⟩ := trodAll_nil r2
  obtain rfl : args = #[v0, v1, v2] := by cases args; simp_all
  obtain ⟨rfl, rfl⟩ := trodVars_none hV
  obtain ⟨a0, rfl, rfl, rfl, w0⟩ := open_string Tryz.underlying9 (hval 0 9 v0 rfl rfl) h0
  obtain ⟨a1, rfl, rfl, rfl, w1⟩ := open_string Tryz.underlying9 (hval 1 9 v1 rfl rfl) h1
  obtain ⟨a2, rfl, rfl, rfl⟩ := open_bool Tryz.underlying4 (hval 2 4 v2 rfl rfl) h2
  clear hA0 hval0
  simp only [List.append_nil] at hW'
  refine (walk a0 a1 a2 w0 w1 W).mono fun e W' ⟨he, bel⟩ => ?_
  subst he
  exact ⟨_, rfl, _, _, _, [], _, [], hW', trodAll_mk1 (shut_bool Tryz.underlying4 _), (trodAll_cons_mk (shut_string Tryz.underlying9 w0) (trodAll_cons_mk (shut_string Tryz.underlying9 w1) (trodAll_cons_mk (shut_bool Tryz.underlying4 _) trodAll_mk0))), rfl, bel.frame _, fun h => by cases h⟩
theorem over : Rows.directoryComparesRow.holds Tryz.pinned (OpenSpec.ofChange Rows.directoryComparesSpec) :=
  OpenClaim.holds_of_wide 3 Tryz.f3 rfl rfl rfl rfl rfl rfl rfl ⟨rfl, rfl, rfl, rfl, rfl⟩ rfl rfl rfl rfl rfl (by as_aux_lemma => kernel_rfl) Tryz.func3 closed
    (of_decide_eq_true (by as_aux_lemma => kernel_rfl)) (by as_aux_lemma => (unfold Func.isWrapper; first | (rw [if_pos (by decide +kernel)]; kernel_rfl) | (rw [if_neg (by decide +kernel)]; exact ⟨rfl, rfl⟩)))
    (fun os started H enc _ => lifted os started H enc)
theorem proved : Rows.DirectoryComparesSaid := over
#print axioms proved
end Go.Proofs.YtnmlephjhcmbhaaGreat.directoryCompares
