/- DirrecordDecodes: for every input the law returns true and leaves its arguments as they were. No condition. -/
import Derived.Test.YtnmlephjhcmbhaaRows
import Derived.Test.YtnmlephjhcmbhaaCl4
import Derived.Test.YtnmlephjhcmbhaaDrv
import Derived.Test.YtnmlephjhcmbhaaOpn
import Derived.WalkKit
import Derived.ProofKit
import Derived.OpenShut
import Derived.ShutString
import Derived.ChangeOld
import Derived.Below
namespace Go.Proofs.Ytnmlephjhcmbhaa.dirrecordDecodes
set_option linter.unusedSimpArgs false
set_option linter.unusedVariables false
open Go Go.ChangeShapes Go.WideShapes Go.ChangeAt Go.RowKit
open Go.ChangeMaps (open_string shut_string)
set_option maxRecDepth 100000 in
set_option maxHeartbeats 400000 in
theorem walk_big (a0 : ByteArray) (w : World) (h : (400 : Int) < a0.size) : Calls Try.prog 4 #[.string a0] w fun e w' => e = .returned (.bool true) ∧ Below w.heap.size w w' := by
  go_enter Try.func4, Try.ntmps4
  go_wp2_with (go_at_call 18; (with_reducible refine (awake_ok _).mono ?_); rintro e w1 ⟨rfl, hB1⟩)
  go_ret
  exact ⟨rfl, hB1⟩
set_option maxRecDepth 100000 in
set_option maxHeartbeats 2000000 in
theorem walk_small (s : ByteArray) (r : Rec) (n e : Int) (l : List Nat) (w : World) (h : (s.size : Int) ≤ 400) (hl : l.length ≤ maxLen)
    (c1 : ∀ W : World, Calls Try.prog 23 #[.string s] W fun x w' => x = .returned (.tuple #[.agg (recA r), cN n, cN e]) ∧ Below W.heap.size W w')
    (c2 : ∀ W : World, Calls Try.prog 24 #[.string s] W fun x w' => x = .returned (.tuple #[.agg (recA r), cN n, cN e]) ∧ Below W.heap.size W w')
    (c3 : ∀ W : World, Calls Try.prog 26 #[.string s] W fun x w' => ∃ v, x = .returned v ∧ IL W l v w')
    (c4 : ∀ W : World, Calls Try.prog 27 #[.string s] W fun x w' => ∃ v, x = .returned v ∧ IL W l v w') :
    Calls Try.prog 4 #[.string s] w fun e w' => e = .returned (.bool true) ∧ Below w.heap.size w w' := by
  have hm := recGuard
  have heq := fun W => rec_eql r r W
  rw [(recEq_iff r r).2 rfl] at heq
  go_enter Try.func4, Try.ntmps4
  go_wp2_with (first | (go_at_call 18; (with_reducible refine (awake_ok _).mono ?_); rintro e w1 ⟨rfl, hB1⟩) | (go_at_call 23; (with_reducible refine (c1 _).mono ?_); rintro e w2 ⟨rfl, hB2⟩) | (go_at_call 24; (with_reducible refine (c2 _).mono ?_); rintro e w3 ⟨rfl, hB3⟩; have H3 := cr8 (World.alloc_heap_new w2 (.cells (recA r) 23)) hB3; have H4 := (Lib.alloc_old w3 (.cells (recA r) 23) _ (lt_of_block H3)).trans H3; obtain ⟨q0, q1, q2, q3, q4, q5, q6, q7⟩ := cells8 H4) | (go_at_call 26; (with_reducible refine (c3 _).mono ?_); rintro e w4 ⟨v4, rfl, hI4⟩) | (go_at_call 27; (with_reducible refine (c4 _).mono ?_); rintro e w5 ⟨v5, rfl, hI5⟩; have hI6 := hI4.below hI5.2) | (go_at_call 25; (with_reducible refine (equal_ok hI6 hI5 hl hl).mono ?_); rintro e w6 ⟨rfl, hB6⟩))
  go_ret
  refine ⟨?_, ?_⟩
  · simp
  · exact bthen (bthen hB1 (bthen hB2 (bthen ((Below.refl _ _).alloc (Nat.le_refl _) _) (bthen hB3 (bthen ((Below.refl _ _).alloc (Nat.le_refl _) _) (bthen hI4.2 hI5.2)))))) hB6
theorem walk (a0 : ByteArray) (_ : a0.size ≤ maxLen) (w : World) : Calls Try.prog 4 #[.string a0] w fun e w' => e = .returned (.bool true) ∧ Below w.heap.size w w' := by
  by_cases h : a0.size ≤ 400
  · have h61 : a0.size < 2 ^ 61 := by omega
    have hl : (difM a0).length ≤ maxLen := by have := difM_len a0; unfold maxLen; omega
    exact walk_small a0 _ _ _ _ w (by omega) hl (fun W => decode_ok a0 W h61) (fun W => rdecode_ok a0 W h61) (fun W => differ_ok a0 W h61) (fun W => rdiffer_ok a0 W h61)
  · exact walk_big a0 w (by omega)
theorem own : ownKnob Try.prog.godebug = none := by kernel_rfl
theorem laidOut : laidOutB Try.prog = true := by kernel_rfl
set_option maxRecDepth 100000 in
theorem lifted (os : Os) (started : os.Started) (H : Type) (enc : TypeId × Value → H) :
    ReturnsInHanded {} Try.checked os 4 .any (Rows.dirrecordDecodesSpec.pre6 enc Try.prog Try.f4 Rows.dirrecordDecodesRow.domain false) (Rows.dirrecordDecodesSpec.post enc Try.prog Try.f4 false true false false) := by
  refine returnsInHanded_of_change (C := Try.checked) own started (by kernel_rfl) Try.func4
    (ChangeSpec.witness6 (enc := enc) (C := Try.checked) false ⟨#[], #[.string ByteArray.empty], []⟩ 8 (by kernel_rfl) (by kernel_rfl) (by kernel_rfl) (by kernel_rfl)) ?_
  intro W base args ds gs before hval0 hW hcnd _
  have hval : ∀ (j : Nat) t v, Try.f4.params[j]? = some t → args[j]? = some v → Value.okWide Try.prog W .any base t v := hval0
  have hW' := hW
  obtain ⟨p, q, hA0, hV, rfl, hfz, hnd⟩ := hW
  have hA : DataW.TrodAll enc Try.prog W 0 (fun _ => true) true Try.f4.params.toList args.toList ds p := hA0
  rw [Try.params4] at hA hval
  obtain ⟨v0, vs0, d0, ds0, p0, q0, hargs, rfl, rfl, h0, r0⟩ := trodAll_cons hA
  obtain ⟨rfl, rfl, rfl⟩ := trodAll_nil r0
  obtain rfl : args = #[v0] := by cases args; simp_all
  obtain ⟨rfl, rfl⟩ := trodVars_none hV
  obtain ⟨a0, rfl, rfl, rfl, w0⟩ := open_string Try.underlying9 (hval 0 9 v0 rfl rfl) h0
  clear hA0 hval0
  simp only [List.append_nil] at hW'
  refine (walk a0 w0 W).mono fun e W' ⟨he, bel⟩ => ?_
  subst he
  exact ⟨_, rfl, _, _, _, [], _, [], hW', trodAll_mk1 (shut_bool Try.underlying4 _), (trodAll_cons_mk (shut_string Try.underlying9 w0) trodAll_mk0), rfl, bel.frame _, fun h => by cases h⟩
theorem over : Rows.dirrecordDecodesRow.holds Try.pinned (OpenSpec.ofChange Rows.dirrecordDecodesSpec) :=
  OpenClaim.holds_of_wide 4 Try.f4 rfl rfl rfl rfl rfl rfl rfl ⟨rfl, rfl, rfl, rfl, rfl⟩ rfl rfl rfl rfl rfl (by as_aux_lemma => kernel_rfl) Try.func4 closed
    (of_decide_eq_true (by as_aux_lemma => kernel_rfl)) (by as_aux_lemma => (unfold Func.isWrapper; first | (rw [if_pos (by decide +kernel)]; kernel_rfl) | (rw [if_neg (by decide +kernel)]; exact ⟨rfl, rfl⟩)))
    (fun os started H enc _ => lifted os started H enc)
theorem proved : Rows.DirrecordDecodesSaid := over
#print axioms proved
end Go.Proofs.Ytnmlephjhcmbhaa.dirrecordDecodes
