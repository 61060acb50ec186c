/- ScramblerSequences: for every input the law returns true and leaves its arguments as they were. No condition. -/
import Derived.Test.YtmpojdjknahoiaaRows
import Derived.Test.YtmpojdjknahoiaaCon
import Derived.WalkKit
import Derived.ProofKit
import Derived.OpenShut
namespace Go.Proofs.Ytmpojdjknahoiaa.scramblerSequences
open Go Go.ChangeShapes Go.WideShapes Go.ChangeAt Go.RowKit
open Go.ChangeMaps (open_string shut_string)
theorem own : ownKnob Try.prog.godebug = none := by kernel_rfl
theorem bthen {w w1 w2 : World} (h : Below w.heap.size w w1) (k : Below w1.heap.size w1 w2) : Below w.heap.size w w2 := h.trans (k.mono h.size)
/-- Sequence and its reference give the same for any number. -/
theorem seq_any (n : Int) : ∃ v e, (∀ w, Calls Try.prog 11 #[.int .i64 n] w fun x w' => x = .returned (.tuple #[.string v, .int .i64 e]) ∧ Below w.heap.size w w') ∧
    (∀ w, Calls Try.prog 12 #[.int .i64 n] w fun x w' => x = .returned (.tuple #[.string v, .int .i64 e]) ∧ Below w.heap.size w w') := by
  by_cases h : n < 0 ∨ 65536 < n
  · exact ⟨_, _, fun w => (seq_err n w h).mono fun x w' ⟨hx, hw⟩ => ⟨hx, hw ▸ Below.refl _ _⟩, fun w => (refSeq_err n w h).mono fun x w' ⟨hx, hw⟩ => ⟨hx, hw ▸ Below.refl _ _⟩⟩
  · obtain ⟨k, rfl⟩ : ∃ k : Nat, n = k := ⟨n.toNat, by omega⟩
    exact ⟨_, _, fun w => seq_ok k w (by omega), fun w => refSeq_ok k w (by omega)⟩
theorem reg_any (n : Int) : ∃ v e, (∀ w, Calls Try.prog 13 #[.int .i64 n] w fun x w' => x = .returned (.tuple #[.int .i64 v, .int .i64 e]) ∧ Below w.heap.size w w') ∧
    (∀ w, Calls Try.prog 14 #[.int .i64 n] w fun x w' => x = .returned (.tuple #[.int .i64 v, .int .i64 e]) ∧ Below w.heap.size w w') := by
  by_cases h : n < 0 ∨ 1048576 < n
  · exact ⟨_, _, fun w => reg13_err n w h, fun w => (refRegister_err n w h).mono fun x w' ⟨hx, hw⟩ => ⟨hx, hw ▸ Below.refl _ _⟩⟩
  · obtain ⟨k, rfl⟩ : ∃ k : Nat, n = k := ⟨n.toNat, by omega⟩
    exact ⟨_, _, fun w => reg13_ok k w (by omega), fun w => (ref14_ok k w (by omega)).mono fun x w' ⟨hx, hw⟩ => ⟨hx, hw ▸ Below.refl _ _⟩⟩
set_option maxHeartbeats 400000 in
theorem walk (a0 a1 : Int) (_ : (Lit.int .i64 a0).wf = true) (_ : (Lit.int .i64 a1).wf = true) (w : World) :
    Calls Try.prog 3 #[.int .i64 a0, .int .i64 a1] w fun e w' => e = .returned (.bool true) ∧ Below w.heap.size w w' := by
  obtain ⟨s, e, c1, c2⟩ := seq_any a0
  obtain ⟨r, f, c3, c4⟩ := reg_any a1
  by_cases hs : 5000 < a0 ∧ a0 ≤ 65536
  · obtain ⟨hs1, hs2⟩ := hs
    go_enter Try.func3, Try.ntmps3
    go_wp2_with (go_at_call 10; refine (awake_ok _).mono ?_; rintro e w1 ⟨rfl, hB1⟩)
    go_ret
    exact ⟨rfl, hB1⟩
  · by_cases h5 : 5000 < a0
    all_goals
      go_enter Try.func3, Try.ntmps3
      go_wp2_with (first | (go_at_call 10; refine (awake_ok _).mono ?_; rintro e w1 ⟨rfl, hB1⟩) | (go_at_call 11; refine (c1 _).mono ?_; rintro e w2 ⟨rfl, hB2⟩) | (go_at_call 12; refine (c2 _).mono ?_; rintro e w3 ⟨rfl, hB3⟩) | (go_at_call 13; refine (c3 _).mono ?_; rintro e w4 ⟨rfl, hB4⟩) | (go_at_call 14; refine (c4 _).mono ?_; rintro e w5 ⟨rfl, hB5⟩))
      go_ret
      exact ⟨rfl, bthen (bthen (bthen (bthen hB1 hB2) hB3) hB4) hB5⟩
set_option maxRecDepth 100000 in
theorem lifted (os : Os) (started : os.Started) (H : Type) (enc : TypeId × Value → H) :
    ReturnsInHanded {} Try.checked os 3 .any (Rows.scramblerSequencesSpec.pre6 enc Try.prog Try.f3 Rows.scramblerSequencesRow.domain false) (Rows.scramblerSequencesSpec.post enc Try.prog Try.f3 false true false false) := by
  refine returnsInHanded_of_change (C := Try.checked) own started (by kernel_rfl) Try.func3
    (ChangeSpec.witness6 (enc := enc) (C := Try.checked) false ⟨#[], #[.int .i64 0, .int .i64 0], []⟩ 8 (by kernel_rfl) (by kernel_rfl) (by kernel_rfl) (by kernel_rfl)) ?_
  intro W base args ds gs before hval0 hW hcnd _
  have hval : ∀ (j : Nat) t v, Try.f3.params[j]? = some t → args[j]? = some v → Value.okWide Try.prog W .any base t v := hval0
  have hW' := hW
  obtain ⟨p, q, hA0, hV, rfl, hfz, hnd⟩ := hW
  have hA : DataW.TrodAll enc Try.prog W 0 (fun _ => true) true Try.f3.params.toList args.toList ds p := hA0
  rw [Try.params3] at hA hval
  obtain ⟨v0, vs0, d0, ds0, p0, q0, hargs, rfl, rfl, h0, r0⟩ := trodAll_cons hA
  obtain ⟨v1, vs1, d1, ds1, p1, q1, rfl, rfl, rfl, h1, r1⟩ := trodAll_cons r0
  obtain ⟨rfl, rfl, rfl⟩ := trodAll_nil r1
  obtain rfl : args = #[v0, v1] := by cases args; simp_all
  obtain ⟨rfl, rfl⟩ := trodVars_none hV
  obtain ⟨a0, rfl, rfl, rfl, w0⟩ := open_int Try.underlying3 (hval 0 3 v0 rfl rfl) h0
  obtain ⟨a1, rfl, rfl, rfl, w1⟩ := open_int Try.underlying3 (hval 1 3 v1 rfl rfl) h1
  clear hA0 hval0
  simp only [List.append_nil] at hW'
  refine (walk a0 a1 w0 w1 W).mono fun e W' ⟨he, bel⟩ => ?_
  subst he
  exact ⟨_, rfl, _, _, _, [], _, [], hW', trodAll_mk1 (shut_bool Try.underlying4 _), (trodAll_cons_mk (shut_int Try.underlying3 w0) (trodAll_cons_mk (shut_int Try.underlying3 w1) trodAll_mk0)), rfl, bel.frame _, fun h => by cases h⟩
theorem over : Rows.scramblerSequencesRow.holds Try.pinned (OpenSpec.ofChange Rows.scramblerSequencesSpec) :=
  OpenClaim.holds_of_wide 3 Try.f3 rfl rfl rfl rfl rfl rfl rfl ⟨rfl, rfl, rfl, rfl, rfl⟩ rfl rfl rfl rfl rfl (by kernel_rfl) Try.func3 (by kernel_rfl)
    (of_decide_eq_true (by kernel_rfl)) (by unfold Func.isWrapper; first | (rw [if_pos (by decide +kernel)]; kernel_rfl) | (rw [if_neg (by decide +kernel)]; exact ⟨rfl, rfl⟩))
    (fun os started H enc _ => lifted os started H enc)
theorem proved : Rows.ScramblerSequencesSaid := over
#print axioms proved
end Go.Proofs.Ytmpojdjknahoiaa.scramblerSequences
