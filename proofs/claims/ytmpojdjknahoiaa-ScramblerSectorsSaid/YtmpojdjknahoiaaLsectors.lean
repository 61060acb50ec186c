/- ScramblerSectors: for every input the law returns true and leaves its arguments as they were. No condition. -/
import Derived.Test.YtmpojdjknahoiaaRows
import Derived.Test.YtmpojdjknahoiaaScrr
import Derived.WalkKit
import Derived.ProofKit
import Derived.OpenShut
namespace Go.Proofs.Ytmpojdjknahoiaa.scramblerSectors
open Go Go.ChangeShapes Go.WideShapes Go.ChangeAt Go.RowKit
open Go.ChangeMaps (open_string shut_string)
theorem own : ownKnob Try.prog.godebug = none := by kernel_rfl
theorem bthen {w w1 w2 : World} (h : Below w.heap.size w w1) (k : Below w1.heap.size w1 w2) : Below w.heap.size w w2 := h.trans (k.mono h.size)
theorem scr_any (s : ByteArray) : ∃ v e, (∀ w, Calls Try.prog 16 #[.string s] w fun x w' => x = .returned (.tuple #[.string v, .int .i64 e]) ∧ Below w.heap.size w w') ∧
    (∀ w, Calls Try.prog 17 #[.string s] w fun x w' => x = .returned (.tuple #[.string v, .int .i64 e]) ∧ Below w.heap.size w w') := by
  by_cases h : s.size = 2352
  · exact ⟨_, _, fun w => scramble_ok s w (by omega), fun w => refScramble_ok s w (by omega)⟩
  · exact ⟨_, _, fun w => (scramble_err s w h).mono fun x w' ⟨hx, hw⟩ => ⟨hx, hw ▸ Below.refl _ _⟩, fun w => (refScramble_err s w h).mono fun x w' ⟨hx, hw⟩ => ⟨hx, hw ▸ Below.refl _ _⟩⟩
set_option maxRecDepth 100000 in
set_option maxHeartbeats 400000 in
theorem walk (a0 : ByteArray) (_ : a0.size ≤ maxLen) (w : World) :
    Calls Try.prog 6 #[.string a0] w fun e w' => e = .returned (.bool true) ∧ Below w.heap.size w w' := by
  obtain ⟨s, e, c1, c2⟩ := scr_any a0
  by_cases hs : 2400 < a0.size
  · go_enter Try.func6, Try.ntmps6
    go_wp2_with (go_at_call 10; refine (awake_ok _).mono ?_; rintro e w1 ⟨rfl, hB1⟩)
    go_ret
    exact ⟨rfl, hB1⟩
  · go_enter Try.func6, Try.ntmps6
    go_wp2_with (first | (go_at_call 10; refine (awake_ok _).mono ?_; rintro e w1 ⟨rfl, hB1⟩) | (go_at_call 16; refine (c1 _).mono ?_; rintro e w2 ⟨rfl, hB2⟩) | (go_at_call 17; refine (c2 _).mono ?_; rintro e w3 ⟨rfl, hB3⟩))
    go_ret
    exact ⟨rfl, bthen (bthen hB1 hB2) hB3⟩
set_option maxRecDepth 100000 in
theorem lifted (os : Os) (started : os.Started) (H : Type) (enc : TypeId × Value → H) :
    ReturnsInHanded {} Try.checked os 6 .any (Rows.scramblerSectorsSpec.pre6 enc Try.prog Try.f6 Rows.scramblerSectorsRow.domain false) (Rows.scramblerSectorsSpec.post enc Try.prog Try.f6 false true false false) := by
  refine returnsInHanded_of_change (C := Try.checked) own started (by kernel_rfl) Try.func6
    (ChangeSpec.witness6 (enc := enc) (C := Try.checked) false ⟨#[], #[.string ByteArray.empty], []⟩ 8 (by kernel_rfl) (by kernel_rfl) (by kernel_rfl) (by kernel_rfl)) ?_
  intro W base args ds gs before hval0 hW hcnd _
  have hval : ∀ (j : Nat) t v, Try.f6.params[j]? = some t → args[j]? = some v → Value.okWide Try.prog W .any base t v := hval0
  have hW' := hW
  obtain ⟨p, q, hA0, hV, rfl, hfz, hnd⟩ := hW
  have hA : DataW.TrodAll enc Try.prog W 0 (fun _ => true) true Try.f6.params.toList args.toList ds p := hA0
  rw [Try.params6] at hA hval
  obtain ⟨v0, vs0, d0, ds0, p0, q0, hargs, rfl, rfl, h0, r0⟩ := trodAll_cons hA
  obtain ⟨rfl, rfl, rfl⟩ := trodAll_nil r0
  obtain rfl : args = #[v0] := by cases args; simp_all
  obtain ⟨rfl, rfl⟩ := trodVars_none hV
  obtain ⟨a0, rfl, rfl, rfl, w0⟩ := open_string Try.underlying9 (hval 0 9 v0 rfl rfl) h0
  clear hA0 hval0
  simp only [List.append_nil] at hW'
  refine (walk a0 w0 W).mono fun e W' ⟨he, bel⟩ => ?_
  subst he
  exact ⟨_, rfl, _, _, _, [], _, [], hW', trodAll_mk1 (shut_bool Try.underlying4 _), (trodAll_cons_mk (shut_string Try.underlying9 w0) trodAll_mk0), rfl, bel.frame _, fun h => by cases h⟩
theorem over : Rows.scramblerSectorsRow.holds Try.pinned (OpenSpec.ofChange Rows.scramblerSectorsSpec) :=
  OpenClaim.holds_of_wide 6 Try.f6 rfl rfl rfl rfl rfl rfl rfl ⟨rfl, rfl, rfl, rfl, rfl⟩ rfl rfl rfl rfl rfl (by kernel_rfl) Try.func6 (by kernel_rfl)
    (of_decide_eq_true (by kernel_rfl)) (by unfold Func.isWrapper; first | (rw [if_pos (by decide +kernel)]; kernel_rfl) | (rw [if_neg (by decide +kernel)]; exact ⟨rfl, rfl⟩))
    (fun os started H enc _ => lifted os started H enc)
theorem proved : Rows.ScramblerSectorsSaid := over
#print axioms proved
end Go.Proofs.Ytmpojdjknahoiaa.scramblerSectors
