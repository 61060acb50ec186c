/- ScramblerPeriods: for every input the law returns true and leaves its arguments as they were. No condition. -/
import Derived.Test.YtmpojdjknahoiaaRows
import Derived.Test.YtmpojdjknahoiaaCon
import Derived.WalkKit
import Derived.ProofKit
import Derived.OpenShut
namespace Go.Proofs.Ytmpojdjknahoiaa.scramblerPeriods
open Go Go.ChangeShapes Go.WideShapes Go.ChangeAt Go.RowKit
open Go.ChangeMaps (open_string shut_string)
theorem own : ownKnob Try.prog.godebug = none := by kernel_rfl
theorem bthen {w w1 w2 : World} (h : Below w.heap.size w w1) (k : Below w1.heap.size w1 w2) : Below w.heap.size w w2 := h.trans (k.mono h.size)
set_option maxHeartbeats 400000 in
theorem walk (a0 a1 a2 : Int) (w0 : (Lit.int .u16 a0).wf = true) (w1 : (Lit.int .u16 a1).wf = true) (w2 : (Lit.int .u8 a2).wf = true) (w : World) :
    Calls Try.prog 5 #[.int .u16 a0, .int .u16 a1, .int .u8 a2] w fun e w' => e = .returned (.bool true) ∧ Below w.heap.size w w' := by
  have b0 := bounds_u16 w0
  have b1 := bounds_u16 w1
  have b2 := bounds_u8 w2
  obtain ⟨i, hi⟩ : ∃ i : Nat, a0 % 32767 = i := ⟨(a0 % 32767).toNat, by omega⟩
  obtain ⟨k, hk⟩ : ∃ k : Nat, a1 % 32767 = k := ⟨(a1 % 32767).toNat, by omega⟩
  obtain ⟨m, hm⟩ : ∃ m : Nat, a2 % 30 = m := ⟨(a2 % 30).toNat, by omega⟩
  have li : i < 32767 := by omega
  have lk : k < 32767 := by omega
  have lm : m < 30 := by omega
  have c1 := fun W => reg13_ok i W (by omega)
  have c2 := fun W => reg13_ok k W (by omega)
  have c3 := fun W => reg13_ok (i + 32767 * m) W (by omega)
  rw [reg_add_mul, show ((i + 32767 * m : Nat) : Int) = (i : Int) + 32767 * (m : Int) by omega] at c3
  by_cases hik : i = k
  · subst hik
    go_enter Try.func5, Try.ntmps5
    go_wp2_with (first | (go_at_call 10; refine (awake_ok _).mono ?_; rintro e w1 ⟨rfl, hB1⟩) | (go_at_call 13; (with_reducible refine (c3 _).mono ?_); rintro e w4 ⟨rfl, hB4⟩) | (go_at_call 13; (with_reducible refine (c1 _).mono ?_); rintro e w3 ⟨rfl, hB3⟩))
    go_ret
    exact ⟨rfl, bthen (bthen (bthen hB1 ‹_›) ‹_›) ‹_›⟩
  · have h1 : ((reg i : Int) == (reg k : Int)) = false := by
      have hne : reg i ≠ reg k := fun h => hik (reg_inj li lk h)
      simp; omega
    have h2 : ((i : Int) == (k : Int)) = false := by simp; omega
    go_enter Try.func5, Try.ntmps5
    go_wp2_with (first | (go_at_call 10; refine (awake_ok _).mono ?_; rintro e w1 ⟨rfl, hB1⟩) | (go_at_call 13; (with_reducible refine (c3 _).mono ?_); rintro e w4 ⟨rfl, hB4⟩) | (go_at_call 13; (with_reducible refine (c2 _).mono ?_); rintro e w3 ⟨rfl, hB3⟩) | (go_at_call 13; (with_reducible refine (c1 _).mono ?_); rintro e w2 ⟨rfl, hB2⟩))
    go_ret
    exact ⟨rfl, bthen (bthen (bthen hB1 ‹_›) ‹_›) ‹_›⟩
set_option maxRecDepth 100000 in
theorem lifted (os : Os) (started : os.Started) (H : Type) (enc : TypeId × Value → H) :
    ReturnsInHanded {} Try.checked os 5 .any (Rows.scramblerPeriodsSpec.pre6 enc Try.prog Try.f5 Rows.scramblerPeriodsRow.domain false) (Rows.scramblerPeriodsSpec.post enc Try.prog Try.f5 false true false false) := by
  refine returnsInHanded_of_change (C := Try.checked) own started (by kernel_rfl) Try.func5
    (ChangeSpec.witness6 (enc := enc) (C := Try.checked) false ⟨#[], #[.int .u16 0, .int .u16 0, .int .u8 0], []⟩ 8 (by kernel_rfl) (by kernel_rfl) (by kernel_rfl) (by kernel_rfl)) ?_
  intro W base args ds gs before hval0 hW hcnd _
  have hval : ∀ (j : Nat) t v, Try.f5.params[j]? = some t → args[j]? = some v → Value.okWide Try.prog W .any base t v := hval0
  have hW' := hW
  obtain ⟨p, q, hA0, hV, rfl, hfz, hnd⟩ := hW
  have hA : DataW.TrodAll enc Try.prog W 0 (fun _ => true) true Try.f5.params.toList args.toList ds p := hA0
  rw [Try.params5] at hA hval
  obtain ⟨v0, vs0, d0, ds0, p0, q0, hargs, rfl, rfl, h0, r0⟩ := trodAll_cons hA
  obtain ⟨v1, vs1, d1, ds1, p1, q1, rfl, rfl, rfl, h1, r1⟩ := trodAll_cons r0
  obtain ⟨v2, vs2, d2, ds2, p2, q2, rfl, rfl, rfl, h2, r2⟩ := trodAll_cons r1
  obtain ⟨rfl, rfl, rfl⟩ := trodAll_nil r2
  obtain rfl : args = #[v0, v1, v2] := by cases args; simp_all
  obtain ⟨rfl, rfl⟩ := trodVars_none hV
  obtain ⟨a0, rfl, rfl, rfl, w0⟩ := open_int Try.underlying29 (hval 0 29 v0 rfl rfl) h0
  obtain ⟨a1, rfl, rfl, rfl, w1⟩ := open_int Try.underlying29 (hval 1 29 v1 rfl rfl) h1
  obtain ⟨a2, rfl, rfl, rfl, w2⟩ := open_int Try.underlying5 (hval 2 5 v2 rfl rfl) h2
  clear hA0 hval0
  simp only [List.append_nil] at hW'
  refine (walk a0 a1 a2 w0 w1 w2 W).mono fun e W' ⟨he, bel⟩ => ?_
  subst he
  exact ⟨_, rfl, _, _, _, [], _, [], hW', trodAll_mk1 (shut_bool Try.underlying4 _), (trodAll_cons_mk (shut_int Try.underlying29 w0) (trodAll_cons_mk (shut_int Try.underlying29 w1) (trodAll_cons_mk (shut_int Try.underlying5 w2) trodAll_mk0))), rfl, bel.frame _, fun h => by cases h⟩
theorem over : Rows.scramblerPeriodsRow.holds Try.pinned (OpenSpec.ofChange Rows.scramblerPeriodsSpec) :=
  OpenClaim.holds_of_wide 5 Try.f5 rfl rfl rfl rfl rfl rfl rfl ⟨rfl, rfl, rfl, rfl, rfl⟩ rfl rfl rfl rfl rfl (by kernel_rfl) Try.func5 (by kernel_rfl)
    (of_decide_eq_true (by kernel_rfl)) (by unfold Func.isWrapper; first | (rw [if_pos (by decide +kernel)]; kernel_rfl) | (rw [if_neg (by decide +kernel)]; exact ⟨rfl, rfl⟩))
    (fun os started H enc _ => lifted os started H enc)
theorem proved : Rows.ScramblerPeriodsSaid := over
#print axioms proved
end Go.Proofs.Ytmpojdjknahoiaa.scramblerPeriods
