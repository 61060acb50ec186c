/- DirrecordEncodes: for every input the law returns true and leaves its arguments as they were. No condition. -/
import Derived.Test.YtnmlephjhcmbhaaRows
import Derived.Test.YtnmlephjhcmbhaaCl3
import Derived.Test.YtnmlephjhcmbhaaDrv
import Derived.Test.YtnmlephjhcmbhaaOpn
import Derived.WalkKit
import Derived.ProofKit
import Derived.OpenShut
import Derived.ShutString
import Derived.ChangeOld
import Derived.Below
namespace Go.Proofs.Ytnmlephjhcmbhaa.dirrecordEncodes
set_option linter.unusedSimpArgs false
set_option linter.unusedVariables false
open Go Go.ChangeShapes Go.WideShapes Go.ChangeAt Go.RowKit
open Go.ChangeMaps (open_string shut_string)
set_option maxRecDepth 100000 in
set_option maxHeartbeats 400000 in
theorem walk_big1 (r : Rec) (i u : Int) (w : World) (h : (300 : Int) < r.id.size) : Calls Try.prog 3 #[.agg (recA r), cN i, cN u] w fun e w' => e = .returned (.bool true) ∧ Below w.heap.size w w' := by
  go_enter Try.func3, Try.ntmps3
  go_wp2_with (go_at_call 18; (with_reducible refine (awake_ok _).mono ?_); rintro e w1 ⟨rfl, hB1⟩; have H1 := cr8n w r hB1; obtain ⟨q0, q1, q2, q3, q4, q5, q6, q7⟩ := cells8 H1)
  go_ret
  exact ⟨rfl, bthen (bal (Below.refl _ w) _) hB1⟩
set_option maxRecDepth 100000 in
set_option maxHeartbeats 400000 in
theorem walk_big2 (r : Rec) (i u : Int) (w : World) (h0 : (r.id.size : Int) ≤ 300) (h : (300 : Int) < r.use.size) : Calls Try.prog 3 #[.agg (recA r), cN i, cN u] w fun e w' => e = .returned (.bool true) ∧ Below w.heap.size w w' := by
  go_enter Try.func3, Try.ntmps3
  go_wp2_with (go_at_call 18; (with_reducible refine (awake_ok _).mono ?_); rintro e w1 ⟨rfl, hB1⟩; have H1 := cr8n w r hB1; obtain ⟨q0, q1, q2, q3, q4, q5, q6, q7⟩ := cells8 H1)
  go_ret
  exact ⟨rfl, bthen (bal (Below.refl _ w) _) hB1⟩
set_option maxRecDepth 100000 in
set_option maxHeartbeats 2000000 in
theorem walk_small (r : Rec) (i u n e0 : Int) (s : ByteArray) (w : World) (h0 : (r.id.size : Int) ≤ 300) (h1 : (r.use.size : Int) ≤ 300)
    (c1 : ∀ W : World, Calls Try.prog 19 #[.agg (recA r)] W fun e w' => e = .returned (.tuple #[.string s, cN e0]) ∧ Below W.heap.size W w')
    (c2 : ∀ W : World, Calls Try.prog 20 #[.agg (recA r)] W fun e w' => e = .returned (.tuple #[.string s, cN e0]) ∧ Below W.heap.size W w')
    (c3 : ∀ W : World, Calls Try.prog 21 #[cN i, cN u] W fun e w' => e = .returned (cN n) ∧ W = w')
    (c4 : ∀ W : World, Calls Try.prog 22 #[cN i, cN u] W fun e w' => e = .returned (cN n) ∧ W = w') :
    Calls Try.prog 3 #[.agg (recA r), cN i, cN u] w fun e w' => e = .returned (.bool true) ∧ Below w.heap.size w w' := by
  go_enter Try.func3, Try.ntmps3
  go_wp2_with (first | (go_at_call 18; (with_reducible refine (awake_ok _).mono ?_); rintro e w1 ⟨rfl, hB1⟩; have H1 := cr8n w r hB1; obtain ⟨q0, q1, q2, q3, q4, q5, q6, q7⟩ := cells8 H1) | (go_at_call 19; (with_reducible refine (c1 _).mono ?_); rintro e w2 ⟨rfl, hB2⟩; have H2 := cr8 H1 hB2; obtain ⟨p0, p1, p2, p3, p4, p5, p6, p7⟩ := cells8 H2) | (go_at_call 20; (with_reducible refine (c2 _).mono ?_); rintro e w3 ⟨rfl, hB3⟩) | (go_at_call 21; (with_reducible refine (c3 _).mono ?_); rintro e w4 ⟨rfl, rfl⟩) | (go_at_call 22; (with_reducible refine (c4 _).mono ?_); rintro e w4 ⟨rfl, rfl⟩))
  go_ret
  refine ⟨?_, ?_⟩
  · simp
  · exact bthen (bthen (bthen (bal (Below.refl _ w) _) hB1) hB2) hB3
theorem walk (r : Rec) (i u : Int) (hs : r.id.size ≤ maxLen ∧ r.use.size ≤ maxLen) (_ : (Lit.int .i64 i).wf = true) (_ : (Lit.int .i64 u).wf = true) (w : World) : Calls Try.prog 3 #[.agg (recA r), cN i, cN u] w fun e w' => e = .returned (.bool true) ∧ Below w.heap.size w w' := by
  by_cases h0 : r.id.size ≤ 300
  · by_cases h1 : r.use.size ≤ 300
    · obtain ⟨d, de, hde, hd, hR, -, -⟩ := enc_cases r
      exact walk_small r i u _ _ _ w (by omega) (by omega) (fun W => encode_ok r d de W hde hd hs.1 hs.2 hR.main) (fun W => rencode_ok r d de W hde hd hs.1 hs.2 hR.ref) (fun W => size_ok i u W) (fun W => rsize_ok i u W)
    · exact walk_big2 r i u w (by omega) (by omega)
  · exact walk_big1 r i u w (by omega)
theorem own : ownKnob Try.prog.godebug = none := by kernel_rfl
theorem laidOut : laidOutB Try.prog = true := by kernel_rfl
set_option maxRecDepth 100000 in
theorem lifted (os : Os) (started : os.Started) (H : Type) (enc : TypeId × Value → H) :
    ReturnsInHanded {} Try.checked os 3 .any (Rows.dirrecordEncodesSpec.pre6 enc Try.prog Try.f3 Rows.dirrecordEncodesRow.domain false) (Rows.dirrecordEncodesSpec.post enc Try.prog Try.f3 false true false false) := by
  refine returnsInHanded_of_change (C := Try.checked) own started (by kernel_rfl) Try.func3
    (ChangeSpec.witness6 (enc := enc) (C := Try.checked) false ⟨#[], #[.agg #[.string ByteArray.empty, .int .i64 0, .int .i64 0, .int .i64 0, .int .i64 0, .int .i64 0, .int .i64 0, .string ByteArray.empty], .int .i64 0, .int .i64 0], []⟩ 8 (by kernel_rfl) (by kernel_rfl) (by kernel_rfl) (by kernel_rfl)) ?_
  intro W base args ds gs before hval0 hW hcnd _
  have hval : ∀ (j : Nat) t v, Try.f3.params[j]? = some t → args[j]? = some v → Value.okWide Try.prog W .any base t v := hval0
  have hW' := hW
  obtain ⟨p, q, hA0, hV, rfl, hfz, hnd⟩ := hW
  have hA : DataW.TrodAll enc Try.prog W 0 (fun _ => true) true Try.f3.params.toList args.toList ds p := hA0
  rw [Try.params3] at hA hval
  obtain ⟨v0, vs0, d0, ds0, p0, q0, hargs, rfl, rfl, h0, r0⟩ := trodAll_cons hA
  obtain ⟨v1, vs1, d1, ds1, p1, q1, rfl, rfl, rfl, h1, r1⟩ := trodAll_cons r0
  obtain ⟨v2, vs2, d2, ds2, p2, q2, rfl, rfl, rfl, h2, r2⟩ := trodAll_cons r1
  obtain ⟨rfl, rfl, rfl⟩ := trodAll_nil r2
  obtain rfl : args = #[v0, v1, v2] := by cases args; simp_all
  obtain ⟨rfl, rfl⟩ := trodVars_none hV
  have k0 := h0
  have lt0 : ∀ x ∈ p0, x.block < W.heap.size := by obtain ⟨m, hm⟩ := k0; exact DataW.trod_lt m _ _ _ hm
  obtain ⟨a0, rfl, w0⟩ := open_rec (hval 0 23 v0 rfl rfl) h0
  obtain ⟨a1, rfl, rfl, rfl, w1⟩ := open_int Try.underlying3 (hval 1 3 v1 rfl rfl) h1
  obtain ⟨a2, rfl, rfl, rfl, w2⟩ := open_int Try.underlying3 (hval 2 3 v2 rfl rfl) h2
  clear hA0 hval0
  refine (walk a0 a1 a2 w0 w1 w2 W).mono fun e W' ⟨he, bel⟩ => ?_
  subst he
  exact ⟨_, rfl, _, _, _, [], _, [], hW', trodAll_mk1 (shut_bool Try.underlying4 _), (trodAll_cons_mk (Below.trod laidOut (by kernel_rfl) (of_decide_eq_true (by kernel_rfl)) k0 bel lt0) (trodAll_cons_mk (shut_int Try.underlying3 w1) (trodAll_cons_mk (shut_int Try.underlying3 w2) trodAll_mk0))), rfl, bel.frame _, fun h => by cases h⟩
theorem over : Rows.dirrecordEncodesRow.holds Try.pinned (OpenSpec.ofChange Rows.dirrecordEncodesSpec) :=
  OpenClaim.holds_of_wide 3 Try.f3 rfl rfl rfl rfl rfl rfl rfl ⟨rfl, rfl, rfl, rfl, rfl⟩ rfl rfl rfl rfl rfl (by as_aux_lemma => kernel_rfl) Try.func3 closed
    (of_decide_eq_true (by as_aux_lemma => kernel_rfl)) (by as_aux_lemma => (unfold Func.isWrapper; first | (rw [if_pos (by decide +kernel)]; kernel_rfl) | (rw [if_neg (by decide +kernel)]; exact ⟨rfl, rfl⟩)))
    (fun os started H enc _ => lifted os started H enc)
theorem proved : Rows.DirrecordEncodesSaid := over
#print axioms proved
end Go.Proofs.Ytnmlephjhcmbhaa.dirrecordEncodes
