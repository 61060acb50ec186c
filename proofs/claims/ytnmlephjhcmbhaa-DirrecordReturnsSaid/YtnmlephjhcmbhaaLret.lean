/- DirrecordReturns: for every input the law returns true and leaves its arguments as they were. No condition. -/
import Derived.Test.YtnmlephjhcmbhaaRows
import Derived.Test.YtnmlephjhcmbhaaCl5
import Derived.Test.YtnmlephjhcmbhaaDrv
import Derived.Test.YtnmlephjhcmbhaaOpn
import Derived.WalkKit
import Derived.ProofKit
import Derived.OpenShut
import Derived.ShutString
import Derived.ChangeOld
import Derived.Below
namespace Go.Proofs.Ytnmlephjhcmbhaa.dirrecordReturns
set_option linter.unusedSimpArgs false
set_option linter.unusedVariables false
open Go Go.ChangeShapes Go.WideShapes Go.ChangeAt Go.RowKit
open Go.ChangeMaps (open_string shut_string)
set_option maxRecDepth 100000 in
set_option maxHeartbeats 400000 in
theorem walk_big (r : Rec) (b : ByteArray) (w : World) (h : (300 : Int) < r.id.size ∨ ((r.id.size : Int) ≤ 300 ∧ (300 : Int) < r.use.size) ∨ ((r.id.size : Int) ≤ 300 ∧ (r.use.size : Int) ≤ 300 ∧ (100 : Int) < b.size)) : Calls Try.prog 5 #[.agg (recA r), .string b] w fun e w' => e = .returned (.bool true) ∧ Below w.heap.size w w' := by
  rcases h with h | ⟨h1, h2⟩ | ⟨h1, h2, h3⟩
  all_goals
    go_enter Try.func5, Try.ntmps5
    go_wp2_with (go_at_call 18; (with_reducible refine (awake_ok _).mono ?_); rintro e w1 ⟨rfl, hB1⟩; have H1 := cr8n w r hB1; obtain ⟨q0, q1, q2, q3, q4, q5, q6, q7⟩ := cells8 H1)
    go_ret
    exact ⟨rfl, bthen (bal (Below.refl _ w) _) hB1⟩
set_option maxRecDepth 100000 in
set_option maxHeartbeats 1000000 in
theorem walk_bad (r : Rec) (b : ByteArray) (e0 : Int) (w : World) (h1 : (r.id.size : Int) ≤ 300) (h2 : (r.use.size : Int) ≤ 300) (h3 : (b.size : Int) ≤ 100) (he : (e0 != 0) = true)
    (c1 : ∀ W : World, Calls Try.prog 19 #[.agg (recA r)] W fun e w' => e = .returned (.tuple #[.string ByteArray.empty, cN e0]) ∧ Below W.heap.size W w') :
    Calls Try.prog 5 #[.agg (recA r), .string b] w fun e w' => e = .returned (.bool true) ∧ Below w.heap.size w w' := by
  go_enter Try.func5, Try.ntmps5
  go_wp2_with (first | (go_at_call 18; (with_reducible refine (awake_ok _).mono ?_); rintro e w1 ⟨rfl, hB1⟩; have H1 := cr8n w r hB1; obtain ⟨q0, q1, q2, q3, q4, q5, q6, q7⟩ := cells8 H1) | (go_at_call 19; (with_reducible refine (c1 _).mono ?_); rintro e w2 ⟨rfl, hB2⟩))
  go_ret
  exact ⟨rfl, bthen (bthen (bal (Below.refl _ w) _) hB1) hB2⟩
set_option maxRecDepth 100000 in
set_option maxHeartbeats 2000000 in
theorem walk_good (r : Rec) (b s : ByteArray) (w : World) (h1 : (r.id.size : Int) ≤ 300) (h2 : (r.use.size : Int) ≤ 300) (h3 : (b.size : Int) ≤ 100) (hz : 34 ≤ s.size) (hz2 : s.size < 256) (hs0 : (s[0]'(by omega)).toNat = s.size)
    (c1 : ∀ W : World, Calls Try.prog 19 #[.agg (recA r)] W fun e w' => e = .returned (.tuple #[.string s, cN 0]) ∧ Below W.heap.size W w')
    (c2 : ∀ W : World, Calls Try.prog 23 #[.string (s ++ b)] W fun e w' => e = .returned (.tuple #[.agg (recA r), cN s.size, cN 0]) ∧ Below W.heap.size W w')
    (c3 : ∀ W : World, Calls Try.prog 21 #[cN r.id.size, cN r.use.size] W fun e w' => e = .returned (cN s.size) ∧ W = w')
    (c4 : ∀ W : World, Calls Try.prog 26 #[.string s] W fun e w' => ∃ v, e = .returned v ∧ IL W [] v w') :
    Calls Try.prog 5 #[.agg (recA r), .string b] w fun e w' => e = .returned (.bool true) ∧ Below w.heap.size w w' := by
  have hm := recGuard
  have heq := fun W => rec_eql r r W
  rw [recEq_refl] at heq
  have b0 : 0 < s.size := by omega
  have w0 : IntKind.i64.wrap (s.size : Int) = s.size := by rw [IntKind.wrap_i64]; omega
  go_enter Try.func5, Try.ntmps5
  go_wp2_with (first | (go_at_call 18; (with_reducible refine (awake_ok _).mono ?_); rintro e w1 ⟨rfl, hB1⟩; have H1 := cr8n w r hB1; obtain ⟨q0, q1, q2, q3, q4, q5, q6, q7⟩ := cells8 H1) | (go_at_call 19; (with_reducible refine (c1 _).mono ?_); rintro e w2 ⟨rfl, hB2⟩) | (go_at_call 23; (with_reducible refine (c2 _).mono ?_); rintro e w3 ⟨rfl, hB3⟩; have H4 := cr8a (cr8 (cr8 H1 hB2) hB3) (.cells (recA r) 23); obtain ⟨p0, p1, p2, p3, p4, p5, p6, p7⟩ := cells8 H4) | (go_at_call 21; (with_reducible refine (c3 _).mono ?_); rintro e w4 ⟨rfl, rfl⟩) | (go_at_call 26; (with_reducible refine (c4 _).mono ?_); rintro e w5 ⟨v, rfl, hI⟩; obtain ⟨a0, k0, rfl⟩ := il_nil hI))
  go_ret
  exact ⟨rfl, bthen (bal (bthen (bthen (bthen (bal (Below.refl _ w) _) hB1) hB2) hB3) _) hI.2⟩
theorem walk (r : Rec) (b : ByteArray) (hs : r.id.size ≤ maxLen ∧ r.use.size ≤ maxLen) (_ : b.size ≤ maxLen) (w : World) : Calls Try.prog 5 #[.agg (recA r), .string b] w fun e w' => e = .returned (.bool true) ∧ Below w.heap.size w w' := by
  by_cases h1 : r.id.size ≤ 300
  · by_cases h2 : r.use.size ≤ 300
    · by_cases h3 : b.size ≤ 100
      · obtain ⟨d, de, hde, hd, hR, hg, hb⟩ := enc_cases r
        have c1 := fun W => encode_ok r d de W hde hd hs.1 hs.2 hR.main
        by_cases he : errM r de = 0
        · obtain ⟨n, H, F⟩ := hg he
          rw [he] at c1
          generalize strM r d de = s at c1 F
          obtain ⟨f1, f2, -⟩ := size_facts F.hn F.h0
          obtain rfl := F.size
          obtain ⟨a1, a2, a3, a4, a5⟩ := F.alone
          obtain ⟨b1, b2, b3⟩ := F.behind b
          refine walk_good r b s w (by omega) (by omega) (by omega) f1 (by omega) (by rw [sB_get]; exact a4) c1 (fun W => ?_) (fun W => ?_) (fun W => ?_)
          · have := decode_ok (s ++ b) W (by rw [ByteArray.size_append]; omega)
            rwa [b1, b2, b3] at this
          · have := size_ok r.id.size r.use.size W
            rwa [F.hn] at this
          · have := differ_ok s W (by omega)
            rwa [a5] at this
        · rw [hb he] at c1
          exact walk_bad r b _ w (by omega) (by omega) (by omega) (by rw [bne_iff_ne]; exact he) c1
      · exact walk_big r b w (.inr (.inr ⟨by omega, by omega, by omega⟩))
    · exact walk_big r b w (.inr (.inl ⟨by omega, by omega⟩))
  · exact walk_big r b w (.inl (by omega))
theorem own : ownKnob Try.prog.godebug = none := by kernel_rfl
theorem laidOut : laidOutB Try.prog = true := by kernel_rfl
set_option maxRecDepth 100000 in
theorem lifted (os : Os) (started : os.Started) (H : Type) (enc : TypeId × Value → H) :
    ReturnsInHanded {} Try.checked os 5 .any (Rows.dirrecordReturnsSpec.pre6 enc Try.prog Try.f5 Rows.dirrecordReturnsRow.domain false) (Rows.dirrecordReturnsSpec.post enc Try.prog Try.f5 false true false false) := by
  refine returnsInHanded_of_change (C := Try.checked) own started (by kernel_rfl) Try.func5
    (ChangeSpec.witness6 (enc := enc) (C := Try.checked) false ⟨#[], #[.agg #[.string ByteArray.empty, .int .i64 0, .int .i64 0, .int .i64 0, .int .i64 0, .int .i64 0, .int .i64 0, .string ByteArray.empty], .string ByteArray.empty], []⟩ 8 (by kernel_rfl) (by kernel_rfl) (by kernel_rfl) (by kernel_rfl)) ?_
  intro W base args ds gs before hval0 hW hcnd _
  have hval : ∀ (j : Nat) t v, Try.f5.params[j]? = some t → args[j]? = some v → Value.okWide Try.prog W .any base t v := hval0
  have hW' := hW
  obtain ⟨p, q, hA0, hV, rfl, hfz, hnd⟩ := hW
  have hA : DataW.TrodAll enc Try.prog W 0 (fun _ => true) true Try.f5.params.toList args.toList ds p := hA0
  rw [Try.params5] at hA hval
  obtain ⟨v0, vs0, d0, ds0, p0, q0, hargs, rfl, rfl, h0, r0⟩ := trodAll_cons hA
  obtain ⟨v1, vs1, d1, ds1, p1, q1, rfl, rfl, rfl, h1, r1⟩ := trodAll_cons r0
  obtain ⟨rfl, rfl, rfl⟩ := trodAll_nil r1
  obtain rfl : args = #[v0, v1] := by cases args; simp_all
  obtain ⟨rfl, rfl⟩ := trodVars_none hV
  have k0 := h0
  have lt0 : ∀ x ∈ p0, x.block < W.heap.size := by obtain ⟨m, hm⟩ := k0; exact DataW.trod_lt m _ _ _ hm
  obtain ⟨a0, rfl, w0⟩ := open_rec (hval 0 23 v0 rfl rfl) h0
  obtain ⟨a1, rfl, rfl, rfl, w1⟩ := open_string Try.underlying9 (hval 1 9 v1 rfl rfl) h1
  clear hA0 hval0
  refine (walk a0 a1 w0 w1 W).mono fun e W' ⟨he, bel⟩ => ?_
  subst he
  exact ⟨_, rfl, _, _, _, [], _, [], hW', trodAll_mk1 (shut_bool Try.underlying4 _), (trodAll_cons_mk (Below.trod laidOut (by kernel_rfl) (of_decide_eq_true (by kernel_rfl)) k0 bel lt0) (trodAll_cons_mk (shut_string Try.underlying9 w1) trodAll_mk0)), rfl, bel.frame _, fun h => by cases h⟩
theorem over : Rows.dirrecordReturnsRow.holds Try.pinned (OpenSpec.ofChange Rows.dirrecordReturnsSpec) :=
  OpenClaim.holds_of_wide 5 Try.f5 rfl rfl rfl rfl rfl rfl rfl ⟨rfl, rfl, rfl, rfl, rfl⟩ rfl rfl rfl rfl rfl (by as_aux_lemma => kernel_rfl) Try.func5 closed
    (of_decide_eq_true (by as_aux_lemma => kernel_rfl)) (by as_aux_lemma => (unfold Func.isWrapper; first | (rw [if_pos (by decide +kernel)]; kernel_rfl) | (rw [if_neg (by decide +kernel)]; exact ⟨rfl, rfl⟩)))
    (fun os started H enc _ => lifted os started H enc)
theorem proved : Rows.DirrecordReturnsSaid := over
#print axioms proved
end Go.Proofs.Ytnmlephjhcmbhaa.dirrecordReturns
