/- DirrecordShort: for every input the law returns true and leaves its arguments as they were. No condition. -/
import Derived.Test.YtnmlephjhcmbhaaRows
import Derived.Test.YtnmlephjhcmbhaaCl9
import Derived.Test.YtnmlephjhcmbhaaDrv
import Derived.Test.YtnmlephjhcmbhaaOpn
import Derived.WalkKit
import Derived.ProofKit
import Derived.OpenShut
import Derived.ShutString
import Derived.ChangeOld
import Derived.Below
namespace Go.Proofs.Ytnmlephjhcmbhaa.dirrecordShort
set_option linter.unusedSimpArgs false
set_option linter.unusedVariables false
open Go Go.ChangeShapes Go.WideShapes Go.ChangeAt Go.RowKit
open Go.ChangeMaps (open_string shut_string)
set_option maxRecDepth 100000 in
set_option maxHeartbeats 1000000 in
theorem walk_bad (r : Rec) (c e0 : Int) (w : World) (he : (e0 != 0) = true)
    (c1 : ∀ W : World, Calls Try.prog 19 #[.agg (recA r)] W fun e w' => e = .returned (.tuple #[.string ByteArray.empty, cN e0]) ∧ Below W.heap.size W w') :
    Calls Try.prog 9 #[.agg (recA r), .int .u8 c] w fun e w' => e = .returned (.bool true) ∧ Below w.heap.size w w' := by
  go_enter Try.func9, Try.ntmps9
  go_wp2_with (first | (go_at_call 18; (with_reducible refine (awake_ok _).mono ?_); rintro e w1 ⟨rfl, hB1⟩; have H1 := cr8n w r hB1; obtain ⟨q0, q1, q2, q3, q4, q5, q6, q7⟩ := cells8 H1) | (go_at_call 19; (with_reducible refine (c1 _).mono ?_); rintro e w2 ⟨rfl, hB2⟩))
  go_ret
  exact ⟨rfl, bthen (bthen (bal (Below.refl _ w) _) hB1) hB2⟩
set_option maxRecDepth 100000 in
set_option maxHeartbeats 2000000 in
theorem walk_good (r : Rec) (c k : Nat) (s : ByteArray) (w : World) (hc : c < 256) (hz : 34 ≤ s.size) (hz2 : s.size < 256) (hk : (c : Int) % (s.size : Int) = (k : Int)) (hks : k < s.size)
    (c1 : ∀ W : World, Calls Try.prog 19 #[.agg (recA r)] W fun e w' => e = .returned (.tuple #[.string s, cN 0]) ∧ Below W.heap.size W w')
    (c2 : ∀ W : World, Calls Try.prog 23 #[.string (s.extract 0 k)] W fun e w' => e = .returned (.tuple #[.agg recZ, cN 0, cN 10]) ∧ Below W.heap.size W w') :
    Calls Try.prog 9 #[.agg (recA r), .int .u8 (c : Int)] w fun e w' => e = .returned (.bool true) ∧ Below w.heap.size w w' := by
  have hm := recGuard
  have heq := recZ_eql
  have b0 : (0 : Int) < (s.size : Int) := by omega
  have z0 : ((s.size : Int) == 0) = false := by rw [beq_eq_false_iff_ne]; omega
  have w0 : IntKind.i64.wrap (c : Int) = c := by rw [IntKind.wrap_i64]; omega
  have b1 : (k : Int) ≤ (s.size : Int) := by omega
  go_enter Try.func9, Try.ntmps9
  go_wp2_with (first | (go_at_call 18; (with_reducible refine (awake_ok _).mono ?_); rintro e w1 ⟨rfl, hB1⟩; have H1 := cr8n w r hB1; obtain ⟨q0, q1, q2, q3, q4, q5, q6, q7⟩ := cells8 H1) | (go_at_call 19; (with_reducible refine (c1 _).mono ?_); rintro e w2 ⟨rfl, hB2⟩) | (go_at_call 23; (with_reducible refine (c2 _).mono ?_); rintro e w3 ⟨rfl, hB3⟩))
  go_ret
  exact ⟨rfl, bal (bthen (bthen (bthen (bal (Below.refl _ w) _) hB1) hB2) hB3) _⟩
theorem walk (r : Rec) (c : Int) (hs : r.id.size ≤ maxLen ∧ r.use.size ≤ maxLen) (hc : (Lit.int .u8 c).wf = true) (w : World) : Calls Try.prog 9 #[.agg (recA r), .int .u8 c] w fun e w' => e = .returned (.bool true) ∧ Below w.heap.size w w' := by
  obtain ⟨d, de, hde, hd, hR, hg, hb⟩ := enc_cases r
  have c1 := fun W => encode_ok r d de W hde hd hs.1 hs.2 hR.main
  by_cases he : errM r de = 0
  · obtain ⟨n, H, F⟩ := hg he
    rw [he] at c1
    generalize strM r d de = s at c1 F
    obtain ⟨f1, f2, -⟩ := size_facts F.hn F.h0
    obtain rfl := F.size
    have hc' := u8_of_wf hc
    obtain ⟨k, rfl⟩ : ∃ k : Nat, c = k := ⟨c.toNat, by omega⟩
    have hk : k % s.size < s.size := Nat.mod_lt _ (by omega)
    obtain ⟨a1, a2, a3⟩ := F.short (k % s.size) hk
    refine walk_good r k (k % s.size) s w (by omega) f1 (by omega) (Int.natCast_emod k s.size).symm hk c1 (fun W => ?_)
    have := decode_ok (s.extract 0 (k % s.size)) W (by rw [ByteArray.size_extract]; omega)
    rwa [a1, a2, a3] at this
  · rw [hb he] at c1
    exact walk_bad r c _ w (by rw [bne_iff_ne]; exact he) c1
theorem own : ownKnob Try.prog.godebug = none := by kernel_rfl
theorem laidOut : laidOutB Try.prog = true := by kernel_rfl
set_option maxRecDepth 100000 in
theorem lifted (os : Os) (started : os.Started) (H : Type) (enc : TypeId × Value → H) :
    ReturnsInHanded {} Try.checked os 9 .any (Rows.dirrecordShortSpec.pre6 enc Try.prog Try.f9 Rows.dirrecordShortRow.domain false) (Rows.dirrecordShortSpec.post enc Try.prog Try.f9 false true false false) := by
  refine returnsInHanded_of_change (C := Try.checked) own started (by kernel_rfl) Try.func9
    (ChangeSpec.witness6 (enc := enc) (C := Try.checked) false ⟨#[], #[.agg #[.string ByteArray.empty, .int .i64 0, .int .i64 0, .int .i64 0, .int .i64 0, .int .i64 0, .int .i64 0, .string ByteArray.empty], .int .u8 0], []⟩ 8 (by kernel_rfl) (by kernel_rfl) (by kernel_rfl) (by kernel_rfl)) ?_
  intro W base args ds gs before hval0 hW hcnd _
  have hval : ∀ (j : Nat) t v, Try.f9.params[j]? = some t → args[j]? = some v → Value.okWide Try.prog W .any base t v := hval0
  have hW' := hW
  obtain ⟨p, q, hA0, hV, rfl, hfz, hnd⟩ := hW
  have hA : DataW.TrodAll enc Try.prog W 0 (fun _ => true) true Try.f9.params.toList args.toList ds p := hA0
  rw [Try.params9] at hA hval
  obtain ⟨v0, vs0, d0, ds0, p0, q0, hargs, rfl, rfl, h0, r0⟩ := trodAll_cons hA
  obtain ⟨v1, vs1, d1, ds1, p1, q1, rfl, rfl, rfl, h1, r1⟩ := trodAll_cons r0
  obtain ⟨rfl, rfl, rfl⟩ := trodAll_nil r1
  obtain rfl : args = #[v0, v1] := by cases args; simp_all
  obtain ⟨rfl, rfl⟩ := trodVars_none hV
  have k0 := h0
  have lt0 : ∀ x ∈ p0, x.block < W.heap.size := by obtain ⟨m, hm⟩ := k0; exact DataW.trod_lt m _ _ _ hm
  obtain ⟨a0, rfl, w0⟩ := open_rec (hval 0 23 v0 rfl rfl) h0
  obtain ⟨a1, rfl, rfl, rfl, w1⟩ := open_int Try.underlying5 (hval 1 5 v1 rfl rfl) h1
  clear hA0 hval0
  refine (walk a0 a1 w0 w1 W).mono fun e W' ⟨he, bel⟩ => ?_
  subst he
  exact ⟨_, rfl, _, _, _, [], _, [], hW', trodAll_mk1 (shut_bool Try.underlying4 _), (trodAll_cons_mk (Below.trod laidOut (by kernel_rfl) (of_decide_eq_true (by kernel_rfl)) k0 bel lt0) (trodAll_cons_mk (shut_int Try.underlying5 w1) trodAll_mk0)), rfl, bel.frame _, fun h => by cases h⟩
theorem over : Rows.dirrecordShortRow.holds Try.pinned (OpenSpec.ofChange Rows.dirrecordShortSpec) :=
  OpenClaim.holds_of_wide 9 Try.f9 rfl rfl rfl rfl rfl rfl rfl ⟨rfl, rfl, rfl, rfl, rfl⟩ rfl rfl rfl rfl rfl (by as_aux_lemma => kernel_rfl) Try.func9 closed
    (of_decide_eq_true (by as_aux_lemma => kernel_rfl)) (by as_aux_lemma => (unfold Func.isWrapper; first | (rw [if_pos (by decide +kernel)]; kernel_rfl) | (rw [if_neg (by decide +kernel)]; exact ⟨rfl, rfl⟩)))
    (fun os started H enc _ => lifted os started H enc)
theorem proved : Rows.DirrecordShortSaid := over
#print axioms proved
end Go.Proofs.Ytnmlephjhcmbhaa.dirrecordShort
