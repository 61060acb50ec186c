/- SparingApart: for every input the law returns true and leaves its arguments as they were. No condition. -/
import Derived.Test.YtocncjimepnlcaaRows
import Derived.Test.YtocncjimepnlcaaCl3
import Derived.Test.YtocncjimepnlcaaSps
import Derived.Test.YtocncjimepnlcaaSpt
import Derived.Test.YtocncjimepnlcaaSpq
import Derived.ChangeSlices
import Derived.WalkKit
import Derived.ProofKit
import Derived.OpenShut
import Derived.ShutString
import Derived.ChangeOld
import Derived.Below
namespace Go.Proofs.Ytocncjimepnlcaa.sparingApart
set_option linter.unusedSimpArgs false
set_option linter.unusedVariables false
open Go Go.ChangeShapes Go.WideShapes Go.ChangeAt Go.RowKit
theorem u16_range {n : Int} (h : (Lit.int .u16 n).wf = true) : 0 ≤ n ∧ n ≤ 65535 := by
  have e1 : IntKind.u16.min = 0 := rfl
  have e2 : IntKind.u16.max = 65535 := rfl
  rw [Lit.wf, e1, e2, Bool.and_eq_true, decide_eq_true_eq, decide_eq_true_eq] at h
  exact ⟨h.1, h.2⟩
theorem cells25 : Try.prog.cellsOf 25 = 1 := by kernel_rfl
/-- The words of the argument. -/
def WL (w : World) (v : Value) (zs : List Int) : Prop := ∃ wa wc, v = .slice wa zs.length wc ∧
  ∀ k, k < zs.length → ∃ b off, wa = some ⟨b, off, none⟩ ∧ zs.length ≤ wc ∧ b < w.heap.size ∧ (∀ i, i < zs.length → w.cell? ⟨b, off + i, none⟩ = some (.int .u16 (zs.getD i 0))) ∧ ∀ z ∈ zs, 0 ≤ z ∧ z ≤ 65535
theorem open_words {H : Type} {enc : TypeId × Value → H} {w : World} {base : Nat} {spare : Nat → Bool} {held : Bool} {v : Value} {d : DataW H} {p : List MemPlace} (hd : DataW.Trod enc Try.prog w base spare held 24 v d p) (hv : ∃ a n c, v = .slice a n c) :
    ∃ zs, WL w v zs := by
  obtain ⟨a0, n0, c0, rfl⟩ := hv
  obtain ⟨fuel, hf⟩ := hd
  rcases Go.ChangeShapes.open_ints Try.underlying24 Try.underlying25 cells25 hf with ⟨e, -⟩ | ⟨a, len, cap, zs, e, hb, hl, hcm, hlen, -, hx, hwf⟩
  · have e' : Value.slice a0 n0 c0 = .slice none 0 0 := by simpa [Value.cells] using e
    exact ⟨[], none, 0, e', fun k hk => absurd hk (Nat.not_lt_zero _)⟩
  · have e' : Value.slice a0 n0 c0 = .slice (some a) len cap := by simpa [Value.cells] using e
    have hlz : len ≤ zs.length := by rw [hlen]; split <;> omega
    refine ⟨zs.take len, some a, cap, by rw [List.length_take, Nat.min_eq_left hlz]; exact e', fun k hk => ?_⟩
    rw [List.length_take, Nat.min_eq_left hlz] at hk ⊢
    obtain ⟨b, off, spot⟩ := a
    have hs : spot = none := by
      have := World.cell?_spot (hx 0 (by omega))
      simpa [Addr.add] using this
    subst hs
    have hbl := World.block_lt_of_cell? w _ (hx 0 (by omega))
    refine ⟨b, off, rfl, hl, by first | exact hbl | simpa [Addr.add] using hbl, fun i hi => ?_, fun z hz => u16_range (hwf z (List.mem_of_mem_take hz))⟩
    have := hx i (by omega)
    have e0 : (⟨b, off, none⟩ : Addr).add i = ⟨b, off + i, none⟩ := by unfold Addr.add; split <;> simp_all
    rw [e0] at this
    rw [this, List.getD_eq_getElem?_getD, List.getD_eq_getElem?_getD, List.getElem?_take_of_lt hi]
theorem walk (ps pc ss sc : Int) (v : Value) (zs : List Int) (x y : Int) (w : World) (hW : WL w v zs) (hx : (Lit.int .u16 x).wf = true) (hy : (Lit.int .u16 y).wf = true) :
    Calls Try.prog 3 #[.agg #[cN ps, cN pc], .agg #[cN ss, cN sc], v, .int .u16 x, .int .u16 y] w fun e w' => e = .returned (.bool true) ∧ Below w.heap.size w w' := by
  obtain ⟨wa, wc, rfl, hW⟩ := hW
  by_cases he : ps < 0 ∨ (0 ≤ ps ∧ 4096 < ps) ∨ (0 ≤ ps ∧ ps ≤ 4096 ∧ pc < 1) ∨ (0 ≤ ps ∧ ps ≤ 4096 ∧ 1 ≤ pc ∧ 4096 < pc) ∨ (0 ≤ ps ∧ ps ≤ 4096 ∧ 1 ≤ pc ∧ pc ≤ 4096 ∧ (20 : Int) < (zs.length : Int))
  · exact apart_early ps pc ss sc x y wa zs.length wc w he
  by_cases hb : ss < 0 ∨ (0 ≤ ss ∧ sc < 8) ∨ (0 ≤ ss ∧ 8 ≤ sc ∧ 64 < sc) ∨ (0 ≤ ss ∧ 8 ≤ sc ∧ sc ≤ 64 ∧ Int.tmod sc 8 ≠ 0) ∨ (0 ≤ ss ∧ 8 ≤ sc ∧ sc ≤ 64 ∧ Int.tmod sc 8 = 0 ∧ 4096 - sc < ss)
  · exact apart_bad ps pc ss sc x y wa zs.length wc w (by omega) (by omega) (by omega) (by omega) (by omega) fun W => new_bad ss sc W hb
  have g0 : 0 ≤ ss ∧ 8 ≤ sc ∧ sc ≤ 64 ∧ Int.tmod sc 8 = 0 ∧ ss ≤ 4096 - sc := by omega
  obtain ⟨g1, g2, g3, g4, g5⟩ := g0
  rw [Int.tmod_eq_emod_of_nonneg (by omega)] at g4
  obtain ⟨m, hm⟩ : ∃ m : Nat, sc = 8 * (m : Int) := ⟨(sc / 8).toNat, by omega⟩
  subst hm
  have hn := fun W => new_good ss m W g1 (by omega) (by omega) (by omega)
  have hL := newT_valid (start := ss) (n := m) (by omega) g1 (by omega)
  by_cases ho : ss < ps + pc ∧ ps < ss + 8 * (m : Int)
  · exact apart_over ps pc ss _ x y wa zs.length wc _ w (by omega) (by omega) (by omega) (by omega) (by omega) (by omega) (by omega) (by omega) (by omega) hn ho.1 ho.2
  · by_cases ho1 : ss < ps + pc
    · exact Two.apart_main2 ps pc ss _ x y wa wc zs _ w (by omega) (by omega) (by omega) (by omega) (by omega) (by omega) (by omega) (by omega) (by omega) (u16_range hx) (u16_range hy) ho1 (fun h => ho ⟨ho1, h⟩) hn hL hW
    · exact apart_main1 ps pc ss _ x y wa wc zs _ w (by omega) (by omega) (by omega) (by omega) (by omega) (by omega) (by omega) (by omega) (by omega) (u16_range hx) (u16_range hy) ho1 hn hL hW
theorem own : ownKnob Try.prog.godebug = none := by kernel_rfl
theorem laidOut : laidOutB Try.prog = true := by kernel_rfl
set_option maxRecDepth 100000 in
theorem lifted (os : Os) (started : os.Started) (H : Type) (enc : TypeId × Value → H) :
    ReturnsInHanded {} Try.checked os 3 .any (Rows.sparingApartSpec.pre6 enc Try.prog Try.f3 Rows.sparingApartRow.domain false) (Rows.sparingApartSpec.post enc Try.prog Try.f3 false true false false) := by
  refine returnsInHanded_of_change (C := Try.checked) own started (by kernel_rfl) Try.func3
    (ChangeSpec.witness6 (enc := enc) (C := Try.checked) false ⟨#[], #[.agg #[.int .i64 0, .int .i64 0], .agg #[.int .i64 0, .int .i64 0], .slice none 0 0, .int .u16 0, .int .u16 0], []⟩ 8 (by kernel_rfl) (by kernel_rfl) (by kernel_rfl) (by kernel_rfl)) ?_
  intro W base args ds gs before hval0 hW hcnd _
  have hval : ∀ (j : Nat) t v, Try.f3.params[j]? = some t → args[j]? = some v → Value.okWide Try.prog W .any base t v := hval0
  have hW' := hW
  obtain ⟨p, q, hA0, hV, rfl, hfz, hnd⟩ := hW
  have hA : DataW.TrodAll enc Try.prog W 0 (fun _ => true) true Try.f3.params.toList args.toList ds p := hA0
  rw [Try.params3] at hA hval
  obtain ⟨v0, vs0, d0, ds0, p0, q0, hargs, rfl, rfl, h0, r0⟩ := trodAll_cons hA
  obtain ⟨v1, vs1, d1, ds1, p1, q1, rfl, rfl, rfl, h1, r1⟩ := trodAll_cons r0
  obtain ⟨v2, vs2, d2, ds2, p2, q2, rfl, rfl, rfl, h2, r2⟩ := trodAll_cons r1
  obtain ⟨v3, vs3, d3, ds3, p3, q3, rfl, rfl, rfl, h3, r3⟩ := trodAll_cons r2
  obtain ⟨v4, vs4, d4, ds4, p4, q4, rfl, rfl, rfl, h4, r4⟩ := trodAll_cons r3
  obtain ⟨rfl, rfl, rfl⟩ := trodAll_nil r4
  obtain rfl : args = #[v0, v1, v2, v3, v4] := by cases args; simp_all
  obtain ⟨rfl, rfl⟩ := trodVars_none hV
  have k0 := h0
  have lt0 : ∀ x ∈ p0, x.block < W.heap.size := by obtain ⟨m, hm⟩ := k0; exact DataW.trod_lt m _ _ _ hm
  obtain ⟨a0, c0, rfl⟩ := open_span (hval 0 23 v0 rfl rfl) h0
  have k1 := h1
  have lt1 : ∀ x ∈ p1, x.block < W.heap.size := by obtain ⟨m, hm⟩ := k1; exact DataW.trod_lt m _ _ _ hm
  obtain ⟨a1, c1, rfl⟩ := open_span (hval 1 23 v1 rfl rfl) h1
  have k2 := h2
  have lt2 : ∀ x ∈ p2, x.block < W.heap.size := by obtain ⟨m, hm⟩ := k2; exact DataW.trod_lt m _ _ _ hm
  obtain ⟨l2, w2⟩ := open_words h2 (okWide_slice Try.underlying24 (hval 2 24 v2 rfl rfl))
  obtain ⟨a3, rfl, rfl, rfl, w3⟩ := open_int Try.underlying25 (hval 3 25 v3 rfl rfl) h3
  obtain ⟨a4, rfl, rfl, rfl, w4⟩ := open_int Try.underlying25 (hval 4 25 v4 rfl rfl) h4
  clear hA0 hval0
  refine (walk a0 c0 a1 c1 v2 l2 a3 a4 W w2 w3 w4).mono fun e W' ⟨he, bel⟩ => ?_
  subst he
  exact ⟨_, rfl, _, _, _, [], _, [], hW', trodAll_mk1 (shut_bool Try.underlying4 _), (trodAll_cons_mk (Below.trod laidOut (by kernel_rfl) (of_decide_eq_true (by kernel_rfl)) k0 bel lt0) (trodAll_cons_mk (Below.trod laidOut (by kernel_rfl) (of_decide_eq_true (by kernel_rfl)) k1 bel lt1) (trodAll_cons_mk (Below.trod laidOut (by kernel_rfl) (of_decide_eq_true (by kernel_rfl)) k2 bel lt2) (trodAll_cons_mk (shut_int Try.underlying25 w3) (trodAll_cons_mk (shut_int Try.underlying25 w4) trodAll_mk0))))), rfl, bel.frame _, fun h => by cases h⟩
theorem over : Rows.sparingApartRow.holds Try.pinned (OpenSpec.ofChange Rows.sparingApartSpec) :=
  OpenClaim.holds_of_wide 3 Try.f3 rfl rfl rfl rfl rfl rfl rfl ⟨rfl, rfl, rfl, rfl, rfl⟩ rfl rfl rfl rfl rfl (by as_aux_lemma => kernel_rfl) Try.func3 closed
    (of_decide_eq_true (by as_aux_lemma => kernel_rfl)) (by as_aux_lemma => (unfold Func.isWrapper; first | (rw [if_pos (by decide +kernel)]; kernel_rfl) | (rw [if_neg (by decide +kernel)]; exact ⟨rfl, rfl⟩)))
    (fun os started H enc _ => lifted os started H enc)
theorem proved : Rows.SparingApartSaid := over

end Go.Proofs.Ytocncjimepnlcaa.sparingApart
