/- SparingReplaces: for every input the law returns true and leaves its arguments as they were. No condition. -/
import Derived.Test.YtocncjimepnlcaaGreatRows
import Derived.Test.YtocncjimepnlcaaGreatCl4
import Derived.Test.YtocncjimepnlcaaGreatCnl
import Derived.Test.YtocncjimepnlcaaGreatSpq
import Derived.ChangeSlices
import Derived.WalkKit
import Derived.ProofKit
import Derived.OpenShut
import Derived.ShutString
import Derived.ChangeOld
import Derived.Below
namespace Go.Proofs.YtocncjimepnlcaaGreat.sparingReplaces
set_option linter.unusedSimpArgs false
set_option linter.unusedVariables false
open Go Go.ChangeShapes Go.WideShapes Go.ChangeAt Go.RowKit
theorem cells3i : Tryz.prog.cellsOf 3 = 1 := by kernel_rfl
theorem open_ints {H : Type} {enc : TypeId × Value → H} {w : World} {base : Nat} {spare : Nat → Bool} {held : Bool} {a0 : Option Addr} {n0 c0 : Nat} {d : DataW H} {p : List MemPlace} (hd : DataW.Trod enc Tryz.prog w base spare held 37 (.slice a0 n0 c0) d p) :
    ∃ zs : List Int, n0 = zs.length ∧ RowI w a0 zs := by
  obtain ⟨fuel, hf⟩ := hd
  rcases Go.ChangeShapes.open_ints Tryz.underlying37 Tryz.underlying3 cells3i hf with ⟨e, -⟩ | ⟨a, len, cap, zs, e, hb, hl, hcm, hlen, -, hx, hwf⟩
  · have e' : Value.slice a0 n0 c0 = .slice none 0 0 := by simpa [Value.cells] using e
    injection e' with e1 e2 e3
    subst e2
    exact ⟨[], rfl, fun k hk => absurd hk (Nat.not_lt_zero _)⟩
  · have e' : Value.slice a0 n0 c0 = .slice (some a) len cap := by simpa [Value.cells] using e
    injection e' with e1 e2 e3
    subst e1 e2 e3
    have hlz : n0 ≤ zs.length := by rw [hlen]; split <;> omega
    refine ⟨zs.take n0, by rw [List.length_take, Nat.min_eq_left hlz], fun k hk => ?_⟩
    rw [List.length_take, Nat.min_eq_left hlz] at hk
    obtain ⟨b, off, spot⟩ := a
    have hs : spot = none := by
      have := World.cell?_spot (hx 0 (by omega))
      simpa [Addr.add] using this
    subst hs
    have hbl := World.block_lt_of_cell? w _ (hx 0 (by omega))
    refine ⟨b, off, rfl, by first | exact hbl | simpa [Addr.add] using hbl, ?_⟩
    have := hx k (by omega)
    have e0 : (⟨b, off, none⟩ : Addr).add k = ⟨b, off + k, none⟩ := by unfold Addr.add; split <;> simp_all
    rw [e0] at this
    rw [this, List.getD_eq_getElem?_getD, List.getD_eq_getElem?_getD, List.getElem?_take_of_lt hk]
theorem i64_lt {n : Int} (h : (Lit.int .i64 n).wf = true) : n < 9223372036854775808 := by
  have e1 : IntKind.i64.min = -9223372036854775808 := rfl
  have e2 : IntKind.i64.max = 9223372036854775807 := rfl
  rw [Lit.wf, e1, e2, Bool.and_eq_true, decide_eq_true_eq, decide_eq_true_eq] at h
  omega
theorem walk (s : Int) (v : Value) (l : List Sp) (p0 p1 x : Int) (a : Option Addr) (c : Nat) (ks : List Int) (w : World) (h : SL w v l) (hx : (Lit.int .i64 x).wf = true) (hr : RowI w a ks) :
    Calls Tryz.prog 4 #[.agg #[cN s, v], .agg #[cN p0, cN p1], cN x, .slice a ks.length c] w fun e w' => e = .returned (.bool true) ∧ Below w.heap.size w w' := by
  obtain ⟨a1, c1, rfl⟩ := h.form
  by_cases hn : (20 : Int) < (l.length : Int)
  · exact lsrepl_big p0 p1 s a1 c1 l x a c ks w hn h hr
  · by_cases hm : (6 : Int) < (ks.length : Int)
    · exact lsrepl_many p0 p1 s a1 c1 l x a c ks w hn hm h hr
    · exact lsrepl_small p0 p1 s a1 c1 l x a c ks w hn hm (i64_lt hx) h hr
theorem own : ownKnob Tryz.prog.godebug = none := by kernel_rfl
theorem laidOut : laidOutB Tryz.prog = true := by kernel_rfl
set_option maxRecDepth 100000 in
theorem lifted (os : Os) (started : os.Started) (H : Type) (enc : TypeId × Value → H) :
    ReturnsInHanded {} Tryz.checked os 4 .any (Rows.sparingReplacesSpec.pre6 enc Tryz.prog Tryz.f4 Rows.sparingReplacesRow.domain false) (Rows.sparingReplacesSpec.post enc Tryz.prog Tryz.f4 false true false false) := by
  refine returnsInHanded_of_change (C := Tryz.checked) own started (by kernel_rfl) Tryz.func4
    (ChangeSpec.witness6 (enc := enc) (C := Tryz.checked) false ⟨#[], #[.agg #[.int .i64 0, .slice none 0 0], .agg #[.int .i64 0, .int .i64 0], .int .i64 0, .slice none 0 0], []⟩ 8 (by kernel_rfl) (by kernel_rfl) (by kernel_rfl) (by kernel_rfl)) ?_
  intro W base args ds gs before hval0 hW hcnd _
  have hval : ∀ (j : Nat) t v, Tryz.f4.params[j]? = some t → args[j]? = some v → Value.okWide Tryz.prog W .any base t v := hval0
  have hW' := hW
  obtain ⟨p, q, hA0, hV, rfl, hfz, hnd⟩ := hW
  have hA : DataW.TrodAll enc Tryz.prog W 0 (fun _ => true) true Tryz.f4.params.toList args.toList ds p := hA0
  rw [Tryz.params4] at hA hval
  obtain ⟨v0, vs0, d0, ds0, p0, q0, hargs, rfl, rfl, h0, r0⟩ := trodAll_cons hA
  obtain ⟨v1, vs1, d1, ds1, p1, q1, rfl, rfl, rfl, h1, r1⟩ := trodAll_cons r0
  obtain ⟨v2, vs2, d2, ds2, p2, q2, rfl, rfl, rfl, h2, r2⟩ := trodAll_cons r1
  obtain ⟨v3, vs3, d3, ds3, p3, q3, rfl, rfl, rfl, h3, r3⟩ := trodAll_cons r2
  obtain ⟨rfl, rfl, rfl⟩ := trodAll_nil r3
  obtain rfl : args = #[v0, v1, v2, v3] := by cases args; simp_all
  obtain ⟨rfl, rfl⟩ := trodVars_none hV
  have k0 := h0
  have lt0 : ∀ x ∈ p0, x.block < W.heap.size := by obtain ⟨m, hm⟩ := k0; exact DataW.trod_lt m _ _ _ hm
  obtain ⟨a0, c0, l0, rfl, w0⟩ := open_table (hval 0 26 v0 rfl rfl) h0
  have k1 := h1
  have lt1 : ∀ x ∈ p1, x.block < W.heap.size := by obtain ⟨m, hm⟩ := k1; exact DataW.trod_lt m _ _ _ hm
  obtain ⟨a1, c1, rfl⟩ := open_span (hval 1 23 v1 rfl rfl) h1
  obtain ⟨a2, rfl, rfl, rfl, w2⟩ := open_int Tryz.underlying3 (hval 2 3 v2 rfl rfl) h2
  have k3 := h3
  have lt3 : ∀ x ∈ p3, x.block < W.heap.size := by obtain ⟨m, hm⟩ := k3; exact DataW.trod_lt m _ _ _ hm
  obtain ⟨a3, n3, c3, rfl⟩ := okWide_slice Tryz.underlying37 (hval 3 37 v3 rfl rfl)
  obtain ⟨l3, rfl, w3⟩ := open_ints h3
  clear hA0 hval0
  refine (walk a0 c0 l0 a1 c1 a2 a3 c3 l3 W w0 w2 w3).mono fun e W' ⟨he, bel⟩ => ?_
  subst he
  exact ⟨_, rfl, _, _, _, [], _, [], hW', trodAll_mk1 (shut_bool Tryz.underlying4 _), (trodAll_cons_mk (Below.trod laidOut (by kernel_rfl) (of_decide_eq_true (by kernel_rfl)) k0 bel lt0) (trodAll_cons_mk (Below.trod laidOut (by kernel_rfl) (of_decide_eq_true (by kernel_rfl)) k1 bel lt1) (trodAll_cons_mk (shut_int Tryz.underlying3 w2) (trodAll_cons_mk (Below.trod laidOut (by kernel_rfl) (of_decide_eq_true (by kernel_rfl)) k3 bel lt3) trodAll_mk0)))), rfl, bel.frame _, fun h => by cases h⟩
theorem over : Rows.sparingReplacesRow.holds Tryz.pinned (OpenSpec.ofChange Rows.sparingReplacesSpec) :=
  OpenClaim.holds_of_wide 4 Tryz.f4 rfl rfl rfl rfl rfl rfl rfl ⟨rfl, rfl, rfl, rfl, rfl⟩ rfl rfl rfl rfl rfl (by as_aux_lemma => kernel_rfl) Tryz.func4 closed
    (of_decide_eq_true (by as_aux_lemma => kernel_rfl)) (by as_aux_lemma => (unfold Func.isWrapper; first | (rw [if_pos (by decide +kernel)]; kernel_rfl) | (rw [if_neg (by decide +kernel)]; exact ⟨rfl, rfl⟩)))
    (fun os started H enc _ => lifted os started H enc)
theorem proved : Rows.SparingReplacesSaid := over
#print axioms proved
end Go.Proofs.YtocncjimepnlcaaGreat.sparingReplaces
