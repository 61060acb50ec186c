/- ScramblerFinds: for every input the law returns true and leaves its arguments as they were. No condition. -/
import Derived.Test.YtmpojdjknahoiaaRows
import Derived.Test.YtmpojdjknahoiaaFin
import Derived.WalkKit
import Derived.ProofKit
import Derived.OpenShut
import Derived.HandedShaped
namespace Go.Proofs.Ytmpojdjknahoiaa.scramblerFinds
open Go Go.ChangeShapes Go.WideShapes Go.ChangeAt Go.RowKit
open Go.ChangeMaps (open_string shut_string)
attribute [local irreducible] seqL
theorem own : ownKnob Try.prog.godebug = none := by kernel_rfl
theorem bthen {w w1 w2 : World} (h : Below w.heap.size w w1) (k : Below w1.heap.size w1 w2) : Below w.heap.size w w2 := h.trans (k.mono h.size)
set_option maxRecDepth 100000 in
set_option maxHeartbeats 800000 in
theorem walk_core (s X : ByteArray) (a1 a2 n m r : Int) (ok : Bool) (f l : Nat) (w : World) (h1 : a1 % 20000 = f) (h2 : a2 % 30 + 2 = l) (p1 : 0 ≤ a1) (p1' : a1 ≤ 65535) (p2 : 0 ≤ a2) (p2' : a2 ≤ 255)
    (hX : X.size = f + l) (r0 : 0 ≤ r) (rf : r ≤ f) (r4 : 4 ≤ l → r = f)
    (hw0 : 0 < w.heap.size) (hm : w.cell? ⟨0, 0, none⟩ = some (.int .i64 m))
    (c1 : ∀ W : World, W.cell? ⟨0, 0, none⟩ = some (.int .i64 m) → Calls Try.prog 19 #[.string s] W fun e w' => e = .returned (.tuple #[.int .i64 n, .bool ok]) ∧ Below W.heap.size W w')
    (c2 : ∀ W : World, Calls Try.prog 20 #[.string s] W fun e w' => e = .returned (.tuple #[.int .i64 n, .bool ok]) ∧ Below W.heap.size W w')
    (c3 : ∀ W : World, Calls Try.prog 11 #[.int .i64 ((f : Int) + l)] W fun e w' => e = .returned (.tuple #[.string X, .int .i64 0]) ∧ Below W.heap.size W w')
    (c4 : ∀ W : World, W.cell? ⟨0, 0, none⟩ = some (.int .i64 m) → Calls Try.prog 19 #[.string (X.extract f (f + l))] W fun e w' => e = .returned (.tuple #[.int .i64 r, .bool true]) ∧ Below W.heap.size W w') :
    Calls Try.prog 8 #[.string s, .int .u16 a1, .int .u8 a2] w fun e w' => e = .returned (.bool true) ∧ Below w.heap.size w w' := by
  have h2' : 2 + a2 % 30 = l := by omega
  have hXi : (X.size : Int) = (f : Int) + l := by omega
  have f0 : (0 : Int) ≤ (f : Int) := Int.natCast_nonneg f
  have f1 : (f : Int) ≤ (X.size : Int) := by omega
  have f2 : (f : Int).toNat = f := Int.toNat_natCast f
  rcases (show (l : Int) < 4 ∨ (r = (f : Int) ∧ ¬ (l : Int) < 4) by omega) with hl | ⟨rfl, hl⟩
  all_goals
    clear r4
    go_enter Try.func8, Try.ntmps8
    go_wp2_with (first | (go_at_call 10; refine (awake_ok _).mono ?_; rintro e w1 ⟨rfl, hB1⟩; have hm1 := (hB1.cell (p := ⟨0, 0, none⟩) hw0).trans hm) | (go_at_call 19; (with_reducible refine (c1 _ hm1).mono ?_); rintro e w2 ⟨rfl, hB2⟩; clear c1) | (go_at_call 20; (with_reducible refine (c2 _).mono ?_); rintro e w3 ⟨rfl, hB3⟩; clear c2; have hB23 := bthen (bthen hB1 hB2) hB3) | (go_at_call 11; (with_reducible refine (c3 _).mono ?_); rintro e w4 ⟨rfl, hB4⟩; clear c3) | (go_at_call 19; (with_reducible refine (c4 _ (((bthen hB23 hB4).cell (p := ⟨0, 0, none⟩) hw0).trans hm)).mono ?_); rintro e w5 ⟨rfl, hB5⟩))
    all_goals go_ret
    all_goals first | exact ⟨rfl, bthen (bthen hB23 hB4) hB5⟩ | exact ⟨rfl, hB1⟩
theorem walk (s : ByteArray) (a1 a2 : Int) (_ : s.size ≤ maxLen) (w1 : (Lit.int .u16 a1).wf = true) (w2 : (Lit.int .u8 a2).wf = true) (w : World) (m : Int) (hm : w.cell? ⟨0, 0, none⟩ = some (.int .i64 m)) :
    Calls Try.prog 8 #[.string s, .int .u16 a1, .int .u8 a2] w fun e w' => e = .returned (.bool true) ∧ Below w.heap.size w w' := by
  have b1 := bounds_u16 w1
  have b2 := bounds_u8 w2
  have hw0 := World.block_lt_of_cell? w _ hm
  simp only at hw0
  obtain ⟨f, hf⟩ : ∃ f : Nat, a1 % 20000 = f := ⟨(a1 % 20000).toNat, by omega⟩
  obtain ⟨l, hl⟩ : ∃ l : Nat, a2 % 30 + 2 = l := ⟨(a2 % 30 + 2).toNat, by omega⟩
  have lf : f < 20000 := by omega
  have ll : 2 ≤ l ∧ l < 32 := by omega
  have hsz : (⟨(seqL (f + l)).toArray⟩ : ByteArray).size = f + l := by
    show (seqL (f + l)).toArray.size = _
    rw [List.size_toArray, seqL_length]
  have hes : ((⟨(seqL (f + l)).toArray⟩ : ByteArray).extract f (f + l)).size = l := by rw [ByteArray.size_extract, hsz]; omega
  have hat : At ((⟨(seqL (f + l)).toArray⟩ : ByteArray).extract f (f + l)).data.toList f := by
    rw [at_iff_ext _ (f + l) f (by omega), hes]
  obtain ⟨r, hr, _⟩ := Place.exists ((⟨(seqL (f + l)).toArray⟩ : ByteArray).extract f (f + l)).data.toList (by rw [list_size]; omega)
  obtain ⟨r0, rf, r4⟩ := hr.found (by omega) hat
  rw [list_size, hes] at r4
  have c4 : ∀ W : World, W.cell? ⟨0, 0, none⟩ = some (.int .i64 m) → _ := fun W hW => find_ok _ m r W (by omega) (by omega) hW hr
  have e1 : max r 0 = r := by omega
  have e2 : decide (0 ≤ r) = true := by simpa using r0
  rw [e1, e2] at c4
  have c3 := fun W => seq_ok (f + l) W (by omega)
  rw [show ((f + l : Nat) : Int) = (f : Int) + l by omega] at c3
  by_cases hs : 2 ≤ s.size ∧ s.size ≤ 4096
  · obtain ⟨q, hq, _⟩ := Place.exists s.data.toList (by rw [list_size]; omega)
    exact walk_core s _ a1 a2 _ m r _ f l w hf hl b1.1 b1.2 b2.1 b2.2 hsz r0 rf r4 hw0 hm (fun W hW => find_ok s m q W hs.1 hs.2 hW hq) (fun W => refFind_ok s q W hs.1 hs.2 hq) c3 c4
  · have hs' : s.size < 2 ∨ 4096 < s.size := by omega
    exact walk_core s _ a1 a2 _ m r _ f l w hf hl b1.1 b1.2 b2.1 b2.2 hsz r0 rf r4 hw0 hm (fun W hW => (find_err s W hs').mono fun _ _ ⟨h, k⟩ => ⟨h, k ▸ Below.refl _ _⟩) (fun W => (refFind_err s W hs').mono fun _ _ ⟨h, k⟩ => ⟨h, k ▸ Below.refl _ _⟩) c3 c4
set_option maxRecDepth 100000 in
theorem lifted (os : Os) (started : os.Started) (H : Type) (enc : TypeId × Value → H) :
    ReturnsInHanded {} Try.checked os 8 .any (Rows.scramblerFindsSpec.pre6 enc Try.prog Try.f8 Rows.scramblerFindsRow.domain false) (Rows.scramblerFindsSpec.post enc Try.prog Try.f8 false true false false) := by
  refine returnsInHanded_of_change_shaped (C := Try.checked) own started (by kernel_rfl) Try.func8
    (ChangeSpec.witness6 (enc := enc) (C := Try.checked) false ⟨#[], #[.string ByteArray.empty, .int .u16 0, .int .u8 0], []⟩ 8 (by kernel_rfl) (by kernel_rfl) (by kernel_rfl) (by kernel_rfl)) ?_
  intro W base args ds gs before hval0 hW hcnd _ hsh _
  obtain ⟨m, hm⟩ := cell_of_shapedOpen_int (P := Try.prog) (g := 0) (t := 3) (zero := #[.int .i64 0]) hsh (of_decide_eq_true (by kernel_rfl)) (by kernel_rfl) rfl (by kernel_rfl) (by kernel_rfl) Try.underlying3
  have hval : ∀ (j : Nat) t v, Try.f8.params[j]? = some t → args[j]? = some v → Value.okWide Try.prog W .any base t v := hval0
  have hW' := hW
  obtain ⟨p, q, hA0, hV, rfl, hfz, hnd⟩ := hW
  have hA : DataW.TrodAll enc Try.prog W 0 (fun _ => true) true Try.f8.params.toList args.toList ds p := hA0
  rw [Try.params8] at hA hval
  obtain ⟨v0, vs0, d0, ds0, p0, q0, hargs, rfl, rfl, h0, r0⟩ := trodAll_cons hA
  obtain ⟨v1, vs1, d1, ds1, p1, q1, rfl, rfl, rfl, h1, r1⟩ := trodAll_cons r0
  obtain ⟨v2, vs2, d2, ds2, p2, q2, rfl, rfl, rfl, h2, r2⟩ := trodAll_cons r1
  obtain ⟨rfl, rfl, rfl⟩ := trodAll_nil r2
  obtain rfl : args = #[v0, v1, v2] := by cases args; simp_all
  obtain ⟨rfl, rfl⟩ := trodVars_none hV
  obtain ⟨a0, rfl, rfl, rfl, w0⟩ := open_string Try.underlying9 (hval 0 9 v0 rfl rfl) h0
  obtain ⟨a1, rfl, rfl, rfl, w1⟩ := open_int Try.underlying29 (hval 1 29 v1 rfl rfl) h1
  obtain ⟨a2, rfl, rfl, rfl, w2⟩ := open_int Try.underlying5 (hval 2 5 v2 rfl rfl) h2
  clear hA0 hval0
  simp only [List.append_nil] at hW'
  refine (walk a0 a1 a2 w0 w1 w2 W m hm).mono fun e W' ⟨he, bel⟩ => ?_
  subst he
  exact ⟨_, rfl, _, _, _, [], _, [], hW', trodAll_mk1 (shut_bool Try.underlying4 _), (trodAll_cons_mk (shut_string Try.underlying9 w0) (trodAll_cons_mk (shut_int Try.underlying29 w1) (trodAll_cons_mk (shut_int Try.underlying5 w2) trodAll_mk0))), rfl, bel.frame _, fun h => by cases h⟩
theorem over : Rows.scramblerFindsRow.holds Try.pinned (OpenSpec.ofChange Rows.scramblerFindsSpec) :=
  OpenClaim.holds_of_wide 8 Try.f8 rfl rfl rfl rfl rfl rfl rfl ⟨rfl, rfl, rfl, rfl, rfl⟩ rfl rfl rfl rfl rfl (by kernel_rfl) Try.func8 (by kernel_rfl)
    (of_decide_eq_true (by kernel_rfl)) (by unfold Func.isWrapper; first | (rw [if_pos (by decide +kernel)]; kernel_rfl) | (rw [if_neg (by decide +kernel)]; exact ⟨rfl, rfl⟩))
    (fun os started H enc _ => lifted os started H enc)
theorem proved : Rows.ScramblerFindsSaid := over
#print axioms proved
end Go.Proofs.Ytmpojdjknahoiaa.scramblerFinds
