/- DirectoryPlaces: for every input the law returns true and leaves its argument as it was. No condition. -/
import Derived.Test.YtnmlephjhcmbhaaGreatRows
import Derived.Test.YtnmlephjhcmbhaaGreatCl5
import Derived.Test.YtnmlephjhcmbhaaGreatDku
import Derived.Test.YtnmlephjhcmbhaaGreatDld
import Derived.ChangeSlices
import Derived.WalkKit
import Derived.ProofKit
import Derived.OpenShut
import Derived.ShutString
import Derived.ChangeOld
import Derived.Below
namespace Go.Proofs.YtnmlephjhcmbhaaGreat.directoryPlaces
set_option linter.unusedSimpArgs false
set_option linter.unusedVariables false
open Go Go.ChangeShapes Go.WideShapes Go.ChangeAt Go.RowKit
theorem cells3 : Tryz.prog.cellsOf 3 = 1 := by kernel_rfl
theorem open_ints {H : Type} {enc : TypeId × Value → H} {w : World} {base : Nat} {spare : Nat → Bool} {held : Bool} {a0 : Option Addr} {n0 c0 : Nat} {d : DataW H} {p : List MemPlace} (hd : DataW.Trod enc Tryz.prog w base spare held 33 (.slice a0 n0 c0) d p) :
    ∃ zs : List Int, n0 = zs.length ∧ RowI w a0 zs := by
  obtain ⟨fuel, hf⟩ := hd
  rcases Go.ChangeShapes.open_ints Tryz.underlying33 Tryz.underlying3 cells3 hf with ⟨e, -⟩ | ⟨a, len, cap, zs, e, hb, hl, hcm, hlen, -, hx, hwf⟩
  · have e' : Value.slice a0 n0 c0 = .slice none 0 0 := by simpa [Value.cells] using e
    injection e' with e1 e2 e3
    subst e2
    exact ⟨[], rfl, fun k hk => absurd hk (Nat.not_lt_zero _)⟩
  · have e' : Value.slice a0 n0 c0 = .slice (some a) len cap := by simpa [Value.cells] using e
    injection e' with e1 e2 e3
    subst e1 e2 e3
    have hlz : n0 ≤ zs.length := by rw [hlen]; split <;> omega
    refine ⟨zs.take n0, by rw [List.length_take, Nat.min_eq_left hlz], fun k hk => ?_⟩
    rw [List.length_take, Nat.min_eq_left hlz] at hk
    obtain ⟨b, off, spot⟩ := a
    have hs : spot = none := by
      have := World.cell?_spot (hx 0 (by omega))
      simpa [Addr.add] using this
    subst hs
    have hbl := World.block_lt_of_cell? w _ (hx 0 (by omega))
    refine ⟨b, off, rfl, by first | exact hbl | simpa [Addr.add] using hbl, ?_⟩
    have := hx k (by omega)
    have e0 : (⟨b, off, none⟩ : Addr).add k = ⟨b, off + k, none⟩ := by unfold Addr.add; split <;> simp_all
    rw [e0] at this
    rw [this, List.getD_eq_getElem?_getD, List.getD_eq_getElem?_getD, List.getElem?_take_of_lt hk]
set_option maxRecDepth 100000 in
set_option maxHeartbeats 400000 in
theorem walk_big (a : Option Addr) (n c : Nat) (w : World) (h : (300 : Int) < n) : Calls Tryz.prog 5 #[.slice a n c] w fun e w' => e = .returned (.bool true) ∧ Below w.heap.size w w' := by
  go_enter Tryz.func5, Tryz.ntmps5
  go_wp2_with (go_at_call 9; (with_reducible refine (awake21_ok _).mono ?_); rintro e w1 ⟨rfl, hB1⟩)
  go_ret
  exact ⟨rfl, hB1⟩
set_option maxRecDepth 100000 in
set_option maxHeartbeats 1000000 in
theorem walk_small (a : Option Addr) (c : Nat) (l : List Int) (w : World) (hrow : RowI w a l) (h : ¬ (300 : Int) < (l.length : Int)) : Calls Tryz.prog 5 #[.slice a l.length c] w fun e w' => e = .returned (.bool true) ∧ Below w.heap.size w w' := by
  have c1 := fun (W : World) (hW : Below w.heap.size w W) => blks_ok a c l W (by omega) (hrow.below hW)
  have c2 := fun (W : World) (hW : Below w.heap.size w W) => rblks_ok a c l W (by omega) (hrow.below hW)
  have c3 := fun (W : World) (hW : Below w.heap.size w W) => offs_ok a c l W (by omega) (hrow.below hW)
  have c4 := fun (W : World) (hW : Below w.heap.size w W) => roffs_ok a c l W (by omega) (hrow.below hW)
  have hlen : (offM l).length ≤ maxLen := by
    unfold offM maxLen
    split
    · rw [plcs_len]; simp [natS]; omega
    · simp
  obtain ⟨B, hB⟩ : ∃ B, blkM l = B := ⟨_, rfl⟩
  obtain ⟨O, hO⟩ : ∃ O, offM l = O := ⟨_, rfl⟩
  rw [hB] at c1 c2
  rw [hO] at c3 c4 hlen
  have HL := Lib.hid hlen
  clear hrow hB hO hlen
  go_enter Tryz.func5, Tryz.ntmps5
  go_wp2_with fail
  with_reducible refine (awake21_ok _).mono ?_
  rintro e w1 ⟨rfl, hB1⟩
  go_wp2_with fail
  with_reducible refine (c1 _ hB1).mono ?_
  rintro e w2 ⟨rfl, hB2⟩
  have hb2 := bthen hB1 hB2
  go_wp2_with fail
  with_reducible refine (c2 _ hb2).mono ?_
  rintro e w3 ⟨rfl, hB3⟩
  have hb3 := bthen hb2 hB3
  go_wp2_with fail
  with_reducible refine (c3 _ hb3).mono ?_
  rintro e w4 ⟨v4, rfl, ho4, hB4⟩
  have hb4 := bthen hb3 hB4
  go_wp2_with fail
  with_reducible refine (c4 _ hb4).mono ?_
  rintro e w5 ⟨v5, rfl, ho5, hB5⟩
  have hb5 := bthen hb4 hB5
  have c5 := equal_own (own_keep ho4 hB5) ho5 HL.out HL.out
  go_wp2_with fail
  with_reducible refine c5.mono ?_
  rintro e w6 ⟨rfl, hB6⟩
  go_wp2
  go_ret
  exact ⟨by simp, bthen hb5 hB6⟩
theorem walk (a : Option Addr) (c : Nat) (l : List Int) (w : World) (h : RowI w a l) : Calls Tryz.prog 5 #[.slice a l.length c] w fun e w' => e = .returned (.bool true) ∧ Below w.heap.size w w' := by
  by_cases h0 : (300 : Int) < (l.length : Int)
  · exact walk_big a _ c w h0
  · exact walk_small a c l w h h0
theorem own : ownKnob Tryz.prog.godebug = none := by kernel_rfl
theorem laidOut : laidOutB Tryz.prog = true := by kernel_rfl
set_option maxRecDepth 100000 in
theorem lifted (os : Os) (started : os.Started) (H : Type) (enc : TypeId × Value → H) :
    ReturnsInHanded {} Tryz.checked os 5 .any (Rows.directoryPlacesSpec.pre6 enc Tryz.prog Tryz.f5 Rows.directoryPlacesRow.domain false) (Rows.directoryPlacesSpec.post enc Tryz.prog Tryz.f5 false true false false) := by
  refine returnsInHanded_of_change (C := Tryz.checked) own started (by kernel_rfl) Tryz.func5
    (ChangeSpec.witness6 (enc := enc) (C := Tryz.checked) false ⟨#[], #[.slice none 0 0], []⟩ 8 (by kernel_rfl) (by kernel_rfl) (by kernel_rfl) (by kernel_rfl)) ?_
  intro W base args ds gs before hval0 hW hcnd _
  have hval : ∀ (j : Nat) t v, Tryz.f5.params[j]? = some t → args[j]? = some v → Value.okWide Tryz.prog W .any base t v := hval0
  have hW' := hW
  obtain ⟨p, q, hA0, hV, rfl, hfz, hnd⟩ := hW
  have hA : DataW.TrodAll enc Tryz.prog W 0 (fun _ => true) true Tryz.f5.params.toList args.toList ds p := hA0
  rw [Tryz.params5] at hA hval
  obtain ⟨v0, vs0, d0, ds0, p0, q0, hargs, rfl, rfl, h0, r0⟩ := trodAll_cons hA
  obtain ⟨rfl, rfl, rfl⟩ := trodAll_nil r0
  obtain rfl : args = #[v0] := by cases args; simp_all
  obtain ⟨rfl, rfl⟩ := trodVars_none hV
  have k0 := h0
  have lt0 : ∀ x ∈ p0, x.block < W.heap.size := by obtain ⟨m, hm⟩ := k0; exact DataW.trod_lt m _ _ _ hm
  obtain ⟨a0, n0, c0, rfl⟩ := okWide_slice Tryz.underlying33 (hval 0 33 v0 rfl rfl)
  obtain ⟨l0, rfl, w0⟩ := open_ints h0
  clear hA0 hval0
  refine (walk a0 c0 l0 W w0).mono fun e W' ⟨he, bel⟩ => ?_
  subst he
  exact ⟨_, rfl, _, _, _, [], _, [], hW', trodAll_mk1 (shut_bool Tryz.underlying4 _), (trodAll_cons_mk (Below.trod laidOut (by kernel_rfl) (of_decide_eq_true (by kernel_rfl)) k0 bel lt0) trodAll_mk0), rfl, bel.frame _, fun h => by cases h⟩
theorem over : Rows.directoryPlacesRow.holds Tryz.pinned (OpenSpec.ofChange Rows.directoryPlacesSpec) :=
  OpenClaim.holds_of_wide 5 Tryz.f5 rfl rfl rfl rfl rfl rfl rfl ⟨rfl, rfl, rfl, rfl, rfl⟩ rfl rfl rfl rfl rfl (by as_aux_lemma => kernel_rfl) Tryz.func5 closed
    (of_decide_eq_true (by as_aux_lemma => kernel_rfl)) (by as_aux_lemma => (unfold Func.isWrapper; first | (rw [if_pos (by decide +kernel)]; kernel_rfl) | (rw [if_neg (by decide +kernel)]; exact ⟨rfl, rfl⟩)))
    (fun os started H enc _ => lifted os started H enc)
theorem proved : Rows.DirectoryPlacesSaid := over
#print axioms proved
end Go.Proofs.YtnmlephjhcmbhaaGreat.directoryPlaces
