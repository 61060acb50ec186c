/- PathtablePaths: for every input the law returns true and leaves its arguments as they were. No condition. -/
import Derived.Test.YtnmlephjhcmbhaaRows
import Derived.Test.YtnmlephjhcmbhaaCl12
import Derived.Test.YtnmlephjhcmbhaaPqa
import Derived.Test.YtnmlephjhcmbhaaPrb
import Derived.Test.YtnmlephjhcmbhaaPrc
import Derived.SliceStrings
import Derived.WalkKit
import Derived.ProofKit
import Derived.OpenShut
import Derived.ShutString
import Derived.ChangeOld
import Derived.Below
namespace Go.Proofs.Ytnmlephjhcmbhaa.pathtablePaths
set_option linter.unusedSimpArgs false
set_option linter.unusedVariables false
open Go Go.ChangeShapes Go.WideShapes Go.ChangeAt Go.RowKit
theorem open_strs {H : Type} {enc : TypeId × Value → H} {w : World} {base : Nat} {spare : Nat → Bool} {held : Bool} {a0 : Option Addr} {n0 c0 : Nat} {d : DataW H} {p : List MemPlace} (hd : DataW.Trod enc Try.prog w base spare held 50 (.slice a0 n0 c0) d p) :
    ∃ zs : List ByteArray, n0 = zs.length ∧ RowB w a0 zs := by
  obtain ⟨fuel, hf⟩ := hd
  rcases Go.ChangeShapes.open_strings Try.underlying50 Try.underlying9 cells9p hf with ⟨e, -⟩ | ⟨a, len, cap, zs, e, hb, hl, hcm, hlen, -, hx, hwf⟩
  · have e' : Value.slice a0 n0 c0 = .slice none 0 0 := by simpa [Value.cells] using e
    injection e' with e1 e2 e3
    subst e2
    exact ⟨[], rfl, fun k hk => absurd hk (Nat.not_lt_zero _)⟩
  · have e' : Value.slice a0 n0 c0 = .slice (some a) len cap := by simpa [Value.cells] using e
    injection e' with e1 e2 e3
    subst e1 e2 e3
    have hlz : n0 ≤ zs.length := by rw [hlen]; split <;> omega
    refine ⟨zs.take n0, by rw [List.length_take, Nat.min_eq_left hlz], fun k hk => ?_⟩
    rw [List.length_take, Nat.min_eq_left hlz] at hk
    obtain ⟨b, off, spot⟩ := a
    have hs : spot = none := by
      have := World.cell?_spot (hx 0 (by omega))
      simpa [Addr.add] using this
    subst hs
    have hbl := World.block_lt_of_cell? w _ (hx 0 (by omega))
    refine ⟨b, off, rfl, by first | exact hbl | simpa [Addr.add] using hbl, ?_⟩
    have := hx k (by omega)
    have e0 : (⟨b, off, none⟩ : Addr).add k = ⟨b, off + k, none⟩ := by unfold Addr.add; split <;> simp_all
    rw [e0] at this
    rw [this, List.getD_eq_getElem?_getD, List.getD_eq_getElem?_getD, List.getElem?_take_of_lt hk]
theorem path_len_le (l : List PE) (num : Int) (hl : l.length ≤ 40) : (pathR l num).1.length ≤ 2000 := by
  have key : ∀ f n U, upL l f n = some U → U.length ≤ f := by
    intro f
    induction f with
    | zero => intro n U h; simp [upL] at h; subst h; simp
    | succ f ih =>
      intro n U h
      rw [upL] at h
      split at h
      · simp at h; subst h; simp
      · split at h
        · cases h
        · rw [Option.map_eq_some_iff] at h
          obtain ⟨V, hV, rfl⟩ := h
          have := ih _ _ hV
          simp
          omega
  unfold pathR
  split
  · simp
  · rename_i h
    cases hu : upL l num.toNat num.toNat with
    | none => simp [resP]
    | some U =>
      have := key _ _ _ hu
      simp [resP]
      omega
theorem eqstr_own {B B' : Nat} {u v : Value} {W : World} (l m : List ByteArray) (h : W.ownsRow B 9 1 u l.length (strB l)) (h' : W.ownsRow B' 9 1 v m.length (strB m)) (hl : l.length ≤ 2000) (hm : m.length ≤ 2000) :
    Calls Try.prog 40 #[u, v] W fun e w' => e = .returned (.bool (decide (l = m))) ∧ Below W.heap.size W w' := by
  obtain ⟨a, c, rfl, hr⟩ := RowB_own l h
  obtain ⟨a', c', rfl, hr'⟩ := RowB_own m h'
  rcases Nat.eq_zero_or_pos l.length with h0 | h0
  · have hl0 : l = [] := List.eq_nil_of_length_eq_zero h0
    subst hl0
    refine (Try.slices_Equal_string_empty a a' c m.length c' W (by omega)).mono ?_
    rintro e w' ⟨rfl, rfl⟩
    refine ⟨?_, Below.refl _ _⟩
    congr 2
    cases m <;> simp
  · rcases Nat.eq_zero_or_pos m.length with h1 | h1
    · have hm0 : m = [] := List.eq_nil_of_length_eq_zero h1
      subst hm0
      refine (Try.slices_Equal_string_lens a a' l.length c 0 c' W (by omega)).mono ?_
      rintro e w' ⟨rfl, rfl⟩
      refine ⟨?_, Below.refl _ _⟩
      congr 2
      symm
      rw [decide_eq_false_iff_not]
      intro e
      rw [e] at h0
      simp at h0
    · obtain ⟨b, off, e, -, -⟩ := hr 0 h0
      obtain ⟨b', off', e', -, -⟩ := hr' 0 h1
      subst e
      subst e'
      refine (Try.slices_Equal_string b off l.length c b' off' m.length c' l m W (Nat.le_refl _) (Nat.le_refl _) (by omega) (by omega) (fun j hj => ?_) (fun j hj => ?_)).mono ?_
      · obtain ⟨b2, o2, e2, -, hc⟩ := hr j hj
        simp only [Option.some.injEq, Addr.mk.injEq] at e2
        obtain ⟨rfl, rfl, -⟩ := e2
        exact hc
      · obtain ⟨b2, o2, e2, -, hc⟩ := hr' j hj
        simp only [Option.some.injEq, Addr.mk.injEq] at e2
        obtain ⟨rfl, rfl, -⟩ := e2
        exact hc
      · rintro e w' ⟨rfl, q, rfl⟩
        rw [List.take_length, List.take_length]
        exact ⟨rfl, below_drewN (Below.refl _ _) q⟩
set_option maxRecDepth 100000 in
set_option maxHeartbeats 4000000 in
theorem walk (a : Option Addr) (c : Nat) (l : List PE) (num : Int) (a2 : Option Addr) (c2 : Nat) (p : List ByteArray) (w : World) (hr : RowP w a l ∧ l.length ≤ c ∧ ∀ r ∈ l, r.id.size ≤ maxLen) {X : Prop} (hx : X) (hrp : RowB w a2 p) : Calls Try.prog 12 #[.slice a l.length c, cN num, .slice a2 p.length c2] w fun e w' => e = .returned (.bool true) ∧ Below w.heap.size w w' := by
  obtain ⟨hrow, hlc, hsz⟩ := hr
  have HR := Lib.hid hrow
  have HP := Lib.hid hrp
  have c1 := fun (W : World) (hW : Below w.heap.size w W) => psmall_ok a c l W (hrow.below hW) hsz
  clear hrow hsz hrp
  cases hs : smallPL l
  · rw [hs] at c1
    clear hs
    go_enter Try.func12, Try.ntmps12
    go_wp2_with fail
    with_reducible refine (awake22_ok _).mono ?_
    rintro e w1 ⟨rfl, hB1⟩
    have c3 := c1 _ hB1
    go_wp2_with fail
    with_reducible refine c3.mono ?_
    rintro e w2 ⟨rfl, rfl⟩
    go_wp2
    go_ret
    exact ⟨rfl, hB1⟩
  · rw [hs] at c1
    obtain ⟨hl40, hsz3⟩ := smallPL_spec hs
    clear hs hsz3
    by_cases h20 : (20 : Int) < (p.length : Int)
    · go_enter Try.func12, Try.ntmps12
      go_wp2_with fail
      with_reducible refine (awake22_ok _).mono ?_
      rintro e w1 ⟨rfl, hB1⟩
      have c3 := c1 _ hB1
      go_wp2_with fail
      with_reducible refine c3.mono ?_
      rintro e w2 ⟨rfl, rfl⟩
      go_wp2
      go_ret
      exact ⟨rfl, hB1⟩
    · have hpl := path_len_le l num hl40
      go_enter Try.func12, Try.ntmps12
      go_wp2_with fail
      with_reducible refine (awake22_ok _).mono ?_
      rintro e w1 ⟨rfl, hB1⟩
      have c3 := c1 _ hB1
      have HB1 := Lib.hid hB1
      clear hB1 c1
      go_wp2_with fail
      with_reducible refine c3.mono ?_
      rintro e w2 ⟨rfl, rfl⟩
      have k1 := ppath_ok a c l num w2 (by omega) (HR.out.below HB1.out)
      unfold PathEnd at k1
      obtain ⟨R, hR⟩ : ∃ R, pathR l num = R := ⟨_, rfl⟩
      obtain ⟨R1, R2⟩ := R
      rw [hR] at k1 hpl
      go_wp2_with fail
      with_reducible refine k1.mono ?_
      rintro e w3 ⟨v3, rfl, ho3, hB3⟩
      have HO3 := Lib.hid ho3
      have HB3 := Lib.hid (bthen HB1.out hB3)
      have k2 := rppath_ok a c l num w3 (by omega) (HR.out.below HB3.out)
      unfold PathEnd at k2
      rw [hR] at k2
      clear k1 ho3 hB3 c3 hR
      go_wp2_with fail
      with_reducible refine k2.mono ?_
      rintro e w4 ⟨v4, rfl, ho4, hB4⟩
      have HO4 := Lib.hid ho4
      have HO3b := Lib.hid (own_keepS HO3.out hB4)
      have HB4 := Lib.hid (bthen HB3.out hB4)
      obtain ⟨F, hF⟩ : ∃ F, findR l p = F := ⟨_, rfl⟩
      obtain ⟨F1, F2⟩ := F
      have k3 := pfind_ok a c l a2 c2 p w4 (by omega) (by omega) hlc (HR.out.below HB4.out) (HP.out.below HB4.out)
      rw [hF] at k3
      clear k2 ho4 hB4 HO3
      go_wp2_with fail
      with_reducible refine k3.mono ?_
      rintro e w5 ⟨rfl, hB5⟩
      have HB5 := Lib.hid (bthen HB4.out hB5)
      have HO3c := Lib.hid (own_keepS HO3b.out hB5)
      have HO4c := Lib.hid (own_keepS HO4.out hB5)
      have k4 := rpfind_ok a c l a2 c2 p w5 (by omega) (by omega) (HR.out.below HB5.out) (HP.out.below HB5.out)
      rw [hF] at k4
      clear k3 hB5 hF
      go_wp2_with fail
      with_reducible refine k4.mono ?_
      rintro e w6 ⟨rfl, hB6⟩
      have HB6 := Lib.hid (bthen HB5.out hB6)
      have k5 := eqstr_own R1 R1 (own_keepS HO3c.out hB6) (own_keepS HO4c.out hB6) hpl hpl
      rw [decide_eq_true (rfl : R1 = R1)] at k5
      clear k4 hB6
      go_wp2_with fail
      with_reducible refine k5.mono ?_
      rintro e w7 ⟨rfl, hB7⟩
      go_wp2
      go_ret
      exact ⟨rfl, bthen HB6.out hB7⟩
theorem own : ownKnob Try.prog.godebug = none := by kernel_rfl
theorem laidOut : laidOutB Try.prog = true := by kernel_rfl
set_option maxRecDepth 100000 in
theorem lifted (os : Os) (started : os.Started) (H : Type) (enc : TypeId × Value → H) :
    ReturnsInHanded {} Try.checked os 12 .any (Rows.pathtablePathsSpec.pre6 enc Try.prog Try.f12 Rows.pathtablePathsRow.domain false) (Rows.pathtablePathsSpec.post enc Try.prog Try.f12 false true false false) := by
  refine returnsInHanded_of_change (C := Try.checked) own started (by kernel_rfl) Try.func12
    (ChangeSpec.witness6 (enc := enc) (C := Try.checked) false ⟨#[], #[.slice none 0 0, .int .i64 0, .slice none 0 0], []⟩ 8 (by kernel_rfl) (by kernel_rfl) (by kernel_rfl) (by kernel_rfl)) ?_
  intro W base args ds gs before hval0 hW hcnd _
  have hval : ∀ (j : Nat) t v, Try.f12.params[j]? = some t → args[j]? = some v → Value.okWide Try.prog W .any base t v := hval0
  have hW' := hW
  obtain ⟨p, q, hA0, hV, rfl, hfz, hnd⟩ := hW
  have hA : DataW.TrodAll enc Try.prog W 0 (fun _ => true) true Try.f12.params.toList args.toList ds p := hA0
  rw [Try.params12] at hA hval
  obtain ⟨v0, vs0, d0, ds0, p0, q0, hargs, rfl, rfl, h0, r0⟩ := trodAll_cons hA
  obtain ⟨v1, vs1, d1, ds1, p1, q1, rfl, rfl, rfl, h1, r1⟩ := trodAll_cons r0
  obtain ⟨v2, vs2, d2, ds2, p2, q2, rfl, rfl, rfl, h2, r2⟩ := trodAll_cons r1
  obtain ⟨rfl, rfl, rfl⟩ := trodAll_nil r2
  obtain rfl : args = #[v0, v1, v2] := by cases args; simp_all
  obtain ⟨rfl, rfl⟩ := trodVars_none hV
  have k0 := h0
  have lt0 : ∀ x ∈ p0, x.block < W.heap.size := by obtain ⟨m, hm⟩ := k0; exact DataW.trod_lt m _ _ _ hm
  obtain ⟨a0, n0, c0, rfl⟩ := okWide_slice Try.underlying44 (hval 0 44 v0 rfl rfl)
  obtain ⟨l0, rfl, w0⟩ := open_pes h0
  obtain ⟨a1, rfl, rfl, rfl, w1⟩ := open_int Try.underlying3 (hval 1 3 v1 rfl rfl) h1
  have k2 := h2
  have lt2 : ∀ x ∈ p2, x.block < W.heap.size := by obtain ⟨m, hm⟩ := k2; exact DataW.trod_lt m _ _ _ hm
  obtain ⟨a2, n2, c2, rfl⟩ := okWide_slice Try.underlying50 (hval 2 50 v2 rfl rfl)
  obtain ⟨l2, rfl, w2⟩ := open_strs h2
  clear hA0 hval0
  refine (walk a0 c0 l0 a1 a2 c2 l2 W w0 w1 w2).mono fun e W' ⟨he, bel⟩ => ?_
  subst he
  exact ⟨_, rfl, _, _, _, [], _, [], hW', trodAll_mk1 (shut_bool Try.underlying4 _), (trodAll_cons_mk (Below.trod laidOut (by kernel_rfl) (of_decide_eq_true (by kernel_rfl)) k0 bel lt0) (trodAll_cons_mk (shut_int Try.underlying3 w1) (trodAll_cons_mk (Below.trod laidOut (by kernel_rfl) (of_decide_eq_true (by kernel_rfl)) k2 bel lt2) trodAll_mk0))), rfl, bel.frame _, fun h => by cases h⟩
theorem over : Rows.pathtablePathsRow.holds Try.pinned (OpenSpec.ofChange Rows.pathtablePathsSpec) :=
  OpenClaim.holds_of_wide 12 Try.f12 rfl rfl rfl rfl rfl rfl rfl ⟨rfl, rfl, rfl, rfl, rfl⟩ rfl rfl rfl rfl rfl (by as_aux_lemma => kernel_rfl) Try.func12 closed
    (of_decide_eq_true (by as_aux_lemma => kernel_rfl)) (by as_aux_lemma => (unfold Func.isWrapper; first | (rw [if_pos (by decide +kernel)]; kernel_rfl) | (rw [if_neg (by decide +kernel)]; exact ⟨rfl, rfl⟩)))
    (fun os started H enc _ => lifted os started H enc)
theorem proved : Rows.PathtablePathsSaid := over
#print axioms proved
end Go.Proofs.Ytnmlephjhcmbhaa.pathtablePaths
