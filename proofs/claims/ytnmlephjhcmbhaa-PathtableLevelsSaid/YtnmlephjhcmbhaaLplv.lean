/- PathtableLevels: for every input the law returns true and leaves its arguments as they were. No condition. -/
import Derived.Test.YtnmlephjhcmbhaaRows
import Derived.Test.YtnmlephjhcmbhaaCl14
import Derived.Test.YtnmlephjhcmbhaaPqa
import Derived.WalkKit
import Derived.ProofKit
import Derived.OpenShut
import Derived.ShutString
import Derived.ChangeOld
import Derived.Below
namespace Go.Proofs.Ytnmlephjhcmbhaa.pathtableLevels
set_option linter.unusedSimpArgs false
set_option linter.unusedVariables false
open Go Go.ChangeShapes Go.WideShapes Go.ChangeAt Go.RowKit
theorem up_fuel (l : List PE) : ∀ (n f g : Nat), n ≤ f → n ≤ g → upL l f n = upL l g n := by
  intro n
  induction n using Nat.strongRecOn with
  | _ n ih =>
    intro f g hf hg
    by_cases h1 : n ≤ 1
    · rw [upL_one l f n h1, upL_one l g n h1]
    · obtain ⟨f, rfl⟩ : ∃ f', f = f' + 1 := ⟨f - 1, by omega⟩
      obtain ⟨g, rfl⟩ : ∃ g', g = g' + 1 := ⟨g - 1, by omega⟩
      rw [upL, upL, if_neg h1, if_neg h1]
      by_cases hb : (l.getD (n - 1) peD).par < 1 ∨ (n : Int) ≤ (l.getD (n - 1) peD).par
      · rw [if_pos hb, if_pos hb]
      · rw [if_neg hb, if_neg hb, ih (l.getD (n - 1) peD).par.toNat (by omega) f g (by omega) (by omega)]
/-- What a valid table says of its parents. -/
structure VP (l : List PE) : Prop where
  le : l.length ≤ 1024
  lo : ∀ i, 1 ≤ i → i < l.length → 1 ≤ (l.getD i peD).par
  hi : ∀ i, 1 ≤ i → i < l.length → (l.getD i peD).par ≤ i
  mono : ∀ i, 1 ≤ i → i < l.length → (l.getD (i - 1) peD).par ≤ (l.getD i peD).par
theorem vp_of {wide : Bool} {l : List PE} (h : pvB wide l = true) : VP l := by
  unfold pvB at h
  rw [Bool.and_eq_true, decide_eq_true_eq, List.all_eq_true] at h
  have h2 : ∀ i, 1 ≤ i → i < l.length → VAt wide i (l.getD (i - 1) peD) (l.getD i peD) := fun i _ hi => by
    have := h.2 i (List.mem_range.2 hi)
    simpa [vatB] using this
  refine ⟨h.1.2.1, fun i h1 hi => ?_, fun i h1 hi => ?_, fun i h1 hi => ?_⟩ <;>
  · rcases (h2 i h1 hi).2 with k | k
    · omega
    · first | exact k.2.1 | exact k.2.2.2.1 | exact k.2.2.1
def lenU (l : List PE) (n : Nat) : Nat := ((upL l n n).getD []).length
theorem up_some {l : List PE} (h : VP l) : ∀ n, n ≤ l.length → ∃ U, upL l n n = some U := by
  intro n
  induction n using Nat.strongRecOn with
  | _ n ih =>
    intro hn
    by_cases h1 : n ≤ 1
    · exact ⟨[], upL_one l n n h1⟩
    · obtain ⟨f, rfl⟩ : ∃ f', n = f' + 1 := ⟨n - 1, by omega⟩
      have a1 := h.lo f (by omega) (by omega)
      have a2 := h.hi f (by omega) (by omega)
      obtain ⟨U, hU⟩ := ih (l.getD f peD).par.toNat (by omega) (by omega)
      rw [upL, if_neg h1, Nat.add_sub_cancel, if_neg (by omega), up_fuel l _ f (l.getD f peD).par.toNat (by omega) (Nat.le_refl _), hU]
      exact ⟨_, rfl⟩
theorem lenU_step {l : List PE} (h : VP l) (f : Nat) (h1 : 1 ≤ f) (hf : f < l.length) : lenU l (f + 1) = lenU l (l.getD f peD).par.toNat + 1 := by
  have a1 := h.lo f h1 hf
  have a2 := h.hi f h1 hf
  obtain ⟨U, hU⟩ := up_some h (l.getD f peD).par.toNat (by omega)
  unfold lenU
  rw [upL, if_neg (by omega), Nat.add_sub_cancel, if_neg (by omega), up_fuel l _ f (l.getD f peD).par.toNat (by omega) (Nat.le_refl _), hU]
  simp
theorem lenU_one (l : List PE) : lenU l 1 = 0 := rfl
theorem lenU_mono {l : List PE} (h : VP l) : ∀ n m, 1 ≤ m → m ≤ n → n ≤ l.length → lenU l m ≤ lenU l n := by
  intro n
  induction n using Nat.strongRecOn with
  | _ n ih =>
    intro m hm hmn hn
    rcases Nat.lt_or_ge m n with hlt | hge
    · refine Nat.le_trans (ih (n - 1) (by omega) m hm (by omega) (by omega)) ?_
      obtain ⟨f, rfl⟩ : ∃ f', n = f' + 1 := ⟨n - 1, by omega⟩
      rw [Nat.add_sub_cancel]
      by_cases hf1 : f = 1
      · subst hf1
        rw [lenU_one]
        exact Nat.zero_le _
      · obtain ⟨g, rfl⟩ : ∃ g, f = g + 1 := ⟨f - 1, by omega⟩
        rw [lenU_step h (g + 1) (by omega) (by omega), lenU_step h g (by omega) (by omega)]
        have b1 := h.lo g (by omega) (by omega)
        have b2 := h.hi (g + 1) (by omega) (by omega)
        have b3 := h.mono (g + 1) (by omega) (by omega)
        rw [Nat.add_sub_cancel] at b3
        have := ih (l.getD (g + 1) peD).par.toNat (by omega) (l.getD g peD).par.toNat (by omega) (by omega) (by omega)
        omega
    · obtain rfl : m = n := by omega
      exact Nat.le_refl _
theorem path_len {l : List PE} (h : VP l) (k : Nat) (hk : k < l.length) : (pathR l ((k : Int) + 1)).2 = 0 ∧ (pathR l ((k : Int) + 1)).1.length = lenU l (k + 1) := by
  obtain ⟨U, hU⟩ := up_some h (k + 1) (by omega)
  have e : pathR l ((k : Int) + 1) = (U.reverse, 0) := by
    rw [pathR, if_neg (by omega), show ((k : Int) + 1).toNat = k + 1 by omega, hU]
    rfl
  rw [e]
  refine ⟨rfl, ?_⟩
  rw [lenU, hU]
  simp
set_option maxRecDepth 100000 in
set_option maxHeartbeats 2000000 in
theorem walk (a : Option Addr) (c : Nat) (l : List PE) (wide : Bool) (w : World) (hr : RowP w a l ∧ l.length ≤ c ∧ ∀ r ∈ l, r.id.size ≤ maxLen) : Calls Try.prog 14 #[.slice a l.length c, .bool wide] w fun e w' => e = .returned (.bool true) ∧ Below w.heap.size w w' := by
  obtain ⟨hrow, hlc, hsz⟩ := hr
  have HR := Lib.hid hrow
  have HZ := Lib.hid hsz
  have c1 := fun (W : World) (hW : Below w.heap.size w W) => psmall_ok a c l W (hrow.below hW) hsz
  clear hrow hsz
  cases hs : smallPL l
  · rw [hs] at c1
    clear hs
    go_enter Try.func14, Try.ntmps14
    go_wp2_with fail
    with_reducible refine (awake22_ok _).mono ?_
    rintro e w1 ⟨rfl, hB1⟩
    have c2 := c1 _ hB1
    go_wp2_with fail
    with_reducible refine c2.mono ?_
    rintro e w2 ⟨rfl, rfl⟩
    go_wp2
    go_ret
    exact ⟨rfl, hB1⟩
  · rw [hs] at c1
    obtain ⟨hl40, hsz3⟩ := smallPL_spec hs
    have c3 := fun (W : World) (hW : Below w.heap.size w W) => pvalid_ok a c l wide W (HR.out.below hW) (fun x hx => by have := hsz3 x hx; omega)
    have HC3 := Lib.hid hsz3
    clear hs hsz3
    cases hv : pvB wide l
    · simp only [hv] at c3
      clear hv
      go_enter Try.func14, Try.ntmps14
      go_wp2_with fail
      with_reducible refine (awake22_ok _).mono ?_
      rintro e w1 ⟨rfl, hB1⟩
      have c2 := c1 _ hB1
      have c4 := c3 _ hB1
      go_wp2_with fail
      with_reducible refine c2.mono ?_
      rintro e w2 ⟨rfl, rfl⟩
      go_wp2_with fail
      with_reducible refine c4.mono ?_
      rintro e w3 ⟨rfl, hB3⟩
      go_wp2
      go_ret
      exact ⟨rfl, bthen hB1 hB3⟩
    · simp only [hv] at c3
      have HV := Lib.hid (vp_of hv)
      clear hv
      go_enter Try.func14, Try.ntmps14
      go_wp2_with fail
      with_reducible refine (awake22_ok _).mono ?_
      rintro e w1 ⟨rfl, hB1⟩
      have c2 := c1 _ hB1
      have c4 := c3 _ hB1
      have HB1 := Lib.hid hB1
      clear hB1 c1 c3
      go_wp2_with fail
      with_reducible refine c2.mono ?_
      rintro e w2 ⟨rfl, rfl⟩
      go_wp2_with fail
      with_reducible refine c4.mono ?_
      rintro e w3 ⟨rfl, hB3⟩
      have HB3 := Lib.hid (bthen HB1.out hB3)
      clear hB3 c2 c4
      go_wp2
      go_loopw [22, 6, 7, 8, 5] (fun i _ _ _ t wr => ∃ k m : Nat, i = cN k ∧ t = cN m ∧ k ≤ l.length ∧ (∀ n, k < n → n ≤ l.length → m ≤ lenU l n) ∧ Below w.heap.size w wr) (fun i _ _ _ _ _ => l.length - (intOf i).toNat)
      case atStart => exact ⟨0, 0, rfl, rfl, Nat.zero_le _, fun n _ _ => Nat.zero_le _, HB3.out⟩
      case round =>
        obtain ⟨k, m, rfl, rfl, hk, hm, hB⟩ := hrel
        have HB := Lib.hid hB
        have HM := Lib.hid hm
        by_cases hlt : (k : Int) < (l.length : Int)
        · have hkl : k < l.length := by omega
          have cp := ppath_ok a c l ((k : Int) + 1) wr (by omega) (HR.out.below hB)
          obtain ⟨e1, e2⟩ := path_len HV.out k hkl
          unfold PathEnd at cp
          rw [e1, e2] at cp
          have hge := hm (k + 1) (by omega) (by omega)
          have HMO := Lib.hid (fun n (h1 : k + 1 < n) (h2 : n ≤ l.length) => lenU_mono HV.out n (k + 1) (by omega) (by omega) h2)
          generalize (pathR l ((k : Int) + 1)).1 = pl at cp
          generalize lenU l (k + 1) = q at cp hge HMO
          clear e1 e2 hm hB
          go_wp2_with fail
          with_reducible refine cp.mono ?_
          rintro e w4 ⟨v, rfl, ho4, hB4⟩
          obtain ⟨a5, c5, rfl⟩ := own_formS ho4
          have HB4 := Lib.hid (bthen HB.out hB4)
          have hge2 : ¬ (q : Int) < (m : Int) := by omega
          clear ho4 hB4 cp
          go_wp2
          go_roundw
          case rel => exact ⟨k + 1, q, by go_num, rfl, by omega, HMO.out, HB4.out⟩
          case measure => simp [intOf]; omega
        · obtain rfl : k = l.length := by omega
          clear hm hB
          go_wp2
          go_ret
          exact ⟨rfl, HB.out⟩
theorem own : ownKnob Try.prog.godebug = none := by kernel_rfl
theorem laidOut : laidOutB Try.prog = true := by kernel_rfl
set_option maxRecDepth 100000 in
theorem lifted (os : Os) (started : os.Started) (H : Type) (enc : TypeId × Value → H) :
    ReturnsInHanded {} Try.checked os 14 .any (Rows.pathtableLevelsSpec.pre6 enc Try.prog Try.f14 Rows.pathtableLevelsRow.domain false) (Rows.pathtableLevelsSpec.post enc Try.prog Try.f14 false true false false) := by
  refine returnsInHanded_of_change (C := Try.checked) own started (by kernel_rfl) Try.func14
    (ChangeSpec.witness6 (enc := enc) (C := Try.checked) false ⟨#[], #[.slice none 0 0, .bool false], []⟩ 8 (by kernel_rfl) (by kernel_rfl) (by kernel_rfl) (by kernel_rfl)) ?_
  intro W base args ds gs before hval0 hW hcnd _
  have hval : ∀ (j : Nat) t v, Try.f14.params[j]? = some t → args[j]? = some v → Value.okWide Try.prog W .any base t v := hval0
  have hW' := hW
  obtain ⟨p, q, hA0, hV, rfl, hfz, hnd⟩ := hW
  have hA : DataW.TrodAll enc Try.prog W 0 (fun _ => true) true Try.f14.params.toList args.toList ds p := hA0
  rw [Try.params14] at hA hval
  obtain ⟨v0, vs0, d0, ds0, p0, q0, hargs, rfl, rfl, h0, r0⟩ := trodAll_cons hA
  obtain ⟨v1, vs1, d1, ds1, p1, q1, rfl, rfl, rfl, h1, r1⟩ := trodAll_cons r0
  obtain ⟨rfl, rfl, rfl⟩ := trodAll_nil r1
  obtain rfl : args = #[v0, v1] := by cases args; simp_all
  obtain ⟨rfl, rfl⟩ := trodVars_none hV
  have k0 := h0
  have lt0 : ∀ x ∈ p0, x.block < W.heap.size := by obtain ⟨m, hm⟩ := k0; exact DataW.trod_lt m _ _ _ hm
  obtain ⟨a0, n0, c0, rfl⟩ := okWide_slice Try.underlying44 (hval 0 44 v0 rfl rfl)
  obtain ⟨l0, rfl, w0⟩ := open_pes h0
  obtain ⟨a1, rfl, rfl, rfl⟩ := open_bool Try.underlying4 (hval 1 4 v1 rfl rfl) h1
  clear hA0 hval0
  refine (walk a0 c0 l0 a1 W w0).mono fun e W' ⟨he, bel⟩ => ?_
  subst he
  exact ⟨_, rfl, _, _, _, [], _, [], hW', trodAll_mk1 (shut_bool Try.underlying4 _), (trodAll_cons_mk (Below.trod laidOut (by kernel_rfl) (of_decide_eq_true (by kernel_rfl)) k0 bel lt0) (trodAll_cons_mk (shut_bool Try.underlying4 _) trodAll_mk0)), rfl, bel.frame _, fun h => by cases h⟩
theorem over : Rows.pathtableLevelsRow.holds Try.pinned (OpenSpec.ofChange Rows.pathtableLevelsSpec) :=
  OpenClaim.holds_of_wide 14 Try.f14 rfl rfl rfl rfl rfl rfl rfl ⟨rfl, rfl, rfl, rfl, rfl⟩ rfl rfl rfl rfl rfl (by as_aux_lemma => kernel_rfl) Try.func14 closed
    (of_decide_eq_true (by as_aux_lemma => kernel_rfl)) (by as_aux_lemma => (unfold Func.isWrapper; first | (rw [if_pos (by decide +kernel)]; kernel_rfl) | (rw [if_neg (by decide +kernel)]; exact ⟨rfl, rfl⟩)))
    (fun os started H enc _ => lifted os started H enc)
theorem proved : Rows.PathtableLevelsSaid := over
#print axioms proved
end Go.Proofs.Ytnmlephjhcmbhaa.pathtableLevels
