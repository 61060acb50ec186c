/- DirectorySorts: for every input the law returns true and leaves its arguments as they were. No condition. -/
import Derived.Test.YtnmlephjhcmbhaaGreatRows
import Derived.Test.YtnmlephjhcmbhaaGreatCl4
import Derived.Test.YtnmlephjhcmbhaaGreatDku
import Derived.Test.YtnmlephjhcmbhaaGreatDlf
import Derived.Test.YtnmlephjhcmbhaaGreatDlg
import Derived.Test.YtnmlephjhcmbhaaGreatDlh
import Derived.Test.YtnmlephjhcmbhaaGreatGkm
import Derived.WalkKit
import Derived.ProofKit
import Derived.OpenShut
import Derived.ShutString
import Derived.ChangeOld
import Derived.Below
namespace Go.Proofs.YtnmlephjhcmbhaaGreat.directorySorts
set_option linter.unusedSimpArgs false
set_option linter.unusedVariables false
open Go Go.ChangeShapes Go.WideShapes Go.ChangeAt Go.RowKit
open Go.ChangeMaps (open_string shut_string)
theorem sorted_tag {cf : Rec → Rec → Int} : ∀ (m : List TR) (j : Nat), m.Pairwise (ltT cf) → (tagL j (recsT m)).Pairwise (ltT cf)
  | [], j, _ => List.Pairwise.nil
  | x :: m, j, h => by
    rw [List.pairwise_cons] at h
    show (tagL j (x.1 :: recsT m)).Pairwise (ltT cf)
    rw [tagL]
    refine List.pairwise_cons.2 ⟨fun y hy => ?_, sorted_tag m (j + 1) h.2⟩
    have h1 := tagL_mem hy
    have h2 := tagL_ge _ _ y hy
    obtain ⟨z, hz, e⟩ := List.mem_map.1 h1
    have h3 := h.1 z hz
    unfold ltT at h3 ⊢
    rw [e] at h3
    rcases h3 with h3 | h3
    · exact .inl h3
    · exact .inr ⟨h3.1, by show j < y.2; omega⟩
theorem SortOf.again {cf : Rec → Rec → Int} (hcf : CmpOk cf) {l d e : List Rec} (h : SortOf cf l d) (h2 : SortOf cf d e) : e = d := by
  obtain ⟨m, hm, sm, rfl⟩ := h
  exact h2.unique hcf ⟨tagL 0 (recsT m), List.Perm.refl _, sorted_tag m 0 sm, tagL_recs _ _⟩
set_option maxRecDepth 100000 in
set_option maxHeartbeats 4000000 in
theorem walk (a : Option Addr) (c : Nat) (l : List Rec) (wide : Bool) (id : ByteArray) (w : World) (hr : RowR w a l ∧ ∀ r ∈ l, r.id.size ≤ maxLen ∧ r.use.size ≤ maxLen) {X : Prop} (hx : X) : Calls Tryz.prog 4 #[.slice a l.length c, .bool wide, .string id] w fun e w' => e = .returned (.bool true) ∧ Below w.heap.size w w' := by
  obtain ⟨hrow, hsz⟩ := hr
  have HR := Lib.hid hrow
  have c1 := fun (W : World) (hW : Below w.heap.size w W) => small_ok a c l 40 W (by decide) (hrow.below hW) hsz
  rw [show ((40 : Nat) : Int) = 40 from rfl] at c1
  clear hrow hsz
  cases hs : smallL l 40
  · rw [hs] at c1
    clear hs
    go_enter Tryz.func4, Tryz.ntmps4
    go_wp2_with fail
    with_reducible refine (awake21_ok _).mono ?_
    rintro e w1 ⟨rfl, hB1⟩
    have c2 := c1 _ hB1
    go_wp2_with fail
    with_reducible refine c2.mono ?_
    rintro e w2 ⟨rfl, rfl⟩
    go_wp2
    go_ret
    exact ⟨rfl, hB1⟩
  · rw [hs] at c1
    obtain ⟨hl40, hsz⟩ := small_size hs
    have HSZ := Lib.hid hsz
    clear hs hsz
    by_cases h300 : (300 : Int) < (id.size : Int)
    · go_enter Tryz.func4, Tryz.ntmps4
      go_wp2_with fail
      with_reducible refine (awake21_ok _).mono ?_
      rintro e w1 ⟨rfl, hB1⟩
      have c2 := c1 _ hB1
      go_wp2_with fail
      with_reducible refine c2.mono ?_
      rintro e w2 ⟨rfl, rfl⟩
      go_wp2
      go_ret
      exact ⟨rfl, hB1⟩
    · go_enter Tryz.func4, Tryz.ntmps4
      go_wp2_with fail
      with_reducible refine (awake21_ok _).mono ?_
      rintro e w1 ⟨rfl, hB1⟩
      have c2 := c1 _ hB1
      have HB1 := Lib.hid hB1
      clear c1 hB1
      go_wp2_with fail
      with_reducible refine c2.mono ?_
      rintro e w2 ⟨rfl, rfl⟩
      have c3 := dfind_ok a c l id w2 (by omega) (HR.out.below HB1.out)
      obtain ⟨z, hz⟩ : ∃ z, max (idxR l id) 0 = z := ⟨_, rfl⟩
      obtain ⟨q, hq⟩ : ∃ q, decide (0 ≤ idxR l id) = q := ⟨_, rfl⟩
      rw [hz, hq] at c3
      clear c2
      go_wp2_with fail
      with_reducible refine c3.mono ?_
      rintro e w3 ⟨rfl, hB3⟩
      have HB3 := Lib.hid (bthen HB1.out hB3)
      have c4 := rdfind_ok a c l id w3 (by omega) (HR.out.below HB3.out)
      rw [hz, hq] at c4
      clear c3 hB3 hz hq
      go_wp2_with fail
      with_reducible refine c4.mono ?_
      rintro e w4 ⟨rfl, rfl⟩
      have c5 := dsort_all a c l wide w4 hl40 (fun t ht => by have := HSZ.out t ht; unfold PSz; omega) (HR.out.below HB3.out)
      clear c4
      go_wp2_with fail
      with_reducible refine c5.mono ?_
      rintro e w5 ⟨v, d, rfl, hso, hdl, ho5, hB5⟩
      have HB5 := Lib.hid (bthen HB3.out hB5)
      have HSO := Lib.hid hso
      have HDL := Lib.hid hdl
      have hdm : ∀ r ∈ d, r ∈ l := fun r hr => by
        obtain ⟨m, hm, -, rfl⟩ := hso
        obtain ⟨t, ht, rfl⟩ := List.mem_map.1 hr
        exact tagL_mem (hm.mem_iff.1 ht)
      have HDM := Lib.hid hdm
      obtain ⟨av, cv, rfl, hrv⟩ := RowR_own d ho5
      have HRV := Lib.hid hrv
      have c6 := rsort_ok a c l wide w5 hl40 (fun t ht => by have := HSZ.out t ht; omega) (HR.out.below HB5.out)
      clear c5 hso ho5 hB5 hdm hrv hdl
      have hzz : (z == z) = true := beq_self_eq_true z
      have hqq : (q == q) = true := beq_self_eq_true q
      go_wp2_with fail
      with_reducible refine c6.mono ?_
      rintro e w6 ⟨v2, d2, rfl, hso2, hdl2, ho6, hB6⟩
      obtain rfl : d2 = d := hso2.unique (cfW_ok wide) HSO.out
      have HB6 := Lib.hid (bthen HB5.out hB6)
      obtain ⟨a6, c6', rfl, hr6⟩ := RowR_own d2 ho6
      have HRV6 := Lib.hid (HRV.out.below hB6)
      have c7 := rsame_ok av cv d2 a6 c6' d2 w6 (by have := HDL.out; omega) HRV6.out hr6
      rw [(recsEq_iff _ _).2 rfl] at c7
      clear c6 hso2 ho6 hB6 hr6 hdl2
      go_wp2_with fail
      with_reducible refine c7.mono ?_
      rintro e w7 ⟨rfl, hB7⟩
      have HB7 := Lib.hid (bthen HB6.out hB7)
      have HRV7 := Lib.hid (HRV6.out.below hB7)
      have c8 := dsort_all av cv d2 wide w7 (by have := HDL.out; omega) (fun t ht => by have := HSZ.out t (HDM.out t ht); unfold PSz; omega) HRV7.out
      clear c7 hB7
      go_wp2_with fail
      with_reducible refine c8.mono ?_
      rintro e w8 ⟨v8, d8, rfl, hso8, hdl8, ho8, hB8⟩
      obtain rfl : d8 = d2 := SortOf.again (cfW_ok wide) HSO.out hso8
      have HB8 := Lib.hid (bthen HB7.out hB8)
      obtain ⟨a8, c8', rfl, hr8⟩ := RowR_own d8 ho8
      have c9 := rsame_ok a8 c8' d8 av cv d8 w8 (by have := HDL.out; omega) hr8 (HRV7.out.below hB8)
      rw [(recsEq_iff _ _).2 rfl] at c9
      clear c8 hso8 ho8 hB8 hr8 hdl8
      go_wp2_with fail
      with_reducible refine c9.mono ?_
      rintro e w9 ⟨rfl, hB9⟩
      go_wp2
      go_ret
      exact ⟨rfl, bthen HB8.out hB9⟩
theorem own : ownKnob Tryz.prog.godebug = none := by kernel_rfl
theorem laidOut : laidOutB Tryz.prog = true := by kernel_rfl
set_option maxRecDepth 100000 in
theorem lifted (os : Os) (started : os.Started) (H : Type) (enc : TypeId × Value → H) :
    ReturnsInHanded {} Tryz.checked os 4 .any (Rows.directorySortsSpec.pre6 enc Tryz.prog Tryz.f4 Rows.directorySortsRow.domain false) (Rows.directorySortsSpec.post enc Tryz.prog Tryz.f4 false true false false) := by
  refine returnsInHanded_of_change (C := Tryz.checked) own started (by kernel_rfl) Tryz.func4
    (ChangeSpec.witness6 (enc := enc) (C := Tryz.checked) false ⟨#[], #[.slice none 0 0, .bool false, .string ByteArray.empty], []⟩ 8 (by kernel_rfl) (by kernel_rfl) (by kernel_rfl) (by kernel_rfl)) ?_
  intro W base args ds gs before hval0 hW hcnd _
  have hval : ∀ (j : Nat) t v, Tryz.f4.params[j]? = some t → args[j]? = some v → Value.okWide Tryz.prog W .any base t v := hval0
  have hW' := hW
  obtain ⟨p, q, hA0, hV, rfl, hfz, hnd⟩ := hW
  have hA : DataW.TrodAll enc Tryz.prog W 0 (fun _ => true) true Tryz.f4.params.toList args.toList ds p := hA0
  rw [Tryz.params4] at hA hval
  obtain ⟨v0, vs0, d0, ds0, p0, q0, hargs, rfl, rfl, h0, r0⟩ := trodAll_cons hA
  obtain ⟨v1, vs1, d1, ds1, p1, q1, rfl, rfl, rfl, h1, r1⟩ := trodAll_cons r0
  obtain ⟨v2, vs2, d2, ds2, p2, q2, rfl, rfl, rfl, h2, r2⟩ := trodAll_cons r1
  obtain ⟨rfl, rfl, rfl⟩ := trodAll_nil r2
  obtain rfl : args = #[v0, v1, v2] := by cases args; simp_all
  obtain ⟨rfl, rfl⟩ := trodVars_none hV
  have k0 := h0
  have lt0 : ∀ x ∈ p0, x.block < W.heap.size := by obtain ⟨m, hm⟩ := k0; exact DataW.trod_lt m _ _ _ hm
  obtain ⟨a0, n0, c0, rfl⟩ := okWide_slice Tryz.underlying26 (hval 0 26 v0 rfl rfl)
  obtain ⟨l0, rfl, w0⟩ := open_recs h0
  obtain ⟨a1, rfl, rfl, rfl⟩ := open_bool Tryz.underlying4 (hval 1 4 v1 rfl rfl) h1
  obtain ⟨a2, rfl, rfl, rfl, w2⟩ := open_string Tryz.underlying9 (hval 2 9 v2 rfl rfl) h2
  clear hA0 hval0
  refine (walk a0 c0 l0 a1 a2 W w0 w2).mono fun e W' ⟨he, bel⟩ => ?_
  subst he
  exact ⟨_, rfl, _, _, _, [], _, [], hW', trodAll_mk1 (shut_bool Tryz.underlying4 _), (trodAll_cons_mk (Below.trod laidOut (by kernel_rfl) (of_decide_eq_true (by kernel_rfl)) k0 bel lt0) (trodAll_cons_mk (shut_bool Tryz.underlying4 _) (trodAll_cons_mk (shut_string Tryz.underlying9 w2) trodAll_mk0))), rfl, bel.frame _, fun h => by cases h⟩
theorem over : Rows.directorySortsRow.holds Tryz.pinned (OpenSpec.ofChange Rows.directorySortsSpec) :=
  OpenClaim.holds_of_wide 4 Tryz.f4 rfl rfl rfl rfl rfl rfl rfl ⟨rfl, rfl, rfl, rfl, rfl⟩ rfl rfl rfl rfl rfl (by as_aux_lemma => kernel_rfl) Tryz.func4 closed
    (of_decide_eq_true (by as_aux_lemma => kernel_rfl)) (by as_aux_lemma => (unfold Func.isWrapper; first | (rw [if_pos (by decide +kernel)]; kernel_rfl) | (rw [if_neg (by decide +kernel)]; exact ⟨rfl, rfl⟩)))
    (fun os started H enc _ => lifted os started H enc)
theorem proved : Rows.DirectorySortsSaid := over
#print axioms proved
end Go.Proofs.YtnmlephjhcmbhaaGreat.directorySorts
