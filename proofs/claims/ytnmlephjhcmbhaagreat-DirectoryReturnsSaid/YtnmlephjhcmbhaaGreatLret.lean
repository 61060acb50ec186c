/- DirectoryReturns: for every input the law returns true and leaves its arguments as they were. No condition. -/
import Derived.Test.YtnmlephjhcmbhaaGreatRows
import Derived.Test.YtnmlephjhcmbhaaGreatCl7
import Derived.Test.YtnmlephjhcmbhaaGreatDku
import Derived.Test.YtnmlephjhcmbhaaGreatDks
import Derived.Test.YtnmlephjhcmbhaaGreatDlf
import Derived.Test.YtnmlephjhcmbhaaGreatDlg
import Derived.WalkKit
import Derived.ProofKit
import Derived.OpenShut
import Derived.ShutString
import Derived.ChangeOld
import Derived.Below
namespace Go.Proofs.YtnmlephjhcmbhaaGreat.directoryReturns
set_option linter.unusedSimpArgs false
set_option linter.unusedVariables false
open Go Go.ChangeShapes Go.WideShapes Go.ChangeAt Go.RowKit
theorem u8_range {n : Int} (h : (Lit.int .u8 n).wf = true) : 0 ≤ n ∧ n ≤ 255 := by
  have e1 : IntKind.u8.min = 0 := rfl
  have e2 : IntKind.u8.max = 255 := rfl
  rw [Lit.wf, e1, e2, Bool.and_eq_true, decide_eq_true_eq, decide_eq_true_eq] at h
  exact ⟨h.1, h.2⟩
theorem repeat_nul (n : Nat) : Lib.repeatL [0] n = List.replicate n (0 : UInt8) := by
  induction n with
  | zero => rfl
  | succ n ih => rw [Lib.repeatL, ih, List.replicate_succ]; rfl
theorem nul_ok (n : Nat) (w : World) (hn : n ≤ 2 ^ 40) : Calls Tryz.prog 28 #[.string ⟨#[0]⟩, .int .i64 n] w fun e w' => e = .returned (.string (bL (List.replicate n 0))) ∧ Below w.heap.size w w' := by
  refine (Tryz.strings_Repeat ⟨#[0]⟩ n w (by omega) (by show 1 * n ≤ _; omega)).mono ?_
  rintro e w' ⟨rfl, hB⟩
  exact ⟨by rw [← repeat_nul]; rfl, hB⟩
set_option maxRecDepth 100000 in
set_option maxHeartbeats 4000000 in
theorem walk (a : Option Addr) (c : Nat) (l : List Rec) (m : Int) (w : World) (hr : RowR w a l ∧ ∀ r ∈ l, r.id.size ≤ maxLen ∧ r.use.size ≤ maxLen) (hm : (Lit.int .u8 m).wf = true) : Calls Tryz.prog 7 #[.slice a l.length c, .int .u8 m] w fun e w' => e = .returned (.bool true) ∧ Below w.heap.size w w' := by
  obtain ⟨hrow, hsz⟩ := hr
  obtain ⟨m0, m1⟩ := u8_range hm
  clear hm
  have c1 := fun (W : World) (hW : Below w.heap.size w W) => small_ok a c l 60 W (by decide) (hrow.below hW) hsz
  have c2 := fun (W : World) (hW : Below w.heap.size w W) => denc_ok a c l W (hrow.below hW) hsz
  rw [show ((60 : Nat) : Int) = 60 from rfl] at c1
  cases hs : smallL l 60
  · rw [hs] at c1
    clear hs c2 hrow hsz
    go_enter Tryz.func7, Tryz.ntmps7
    go_wp2_with fail
    with_reducible refine (awake21_ok _).mono ?_
    rintro e w1 ⟨rfl, hB1⟩
    go_wp2_with fail
    with_reducible refine (c1 _ hB1).mono ?_
    rintro e w2 ⟨rfl, rfl⟩
    go_wp2
    go_ret
    exact ⟨rfl, hB1⟩
  · rw [hs] at c1
    have h60 := (small_size hs).1
    clear hs
    by_cases hE : encDE l = 0
    · have hf : firstE l = 0 := by rw [encDE, if_neg (by omega)] at hE; exact hE
      have hS0 : encDS l = bL (bufL (totT l) (enL l)) := by rw [encDS, if_pos hE]; rfl
      rw [hE, hS0] at c2
      obtain ⟨i0, hi, hz0, hz1, hz2⟩ := info_parts i64Info
      have htot := totT_small hf
      have hsize : (bL (bufL (totT l) (enL l))).size = totT l := by rw [bL_size, buf_len _ _ (by rw [lensN_enL]; exact totT_ge hf)]
      obtain ⟨z, hz⟩ : ∃ z : Nat, Int.tmod m 3 = (z : Int) := ⟨(m % 3).toNat, by rw [Int.tmod_eq_emod_of_nonneg (by omega)]; omega⟩
      have hz3 : z ≤ 2 := by rw [Int.tmod_eq_emod_of_nonneg (by omega)] at hz; omega
      have hdec := dec_enc l hf h60 z hz3 (bL (bufL (totT l) (enL l)) ++ bL (List.replicate (z * 2048) 0)) (by rw [bL_app, bL_list])
      obtain ⟨S, hS⟩ : ∃ S, bL (bufL (totT l) (enL l)) = S := ⟨_, rfl⟩
      rw [hS] at hsize hdec c2
      have c3 := fun W => nul_ok (z * 2048) W (by omega)
      rw [show ((z * 2048 : Nat) : Int) = (z : Int) * 2048 by omega] at c3
      have hus : (bL (List.replicate (z * 2048) 0)).size = z * 2048 := by rw [bL_size, List.length_replicate]
      obtain ⟨u, hu⟩ : ∃ u, bL (List.replicate (z * 2048) (0 : UInt8)) = u := ⟨_, rfl⟩
      rw [hu] at hus c3 hdec
      have hT0 : totT l = blkM (lenI l) * 2048 := rfl
      obtain ⟨T, hT⟩ : ∃ T, totT l = T := ⟨_, rfl⟩
      rw [hT] at hsize hT0 htot
      obtain ⟨B, hBB⟩ : ∃ B, blkM (lenI l) = B := ⟨_, rfl⟩
      rw [hBB] at hT0
      have hB5 : B ≤ 100000 := by omega
      have c4 := fun W => ddec_ok (S ++ u) W (by rw [ByteArray.size_append]; omega)
      rw [hdec] at c4
      have f1 : IntKind.u8.wrap (z : Int) = z := by have : z = 0 ∨ z = 1 ∨ z = 2 := by omega
                                                    rcases this with rfl | rfl | rfl <;> rfl
      have f2 : IntKind.i64.wrap ((z : Int) * 2048) = (z : Int) * 2048 := by rw [IntKind.wrap_i64]; omega
      have f3 : ¬ (9223372036854775807 < S.size + u.size) := by omega
      have f4 : Int.tmod (S.size : Int) 2048 = 0 := by rw [Int.tmod_eq_emod_of_nonneg (by omega)]; omega
      have f5 : (S.size : Int) = (B : Int) * 2048 := by omega
      have HR := Lib.hid hrow
      have HZ := Lib.hid hsz
      have HF := Lib.hid hf
      have HBB := Lib.hid hBB
      clear hrow hsz hf hE hS0 hS hu hdec hT hBB hT0 htot hus
      go_enter Tryz.func7, Tryz.ntmps7
      go_wp2_with fail
      with_reducible refine (awake21_ok _).mono ?_
      rintro e w1 ⟨rfl, hB1⟩
      go_wp2_with fail
      with_reducible refine (c1 _ hB1).mono ?_
      rintro e w2 ⟨rfl, rfl⟩
      go_wp2_with fail
      with_reducible refine (c2 _ hB1).mono ?_
      rintro e w3 ⟨rfl, hB3⟩
      have hb3 := bthen hB1 hB3
      clear c1 c2
      go_wp2
      go_loopw [7, 9, 29] (fun v _ i wr => ∃ k : Nat, i = cN k ∧ k ≤ l.length ∧ wr.ownsRow w.heap.size 3 1 v k (ints (lenR (l.take k))) ∧ Below w.heap.size w wr) (fun _ _ i _ => l.length - (intOf i).toNat)
      case atStart => exact ⟨0, rfl, Nat.zero_le _, ⟨rfl, .inl ⟨rfl, rfl⟩⟩, hb3⟩
      case round =>
        obtain ⟨k, rfl, hk, hown, hB⟩ := hrel
        have HB := Lib.hid hB
        by_cases hlt : (k : Int) < (l.length : Int)
        · have hkl : k < l.length := by omega
          obtain ⟨b, off, rfl, hb, hc⟩ := HR.out k hkl
          obtain ⟨r, hr⟩ : ∃ r, l.getD k recD = r := ⟨_, rfl⟩
          rw [hr] at hc
          have hmem : r ∈ l := by rw [← hr, List.getD_eq_getElem?_getD, List.getElem?_eq_getElem hkl, Option.getD_some]; exact List.getElem_mem hkl
          obtain ⟨q0, q1, q2, q3, q4, q5, q6, q7⟩ := hc.below hb hB
          have hs1 := enS_size (firstE_all HF.out r hmem)
          have HRR := Lib.hid hr
          have HS1 := Lib.hid hs1
          have c6 := rsize_ok r.id.size r.use.size
          rw [hs1.1] at c6
          obtain ⟨n, hn⟩ : ∃ n, (enS r).size = n := ⟨_, rfl⟩
          rw [hn] at c6
          have HN := Lib.hid hn
          have hown2 := hown.alloc (.cells (recA r) 45)
          have hB2 := bald hB (.cells (recA r) 45)
          have hsz2 := hB2.size
          clear hr hc hmem hs1 hn hown hB
          go_wp2_with fail
          with_reducible refine (c6 _).mono ?_
          rintro e w5 ⟨rfl, rfl⟩
          go_wp2_with (at_builtin; refine wpList_append_own _ rfl _ _ 33 rfl w.heap.size 3 i0 (.int .i64 0) 1 8 Tryz.underlying33 hi hz0 hz1 hz2 rfl (by decide) _ _ _ rfl (hown2.alloc _) ⟨wr.heap.size + 1, 0, none⟩ 1 1 [cN (n : Int)] rfl rfl ?c1 ?c2 ?c3 ?c4 ?c5 ?_)
          case c1 => intro j u h; have := cell_one_new (wr.alloc (.cells (recA r) 45)) (cN (n : Int)) 3 j u h; rw [World.size_alloc] at this; exact this
          case c2 => first | rfl | (intro u h; rw [List.mem_singleton.1 h]; rfl)
          case c3 => unfold maxLen; omega
          case c4 => omega
          case c5 => first | omega | (simp; omega) | (simp at hsz2 ⊢; omega)
          intro v' w6 hown1 hgrow hnn
          have hB6 : Below w.heap.size w w6 := (hB2.alloc hB2.size _).grown hgrow (by simp at hsz2 ⊢; omega) (fun k e => (hown2.lt k e).1)
          have HO6 : Hid (w6.ownsRow w.heap.size 3 1 v' (k + 1) (ints (lenR (l.take (k + 1)))) ∧ Below w.heap.size w w6) := Lib.hid ⟨by
            rw [take_snocR l k hkl, show lenR (l.take k ++ [l.getD k recD]) = lenR (l.take k) ++ [n] by simp only [lenR, List.map_append, List.map_cons, List.map_nil]; rw [HRR.out, HN.out], ints_snoc]
            exact hown1, hB6⟩
          clear hown1 hgrow hnn hown2 hB2 hB6
          go_wp2
          go_roundw
          case rel => exact ⟨k + 1, by go_num, by omega, HO6.out.1, HO6.out.2⟩
          case measure => simp [intOf]; omega
        · obtain rfl : k = l.length := by omega
          rw [List.take_length] at hown
          have hlr : (lenR l).length = l.length := by simp [lenR]
          obtain ⟨a2, d2, rfl, hI⟩ := RowI_own (lenR l) (by rw [hlr]; exact hown)
          rw [← lenI_toI] at hI
          have hli : (lenI l).length = l.length := by simp [lenI]
          have e1 := fun (W : World) (hW : Below wr.heap.size wr W) => blks_ok a2 d2 (lenI l) W (by omega) (hI.below hW)
          have e2 := fun (W : World) (hW : Below wr.heap.size wr W) => offs_ok a2 d2 (lenI l) W (by omega) (hI.below hW)
          rw [HBB.out] at e1
          rw [offM, if_pos (lenI_ok HF.out), natS_lenI] at e2
          have hpl : (plcs 0 (lenR l)).length = l.length := by rw [plcs_len, hlr]
          have hpm : (plcs 0 (lenR l)).length ≤ maxLen := by unfold maxLen; omega
          rw [hlr]
          rw [hli] at e1 e2
          have HPM := Lib.hid hpm
          have HPL := Lib.hid hpl
          clear hown hI hlr hli hpl hpm
          go_wp2_with fail
          with_reducible refine (c3 _).mono ?_
          rintro e w5 ⟨rfl, hB5⟩
          go_wp2_with fail
          with_reducible refine (c4 _).mono ?_
          rintro e w6 ⟨v, q, rfl, hRL⟩
          obtain ⟨a5, d5, rfl, hrow5⟩ := RowR_own l hRL.recs
          obtain ⟨a6, d6, rfl⟩ := hRL.form2
          have hb6 : Below w.heap.size w w6 := bthen (bthen HB.out hB5) hRL.bel
          have hw6 : Below wr.heap.size wr w6 := bthen hB5 hRL.bel
          have HRL := Lib.hid hRL
          rw [HPL.out]
          clear hRL hB5
          go_wp2_with fail
          with_reducible refine (e1 _ hw6).mono ?_
          rintro e w7 ⟨rfl, hB7⟩
          go_wp2_with fail
          have e3 := rsame_ok a5 d5 l a c l w7 (by omega) (hrow5.below hB7) (HR.out.below (bthen hb6 hB7))
          rw [(recsEq_iff l l).2 rfl] at e3
          with_reducible refine e3.mono ?_
          rintro e w8 ⟨rfl, hB8⟩
          have hw8 := bthen hw6 (bthen hB7 hB8)
          go_wp2_with fail
          with_reducible refine (e2 _ hw8).mono ?_
          rintro e w9 ⟨v9, rfl, ho9, hB9⟩
          have e4 := equal_own (own_keep HRL.out.offs (bthen hB7 (bthen hB8 hB9))) ho9 HPM.out HPM.out
          rw [HPL.out] at e4
          go_wp2_with fail
          with_reducible refine e4.mono ?_
          rintro e w10 ⟨rfl, hB10⟩
          go_wp2
          go_ret
          exact ⟨by simp, bthen hb6 (bthen hB7 (bthen hB8 (bthen hB9 hB10)))⟩
    · have hS : encDS l = ⟨#[]⟩ := by rw [encDS, if_neg hE]; rfl
      rw [hS] at c2
      obtain ⟨E, hEE⟩ : ∃ E, encDE l = E := ⟨_, rfl⟩
      rw [hEE] at c2 hE
      have g2 : (E != 0) = true := by simpa using hE
      clear hS hEE hrow hsz hE
      go_enter Tryz.func7, Tryz.ntmps7
      go_wp2_with fail
      with_reducible refine (awake21_ok _).mono ?_
      rintro e w1 ⟨rfl, hB1⟩
      go_wp2_with fail
      with_reducible refine (c1 _ hB1).mono ?_
      rintro e w2 ⟨rfl, rfl⟩
      go_wp2_with fail
      with_reducible refine (c2 _ hB1).mono ?_
      rintro e w3 ⟨rfl, hB3⟩
      go_wp2
      go_ret
      exact ⟨by simp, bthen hB1 hB3⟩
theorem own : ownKnob Tryz.prog.godebug = none := by kernel_rfl
theorem laidOut : laidOutB Tryz.prog = true := by kernel_rfl
set_option maxRecDepth 100000 in
theorem lifted (os : Os) (started : os.Started) (H : Type) (enc : TypeId × Value → H) :
    ReturnsInHanded {} Tryz.checked os 7 .any (Rows.directoryReturnsSpec.pre6 enc Tryz.prog Tryz.f7 Rows.directoryReturnsRow.domain false) (Rows.directoryReturnsSpec.post enc Tryz.prog Tryz.f7 false true false false) := by
  refine returnsInHanded_of_change (C := Tryz.checked) own started (by kernel_rfl) Tryz.func7
    (ChangeSpec.witness6 (enc := enc) (C := Tryz.checked) false ⟨#[], #[.slice none 0 0, .int .u8 0], []⟩ 8 (by kernel_rfl) (by kernel_rfl) (by kernel_rfl) (by kernel_rfl)) ?_
  intro W base args ds gs before hval0 hW hcnd _
  have hval : ∀ (j : Nat) t v, Tryz.f7.params[j]? = some t → args[j]? = some v → Value.okWide Tryz.prog W .any base t v := hval0
  have hW' := hW
  obtain ⟨p, q, hA0, hV, rfl, hfz, hnd⟩ := hW
  have hA : DataW.TrodAll enc Tryz.prog W 0 (fun _ => true) true Tryz.f7.params.toList args.toList ds p := hA0
  rw [Tryz.params7] at hA hval
  obtain ⟨v0, vs0, d0, ds0, p0, q0, hargs, rfl, rfl, h0, r0⟩ := trodAll_cons hA
  obtain ⟨v1, vs1, d1, ds1, p1, q1, rfl, rfl, rfl, h1, r1⟩ := trodAll_cons r0
  obtain ⟨rfl, rfl, rfl⟩ := trodAll_nil r1
  obtain rfl : args = #[v0, v1] := by cases args; simp_all
  obtain ⟨rfl, rfl⟩ := trodVars_none hV
  have k0 := h0
  have lt0 : ∀ x ∈ p0, x.block < W.heap.size := by obtain ⟨m, hm⟩ := k0; exact DataW.trod_lt m _ _ _ hm
  obtain ⟨a0, n0, c0, rfl⟩ := okWide_slice Tryz.underlying26 (hval 0 26 v0 rfl rfl)
  obtain ⟨l0, rfl, w0⟩ := open_recs h0
  obtain ⟨a1, rfl, rfl, rfl, w1⟩ := open_int Tryz.underlying5 (hval 1 5 v1 rfl rfl) h1
  clear hA0 hval0
  refine (walk a0 c0 l0 a1 W w0 w1).mono fun e W' ⟨he, bel⟩ => ?_
  subst he
  exact ⟨_, rfl, _, _, _, [], _, [], hW', trodAll_mk1 (shut_bool Tryz.underlying4 _), (trodAll_cons_mk (Below.trod laidOut (by kernel_rfl) (of_decide_eq_true (by kernel_rfl)) k0 bel lt0) (trodAll_cons_mk (shut_int Tryz.underlying5 w1) trodAll_mk0)), rfl, bel.frame _, fun h => by cases h⟩
theorem over : Rows.directoryReturnsRow.holds Tryz.pinned (OpenSpec.ofChange Rows.directoryReturnsSpec) :=
  OpenClaim.holds_of_wide 7 Tryz.f7 rfl rfl rfl rfl rfl rfl rfl ⟨rfl, rfl, rfl, rfl, rfl⟩ rfl rfl rfl rfl rfl (by as_aux_lemma => kernel_rfl) Tryz.func7 closed
    (of_decide_eq_true (by as_aux_lemma => kernel_rfl)) (by as_aux_lemma => (unfold Func.isWrapper; first | (rw [if_pos (by decide +kernel)]; kernel_rfl) | (rw [if_neg (by decide +kernel)]; exact ⟨rfl, rfl⟩)))
    (fun os started H enc _ => lifted os started H enc)
theorem proved : Rows.DirectoryReturnsSaid := over
#print axioms proved
end Go.Proofs.YtnmlephjhcmbhaaGreat.directoryReturns
